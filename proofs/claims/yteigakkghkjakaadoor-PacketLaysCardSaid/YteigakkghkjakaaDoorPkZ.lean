/- packet.body as one contract; packet.Bytes, packet.Check. packet.Bytes, packet.Check. -/
import Derived.Test.YteigakkghkjakaaDoorPkX
namespace Go.Proofs.YteigakkghkjakaaDoor
open Go.RowKit
set_option linter.unusedVariables false
set_option linter.unusedSimpArgs false
namespace Pk
open Utf (nums nums_length nums_bytes IsStr)
open Var (BT info_byte GivesBytes digs)

theorem size_iff (s : ByteArray) : (s.toList == []) = decide (s.size = 0) := by
  by_cases h : s.size = 0
  · rw [list_em h, decide_eq_true h]
  · rw [list_ne h, decide_eq_false h]
theorem zero_iff (p : Pkt) (lc ls : Nat) : p.zero lc ls = true ↔ (p.topic.size = 0 ∧ p.payload.size = 0 ∧ p.qos = 0 ∧ p.retain = false) ∧ p.id = 0 ∧ p.dup = false ∧ lc = 0 ∧ ls = 0 ∧ (p.client.size = 0 ∧ p.user.size = 0 ∧ p.pass.size = 0) ∧ p.clean = false ∧ p.present = false ∧ p.will = false ∧ p.huser = false ∧ p.hpass = false ∧ p.alive = 0 := by
  unfold Pkt.zero
  rw [size_iff, size_iff, size_iff, ByteArray.size_append, ByteArray.size_append]
  simp only [Bool.and_eq_true, decide_eq_true_eq, beq_iff_eq, Bool.not_eq_true']
  constructor
  · rintro ⟨⟨⟨⟨⟨⟨⟨⟨⟨⟨⟨⟨⟨⟨h1, h2⟩, h3⟩, h4⟩, h5⟩, h6⟩, h7⟩, h8⟩, h9⟩, h10⟩, h11⟩, h12⟩, h13⟩, h14⟩, h15⟩
    exact ⟨⟨h1, h2, h3, h4⟩, h5, h6, by omega, by omega, ⟨by omega, by omega, by omega⟩, h10, h11, h12, h13, h14, h15⟩
  · rintro ⟨⟨h1, h2, h3, h4⟩, h5, h6, h7, h8, ⟨h9, h9', h9''⟩, h10, h11, h12, h13, h14, h15⟩
    exact ⟨⟨⟨⟨⟨⟨⟨⟨⟨⟨⟨⟨⟨⟨h1, h2⟩, h3⟩, h4⟩, h5⟩, h6⟩, by omega⟩, by omega⟩, by omega⟩, h10⟩, h11⟩, h12⟩, h13⟩, h14⟩, h15⟩
theorem str_size {s : ByteArray} (h : Str s) : s.size ≤ 65535 := by
  obtain ⟨l, h⟩ := h
  have := h.2.2
  rwa [nums_length] at this
theorem full_size {s : ByteArray} (h : Full s) : s.size ≤ 65535 := str_size h.2

theorem Lies.keep {w w' : World} {p : Pkt} {C : List Int} {D : List (ByteArray × Int)} (h : Lies w p C D) (b : Below w.heap.size w w') : Lies w' p C D := by
  obtain ⟨⟨A, c, h1, h1'⟩, ⟨B, d, h2, h2'⟩, h3, h4, h5⟩ := h
  exact ⟨⟨A, c, h1, h1'.keep b⟩, ⟨B, d, h2, h2'.keep b⟩, h3, h4, h5⟩
theorem Lies.rowC {w : World} {p : Pkt} {C : List Int} {D : List (ByteArray × Int)} (h : Lies w p C D) : rowLen p.codes = C.length := by obtain ⟨A, c, h1, _⟩ := h.codes; rw [h1]; rfl
theorem Lies.rowD {w : World} {p : Pkt} {C : List Int} {D : List (ByteArray × Int)} (h : Lies w p C D) : rowLen p.subs = D.length := by obtain ⟨A, c, h1, _⟩ := h.subs; rw [h1]; rfl

theorem after_of (p : Pkt) (h1 : p.ty ≠ 1) (h2 : p.ty ≠ 2) (h3 : p.ty ≠ 3) (h9 : p.ty ≠ 9) : rowLen p.after.codes = rowLen p.codes := by
  unfold Pkt.after
  rw [if_neg h1, if_neg h2, if_neg h3]
  split
  · rfl
  · split
    · rfl
    · first | rfl | rw [if_neg h9]
theorem after_ofD (p : Pkt) (h1 : p.ty ≠ 1) (h2 : p.ty ≠ 2) (h3 : p.ty ≠ 3) (h8 : p.ty ≠ 8) (h10 : p.ty ≠ 10) : rowLen p.after.subs = rowLen p.subs := by
  unfold Pkt.after
  rw [if_neg h1, if_neg h2, if_neg h3]
  split
  · rfl
  · rw [if_neg (by omega)]
    split <;> rfl

theorem good_parts {w : World} {p : Pkt} {C : List Int} {D : List (ByteArray × Int)} (hF : Lies w p C D) (hG : Good p C D) : (p.ty = 1 → ConFit p) ∧ (p.ty = 2 → C.length = 1 ∧ 0 ≤ lat C 0 ∧ lat C 0 ≤ 255) ∧ (p.ty = 3 → p.topic.size ≤ 65535 ∧ 0 ≤ p.qos ∧ p.qos ≤ 2 ∧ (p.qos ≠ 0 → 0 ≤ p.id ∧ p.id ≤ 65535)) ∧ (4 ≤ p.ty → p.ty ≤ 11 → 0 ≤ p.id ∧ p.id ≤ 65535) ∧ (∀ s ∈ D, s.1.size ≤ 65535 ∧ 0 ≤ s.2 ∧ s.2 ≤ 255) ∧ (∀ c ∈ C, 0 ≤ c ∧ c ≤ 255) := by
  obtain ⟨hty1, hty2, hOk, hz⟩ := hG
  have hz' := (zero_iff _ _ _).1 hz
  obtain ⟨o1, o2, o3, o4, o5, o6⟩ := hOk
  refine ⟨fun h => ?_, fun h => ?_, fun h => ?_, fun h h' => ?_, ?_, ?_⟩
  · obtain ⟨c1, c2, c3, c4, c5, c6, c7, c8, c9⟩ := o1 h
    have hq : 0 ≤ p.qos ∧ p.qos ≤ 2 := by
      cases hw : p.will with
      | true => exact (c7 hw).2.2
      | false =>
        have ha : p.after = p.noCon := by unfold Pkt.after; rw [h, hw]; rfl
        rw [ha] at hz'
        have : p.qos = 0 := hz'.1.2.2.1
        omega
    exact ⟨hq, ⟨c5, c6⟩, str_size c1, fun hw => full_size (c7 hw).2.1, fun hw => (c7 hw).1, str_size c2, c3⟩
  · obtain ⟨c1, c2, c3, _⟩ := o2 h
    exact ⟨c1, c2, by omega⟩
  · obtain ⟨c1, c2, c3, c4⟩ := o3 h
    exact ⟨full_size c2, c3, c4, fun hq => by have := c1 hq; unfold IdOk at this; omega⟩
  · have := o4 h h'
    unfold IdOk at this; omega
  · intro s hs
    by_cases h8 : p.ty = 8 ∨ p.ty = 10
    · have := (o5 h8).2 s hs
      exact ⟨full_size this.1, this.2.1, by have := this.2.2.1; omega⟩
    · have hd : rowLen p.after.subs = 0 := hz'.2.2.2.2.1
      have hdl : p.ty ≠ 1 → p.ty ≠ 2 → p.ty ≠ 3 → D.length = 0 := by
        intro a b c
        rw [after_ofD p a b c (by omega) (by omega), hF.rowD] at hd
        exact hd
      have hD0 : D.length = 0 := by
        by_cases a : p.ty = 1
        · have : p.after.subs = p.subs := by unfold Pkt.after; rw [if_pos a]; cases p.will <;> rfl
          rw [this, hF.rowD] at hd; exact hd
        · by_cases b : p.ty = 2
          · have : p.after.subs = p.subs := by unfold Pkt.after; rw [if_neg a, if_pos b]; rfl
            rw [this, hF.rowD] at hd; exact hd
          · by_cases c : p.ty = 3
            · have : p.after.subs = p.subs := by
                unfold Pkt.after; rw [if_neg a, if_neg b, if_pos c]
                split <;> rfl
              rw [this, hF.rowD] at hd; exact hd
            · exact hdl a b c
      have : D = [] := List.eq_nil_of_length_eq_zero hD0
      rw [this] at hs; cases hs
  · intro c hc
    by_cases h9 : p.ty = 9
    · have := (o6 h9).2 c hc
      unfold CodeOk at this; omega
    · by_cases b : p.ty = 2
      · obtain ⟨c1, c2, c3, _⟩ := o2 b
        match C, c1 with
        | [x], _ =>
          have : c = x := by simpa using hc
          subst this
          have e : lat [c] 0 = c := rfl
          rw [e] at c2 c3
          omega
      · have hd : rowLen p.after.codes = 0 := hz'.2.2.2.1
        have hC0 : C.length = 0 := by
          by_cases a : p.ty = 1
          · have : p.after.codes = p.codes := by unfold Pkt.after; rw [if_pos a]; cases p.will <;> rfl
            rw [this, hF.rowC] at hd; exact hd
          · by_cases c : p.ty = 3
            · have : p.after.codes = p.codes := by
                unfold Pkt.after; rw [if_neg a, if_neg b, if_pos c]
                split <;> rfl
              rw [this, hF.rowC] at hd; exact hd
            · rw [after_of p a b c h9, hF.rowC] at hd; exact hd
        have : C = [] := List.eq_nil_of_length_eq_zero hC0
        rw [this] at hc; cases hc

theorem good_fit {w : World} {p : Pkt} {C : List Int} {D : List (ByteArray × Int)} (hF : Lies w p C D) (hG : Good p C D) (hlen : (bodyB p C D).length ≤ 70368744177664) : BodyFit w p C D :=
  let ⟨h1, h2, h3, h4, h5, h6⟩ := good_parts hF hG
  ⟨hF, h1, h2, h3, h4, h5, h6, hlen⟩
theorem subsB_bound (t : Int) : ∀ (D : List (ByteArray × Int)), (∀ s ∈ D, s.1.size ≤ 65535) → (subsB t D).length ≤ 65538 * D.length := by
  intro D
  induction D with
  | nil => intro _; exact Nat.le_refl _
  | cons x D ih =>
    intro h
    have h1 := ih (fun s hs => h s (List.mem_cons_of_mem _ hs))
    have h2 := h x (List.mem_cons_self ..)
    have hcons : subsB t (x :: D) = subB t x ++ subsB t D := rfl
    rw [hcons, List.length_append, subB, List.length_append, textB_length, List.length_cons]
    split <;> simp <;> omega
theorem good_len {w : World} {p : Pkt} {C : List Int} {D : List (ByteArray × Int)} (hF : Lies w p C D) (hG : Good p C D) (hC : C.length ≤ 1000000000) (hD : D.length ≤ 1000000000) (hp : p.ty = 3 → p.payload.size ≤ 1000000000000) : (bodyB p C D).length ≤ 70368744177664 := by
  obtain ⟨h1, h2, h3, h4, h5, h6⟩ := good_parts hF hG
  have hs := subsB_bound p.ty D (fun s hs => (h5 s hs).1)
  unfold bodyB
  split
  · rename_i h
    obtain ⟨_, _, c1, c2, c3, c4, c5⟩ := h1 h
    have e10 : (conH p).length = 10 := rfl
    unfold conB
    rw [List.length_append, List.length_append, List.length_append, List.length_append, e10, textB_length]
    have a1 : (if p.will then textB p.topic ++ textB p.payload else []).length ≤ 131074 := by
      split
      · rename_i hw
        rw [List.length_append, textB_length, textB_length]
        have := c2 hw; have := c3 hw; omega
      · simp
    have a2 : (if p.huser then textB p.user else []).length ≤ 65537 := by
      split
      · rw [textB_length]; omega
      · simp
    have a3 : (if p.hpass then textB p.pass else []).length ≤ 65537 := by
      split
      · rw [textB_length]; omega
      · simp
    omega
  · split
    · simp
    · split
      · rename_i h
        have := (h3 h).1
        have := hp h
        rw [List.length_append, List.length_append, textB_length, nums_length]
        split
        · simp; omega
        · rw [wordB_length]; omega
      · split
        · simp
        · rw [List.length_append, List.length_append, wordB_length]; omega

theorem body_calls (w : World) (p : Pkt) (C : List Int) (D : List (ByteArray × Int)) (hB : BodyFit w p C D) (h : 1 ≤ p.ty ∧ p.ty ≤ 14) : Calls Tryd.prog 46 #[.agg p.cells] w fun e w' => GivesBody w (bodyB p C D) (flagsN p) e w' := by
  rcases (by omega : p.ty = 1 ∨ p.ty = 2 ∨ p.ty = 3 ∨ (4 ≤ p.ty ∧ p.ty ≤ 11) ∨ (p.ty = 12 ∨ p.ty = 13 ∨ p.ty = 14)) with h | h | h | h | h
  · exact body_connect w p C D (hB.con h) h
  · exact body_connack w p C D hB.lies (hB.ack h) h
  · exact body_publish w p C D (hB.pub h) hB.len h
  · exact body_rest w p C D hB.lies (hB.ids h.1 h.2) hB.subs hB.codes hB.len h
  · exact body_none w p C D h

set_option maxRecDepth 100000 in
theorem bytes1_calls (W : World) (hT : Lib.Utf8Tabs 0 1 W) (g : Nat) (p : Pkt) (C : List Int) (D : List (ByteArray × Int)) (hF : Lies W p C D) (h : PkAt W g p) : Calls Tryd.prog 44 #[.pointer (some ⟨g, 0, none⟩)] W fun e w' => Checks W (Good p C D) e w' := by
  have H := Lib.hid h
  have HC := Lib.hid (check_calls W hT p C D hF)
  clear h hT hF
  go_enter Tryd.func44, Tryd.ntmps44
  go_wp2_with (with_reducible refine wp_load_pkt (o := ⟨some 1, _, _, _, _, _⟩) rfl rfl rfl H.out ?_)
  refine HC.out.mono ?_
  rintro e w1 ⟨hb, (⟨hg, rfl⟩ | ⟨hg, rfl⟩)⟩
  · have HG := Lib.hid (And.intro hb hg)
    clear hb hg
    go_wp2_with (fail)
    go_end0
    exact ⟨HG.out.1, .inl ⟨HG.out.2, rfl⟩⟩
  · have HG := Lib.hid (And.intro hb hg)
    clear hb hg
    go_wp2_with (fail)
    exact ⟨rfl, HG.out.1, .inr ⟨HG.out.2, rfl⟩⟩
end Pk
end Go.Proofs.YteigakkghkjakaaDoor

namespace Go.Proofs.YteigakkghkjakaaDoor
open Go.RowKit
set_option linter.unusedVariables false
set_option linter.unusedSimpArgs false
namespace Pk
open Utf (nums nums_length nums_bytes IsStr)
open Var (BT info_byte GivesBytes digs digs_length put_calls put_bad)

def bytesB (p : Pkt) (C : List Int) (D : List (ByteArray × Int)) : List Int := [16 * p.ty + flagsN p] ++ (digs 3 (bodyB p C D).length ++ bodyB p C D)
/-- Whether a packet may be. -/
def May (p : Pkt) (C : List Int) (D : List (ByteArray × Int)) : Prop := Good p C D ∧ (bodyB p C D).length ≤ 268435455
def BytesPost (w : World) (p : Pkt) (C : List Int) (D : List (ByteArray × Int)) (e : Ending) (w' : World) : Prop :=
  Below w.heap.size w w' ∧ ((May p C D ∧ ∃ A c, e = .returned (.tuple #[.slice A (bytesB p C D).length c, .int .i64 0]) ∧ OwnInts w' w.heap.size BT .u8 (.slice A (bytesB p C D).length c) (bytesB p C D)) ∨
    (¬ May p C D ∧ e = .returned (.tuple #[.slice none 0 0, .int .i64 1])))

theorem or_high (y n : Int) (h0 : 0 ≤ n) (h1 : n < 16) (hy0 : 0 ≤ y) (hy1 : y < 256) (hym : y % 16 = 0) : bits .or .i64 y n = y + n := by
  have hw : ∀ n : Int, 0 ≤ n → n < 2 ^ 28 → IntKind.i64.wrap n = n := fun n h0 h1 => by rw [IntKind.wrap_i64]; omega
  exact bits_join .i64 28 (by decide) hw 4 y n hy0 hym (by omega) h0 h1 (by omega)
theorem flags_range {w : World} {p : Pkt} {C : List Int} {D : List (ByteArray × Int)} (h : BodyFit w p C D) : 0 ≤ flagsN p ∧ flagsN p < 16 := by
  unfold flagsN
  split
  · rename_i h3
    have := h.pub h3
    have h1 := bitN_range p.dup 8 (by decide)
    have h2 := bitN_range p.retain 1 (by decide)
    omega
  · split <;> omega
theorem own_one (W : World) (base : Nat) (hb : base ≤ W.heap.size) (x : Int) : OwnInts (W.alloc (.cells #[.int .u8 x] BT)) base BT .u8 (.slice (some ⟨W.heap.size, 0, none⟩) 1 1) [x] :=
  own_of_heap (cur := #[.int .u8 x]) (heap_new W _) hb rfl (Nat.le_refl _) (by decide) rfl rfl

set_option maxRecDepth 100000 in
set_option maxHeartbeats 1000000 in
theorem bytes_calls (w : World) (hT : Lib.Utf8Tabs 0 1 w) (p : Pkt) (C : List Int) (D : List (ByteArray × Int)) (hF : Lies w p C D) (hlen : Good p C D → (bodyB p C D).length ≤ 70368744177664) : Calls Tryd.prog 20 #[.agg p.cells] w fun e w' => BytesPost w p C D e w' := by
  have hmf : ∀ (fn : Fn) (first cap : Array Value) (w : World), (Instr.makeFunc fn first cap).run Tryd.prog w = .ok (.func fn first cap) w := fun _ _ _ _ => rfl
  have hA := at_box w p
  obtain ⟨W, hW⟩ : ∃ W, Hid (W = w.alloc (.cells p.cells PT)) := ⟨_, rfl⟩
  obtain ⟨g, hg⟩ : ∃ g, Hid (g = w.heap.size) := ⟨_, rfl⟩
  rw [← hW.out, ← hg.out] at hA
  have HA := Lib.hid hA
  have HLI : Hid (Lies w p C D) := hF
  have HT := Lib.hid hT
  have HLEN := Lib.hid hlen
  clear hA hF hT hlen
  have HTH : Hid (Calls Tryd.prog 32 #[.func (.func 44) #[] #[.pointer (some ⟨g, 0, none⟩)]] W fun e w' => Below W.heap.size W w' ∧ ((Good p C D ∧ e = .returned (.bool true)) ∨ (¬ Good p C D ∧ e = .returned (.bool false)))) := by
    have hx := HA.out.alloc (.cells #[.bool false] 4)
    refine (through_calls 44 #[.pointer (some ⟨g, 0, none⟩)] W (fun _ => False) (fun h => h) (fun _ => Good p C D) (fun _ => ¬ Good p C D) (Go.Proofs.enters_of Tryd.func44 (by kernel_rfl) rfl) ?_).mono ?_
    · refine (bytes1_calls (W.alloc (.cells #[.bool false] 4)) (hx.tabs HT.out) g p C D ((HLI.out.keep HA.out.below).keep (Below.alloc (Below.refl _ _) (Nat.le_refl _) _)) hx.at_).mono ?_
      rintro e w1 ⟨hb, h⟩
      refine ⟨Turn.of_below hb, ?_⟩
      rcases h with ⟨h1, h2⟩ | ⟨h1, h2⟩
      · exact .inl ⟨h2, h1⟩
      · exact .inr ⟨h2, h1⟩
    · rintro e w' ⟨w1, t1, t2, h⟩
      have b1 : Below W.heap.size W w1 := (Below.alloc (Below.refl _ _) (Nat.le_refl _) _).trans (t1.toBelow (by simp) (fun _ _ h => h))
      have b2 : Below W.heap.size w1 w' := t2.toBelow b1.size (fun k hk e => by omega)
      refine ⟨b1.trans b2, ?_⟩
      rcases h with ⟨h1, h2⟩ | ⟨h1, h2⟩
      · exact .inl ⟨h2, h1⟩
      · exact .inr ⟨h2, h1⟩
  go_enter Tryd.func20, Tryd.ntmps20
  go_upto_region 1 with (fail)
  rw [← hW.out, ← hg.out]
  go_wp2_with (fail)
  refine HTH.out.mono ?_
  rintro e w1 ⟨hb, (⟨hG, rfl⟩ | ⟨hG, rfl⟩)⟩
  · have H1 : Hid (At w w1 g p) := HA.out.old hb
    have HFI : Hid (BodyFit w1 p C D) := good_fit (HLI.out.keep H1.out.below) hG (HLEN.out hG)
    obtain ⟨ht1, ht2⟩ : 1 ≤ p.ty ∧ p.ty ≤ 14 := ⟨hG.1, hG.2.1⟩
    obtain ⟨hf0, hf1⟩ := flags_range HFI.out
    have HGo := Lib.hid hG
    obtain ⟨F, hF⟩ : ∃ F, Hid (F = flagsN p) := ⟨_, rfl⟩
    obtain ⟨B, hB⟩ : ∃ B, Hid (B = bodyB p C D) := ⟨_, rfl⟩
    have HBO := Lib.hid (body_calls w1 p C D HFI.out ⟨ht1, ht2⟩)
    rw [← hF.out] at hf0 hf1 HBO
    rw [← hB.out] at HBO
    obtain ⟨G, hGe⟩ : ∃ G, Hid (G = 16 * p.ty + F) := ⟨_, rfl⟩
    have hor : bits .or .i64 (p.ty * 16) F = G := by rw [or_high (p.ty * 16) F hf0 hf1 (by omega) (by omega) (by omega), hGe.out]; omega
    obtain ⟨hG0, hG1⟩ : 0 ≤ G ∧ G ≤ 255 := by rw [hGe.out]; omega
    have hGw := wrap_u8 G hG0 hG1
    have HBL : Hid (B.length ≤ 70368744177664) := by rw [hB.out]; exact HLEN.out HGo.out
    clear hG hb
    go_wp2_with (with_reducible refine wp_load_pkt (o := ⟨some 12, _, _, _, _, _⟩) rfl rfl rfl H1.out.at_ ?_)
    refine HBO.out.mono ?_
    rintro e w2 ⟨A2, c2, rfl, ho2, hb2⟩
    have HO2 : Hid (OwnInts w2 (w.heap.size + 1) BT .u8 (.slice A2 B.length c2) B) := own_mono ho2 H1.out.lt1
    have H2 : Hid (At w w2 g p) := H1.out.old hb2
    have k0 : w2.cell? ⟨g, 0, none⟩ = some (.int .i64 p.ty) := H2.out.at_.cell 0
    clear ho2 hb2
    by_cases hBl : B.length ≤ 268435455
    · have hBl' := Lib.hid hBl
      have HPU := Lib.hid (put_calls w2 (B.length : Int) (by omega) (by omega))
      obtain ⟨N, hN⟩ : ∃ N, Hid (N = digs 3 (B.length : Int)) := ⟨_, rfl⟩
      rw [← hN.out] at HPU
      have hNl : Hid (N.length ≤ 4) := by rw [hN.out]; exact (digs_length 3 _).2
      clear hBl
      go_wp2_with (fail)
      refine HPU.out.mono ?_
      rintro e w3 ⟨A3, c3, rfl, ho3, hb3⟩
      have HO3 : Hid (OwnInts w3 (w.heap.size + 1) BT .u8 (.slice A3 N.length c3) N) := own_mono ho3 H2.out.lt1
      have H3 : Hid (At w w3 g p) := H2.out.old hb3
      have HO2' : Hid (OwnInts w3 (w.heap.size + 1) BT .u8 (.slice A2 B.length c2) B) := HO2.out.turn (Turn.of_below (S := fun _ => False) hb3) (fun _ _ h => h)
      have l0 : w3.cell? ⟨g, 0, none⟩ = some (.int .i64 p.ty) := H3.out.at_.cell 0
      have HRB := own_reads HO2'.out
      have HRN := own_reads HO3.out
      have HRB' := Lib.hid HRB
      have HRN' := Lib.hid HRN
      clear ho3 hb3 k0 HRB HRN
      go_wp2_with (at_builtin; go_must (refine wp_append_row (W := w3.alloc (.cells #[.int .u8 G] BT)) (w.heap.size + 1) rfl _ _ 22 5 .u8 1 rfl Tryd.underlying22 info_byte (.slice (some ⟨w3.heap.size, 0, none⟩) 1 1) [G] N A3 c3 rfl rfl HRN'.out.2.2.2 (HRN'.out.2.2.1.keep (Below.alloc (Below.refl _ _) (Nat.le_refl _) _)) (own_one w3 _ H3.out.lt1 G) (H3.out.alloc _).lt1 (by have := hNl.out; simp only [List.length_singleton]; exact ⟨by omega, by omega⟩) ?_))
      intro A4 c4 w4 hown4 ht4
      have HB4 : Hid (Below w3.heap.size w3 w4) := ((Below.alloc (Below.refl _ _) (Nat.le_refl _) _).trans (ht4.toBelow (by simp) (fun k hk e => by injection e with e; simp at e; omega)))
      have H4 : Hid (At w w4 g p) := H3.out.old HB4.out
      obtain ⟨L4, hL4⟩ : ∃ L4, Hid (L4 = [G] ++ N) := ⟨_, rfl⟩
      have HO4 : Hid (OwnInts w4 (w.heap.size + 1) BT .u8 (.slice A4 (N.length + 1) c4) L4) := by
        rw [hL4.out, Hid]; simpa using hown4
      have hL4l : Hid (L4.length ≤ 5) := by have := hNl.out; rw [hL4.out, Hid]; simp; omega
      clear hown4 ht4
      go_wp2_with (at_builtin; go_must (refine wp_append_row (W := w4) (w.heap.size + 1) rfl _ _ 22 5 .u8 1 rfl Tryd.underlying22 info_byte (.slice A4 (N.length + 1) c4) L4 B A2 c2 rfl rfl HRB'.out.2.2.2 (HRB'.out.2.2.1.keep HB4.out) HO4.out H4.out.lt1 (by have := hL4l.out; have := HBL.out; exact ⟨by omega, by omega⟩) ?_))
      intro A5 c5 w5 hown5 ht5
      have H5 : Hid (At w w5 g p) := H4.out.grow ht5 (fun j hj => (own_block_ge HO4.out j hj).1)
      have hfin : Hid (L4 ++ B = bytesB p C D) := by rw [hL4.out, hGe.out, hF.out, hN.out, hB.out, bytesB, List.append_assoc, Hid]
      have HO5 : Hid (OwnInts w5 (w.heap.size + 1) BT .u8 (.slice A5 (L4.length + B.length) c5) (L4 ++ B)) := by rw [Hid]; simpa using hown5
      clear hown5 ht5
      go_wp2_with (fail)
      go_ret2
      have hMay : May p C D := ⟨HGo.out, by rw [← hB.out]; exact hBl'.out⟩
      have hown := HO5.out
      rw [hfin.out] at hown
      have hl : L4.length + B.length = (bytesB p C D).length := by rw [← hfin.out, List.length_append]
      rw [hl] at hown
      refine ⟨H5.out.below, .inl ⟨hMay, A5, c5, ?_, own_mono hown (by omega)⟩⟩
      rw [← hl]
      first | rfl | (simp; rfl)
    · have HNB := Lib.hid hBl
      have HPU := Lib.hid (put_bad w2 (B.length : Int) (.inr (by omega)))
      clear hBl
      go_wp2_with (fail)
      refine HPU.out.mono ?_
      rintro e w3 ⟨rfl, rfl⟩
      go_wp2_with (fail)
      go_ret2
      exact ⟨H2.out.below, .inr ⟨fun h => HNB.out (by rw [hB.out]; exact h.2), rfl⟩⟩
  · have H1 : Hid (At w w1 g p) := HA.out.old hb
    have HG := Lib.hid hG
    clear hb hG
    go_wp2_with (fail)
    go_ret2
    exact ⟨H1.out.below, .inr ⟨fun h => HG.out h.1, rfl⟩⟩

set_option maxRecDepth 100000 in
theorem pcheck_calls (w : World) (hT : Lib.Utf8Tabs 0 1 w) (p : Pkt) (C : List Int) (D : List (ByteArray × Int)) (hF : Lies w p C D) (hlen : Good p C D → (bodyB p C D).length ≤ 70368744177664) : Calls Tryd.prog 22 #[.agg p.cells] w fun e w' => Below w.heap.size w w' ∧ ((May p C D ∧ e = .returned (.int .i64 0)) ∨ (¬ May p C D ∧ e = .returned (.int .i64 1))) := by
  have hA := at_box w p
  obtain ⟨W, hW⟩ : ∃ W, Hid (W = w.alloc (.cells p.cells PT)) := ⟨_, rfl⟩
  obtain ⟨g, hg⟩ : ∃ g, Hid (g = w.heap.size) := ⟨_, rfl⟩
  rw [← hW.out, ← hg.out] at hA
  have HA := Lib.hid hA
  have HB := Lib.hid (bytes_calls W (hA.tabs hT) p C D (hF.keep hA.below) hlen)
  clear hA hF hT hlen
  go_enter Tryd.func22, Tryd.ntmps22
  go_upto_region 1 with (fail)
  rw [← hW.out, ← hg.out]
  go_wp2_with (with_reducible refine wp_load_pkt (o := ⟨some 6, _, _, _, _, _⟩) rfl rfl rfl HA.out.at_ ?_)
  refine HB.out.mono ?_
  rintro e w1 ⟨hb, (⟨hm, A, c, rfl, ho⟩ | ⟨hm, rfl⟩)⟩
  · have H1 := Lib.hid (And.intro (HA.out.old hb).below hm)
    clear hb hm ho
    go_wp2_with (fail)
    go_ret
    exact ⟨H1.out.1, .inl ⟨H1.out.2, rfl⟩⟩
  · have H1 := Lib.hid (And.intro (HA.out.old hb).below hm)
    clear hb hm
    go_wp2_with (fail)
    go_ret
    exact ⟨H1.out.1, .inr ⟨H1.out.2, rfl⟩⟩
end Pk
end Go.Proofs.YteigakkghkjakaaDoor

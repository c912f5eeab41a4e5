/- PacketIds: packets that are alike but for their Ids. -/
import Derived.Test.YteigakkghkjakaaDoorPlU
namespace Go.Proofs.YteigakkghkjakaaDoor
open Go.RowKit Go.ChangeShapes
set_option linter.unusedVariables false
set_option linter.unusedSimpArgs false
namespace Pk
open Utf (nums nums_length nums_bytes IsStr nums_str)
open Var (BT digs digs_length)

def Pkt.withId (p : Pkt) (a : Int) : Pkt := { p with id := a }
theorem id_form {p : Pkt} {C : List Int} {D : List (ByteArray × Int)} (h : May p C D) (h0 : p.id ≠ 0) : (p.ty = 3 ∧ p.qos ≠ 0) ∨ (4 ≤ p.ty ∧ p.ty ≤ 11) := by
  obtain ⟨⟨h1, h2, hok, hz⟩, _⟩ := h
  rw [zero_iff] at hz
  have hid := hz.2.1
  by_cases h3 : p.ty = 3
  · left
    refine ⟨h3, fun hq => h0 ?_⟩
    have : p.after = p.noMsg := by unfold Pkt.after; rw [if_neg (by omega), if_neg (by omega), if_pos h3, if_pos hq]
    rw [this] at hid; exact hid
  · by_cases hr : 4 ≤ p.ty ∧ p.ty ≤ 11
    · exact .inr hr
    · refine absurd ?_ h0
      by_cases e1 : p.ty = 1
      · have : p.after = (if p.will then p.noMsg else p).noCon := by unfold Pkt.after; rw [if_pos e1]
        rw [this] at hid
        cases hw : p.will <;> rw [hw] at hid <;> exact hid
      · by_cases e2 : p.ty = 2
        · have : p.after = { p.noCodes with present := false } := by unfold Pkt.after; rw [if_neg e1, if_pos e2]
          rw [this] at hid; exact hid
        · have : p.after = p := by
            unfold Pkt.after
            rw [if_neg e1, if_neg e2, if_neg h3, if_neg (by omega), if_neg (by omega), if_neg (by omega)]
          rw [this] at hid; exact hid

theorem id_after (p : Pkt) (a : Int) (hf : (p.ty = 3 ∧ p.qos ≠ 0) ∨ (4 ≤ p.ty ∧ p.ty ≤ 11)) : (p.withId a).after = p.after := by
  have e : ∀ q : Pkt, q.ty = p.ty → q.qos = p.qos → q.noId = p.noId → q.after = p.after := by
    intro q ht hq hn
    unfold Pkt.after
    rw [ht, hq, hn]
    rcases hf with ⟨h3, hq0⟩ | ⟨h4, h11⟩
    · have n1 : ¬ p.ty = 1 := by omega
      have n2 : ¬ p.ty = 2 := by omega
      simp only [if_neg n1, if_neg n2, if_pos h3, if_neg hq0]
    · have n1 : ¬ p.ty = 1 := by omega
      have n2 : ¬ p.ty = 2 := by omega
      have n3 : ¬ p.ty = 3 := by omega
      simp only [if_neg n1, if_neg n2, if_neg n3]
      by_cases h1 : p.ty = 4 ∨ p.ty = 5 ∨ p.ty = 6 ∨ p.ty = 7 ∨ p.ty = 11
      · simp only [if_pos h1]
      · by_cases h2 : p.ty = 8 ∨ p.ty = 10
        · simp only [if_neg h1, if_pos h2]
        · have n9 : p.ty = 9 := by omega
          simp only [if_neg h1, if_neg h2, if_pos n9]
  exact e (p.withId a) rfl rfl rfl

/-- The bytes but for the Id. -/
theorem id_bytes (p : Pkt) (C : List Int) (D : List (ByteArray × Int)) (hf : (p.ty = 3 ∧ p.qos ≠ 0) ∨ (4 ≤ p.ty ∧ p.ty ≤ 11)) : ∃ X Y B : List Int, (∀ a, bytesB (p.withId a) C D = X ++ (wordB a ++ Y)) ∧ (∀ a, (bodyB (p.withId a) C D).length = B.length) ∧ ∀ a, (bytesB (p.withId a) C D).length = X.length + 2 + Y.length := by
  have hb : ∃ U V : List Int, ∀ a, bodyB (p.withId a) C D = U ++ (wordB a ++ V) := by
    rcases hf with ⟨h3, hq0⟩ | ⟨h4, h11⟩
    · refine ⟨textB p.topic, nums p.payload, fun a => ?_⟩
      have ht : (p.withId a).ty = 3 := h3
      have hq : ¬ (p.withId a).qos = 0 := hq0
      unfold bodyB
      rw [if_neg (by omega), if_neg (by omega), if_pos ht, if_neg hq]; rfl
    · refine ⟨[], subsB p.ty D ++ C, fun a => ?_⟩
      have ht : (p.withId a).ty = p.ty := rfl
      unfold bodyB
      rw [if_neg (by omega), if_neg (by omega), if_neg (by omega), if_neg (by omega)]; rfl
  obtain ⟨U, V, hUV⟩ := hb
  have hl : ∀ a, (bodyB (p.withId a) C D).length = (U ++ (wordB 0 ++ V)).length := fun a => by rw [hUV]; simp [wordB_length]
  have hX : ∀ a, bytesB (p.withId a) C D = ([16 * p.ty + flagsN p] ++ digs 3 ((U ++ (wordB 0 ++ V)).length : Int) ++ U) ++ (wordB a ++ V) := by
    intro a
    have hfl : flagsN (p.withId a) = flagsN p := rfl
    have ht : (p.withId a).ty = p.ty := rfl
    unfold bytesB
    rw [hl a, hUV, hfl, ht]
    simp
  refine ⟨_, V, _, hX, hl, fun a => ?_⟩
  rw [hX]
  simp [wordB_length]; omega

theorem id_swap {p : Pkt} {C : List Int} {D : List (ByteArray × Int)} (h : May p C D) (h0 : p.id ≠ 0) (a : Int) : May (p.withId a) C D ↔ 1 ≤ a ∧ a ≤ 65535 := by
  have hf := id_form h h0
  have ha := id_after p a hf
  obtain ⟨_, _, B, _, hl, _⟩ := id_bytes p C D hf
  have hlen : (bodyB (p.withId a) C D).length = (bodyB p C D).length := by
    have h1 := hl a
    have h2 := hl p.id
    have h3 : p.withId p.id = p := rfl
    rw [h3] at h2
    omega
  obtain ⟨⟨h1, h2, hok, hz⟩, hlb⟩ := h
  obtain ⟨o1, o2, o3, o4, o5, o6⟩ := hok
  constructor
  · rintro ⟨⟨_, _, ⟨_, _, k3, k4, _, _⟩, _⟩, _⟩
    rcases hf with ⟨h3, hq0⟩ | ⟨h4, h11⟩
    · exact (k3 h3).1 hq0
    · exact k4 h4 h11
  · intro hr
    refine ⟨⟨h1, h2, ⟨fun e => ?_, o2, fun e => ⟨fun _ => hr, (o3 e).2⟩, fun _ _ => hr, o5, o6⟩, ?_⟩, by rw [hlen]; exact hlb⟩
    · have : p.ty = 1 := e
      omega
    · rw [ha]; exact hz

theorem id_lies {w : World} {p : Pkt} {C : List Int} {D : List (ByteArray × Int)} (h : Lies w p C D) (a : Int) : Lies w (p.withId a) C D := ⟨h.codes, h.subs, h.strs, h.lenC, h.lenD⟩

theorem word_eq {a b : Int} (h : wordB a = wordB b) : a = b := by
  simp [wordB] at h
  omega
set_option maxRecDepth 100000 in
set_option maxHeartbeats 2000000 in
theorem ids_walk (p : Pkt) (C : List Int) (D : List (ByteArray × Int)) (a1 a2 : Int) (w : World) (hF : Lies w p C D) (hS : Sized p C D) (w1 : (Lit.int .i64 a1).wf = true) (w2 : (Lit.int .i64 a2).wf = true) (hT : Lib.Utf8Tabs 0 1 w) :
    Calls Tryd.prog 9 #[.agg p.cells, .int .i64 a1, .int .i64 a2] w fun e w' => e = .returned (.bool true) ∧ Below w.heap.size w w' := by
  have hA := at_box w p
  obtain ⟨W, hW⟩ : ∃ W, Hid (W = w.alloc (.cells p.cells PT)) := ⟨_, rfl⟩
  obtain ⟨g, hg⟩ : ∃ g, Hid (g = w.heap.size) := ⟨_, rfl⟩
  rw [← hW.out, ← hg.out] at hA
  have HB : Hid (Below w.heap.size w W) := hA.below
  have HP := Lib.hid hA.at_
  have HL : Hid (Lies W p C D) := hF.keep HB.out
  have HT : Hid (Lib.Utf8Tabs 0 1 W) := Utf.tabs_keep hT HB.out
  have HS := Lib.hid hS
  have HF := Lib.hid hF
  have HT0 := Lib.hid hT
  clear hA hF hT hS w1 w2
  go_enter Tryd.func9, Tryd.ntmps9
  go_upto_region 1 with (fail)
  rw [← hW.out, ← hg.out]
  go_wp2_with (with_reducible refine wp_load_pkt (o := ⟨some 12, _, _, _, _, _⟩) rfl rfl rfl HP.out ?_)
  refine (small_calls W p C D HL.out HS.out).mono ?_
  rintro e w1 ⟨hb1, b, rfl, hsm⟩
  have HB1 : Hid (Below w.heap.size w w1) := HB.out.trans (hb1.mono HB.out.size)
  have HP1 := Lib.hid (HP.out.keep (Turn.of_below (S := fun _ => False) hb1) (fun h => h))
  have HL1 := Lib.hid (HL.out.keep hb1)
  have HT1 : Hid (Lib.Utf8Tabs 0 1 w1) := Utf.tabs_keep HT.out hb1
  cases b with
  | false =>
    clear hb1 hsm
    go_wp2_with (fail)
    go_ret
    exact ⟨rfl, HB1.out⟩
  | true =>
  have HSM := Lib.hid (hsm rfl)
  have HLEN := Lib.hid (small_body HL1.out HSM.out)
  have k2 : w1.cell? ⟨g, 2, none⟩ = some (.int .i64 p.id) := HP1.out.cell 2
  clear hb1 hsm
  by_cases h0 : p.id = 0
  · have e0 : (p.id == 0) = true := by simpa using h0
    have H0 := Lib.hid h0
    clear h0
    go_wp2_with (fail)
    go_ret
    exact ⟨rfl, HB1.out⟩
  have e0 : (p.id == 0) = false := by simpa using h0
  have H0 := Lib.hid h0
  clear h0
  go_wp2_with (with_reducible refine wp_load_pktG (o := ⟨some 21, _, _, _, _, _⟩) rfl rfl HP1.out ?_ (by with_unfolding_all rfl))
  refine (pcheck_calls w1 HT1.out p C D HL1.out HLEN.out).mono ?_
  rintro e w2 ⟨hb2, (⟨hm, rfl⟩ | ⟨_, rfl⟩)⟩
  · have HB2 : Hid (Below w.heap.size w w2) := HB1.out.trans (hb2.mono HB1.out.size)
    have HP2 := Lib.hid (HP1.out.keep (Turn.of_below (S := fun _ => False) hb2) (fun h => h))
    have HL2 := Lib.hid (HL1.out.keep hb2)
    have HM := Lib.hid hm
    have hpc : Hid (p.codes.oneCell' = true) := by obtain ⟨A', c', hv, _⟩ := HL2.out.codes; rw [hv]; exact rfl
    have hps : Hid (p.subs.oneCell' = true) := by obtain ⟨A', c', hv, _⟩ := HL2.out.subs; rw [hv]; exact rfl
    clear hb2 hm k2 e0
    go_upto_region 3 with (fail)
    rename_i hKont
    refine wp_region_lit (wp_load_pkt (p := p) rfl rfl rfl HP2.out ?_)
    refine st_alloc (wanted_free rfl) rfl (by exact kAllocP _) ?_
    refine wp_store_pkt (g := w2.heap.size) p zeroP rfl rfl rfl rfl (by exact heap_new _ _) hpc.out hps.out ?_
    intro w3 HP3 t
    refine wpList_nil (hKont _ _ ?_)
    simp only [Act.put, List.setIfInBounds_toArray, List.set_cons_zero, List.set_cons_succ]
    obtain ⟨q, hq⟩ : ∃ q, Hid (q = w2.heap.size) := ⟨_, rfl⟩
    have HW3 : Hid (Below w2.heap.size w2 w3) := (Below.alloc (Below.refl _ _) (Nat.le_refl _) _).trans (t.toBelow (by simp) (fun k hk e => by omega))
    have HB3 : Hid (Below w.heap.size w w3) := HB2.out.trans (HW3.out.mono HB2.out.size)
    have HG3 := Lib.hid (HP2.out.keep (Turn.of_below (S := fun _ => False) HW3.out) (fun h => h))
    have hgq : Hid (g < q) := by rw [hq.out]; exact HP2.out.lt
    have hgw : Hid (w.heap.size ≤ g) := by rw [hg.out]; exact Nat.le_refl _
    have hqw : Hid (w.heap.size ≤ q) := Nat.le_trans hgw.out (Nat.le_of_lt hgq.out)
    rw [← hq.out] at HP3 ⊢
    have c0 : w3.cell? ⟨g, 2, none⟩ = some (.int .i64 p.id) := HG3.out.cell 2
    have f0 := HG3.out.frozen 2
    clear t hKont
    go_upto_region 5 with (fail)
    obtain ⟨w4, hw4⟩ : ∃ w4, Hid (w4 = w3.setCell ⟨g, 2, none⟩ (.int .i64 a1)) := ⟨_, rfl⟩
    rw [show w3.setCell ⟨g, 2, none⟩ (.int .i64 a1) = w4 from hw4.out.symm]
    have ht4 : Turn (fun k => k = g) w3 w4 := by rw [hw4.out]; exact Turn.setCell _ _ rfl
    have HG4 : Hid (PkAt w4 g (p.withId a1)) := by rw [hw4.out]; exact HG3.out.set 2 _ _ rfl
    have HQ4 := Lib.hid (HP3.out.keep ht4 (fun e => by have := hgq.out; omega))
    have HB4 : Hid (Below w.heap.size w w4) := Turn.belowTrans HB3.out ht4 HB3.out.size (fun j hj e => by have := hgw.out; omega)
    have c1 : w4.cell? ⟨q, 2, none⟩ = some (.int .i64 p.id) := HQ4.out.cell 2
    have f1 := HQ4.out.frozen 2
    clear ht4 c0 f0
    go_upto_region 6 with (fail)
    obtain ⟨w5, hw5⟩ : ∃ w5, Hid (w5 = w4.setCell ⟨q, 2, none⟩ (.int .i64 a2)) := ⟨_, rfl⟩
    rw [show w4.setCell ⟨q, 2, none⟩ (.int .i64 a2) = w5 from hw5.out.symm]
    have ht5 : Turn (fun k => k = q) w4 w5 := by rw [hw5.out]; exact Turn.setCell _ _ rfl
    have HG5 := Lib.hid (HG4.out.keep ht5 (fun e => by have := hgq.out; omega))
    have HQ5 : Hid (PkAt w5 q (p.withId a2)) := by rw [hw5.out]; exact HQ4.out.set 2 _ _ rfl
    have HB5 : Hid (Below w.heap.size w w5) := Turn.belowTrans HB4.out ht5 HB4.out.size (fun j hj e => by have := hqw.out; omega)
    have HL5 : Hid (Lies w5 p C D) := HF.out.keep HB5.out
    have HT5 : Hid (Lib.Utf8Tabs 0 1 w5) := Utf.tabs_keep HT0.out HB5.out
    have HSP : ∀ a, SmallP (p.withId a) C D := fun a => ⟨HSM.out.topic, HSM.out.payload, HSM.out.client, HSM.out.user, HSM.out.pass, HSM.out.codes, HSM.out.subs⟩
    have HLEN1 := Lib.hid (small_body (id_lies HL5.out a1) (HSP a1))
    have HLEN2 := Lib.hid (small_body (id_lies HL5.out a2) (HSP a2))
    have HSW1 := Lib.hid (id_swap HM.out H0.out a1)
    have HSW2 := Lib.hid (id_swap HM.out H0.out a2)
    clear ht5 c1 f1 HSP
    go_wp2_with (with_reducible refine wp_load_pkt (o := ⟨some 31, _, _, _, _, _⟩) rfl rfl rfl HG5.out ?_)
    refine (bytes_calls w5 HT5.out (p.withId a1) C D (id_lies HL5.out a1) HLEN1.out).mono ?_
    rintro e w6 ⟨hb6, hP6⟩
    have HB6 : Hid (Below w.heap.size w w6) := HB5.out.trans (hb6.mono HB5.out.size)
    have HQ6 := Lib.hid (HQ5.out.keep (Turn.of_below (S := fun _ => False) hb6) (fun h => h))
    have HL6 : Hid (Lies w6 p C D) := HF.out.keep HB6.out
    have HT6 : Hid (Lib.Utf8Tabs 0 1 w6) := Utf.tabs_keep HT0.out HB6.out
    clear hb6
    rcases hP6 with ⟨hm1, A1, c1, rfl, ho1⟩ | ⟨hn1, rfl⟩
    · have ha1 := HSW1.out.1 hm1
      have HBy1 := Lib.hid (bytesB_bytes (id_lies HL6.out a1) hm1)
      obtain ⟨L1, hL1⟩ : ∃ L1, Hid (L1 = bytesB (p.withId a1) C D) := ⟨_, rfl⟩
      rw [← hL1.out] at ho1 HBy1 ⊢
      have HO1 := Lib.hid ho1
      have HM1 := Lib.hid hm1
      clear ho1 hm1
      go_wp2_with (with_reducible refine wp_load_pkt (o := ⟨some 36, _, _, _, _, _⟩) rfl rfl rfl HQ6.out ?_)
      refine (bytes_calls w6 HT6.out (p.withId a2) C D (id_lies HL6.out a2) HLEN2.out).mono ?_
      rintro e w7 ⟨hb7, hP7⟩
      have HB7 : Hid (Below w.heap.size w w7) := HB6.out.trans (hb7.mono HB6.out.size)
      have HT7 : Hid (Lib.Utf8Tabs 0 1 w7) := Utf.tabs_keep HT0.out HB7.out
      have HO17 := Lib.hid (HO1.out.turn (Turn.of_below (S := fun _ => False) hb7) (fun _ _ h => h))
      clear hb7
      rcases hP7 with ⟨hm2, A2, c2, rfl, ho2⟩ | ⟨hn2, rfl⟩
      · have ha2 := HSW2.out.1 hm2
        have HBy2 := Lib.hid (bytesB_bytes (id_lies HL6.out a2) hm2)
        obtain ⟨X, Y, B, hX, _, hl⟩ := id_bytes p C D (id_form HM.out H0.out)
        obtain ⟨L2, hL2⟩ : ∃ L2, Hid (L2 = bytesB (p.withId a2) C D) := ⟨_, rfl⟩
        rw [← hL2.out] at ho2 HBy2 ⊢
        have hll : Hid (L1.length = L2.length) := by rw [hL1.out, hL2.out, Hid, hl, hl]
        have hiff : Hid (L1 = L2 ↔ a1 = a2) := by
          constructor
          · intro e
            rw [hL1.out, hL2.out, hX, hX] at e
            exact word_eq (List.append_cancel_right (List.append_cancel_left e))
          · intro e
            rw [hL1.out, hL2.out, e]
        have HO2 := Lib.hid ho2
        clear ho2 hm2 hX hl
        rw [hll.out] at HO17 ⊢
        have hLb : (L2.length : Int) ≤ 9223372036854775807 := by obtain ⟨_, _, _, h1, h2, _⟩ := HO2.out.form; omega
        go_wp2_with (fail)
        refine (awake_calls w7 HT7.out).mono ?_
        rintro e w8 ⟨rfl, hb8⟩
        have HB8 := Lib.hid (HB7.out.trans (hb8.mono HB7.out.size))
        have HO18 := HO17.out.turn (Turn.of_below (S := fun _ => False) hb8) (fun _ _ h => h)
        have HO28 := HO2.out.turn (Turn.of_below (S := fun _ => False) hb8) (fun _ _ h => h)
        have hcv1 := conv_own (P := Tryd.prog) (W := w8) (src := 22) (dst := 9) Tryd.underlying22 Tryd.underlying5 Tryd.underlying9 HO18
        have hcv2 := conv_own (P := Tryd.prog) (W := w8) (src := 22) (dst := 9) Tryd.underlying22 Tryd.underlying5 Tryd.underlying9 HO28
        have hseq := eqb L1 L2 HBy1.out HBy2.out
        clear HO18 HO28 hb8
        by_cases hab : a1 = a2
        · rw [decide_eq_true (hiff.out.2 hab)] at hseq
          have hae : (a1 == a2) = true := by simpa using hab
          clear hab
          go_wp2_with (fail)
          go_ret
          exact ⟨rfl, HB8.out⟩
        · rw [decide_eq_false (fun h => hab (hiff.out.1 h))] at hseq
          have hae : (a1 == a2) = false := by simpa using hab
          clear hab
          go_wp2_with (fail)
          go_ret
          exact ⟨rfl, HB8.out⟩
      · have hna2 : ¬ (1 ≤ a2 ∧ a2 ≤ 65535) := fun h => hn2 (HSW2.out.2 h)
        clear hn2
        by_cases hj1 : 1 ≤ a2
        · have hj2 : ¬ a2 ≤ 65535 := fun h => hna2 ⟨hj1, h⟩
          go_wp2_with (fail)
          refine (awake_calls w7 HT7.out).mono ?_
          rintro e w8 ⟨rfl, hb8⟩
          have HB8 := Lib.hid (HB7.out.trans (hb8.mono HB7.out.size))
          clear hb8
          go_wp2_with (fail)
          go_ret
          exact ⟨rfl, HB8.out⟩
        · skip
          go_wp2_with (fail)
          refine (awake_calls w7 HT7.out).mono ?_
          rintro e w8 ⟨rfl, hb8⟩
          have HB8 := Lib.hid (HB7.out.trans (hb8.mono HB7.out.size))
          clear hb8
          go_wp2_with (fail)
          go_ret
          exact ⟨rfl, HB8.out⟩
    · have hna1 : ¬ (1 ≤ a1 ∧ a1 ≤ 65535) := fun h => hn1 (HSW1.out.2 h)
      clear hn1
      go_wp2_with (with_reducible refine wp_load_pkt (o := ⟨some 36, _, _, _, _, _⟩) rfl rfl rfl HQ6.out ?_)
      refine (bytes_calls w6 HT6.out (p.withId a2) C D (id_lies HL6.out a2) HLEN2.out).mono ?_
      rintro e w7 ⟨hb7, hP7⟩
      have HB7 : Hid (Below w.heap.size w w7) := HB6.out.trans (hb7.mono HB6.out.size)
      have HT7 : Hid (Lib.Utf8Tabs 0 1 w7) := Utf.tabs_keep HT0.out HB7.out
      clear hb7
      rcases hP7 with ⟨hm2, A2, c2, rfl, ho2⟩ | ⟨hn2, rfl⟩
      · have ha2 := HSW2.out.1 hm2
        clear ho2 hm2
        by_cases hk1 : 1 ≤ a1
        · have hk2 : ¬ a1 ≤ 65535 := fun h => hna1 ⟨hk1, h⟩
          go_wp2_with (fail)
          refine (awake_calls w7 HT7.out).mono ?_
          rintro e w8 ⟨rfl, hb8⟩
          have HB8 := Lib.hid (HB7.out.trans (hb8.mono HB7.out.size))
          clear hb8
          go_wp2_with (fail)
          go_ret
          exact ⟨rfl, HB8.out⟩
        · skip
          go_wp2_with (fail)
          refine (awake_calls w7 HT7.out).mono ?_
          rintro e w8 ⟨rfl, hb8⟩
          have HB8 := Lib.hid (HB7.out.trans (hb8.mono HB7.out.size))
          clear hb8
          go_wp2_with (fail)
          go_ret
          exact ⟨rfl, HB8.out⟩
      · have hna2 : ¬ (1 ≤ a2 ∧ a2 ≤ 65535) := fun h => hn2 (HSW2.out.2 h)
        clear hn2
        by_cases hj1 : 1 ≤ a2
        · have hj2 : ¬ a2 ≤ 65535 := fun h => hna2 ⟨hj1, h⟩
          by_cases hk1 : 1 ≤ a1
          · have hk2 : ¬ a1 ≤ 65535 := fun h => hna1 ⟨hk1, h⟩
            go_wp2_with (fail)
            refine (awake_calls w7 HT7.out).mono ?_
            rintro e w8 ⟨rfl, hb8⟩
            have HB8 := Lib.hid (HB7.out.trans (hb8.mono HB7.out.size))
            clear hb8
            go_wp2_with (fail)
            go_ret
            exact ⟨rfl, HB8.out⟩
          · skip
            go_wp2_with (fail)
            refine (awake_calls w7 HT7.out).mono ?_
            rintro e w8 ⟨rfl, hb8⟩
            have HB8 := Lib.hid (HB7.out.trans (hb8.mono HB7.out.size))
            clear hb8
            go_wp2_with (fail)
            go_ret
            exact ⟨rfl, HB8.out⟩
        · skip
          by_cases hk1 : 1 ≤ a1
          · have hk2 : ¬ a1 ≤ 65535 := fun h => hna1 ⟨hk1, h⟩
            go_wp2_with (fail)
            refine (awake_calls w7 HT7.out).mono ?_
            rintro e w8 ⟨rfl, hb8⟩
            have HB8 := Lib.hid (HB7.out.trans (hb8.mono HB7.out.size))
            clear hb8
            go_wp2_with (fail)
            go_ret
            exact ⟨rfl, HB8.out⟩
          · skip
            go_wp2_with (fail)
            refine (awake_calls w7 HT7.out).mono ?_
            rintro e w8 ⟨rfl, hb8⟩
            have HB8 := Lib.hid (HB7.out.trans (hb8.mono HB7.out.size))
            clear hb8
            go_wp2_with (fail)
            go_ret
            exact ⟨rfl, HB8.out⟩
  · have HB2 : Hid (Below w.heap.size w w2) := HB1.out.trans (hb2.mono HB1.out.size)
    clear hb2
    go_wp2_with (fail)
    go_ret
    exact ⟨rfl, HB2.out⟩
end Pk
end Go.Proofs.YteigakkghkjakaaDoor

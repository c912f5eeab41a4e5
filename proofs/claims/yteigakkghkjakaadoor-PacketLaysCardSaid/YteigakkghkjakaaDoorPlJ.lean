/- The reader: read, whatever comes; Parse's closure. Parse's closure. Plain laws on what is read: sizes, bytes. -/
import Derived.Test.YteigakkghkjakaaDoorPlQ
import Derived.Test.YteigakkghkjakaaDoorShelf
import Derived.Deep.RegionHeldLaw
namespace Go.Proofs.YteigakkghkjakaaDoor
open Go.RowKit
set_option linter.unusedVariables false
set_option linter.unusedSimpArgs false
namespace Pk
open Utf (nums nums_length nums_bytes IsStr nums_str)
open Var (BT)

theorem read_calls (w : World) (r B : Nat) (f : Int) (L : List Int) (hf : 0 ≤ f ∧ f ≤ 255) (h : RdAt w r B L) (hLb : L.length ≤ 1000000000000) : Calls Tryd.prog 34 #[.pointer (some ⟨r, 0, none⟩), .int .i64 f] w fun e w' => ReadPost w r (rdPkt f L) e w' := by
  by_cases h1 : f / 16 = 1
  · exact read_connect w r B f _ L hf rfl h hLb h1
  by_cases h2 : f / 16 = 2
  · exact read_connack w r B f _ L hf rfl h hLb h2
  by_cases h3 : f / 16 = 3
  · exact read_publish w r B f _ L hf rfl h hLb h3
  by_cases h8 : f / 16 = 8
  · exact read_subs8 w r B f _ L hf rfl h hLb h8
  by_cases h9 : f / 16 = 9
  · exact read_suback w r B f _ L hf rfl h hLb h9
  by_cases h10 : f / 16 = 10
  · exact read_subs10 w r B f _ L hf rfl h hLb h10
  by_cases h12 : f / 16 = 12 ∨ f / 16 = 13 ∨ f / 16 = 14
  · exact read_none w r B f _ L hf rfl h hLb h12
  · exact read_id w r B f _ L hf rfl h hLb (by omega)

theorem rdSubs_len (ty : Int) : ∀ (k : Nat) (L : List Int) (D : List (ByteArray × Int)), rdSubs k ty L = some D → D.length ≤ L.length := by
  intro k
  induction k with
  | zero =>
    intro L D h
    rw [rdSubs] at h
    split at h
    · cases h; simp
    · cases h
  | succ k ih =>
    intro L D h
    rw [rdSubs] at h
    split at h
    · cases h; simp
    · cases ht : rdText L with
      | none => rw [ht] at h; cases h
      | some x =>
        obtain ⟨s, M⟩ := x
        have hl := rdText_len ht
        rw [ht, Option.bind_some] at h
        split at h
        · cases ho : rdOct M with
          | none => simp only [ho] at h; cases h
          | some y =>
            obtain ⟨q, N⟩ := y
            have hl2 := rdOct_len ho
            simp only [ho, Option.bind_some] at h
            cases hr : rdSubs k ty N with
            | none => rw [hr] at h; cases h
            | some E =>
              rw [hr] at h
              cases h
              have := ih N E hr
              rw [List.length_cons]; omega
        · simp only [] at h
          cases hr : rdSubs k ty M with
          | none => rw [hr] at h; cases h
          | some E =>
            rw [hr] at h
            cases h
            have := ih M E hr
            rw [List.length_cons]; omega
theorem rdPkt_fit {f : Int} {L : List Int} {p : Pkt} {C : List Int} {D : List (ByteArray × Int)} (h : rdPkt f L = some (p, C, D)) (hb : ∀ x ∈ L, 0 ≤ x ∧ x < 256) : C.length ≤ L.length + 1 ∧ D.length ≤ L.length ∧ (p.ty = 3 → p.payload.size ≤ L.length) := by
  unfold rdPkt at h
  split at h
  · cases hr : rdCon (typeP 1) L with
    | none => rw [hr] at h; cases h
    | some x =>
      obtain ⟨q, M⟩ := x
      rw [hr, Option.bind_some] at h
      cases h
      have := (rdCon_all hr).2.2
      exact ⟨by simp, by simp, fun h3 => by rw [h3] at this; exact absurd this (by decide)⟩
  · split at h
    · cases hr : rdOct L with
      | none => rw [hr] at h; cases h
      | some x =>
        rw [hr, Option.bind_some] at h
        cases hr2 : rdOct x.2 with
        | none => rw [hr2] at h; cases h
        | some y =>
          rw [hr2, Option.bind_some] at h
          cases h
          exact ⟨by simp, by simp, fun h3 => absurd h3 (by simp only [typeP]; decide)⟩
    · split at h
      · cases hr : rdText L with
        | none => rw [hr] at h; cases h
        | some x =>
          obtain ⟨t, M⟩ := x
          have hl := rdText_len hr
          rw [hr, Option.bind_some] at h
          unfold pub3 at h
          split at h
          · cases hw : rdWord M with
            | none => simp only [hw] at h; cases h
            | some y =>
              obtain ⟨n, N⟩ := y
              have hl2 := rdWord_len hw
              simp only [hw, Option.bind_some] at h
              cases h
              exact ⟨by simp, by simp, fun _ => by simp only [strOfNums_size]; omega⟩
          · cases h
            exact ⟨by simp, by simp, fun _ => by simp only [strOfNums_size]; omega⟩
      · split at h
        · rename_i h12
          cases h
          exact ⟨by simp, by simp, fun h3 => by simp only [typeP] at h3; omega⟩
        · cases hw : rdWord L with
          | none => rw [hw] at h; cases h
          | some y =>
            obtain ⟨n, N⟩ := y
            have hl2 := rdWord_len hw
            rw [hw, Option.bind_some] at h
            split at h
            · cases h
              exact ⟨by simp only []; omega, by simp, fun h3 => absurd h3 (by simp only [typeP]; decide)⟩
            · split at h
              · cases hr : rdSubs N.length (f / 16) N with
                | none => simp only [hr] at h; cases h
                | some E =>
                  simp only [hr, Option.bind_some] at h
                  cases h
                  have := rdSubs_len _ _ _ _ hr
                  exact ⟨by simp, by omega, fun h3 => by simp only [typeP] at h3; omega⟩
              · rename_i h3' _ _ _
                cases h
                exact ⟨by simp, by simp, fun h3 => by simp only [typeP] at h3; exact absurd h3 h3'⟩
theorem eqb (L M : List Int) (hL : ∀ x ∈ L, 0 ≤ x ∧ x < 256) (hM : ∀ x ∈ M, 0 ≤ x ∧ x < 256) : ((strOfNums L).toList == (strOfNums M).toList) = decide (L = M) := by
  by_cases h : L = M
  · rw [h, decide_eq_true rfl]; simp
  · rw [decide_eq_false h]
    have : ¬ (strOfNums L).toList = (strOfNums M).toList := by
      intro e
      apply h
      have e2 : strOfNums L = strOfNums M := by
        rw [ByteArray.toList_eq, ByteArray.toList_eq] at e
        cases h1 : strOfNums L with
        | mk a =>
          cases h2 : strOfNums M with
          | mk b =>
            rw [h1, h2] at e
            congr 1
            exact Array.ext' e
      rw [← nums_str L hL, ← nums_str M hM, e2]
    simpa using this
end Pk
end Go.Proofs.YteigakkghkjakaaDoor

namespace Go.Proofs.YteigakkghkjakaaDoor
open Go.RowKit
set_option linter.unusedVariables false
set_option linter.unusedSimpArgs false
namespace Pk
open Utf (nums nums_length nums_bytes IsStr nums_str)
open Var (BT)

theorem tabs_turn {w w' : World} {S : Nat → Prop} (h : Lib.Utf8Tabs 0 1 w) (t : Turn S w w') (h0 : ¬ S 0) (h1 : ¬ S 1) : Lib.Utf8Tabs 0 1 w' :=
  ⟨fun c hc => t.cell (h.1 c hc) h0, fun i hi => ⟨t.cell (h.2 i hi).1 h1, t.cell (h.2 i hi).2 h1⟩⟩
theorem tabs_lt {w : World} (h : Lib.Utf8Tabs 0 1 w) : 2 ≤ w.heap.size := by
  have := World.block_lt_of_cell? w _ (h.2 0 (by decide)).1
  exact this

/-- Packets whose bytes these are. -/
def IsPkt (L : List Int) (p : Pkt) (C : List Int) (D : List (ByteArray × Int)) : Prop := Long p C D ∧ May p C D ∧ bytesB p C D = L

def keepC (p : Pkt) (v : Value) : Value := if p.ty = 2 ∨ p.ty = 9 then nilV else v
def keepD (p : Pkt) (v : Value) : Value := if p.ty = 8 ∨ p.ty = 10 then nilV else v
theorem after_rows (p : Pkt) (vc vs : Value) : (p.rows vc vs).after = p.after.rows (keepC p vc) (keepD p vs) := by
  unfold Pkt.after keepC keepD
  show (if p.ty = 1 then (if p.will = true then (p.rows vc vs).noMsg else p.rows vc vs).noCon
    else if p.ty = 2 then { (p.rows vc vs).noCodes with present := false }
    else if p.ty = 3 then (if p.qos = 0 then p.rows vc vs else { (p.rows vc vs).noId with dup := false }).noMsg
    else if p.ty = 4 ∨ p.ty = 5 ∨ p.ty = 6 ∨ p.ty = 7 ∨ p.ty = 11 then (p.rows vc vs).noId
    else if p.ty = 8 ∨ p.ty = 10 then (p.rows vc vs).noId.noSubs
    else if p.ty = 9 then (p.rows vc vs).noId.noCodes
    else p.rows vc vs) = _
  by_cases t1 : p.ty = 1
  · rw [if_pos t1, if_pos t1, if_neg (show ¬ (p.ty = 2 ∨ p.ty = 9) by omega), if_neg (show ¬ (p.ty = 8 ∨ p.ty = 10) by omega)]
    by_cases hw : p.will = true
    · rw [if_pos hw, if_pos hw]; rfl
    · rw [if_neg hw, if_neg hw]; rfl
  rw [if_neg t1, if_neg t1]
  by_cases t2 : p.ty = 2
  · rw [if_pos t2, if_pos t2, if_pos (.inl t2), if_neg (by omega)]; rfl
  rw [if_neg t2, if_neg t2]
  by_cases t3 : p.ty = 3
  · rw [if_pos t3, if_pos t3, if_neg (show ¬ (p.ty = 2 ∨ p.ty = 9) by omega), if_neg (show ¬ (p.ty = 8 ∨ p.ty = 10) by omega)]
    by_cases hq : p.qos = 0
    · rw [if_pos hq, if_pos hq]; rfl
    · rw [if_neg hq, if_neg hq]; rfl
  rw [if_neg t3, if_neg t3]
  by_cases t4 : p.ty = 4 ∨ p.ty = 5 ∨ p.ty = 6 ∨ p.ty = 7 ∨ p.ty = 11
  · rw [if_pos t4, if_pos t4, if_neg (by omega), if_neg (by omega)]; rfl
  rw [if_neg t4, if_neg t4]
  by_cases t8 : p.ty = 8 ∨ p.ty = 10
  · rw [if_pos t8, if_pos t8, if_neg (by omega), if_pos t8]; rfl
  rw [if_neg t8, if_neg t8]
  by_cases t9 : p.ty = 9
  · rw [if_pos t9, if_pos t9, if_pos (.inr t9), if_neg t8]; rfl
  rw [if_neg t9, if_neg t9, if_neg (by omega), if_neg t8]
theorem after_len (p : Pkt) (vc vs vc' vs' : Value) (h1 : rowLen vc = rowLen vc') (h2 : rowLen vs = rowLen vs') : (p.rows vc vs).after.zero (rowLen (p.rows vc vs).after.codes) (rowLen (p.rows vc vs).after.subs) = (p.rows vc' vs').after.zero (rowLen (p.rows vc' vs').after.codes) (rowLen (p.rows vc' vs').after.subs) := by
  rw [after_rows, after_rows]
  show p.after.zero (rowLen (keepC p vc)) (rowLen (keepD p vs)) = p.after.zero (rowLen (keepC p vc')) (rowLen (keepD p vs'))
  have e1 : rowLen (keepC p vc) = rowLen (keepC p vc') := by unfold keepC; split; rfl; exact h1
  have e2 : rowLen (keepD p vs) = rowLen (keepD p vs') := by unfold keepD; split; rfl; exact h2
  rw [e1, e2]
theorem good_rows (p : Pkt) (vc vs vc' vs' : Value) (C : List Int) (D : List (ByteArray × Int)) (h1 : rowLen vc = rowLen vc') (h2 : rowLen vs = rowLen vs') (h : Good (p.rows vc vs) C D) : Good (p.rows vc' vs') C D := by
  obtain ⟨a, b, c, d⟩ := h
  exact ⟨a, b, c, by rw [← after_len p vc vs vc' vs' h1 h2]; exact d⟩
theorem may_rows (p : Pkt) (vc vs vc' vs' : Value) (C : List Int) (D : List (ByteArray × Int)) (h1 : rowLen vc = rowLen vc') (h2 : rowLen vs = rowLen vs') (h : May (p.rows vc vs) C D) : May (p.rows vc' vs') C D :=
  ⟨good_rows p vc vs vc' vs' C D h1 h2 h.1, h.2⟩
theorem rows_own (p : Pkt) : p.rows p.codes p.subs = p := rows_self p rfl rfl

/-- What is read of a packet's bytes is that packet. -/
theorem read_is {f : Int} {M L : List Int} {p : Pkt} {C : List Int} {D : List (ByteArray × Int)} (hI : IsPkt L p C D) (hf : lat L 0 = f) (hM : M = bodyB p C D) {q : Pkt} {C' : List Int} {D' : List (ByteArray × Int)} (hr : rdPkt f M = some (q, C', D')) (vc vs : Value) (h1 : rowLen vc = C'.length) (h2 : rowLen vs = D'.length) :
    May (q.rows vc vs) C' D' ∧ bytesB (q.rows vc vs) C' D' = L := by
  obtain ⟨hl, hm, hb⟩ := hI
  have hf' : f = 16 * p.ty + flagsN p := by rw [← hf, ← hb]; rfl
  have := read_back p C D hm.1 hl
  rw [← hf', ← hM, hr] at this
  injection this with this
  injection this with e1 e2
  injection e2 with e2 e3
  subst e1 e2 e3
  have hp : p = p.rows p.codes p.subs := (rows_own p).symm
  refine ⟨?_, hb⟩
  have hm' : May (p.rows p.codes p.subs) C' D' := by rw [rows_own]; exact hm
  exact may_rows p p.codes p.subs vc vs C' D' (by rw [hl.1, h1]) (by rw [hl.2, h2]) hm'
theorem read_some {f : Int} {M L : List Int} {p : Pkt} {C : List Int} {D : List (ByteArray × Int)} (hI : IsPkt L p C D) (hf : lat L 0 = f) (hM : M = bodyB p C D) : rdPkt f M ≠ none := by
  obtain ⟨hl, hm, hb⟩ := hI
  have hf' : f = 16 * p.ty + flagsN p := by rw [← hf, ← hb]; rfl
  have := read_back p C D hm.1 hl
  rw [← hf', ← hM] at this
  rw [this]; simp
end Pk
end Go.Proofs.YteigakkghkjakaaDoor

namespace Go.Proofs.YteigakkghkjakaaDoor
open Go.RowKit
set_option linter.unusedVariables false
set_option linter.unusedSimpArgs false
namespace Pk
open Utf (nums nums_length nums_bytes IsStr nums_str)
open Var (BT)

theorem rdText_size {L M : List Int} {s : ByteArray} (h : rdText L = some (s, M)) : s.size ≤ L.length ∧ M.length ≤ L.length := by
  have hl := rdText_len h
  unfold rdText at h
  cases hw : rdWord L with
  | none => rw [hw] at h; cases h
  | some y =>
    obtain ⟨n, N⟩ := y
    have := rdWord_len hw
    rw [hw] at h
    simp only at h
    split at h
    · cases h
      rw [strOfNums_size, List.length_take]
      omega
    · cases h
def Sz (K : Nat) (p : Pkt) : Prop := p.client.size ≤ K ∧ p.user.size ≤ K ∧ p.pass.size ≤ K
theorem con9_sz {K : Nat} {p q : Pkt} {L M : List Int} (hp : Sz K p) (hL : L.length ≤ K) (h : con9 p L = some (q, M)) : Sz K q := by
  unfold con9 at h
  split at h
  · cases hr : rdText L with
    | none => rw [hr] at h; cases h
    | some x =>
      obtain ⟨s, N⟩ := x
      rw [hr] at h
      cases h
      exact ⟨hp.1, hp.2.1, by have := (rdText_size hr).1; show s.size ≤ K; omega⟩
  · cases h; exact hp
theorem con8_sz {K : Nat} {p q : Pkt} {L M : List Int} (hp : Sz K p) (hL : L.length ≤ K) (h : con8 p L = some (q, M)) : Sz K q := by
  unfold con8 at h
  split at h
  · cases hr : rdText L with
    | none => rw [hr] at h; cases h
    | some x =>
      obtain ⟨s, N⟩ := x
      have := rdText_size hr
      rw [hr, Option.bind_some] at h
      exact con9_sz (p := { p with user := s }) ⟨hp.1, by show s.size ≤ K; omega, hp.2.2⟩ (by show N.length ≤ K; omega) h
  · exact con9_sz hp hL h
theorem con5_sz {K : Nat} {p q : Pkt} {f : Int} {L M : List Int} (hp : Sz K p) (hL : L.length ≤ K) (h : con5 p f L = some (q, M)) : Sz K q := by
  unfold con5 at h
  split at h
  · unfold con6 at h
    cases hr : rdText L with
    | none => rw [hr] at h; cases h
    | some x =>
      obtain ⟨s, N⟩ := x
      have h1 := rdText_size hr
      rw [hr, Option.bind_some] at h
      unfold con7 at h
      cases hr2 : rdText N with
      | none => simp only [hr2] at h; cases h
      | some y =>
        obtain ⟨s2, N2⟩ := y
        have h2 := rdText_size hr2
        simp only [hr2, Option.bind_some] at h
        exact con8_sz (p := { p with topic := s, payload := s2, qos := bits .and .i64 (f / 8) 3, retain := flagB f 32 }) hp (by omega) h
  · exact con8_sz hp hL h
theorem rdCon_sz {K : Nat} {p q : Pkt} {L M : List Int} (hp : Sz K p) (hL : L.length ≤ K) (h : rdCon p L = some (q, M)) : Sz K q := by
  unfold rdCon at h
  cases h1 : rdText L with
  | none => rw [h1] at h; cases h
  | some x =>
    obtain ⟨s, L1⟩ := x
    have l1 := rdText_size h1
    rw [h1, Option.bind_some] at h
    split at h
    · unfold con1 at h
      cases h2 : rdOct L1 with
      | none => simp only [h2] at h; cases h
      | some y =>
        obtain ⟨v, L2⟩ := y
        have l2 := rdOct_len h2
        simp only [h2, Option.bind_some] at h
        split at h
        · unfold con2 at h
          cases h3 : rdOct L2 with
          | none => simp only [h3] at h; cases h
          | some z =>
            obtain ⟨f, L3⟩ := z
            have l3 := rdOct_len h3
            simp only [h3, Option.bind_some] at h
            unfold con3 at h
            cases h4 : rdWord L3 with
            | none => simp only [h4] at h; cases h
            | some u =>
              obtain ⟨al, L4⟩ := u
              have l4 := rdWord_len h4
              simp only [h4, Option.bind_some] at h
              unfold con4 at h
              cases h5 : rdText L4 with
              | none => simp only [h5] at h; cases h
              | some t =>
                obtain ⟨cl, L5⟩ := t
                have l5 := rdText_size h5
                simp only [h5, Option.bind_some] at h
                exact con5_sz (p := { p.flag f with alive := al, client := cl }) ⟨by show cl.size ≤ K; omega, hp.2.1, hp.2.2⟩ (by omega) h
        · cases h
    · cases h
theorem rdPkt_strs {f : Int} {L : List Int} {p : Pkt} {C : List Int} {D : List (ByteArray × Int)} (h : rdPkt f L = some (p, C, D)) : p.client.size + p.user.size + p.pass.size ≤ 3 * L.length := by
  have hz : ∀ K t, Sz K (typeP t) := fun K t => ⟨Nat.zero_le _, Nat.zero_le _, Nat.zero_le _⟩
  have z0 : (0 : Nat) + 0 + 0 ≤ 3 * L.length := Nat.zero_le _
  unfold rdPkt at h
  split at h
  · cases hr : rdCon (typeP 1) L with
    | none => rw [hr] at h; cases h
    | some x =>
      obtain ⟨q, M⟩ := x
      rw [hr, Option.bind_some] at h
      cases h
      obtain ⟨a, b, c⟩ := rdCon_sz (hz L.length 1) (Nat.le_refl _) hr
      show q.client.size + q.user.size + q.pass.size ≤ 3 * L.length
      omega
  · split at h
    · cases hr : rdOct L with
      | none => rw [hr] at h; cases h
      | some x =>
        rw [hr, Option.bind_some] at h
        cases hr2 : rdOct x.2 with
        | none => rw [hr2] at h; cases h
        | some y => rw [hr2, Option.bind_some] at h; cases h; exact z0
    · split at h
      · cases hr : rdText L with
        | none => rw [hr] at h; cases h
        | some x =>
          rw [hr, Option.bind_some] at h
          unfold pub3 at h
          split at h
          · cases hw : rdWord x.2 with
            | none => rw [hw] at h; cases h
            | some y => rw [hw, Option.bind_some] at h; cases h; exact z0
          · cases h; exact z0
      · split at h
        · cases h; exact z0
        · cases hw : rdWord L with
          | none => rw [hw] at h; cases h
          | some y =>
            rw [hw, Option.bind_some] at h
            split at h
            · cases h; exact z0
            · split at h
              · cases hr : rdSubs y.2.length (f / 16) y.2 with
                | none => rw [hr] at h; cases h
                | some E => rw [hr, Option.bind_some] at h; cases h; exact z0
              · cases h; exact z0
theorem subsB_bytes (t : Int) : ∀ (D : List (ByteArray × Int)), (∀ s ∈ D, s.1.size ≤ 65535 ∧ 0 ≤ s.2 ∧ s.2 ≤ 255) → ∀ x ∈ subsB t D, 0 ≤ x ∧ x < 256 := by
  intro D
  induction D with
  | nil => intro _ x hx; cases hx
  | cons y D ih =>
    intro h x hx
    have hcons : subsB t (y :: D) = subB t y ++ subsB t D := rfl
    rw [hcons, List.mem_append] at hx
    have hy := h y (List.mem_cons_self ..)
    rcases hx with hx | hx
    · rw [subB, List.mem_append] at hx
      rcases hx with hx | hx
      · exact textB_bytes _ hy.1 x hx
      · split at hx
        · simp at hx; omega
        · cases hx
    · exact ih (fun s hs => h s (List.mem_cons_of_mem _ hs)) x hx
theorem bodyB_bytes {w : World} {p : Pkt} {C : List Int} {D : List (ByteArray × Int)} (hF : Lies w p C D) (hG : Good p C D) : ∀ x ∈ bodyB p C D, 0 ≤ x ∧ x < 256 := by
  obtain ⟨h1, h2, h3, h4, h5, h6⟩ := good_parts hF hG
  intro x hx
  have hs := subsB_bytes p.ty D h5
  unfold bodyB at hx
  split at hx
  · rename_i h
    obtain ⟨c0, c1, c2, c3, c4, c5, c6⟩ := h1 h
    unfold conB conH at hx
    simp only [List.mem_append] at hx
    rcases hx with ((hx | hx) | hx) | hx | hx | hx | hx
    · exact textB_bytes _ (by decide) x hx
    · have := conF_range p c0
      simp at hx; omega
    · exact wordB_bytes _ c1.1 c1.2 x hx
    · exact textB_bytes _ c2 x hx
    · split at hx
      · rename_i hw
        rw [List.mem_append] at hx
        rcases hx with hx | hx
        · exact textB_bytes _ (c3 hw) x hx
        · exact textB_bytes _ (c4 hw) x hx
      · cases hx
    · split at hx
      · exact textB_bytes _ c5 x hx
      · cases hx
    · split at hx
      · exact textB_bytes _ c6 x hx
      · cases hx
  · split at hx
    · rename_i h
      have hb := bitN_range p.present 1 (by decide)
      have hl := h2 h
      simp at hx; omega
    · split at hx
      · rename_i h
        obtain ⟨c1, c2, c3, c4⟩ := h3 h
        simp only [List.mem_append] at hx
        rcases hx with hx | hx | hx
        · exact textB_bytes _ c1 x hx
        · split at hx
          · cases hx
          · rename_i hq; exact wordB_bytes _ (c4 hq).1 (c4 hq).2 x hx
        · exact nums_bytes _ x hx
      · split at hx
        · cases hx
        · rename_i t1 t2 t3 t4
          have := hG.1
          have := hG.2.1
          have hid := h4 (by omega) (by omega)
          simp only [List.mem_append] at hx
          rcases hx with hx | hx | hx
          · exact wordB_bytes _ hid.1 hid.2 x hx
          · exact hs x hx
          · have := h6 x hx; omega
theorem flags_range' {w : World} {p : Pkt} {C : List Int} {D : List (ByteArray × Int)} (hF : Lies w p C D) (hG : Good p C D) : 0 ≤ flagsN p ∧ flagsN p < 16 := by
  obtain ⟨h1, h2, h3, h4, h5, h6⟩ := good_parts hF hG
  unfold flagsN
  split
  · rename_i h
    have := h3 h
    have h1 := bitN_range p.dup 8 (by decide)
    have h2 := bitN_range p.retain 1 (by decide)
    omega
  · split <;> omega
theorem bytesB_bytes {w : World} {p : Pkt} {C : List Int} {D : List (ByteArray × Int)} (hF : Lies w p C D) (hM : May p C D) : ∀ x ∈ bytesB p C D, 0 ≤ x ∧ x < 256 := by
  intro x hx
  have hf := flags_range' hF hM.1
  have ht := hM.1.1
  have ht2 := hM.1.2.1
  unfold bytesB at hx
  simp only [List.mem_append] at hx
  rcases hx with hx | hx | hx
  · simp at hx; omega
  · exact Var.digs_bytes 3 _ (by omega) (by have := hM.2; simp; omega) x hx
  · exact bodyB_bytes hF hM.1 x hx

end Pk
end Go.Proofs.YteigakkghkjakaaDoor

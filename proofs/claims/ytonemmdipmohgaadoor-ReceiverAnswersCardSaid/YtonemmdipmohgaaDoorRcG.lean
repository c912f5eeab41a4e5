/- the reference's receiver: Take. -/
import Derived.Test.YtonemmdipmohgaaDoorRcF
namespace Go.Proofs.YtonemmdipmohgaaDoor
open Go.RowKit Go.ChangeShapes
set_option linter.unusedVariables false
set_option linter.unusedSimpArgs false
namespace Rcv
open Pk Str Snd
open Ref (MayIn may_calls)

abbrev FT : TypeId := 72
structure RfAt0 (w : World) (R : Nat) (v : Value) (S L : List Int) : Prop where
  obj : w.heap[R]? = some (.cells #[v] FT)
  own : OwnInts w 0 3 .i64 v S
  perm : S.Perm L
  sort : S.Pairwise (· ≤ ·)
def RfAt (w : World) (R : Nat) (L : List Int) : Prop := ∃ v S, RfAt0 w R v S L
theorem RfAt0.ne {w : World} {R : Nat} {v : Value} {S L : List Int} (h : RfAt0 w R v S L) : v.ownBlock ≠ some R := by
  intro e
  rcases h.own.2 with ⟨hv, _⟩ | ⟨g, cap, cur, hv, _, hg, _⟩
  · subst hv; cases e
  · subst hv
    cases e
    exact obj_ne h.obj hg (cells_ne (by decide)) rfl
theorem RfAt0.turn {w w' : World} {R : Nat} {v : Value} {S L : List Int} {T : Nat → Prop} (h : RfAt0 w R v S L) (t : Turn T w w') (h1 : ¬ T R) (h2 : ∀ k, v.ownBlock = some k → ¬ T k) : RfAt0 w' R v S L :=
  ⟨(t.block R (heap_lt h.obj) h1).trans h.obj, h.own.turn t h2, h.perm, h.sort⟩
theorem RfAt.turn {w w' : World} {R : Nat} {L : List Int} {T : Nat → Prop} (h : RfAt w R L) (t : Turn T w w') (hT : ∀ k, T k → (∀ cs t, w.heap[k]? ≠ some (.cells cs t (0, 0)))) : RfAt w' R L := by
  obtain ⟨v, S, h⟩ := h
  refine ⟨v, S, h.turn t (fun hk => hT R hk _ _ h.obj) (fun k hk hTk => ?_)⟩
  rcases h.own.2 with ⟨hv, _⟩ | ⟨g, cap, cur, hv, _, hg, _⟩
  · subst hv; cases hk
  · subst hv
    cases hk
    exact hT _ hTk _ _ hg
theorem RfAt.still {w w' : World} {R : Nat} {L : List Int} (h : RfAt w R L) (t : Turn (fun _ => False) w w') : RfAt w' R L := h.turn t (fun _ h => h.elim)
theorem sorted_filter {S : List Int} (h : S.Pairwise (· ≤ ·)) (i : Int) : (S.filter (· ≠ i)).Pairwise (· ≤ ·) := h.filter _
theorem filter_len {S : List Int} (i : Int) : (((S.filter (· ≠ i)).length : Int) == (S.length : Int)) = !decide (i ∈ S) := by
  by_cases h : i ∈ S
  · have h1 := (List.length_filter_lt_length_iff_exists (l := S) (p := (· ≠ i))).2 ⟨i, h, by simp⟩
    rw [decide_eq_true h]
    have h2 : ¬ (((S.filter (· ≠ i)).length : Int) = (S.length : Int)) := by omega
    rw [beq_eq_false_iff_ne.2 h2]; rfl
  · have : S.filter (· ≠ i) = S := List.filter_eq_self.2 fun y hy => by simpa using fun e => h (by rw [← e]; exact hy)
    rw [this, decide_eq_false h]; simp
theorem perm_put {S L : List Int} (h : S.Perm L) (hn : L.Nodup) (i : Int) : (S.filter (· ≠ i) ++ [i]).Perm (if i ∈ L then L else L ++ [i]) := by
  have h1 : (S.filter (· ≠ i)).Perm (L.filter (· ≠ i)) := h.filter _
  by_cases hi : i ∈ L
  · rw [if_pos hi]
    refine (h1.append_right [i]).trans ?_
    refine (List.perm_ext_iff_of_nodup ?_ hn).2 fun x => ?_
    · rw [List.nodup_append]
      exact ⟨hn.filter _, by simp, fun a ha c hc e => by
        simp at hc
        subst hc
        subst e
        exact ((mem_strike _ _ _).1 ha).2 rfl⟩
    · rw [List.mem_append, mem_strike]
      constructor
      · rintro (⟨h, _⟩ | h)
        · exact h
        · simp at h; subst h; exact hi
      · intro hx
        by_cases e : x = i
        · exact .inr (by simpa using e)
        · exact .inl ⟨hx, e⟩
  · rw [if_neg hi]
    have : L.filter (· ≠ i) = L := List.filter_eq_self.2 fun y hy => by simpa using fun e => hi (by rw [← e]; exact hy)
    rw [this] at h1
    exact h1.append_right [i]

def RfPost (w : World) (R : Nat) (r : Bool × List Pkt × Int × List Int) (e : Ending) (w' : World) : Prop :=
  ∃ A n c, e = .returned (.tuple #[.bool r.1, .slice A n c, .int .i64 r.2.2.1]) ∧ PRow w' (.slice A n c) r.2.1 ∧ RfAt w' R r.2.2.2 ∧ Turn (fun k => k = R) w w'
set_option maxRecDepth 100000 in
set_option maxHeartbeats 4000000 in
theorem rtake_calls (w : World) (R : Nat) (L : List Int) (h : RfAt w R L) (hn : L.Nodup) (hr : ∀ x ∈ L, 1 ≤ x ∧ x ≤ 65535) (p : Pkt) (C : List Int) (D : List (ByteArray × Int)) (hM : MayIn w p C D) :
    Calls Tryd.prog 34 #[.pointer (some ⟨R, 0, none⟩), .agg p.cells] w fun e w' => RfPost w R (rcv L p C D) e w' := by
  obtain ⟨v, S, h⟩ := h
  have HSL : Hid (S.length ≤ 65535) := by rw [Hid, h.perm.length_eq]; exact Ids.nodup_le 65535 L hn hr
  obtain ⟨pb, hpb⟩ : ∃ pb, Hid (pb = w.heap.size) := ⟨_, rfl⟩
  obtain ⟨W0, hW0⟩ : ∃ W0, Hid (W0 = w.alloc (.cells p.cells PT)) := ⟨_, rfl⟩
  have hB0 : Hid (Below w.heap.size w W0) := by rw [hW0.out]; exact (Below.refl _ _).alloc (Nat.le_refl _) _
  have hP0 : Hid (PkAt W0 pb p) := by rw [hW0.out, hpb.out]; exact heap_new _ _
  have HM0 : Hid (MayIn W0 p C D) := ⟨hM.lies.keep hB0.out, hM.c, hM.d, hM.pass, hM.payload, hM.len⟩
  have HN := Lib.hid hn
  have t0 : Turn (fun _ => False) w W0 := Turn.of_below hB0.out
  have HR0 := Lib.hid (h.turn t0 (fun h => h) (fun _ _ h => h))
  obtain ⟨A, c, rfl, hcs⟩ := h.own.form
  clear hcs
  clear h hn hr hM t0
  go_enter Tryd.func34, Tryd.ntmps34
  go_upto_region 1 with (fail)
  rw [← hW0.out, ← hpb.out]
  go_wp2_with (with_reducible refine wp_load_pkt (o := ⟨some 9, _, _, _, _, _⟩) rfl rfl rfl hP0.out ?_)
  refine (may_calls W0 p C D HM0.out).mono ?_
  rintro e w1 ⟨rfl, hB1⟩
  have HB1 : Hid (Below w.heap.size w w1) := hB0.out.trans (hB1.mono hB0.out.size)
  have HR1 := Lib.hid (HR0.out.turn (Turn.of_below (S := fun _ => False) hB1) (fun h => h) (fun _ _ h => h))
  have HP1 : Hid (PkAt w1 pb p) := (hB1.block pb (heap_lt hP0.out)).trans hP0.out
  clear hB1
  by_cases hM : Pk.May p C D
  case neg =>
    rw [decide_eq_false hM]
    have HF : Hid (RfPost w R (rcv L p C D) (.returned (.tuple #[.bool false, .slice none 0 0, .int .i64 1])) w1) := by
      rw [rcv_bad hM]
      exact ⟨none, 0, 0, rfl, PRow.nil _, ⟨_, S, HR1.out⟩, Turn.of_below HB1.out⟩
    clear hM
    go_wp2_with (fail)
    go_ret3
    exact HF.out
  rw [decide_eq_true hM]
  have HM := Lib.hid hM
  have e0 : w1.cell? ⟨pb, 0, none⟩ = some (.int .i64 p.ty) := cell_heap HP1.out
  have e2 : w1.cell? ⟨pb, 2, none⟩ = some (.int .i64 p.id) := cell_heap HP1.out
  have r0 : w1.cell? ⟨R, 0, none⟩ = some (.slice A S.length c) := cell_heap HR1.out.obj
  have HI := Lib.hid (may_ids hM)
  clear hM
  have hrd := (own_reads HR1.out.own).2.2.1
  have HRD := Lib.hid hrd
  clear hrd
  have HTD : Hid (Turn (fun _ => False) w1 w1.drew) := Turn.drew (Turn.refl _ _)
  have HBD : Hid (Below w1.heap.size w1 w1.drew) := HTD.out.toBelow (Nat.le_refl _) (fun _ _ h => h)
  have HK1 : Hid (w1.drew.cell? ⟨R, 0, none⟩ = some (.slice A S.length c) ∧ w1.drew.cell? ⟨pb, 2, none⟩ = some (.int .i64 p.id)) := ⟨r0, e2⟩
  have wo : Hid (Calls Tryd.prog 59 #[.slice A S.length c, .int .i64 p.id] w1.drew fun e w' => (∃ A3 n3 c3, e = .returned (.slice A3 n3 c3) ∧ Hid (OwnInts w' w1.heap.size 3 .i64 (.slice A3 n3 c3) (S.filter (· ≠ p.id)))) ∧ Hid (Below w1.heap.size w1 w') ∧ Hid (w'.cell? ⟨R, 0, none⟩ = some (.slice A S.length c) ∧ w'.cell? ⟨pb, 2, none⟩ = some (.int .i64 p.id))) := by
    refine (without_calls w1.drew A S c (HRD.out.keep HBD.out) (by have := HSL.out; omega) p.id).mono ?_
    rintro e w' ⟨A3, n3, c3, rfl, ho, hb⟩
    have hbb : Below w1.heap.size w1 w' := HBD.out.trans hb
    exact ⟨⟨A3, n3, c3, rfl, ho⟩, hbb, (hbb.cell (p := ⟨R, 0, none⟩) (heap_lt HR1.out.obj)).trans HK1.out.1, (hbb.cell (p := ⟨pb, 2, none⟩) (heap_lt HP1.out)).trans HK1.out.2⟩
  go_wp2_with (fail)
  go_region_held (fun W' => W'.cell? ⟨R, 0, none⟩ = some (.slice A S.length c) ∧ W'.cell? ⟨pb, 2, none⟩ = some (.int .i64 p.id)) (first | exact HK1.out | exact HK2.out) ((go_at_call 59; refine wo.out.mono ?_; rintro e w2 ⟨⟨A3, n3, c3, rfl, HO2⟩, HB2, HK2⟩))
  obtain ⟨M, hM⟩ : ∃ M, Hid (M = S.filter (· ≠ p.id)) := ⟨_, rfl⟩
  rw [← hM.out] at HO2
  obtain rfl : n3 = M.length := (own_reads HO2.out).1
  have T2 : Hid (Turn (fun _ => False) w w2) := (Turn.of_below HB1.out).trans (Turn.of_below HB2.out)
  have HR2 := Lib.hid (HR1.out.turn (Turn.of_below (S := fun _ => False) HB2.out) (fun h => h) (fun _ _ h => h))
  have HP2 : Hid (PkAt w2 pb p) := (HB2.out.block pb (heap_lt HP1.out)).trans HP1.out
  clear e0 e2 r0
  have e0 : w2.cell? ⟨pb, 0, none⟩ = some (.int .i64 p.ty) := cell_heap HP2.out
  have e2 : w2.cell? ⟨pb, 2, none⟩ = some (.int .i64 p.id) := cell_heap HP2.out
  have e5 : w2.cell? ⟨pb, 3 + 2, none⟩ = some (.int .i64 p.qos) := cell_heap HP2.out
  have r0 : w2.cell? ⟨R, 0, none⟩ = some (.slice A S.length c) := cell_heap HR2.out.obj
  have rf : w2.frozen? ⟨R, 0, none⟩ = false := frozen_heap HR2.out.obj
  have hpR : Hid (pb ≠ R) := obj_ne HP2.out HR2.out.obj (cells_ne (by decide))
  by_cases h6 : p.ty = 6
  · have b6 : (p.ty == 6) = true := by simpa using h6
    obtain ⟨w3, hw3⟩ : ∃ w3, Hid (w3 = w2.setCell ⟨R, 0, none⟩ (.slice A3 M.length c3)) := ⟨_, rfl⟩
    have t3 : Hid (Turn (fun k => k = R) w2 w3) := by rw [hw3.out]; exact Turn.setCell w2 _ rfl
    have HR3 : Hid (RfAt0 w3 R (.slice A3 M.length c3) M (L.filter (· ≠ p.id))) := by
      refine ⟨by rw [hw3.out]; exact heap_set_same w2 R 0 _ HR2.out.obj, ?_, by rw [hM.out]; exact HR2.out.perm.filter _, by rw [hM.out]; exact sorted_filter HR2.out.sort _⟩
      have hRl := heap_lt HR1.out.obj
      exact own_turn (own_mono HO2.out (Nat.zero_le _)) t3.out (fun k hk e => by have := (own_block_ge HO2.out k hk).1; omega)
    have e23 : w3.cell? ⟨pb, 2, none⟩ = some (.int .i64 p.id) := t3.out.cell e2 hpR.out
    have HF : Hid (∀ W', Turn (fun _ => False) w3 W' → PRow W' (.slice (some ⟨w3.heap.size, 0, none⟩) 1 1) [ackP 7 p.id] → RfPost w R (rcv L p C D) (.returned (.tuple #[.bool false, .slice (some ⟨w3.heap.size, 0, none⟩) 1 1, .int .i64 0])) W') := by
      have e : rcv L p C D = (false, [ackP 7 p.id], 0, L.filter (· ≠ p.id)) := by
        unfold rcv
        rw [if_neg (fun h => h HM.out), if_pos h6]
      rw [e]
      exact fun W' tt hp => ⟨_, 1, 1, rfl, hp, ⟨_, _, HR3.out.turn tt (fun h => h) (fun _ _ h => h)⟩, ((T2.out.mono (fun _ _ h => h.elim)).trans t3.out).trans (tt.mono (fun _ _ h => h.elim))⟩
    clear h6
    go_upto_region 6 with (fail)
    rw [← hw3.out]
    clear e0 e2 e5 r0 rf
    go_region
    go_wp2_with (fail)
    go_ret3
    exact HF.out _ ((Turn.alloc _ _).drew) ((prow_one w3 (ackP 7 p.id) ⟨rfl, rfl⟩).still (Turn.drew (Turn.refl _ _)))
  have b6 : (p.ty == 6) = false := by simpa using h6
  have H6 := Lib.hid h6
  clear h6
  have hst : Hid (∀ (r : Bool × List Pkt × Int × List Int) W' A n c, Turn (fun _ => False) w2 W' → rcv L p C D = (r.1, r.2.1, r.2.2.1, L) → PRow W' (.slice A n c) r.2.1 → RfPost w R (rcv L p C D) (.returned (.tuple #[.bool r.1, .slice A n c, .int .i64 r.2.2.1])) W') := by
    intro r W' A n c tt e hp
    rw [e]
    exact ⟨A, n, c, rfl, hp, ⟨_, S, HR2.out.turn tt (fun h => h) (fun _ _ h => h)⟩, (T2.out.trans tt).mono (fun _ _ h => h.elim)⟩
  by_cases h3 : p.ty = 3
  case neg =>
    have b3 : (p.ty != 3) = true := by simpa using h3
    have HF := Lib.hid (hst.out (false, [], 5, L) w2 none 0 0 (Turn.refl _ _) (by
      unfold rcv
      rw [if_neg (fun h => h HM.out), if_neg H6.out, if_pos h3]) (PRow.nil _))
    clear h3
    go_wp2_with (fail)
    go_ret3
    exact HF.out
  have b3 : (p.ty != 3) = false := by simpa using h3
  have H3 := Lib.hid h3
  clear h3
  by_cases h0 : p.qos = 0
  · have b0 : (p.qos == 0) = true := by simpa using h0
    have HF := Lib.hid (hst.out (true, [], 0, L) w2 none 0 0 (Turn.refl _ _) (by
      unfold rcv
      rw [if_neg (fun h => h HM.out), if_neg H6.out, if_neg (fun h => h H3.out), if_pos h0]) (PRow.nil _))
    clear h0
    go_wp2_with (fail)
    go_ret3
    exact HF.out
  have b0 : (p.qos == 0) = false := by simpa using h0
  have H0 := Lib.hid h0
  clear h0
  by_cases h1 : p.qos = 1
  · have b1 : (p.qos == 1) = true := by simpa using h1
    have HE : Hid (rcv L p C D = (true, [ackP 4 p.id], 0, L)) := by
      unfold Hid rcv
      rw [if_neg (fun h => h HM.out), if_neg H6.out, if_neg (fun h => h H3.out), if_neg H0.out, if_pos h1]
    clear h1
    go_upto_region 12 with (fail)
    go_region
    go_wp2_with (fail)
    go_ret3
    exact hst.out (true, [ackP 4 p.id], 0, L) _ _ 1 1 ((Turn.alloc _ _).drew) HE.out ((prow_one w2 (ackP 4 p.id) ⟨rfl, rfl⟩).still (Turn.drew (Turn.refl _ _)))
  have b1 : (p.qos == 1) = false := by simpa using h1
  have H1 := Lib.hid h1
  clear h1 hst
  obtain ⟨q, hq⟩ : ∃ q : Bool, Hid (q = !decide (p.id ∈ L)) := ⟨_, rfl⟩
  have hfl : ((M.length : Int) == (S.length : Int)) = q := by
    rw [hM.out, filter_len, hq.out]
    congr 2
    exact propext HR2.out.perm.mem_iff
  have HWS := Lib.hid (wsEnd_spec p.id M (by rw [hM.out]; exact sorted_filter HR2.out.sort _))
  have HML : Hid (M.length ≤ 70000) := by
    have h1 := List.length_filter_le (· ≠ p.id) S
    have := HSL.out
    rw [Hid, hM.out]; omega
  go_wp2_with (fail)
  refine (with_calls w2 A3 M c3 (own_reads HO2.out).2.2.1 HML.out p.id).mono ?_
  rintro e w4 ⟨A4, n4, c4, rfl, ho4, hb4⟩
  obtain rfl := (own_reads ho4).1
  have HO4 := Lib.hid ho4
  have HB4 := Lib.hid hb4
  have HR4 := Lib.hid (HR2.out.turn (Turn.of_below (S := fun _ => False) hb4) (fun h => h) (fun _ _ h => h))
  have hR2l := heap_lt HR2.out.obj
  have HRL := Lib.hid hR2l
  have e24 : w4.cell? ⟨pb, 2, none⟩ = some (.int .i64 p.id) := (hb4.cell (p := ⟨pb, 2, none⟩) (heap_lt HP2.out)).trans e2
  have r4 : w4.cell? ⟨R, 0, none⟩ = some (.slice A S.length c) := cell_heap HR4.out.obj
  have rf4 : w4.frozen? ⟨R, 0, none⟩ = false := frozen_heap HR4.out.obj
  clear e0 e2 e5 r0 rf ho4 hb4 hR2l hfl
  obtain ⟨w5, hw5⟩ : ∃ w5, Hid (w5 = w4.setCell ⟨R, 0, none⟩ (.slice A4 (wsEnd p.id M).length c4)) := ⟨_, rfl⟩
  have t5 : Hid (Turn (fun k => k = R) w4 w5) := by rw [hw5.out]; exact Turn.setCell w4 _ rfl
  have HR5 : Hid (RfAt0 w5 R (.slice A4 (wsEnd p.id M).length c4) (wsEnd p.id M) (if p.id ∈ L then L else L ++ [p.id])) := by
    refine ⟨by rw [hw5.out]; exact heap_set_same w4 R 0 _ HR4.out.obj, ?_, ?_, HWS.out.2⟩
    · exact own_turn (own_mono HO4.out (Nat.zero_le _)) t5.out (fun k hk e => by have := (own_block_ge HO4.out k hk).1; have := HRL.out; omega)
    · refine HWS.out.1.trans ?_
      rw [hM.out]
      exact perm_put HR2.out.perm HN.out p.id
  have e25 : w5.cell? ⟨pb, 2, none⟩ = some (.int .i64 p.id) := t5.out.cell e24 hpR.out
  have HF : Hid (∀ W', Turn (fun _ => False) w5 W' → PRow W' (.slice (some ⟨w5.heap.size, 0, none⟩) 1 1) [ackP 5 p.id] → RfPost w R (rcv L p C D) (.returned (.tuple #[.bool q, .slice (some ⟨w5.heap.size, 0, none⟩) 1 1, .int .i64 0])) W') := by
    have e : rcv L p C D = (!decide (p.id ∈ L), [ackP 5 p.id], 0, if p.id ∈ L then L else L ++ [p.id]) := by
      unfold rcv
      rw [if_neg (fun h => h HM.out), if_neg H6.out, if_neg (fun h => h H3.out), if_neg H0.out, if_neg H1.out]
    rw [e, hq.out]
    exact fun W' tt hp => ⟨_, 1, 1, rfl, hp, ⟨_, _, HR5.out.turn tt (fun h => h) (fun _ _ h => h)⟩, (((T2.out.trans (Turn.of_below HB4.out)).mono (fun _ _ h => h.elim)).trans t5.out).trans (tt.mono (fun _ _ h => h.elim))⟩
  go_upto_region 15 with (fail)
  rw [← hw5.out]
  clear e24 r4 rf4
  go_region
  go_wp2_with (fail)
  go_ret3
  exact HF.out _ ((Turn.alloc _ _).drew) ((prow_one w5 (ackP 5 p.id) ⟨rfl, rfl⟩).still (Turn.drew (Turn.refl _ _)))
end Rcv
end Go.Proofs.YtonemmdipmohgaaDoor

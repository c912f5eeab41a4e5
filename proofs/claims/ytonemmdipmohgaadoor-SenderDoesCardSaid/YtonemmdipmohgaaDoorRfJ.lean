/- The reference: May. -/
import Derived.Test.YtonemmdipmohgaaDoorRfI
namespace Go.Proofs.YtonemmdipmohgaaDoor
open Go.RowKit Go.ChangeShapes
set_option linter.unusedVariables false
set_option linter.unusedSimpArgs false
namespace Ref
open Utf (nums nums_length nums_bytes IsStr nums_str)
open Var (BT info_byte GivesBytes digs digs_length)
open Pk

/-- A packet that May is asked about. -/
structure MayIn (w : World) (p : Pkt) (C : List Int) (D : List (ByteArray × Int)) : Prop where
  lies : Lies w p C D
  c : (C.length : Int) ≤ 2000000
  d : (D.length : Int) ≤ 2000000
  pass : (p.pass.size : Int) ≤ 140737488351232
  payload : (p.payload.size : Int) ≤ 140737488351232
  len : Pk.Good p C D → (bodyB p C D).length ≤ 70368744177664
noncomputable instance (p : Pkt) (C : List Int) (D : List (ByteArray × Int)) : Decidable (May p C D) := Classical.propDecidable _
noncomputable instance (p : Pkt) (C : List Int) (D : List (ByteArray × Int)) : Decidable (Pk.Good p C D) := Classical.propDecidable _
theorem MayIn.fit {w W : World} {p : Pkt} {C : List Int} {D : List (ByteArray × Int)} {g : Nat} (h : MayIn w p C D) (hA : At w W g p) (hG : Pk.Good p C D) : BodyFit W p C D :=
  good_fit (h.lies.keep hA.below) hG (h.len hG)
theorem idok_false {p : Pkt} (h : ¬ (1 ≤ p.id ∧ p.id ≤ 65535)) : ¬ IdOk p := h
set_option maxRecDepth 100000 in
set_option maxHeartbeats 2000000 in
theorem may_low (w : World) (p : Pkt) (C : List Int) (D : List (ByteArray × Int)) (hI : MayIn w p C D) (h : p.ty < 1) : Calls Tryd.prog 15 #[.agg p.cells] w fun e w' => e = .returned (.bool (decide (May p C D))) ∧ Below w.heap.size w w' := by
  have HI := Lib.hid hI
  have hA := at_box w p
  obtain ⟨W, hW⟩ : ∃ W, Hid (W = w.alloc (.cells p.cells PT)) := ⟨_, rfl⟩
  obtain ⟨g, hg⟩ : ∃ g, Hid (g = w.heap.size) := ⟨_, rfl⟩
  rw [← hW.out, ← hg.out] at hA
  have HA := Lib.hid hA
  have HAd : Hid (At w W.drew g p) := HA.out.drew
  have k0 : W.cell? ⟨g, 0, none⟩ = some (.int .i64 p.ty) := hA.at_.cell 0
  obtain ⟨r, hr⟩ : ∃ r, Hid (decide (May p C D) = r) := ⟨decide (May p C D), by rw [Hid]⟩
  rw [hr.out]
  have HGM : Hid (Pk.Good p C D → r = decide ((bodyB p C D).length ≤ 268435455)) := fun hG => by rw [← hr.out, decide_eq_decide]; exact ⟨fun h => h.2, fun h => ⟨hG, h⟩⟩
  have hbad : Hid (¬ Pk.Good p C D → r = false) := fun hc => by rw [← hr.out]; exact decide_eq_false (fun h => hc h.1)
  clear hA hI
  have hrf := hbad.out (fun h' => by have := h'.1; omega)
  have d1 : decide (p.ty < 1) = true := decide_eq_true h
  go_enter Tryd.func15, Tryd.ntmps15
  go_upto_region 1 with (fail)
  rw [← hW.out, ← hg.out]
  refine wp_region_held_drew (S := (fun W' => Hid (At w W' g p) ∧ W'.cell? ⟨g, 0, none⟩ = some (.int .i64 p.ty))) (by kernel_rfl) (by first | exact ⟨HAd.out, HAd.out.at_.cell 0⟩ | exact ⟨HA2.out, HA2.out.at_.cell 0⟩ | exact ⟨HA3.out, HA3.out.at_.cell 0⟩) (fun hHeld => ?_)
  refine wpAnyH_take (i := 0) (oi := ⟨_, _, _, _, _, _⟩) (v := ?_) rfl (by kernel_rfl) (by kernel_rfl) (by kernel_rfl) (fun _ _ _ h => h) (Or.inl ⟨by kernel_rfl, ?_⟩) hHeld ?_
  rotate_left
  · (intro w hSw; obtain ⟨s1, s2⟩ := hSw; go_simp; try with_reducible rfl)
  simp only [Act.put, List.setIfInBounds_toArray, List.set_cons_zero, List.set_cons_succ]
  refine wpAnyH_take (i := 1) (oi := ⟨_, _, _, _, _, _⟩) (v := ?_) rfl (by kernel_rfl) (by kernel_rfl) (by kernel_rfl) (fun _ _ _ h => h) (Or.inl ⟨by kernel_rfl, ?_⟩) hHeld ?_
  rotate_left
  · (intro w hSw; obtain ⟨s1, s2⟩ := hSw; go_simp; try with_reducible rfl)
  simp only [Act.put, List.setIfInBounds_toArray, List.set_cons_zero, List.set_cons_succ]
  refine wpAnyH_take (i := 2) (oi := ⟨_, _, _, _, _, _⟩) (v := ?_) rfl (by kernel_rfl) (by kernel_rfl) (by kernel_rfl) (fun _ _ _ h => h) (Or.inl ⟨by kernel_rfl, ?_⟩) hHeld ?_
  rotate_left
  · (intro w hSw; obtain ⟨s1, s2⟩ := hSw; go_simp; try with_reducible rfl)
  simp only [Act.put, List.setIfInBounds_toArray, List.set_cons_zero, List.set_cons_succ]
  refine wpAnyH_take (i := 3) (oi := ⟨_, _, _, _, _, _⟩) (v := ?_) rfl (by kernel_rfl) (by kernel_rfl) (by kernel_rfl) (fun _ _ _ h => h) (Or.inl ⟨by kernel_rfl, ?_⟩) hHeld ?_
  rotate_left
  · (intro w hSw; obtain ⟨s1, s2⟩ := hSw; go_simp; try with_reducible rfl)
  simp only [Act.put, List.setIfInBounds_toArray, List.set_cons_zero, List.set_cons_succ]
  refine wpAnyH_take (i := 4) (oi := ⟨_, _, _, _, _, _⟩) rfl (by kernel_rfl) (by kernel_rfl) (by kernel_rfl) (fun _ _ _ h => h) (Or.inr ⟨by kernel_rfl, rfl⟩) hHeld ?_
  simp only [Act.put, List.setIfInBounds_toArray, List.set_cons_zero, List.set_cons_succ]
  refine wpAnyH_take (i := 5) (oi := ⟨_, _, _, _, _, _⟩) rfl (by kernel_rfl) (by kernel_rfl) (by kernel_rfl) (fun _ _ _ h => h) (Or.inr ⟨by kernel_rfl, rfl⟩) hHeld ?_
  simp only [Act.put, List.setIfInBounds_toArray, List.set_cons_zero, List.set_cons_succ]
  refine wpAnyH_take (i := 6) (oi := ⟨_, _, _, _, _, _⟩) rfl (by kernel_rfl) (by kernel_rfl) (by kernel_rfl) (fun _ _ _ h => h) (Or.inr ⟨by kernel_rfl, rfl⟩) hHeld ?_
  simp only [Act.put, List.setIfInBounds_toArray, List.set_cons_zero, List.set_cons_succ]
  refine wpAnyH_take (i := 7) (oi := ⟨_, _, _, _, _, _⟩) (v := ?_) rfl (by kernel_rfl) (by kernel_rfl) (by kernel_rfl) (fun _ _ _ h => h) (Or.inl ⟨by kernel_rfl, ?_⟩) hHeld ?_
  rotate_left
  · (intro w hSw; obtain ⟨s1, s2⟩ := hSw; go_simp; try with_reducible rfl)
  simp only [Act.put, List.setIfInBounds_toArray, List.set_cons_zero, List.set_cons_succ]
  refine wpAnyH_take (i := 8) (oi := ⟨_, _, _, _, _, _⟩) (v := ?_) rfl (by kernel_rfl) (by kernel_rfl) (by kernel_rfl) (fun _ _ _ h => h) (Or.inl ⟨by kernel_rfl, ?_⟩) hHeld ?_
  rotate_left
  · (intro w hSw; obtain ⟨s1, s2⟩ := hSw; go_simp; try with_reducible rfl)
  simp only [Act.put, List.setIfInBounds_toArray, List.set_cons_zero, List.set_cons_succ]
  refine wpAnyH_take (i := 9) (oi := ⟨_, _, _, _, _, _⟩) rfl (by kernel_rfl) (by kernel_rfl) (by kernel_rfl) (fun _ _ _ h => h) (Or.inr ⟨by kernel_rfl, rfl⟩) hHeld ?_
  simp only [Act.put, List.setIfInBounds_toArray, List.set_cons_zero, List.set_cons_succ]
  refine wpAnyH_take (i := 10) (oi := ⟨_, _, _, _, _, _⟩) rfl (by kernel_rfl) (by kernel_rfl) (by kernel_rfl) (fun _ _ _ h => h) (Or.inr ⟨by kernel_rfl, rfl⟩) hHeld ?_
  simp only [Act.put, List.setIfInBounds_toArray, List.set_cons_zero, List.set_cons_succ]
  refine wpAnyH_take (i := 11) (oi := ⟨_, _, _, _, _, _⟩) rfl (by kernel_rfl) (by kernel_rfl) (by kernel_rfl) (fun _ _ _ h => h) (Or.inr ⟨by kernel_rfl, rfl⟩) hHeld ?_
  simp only [Act.put, List.setIfInBounds_toArray, List.set_cons_zero, List.set_cons_succ]
  refine wpAnyH_take (i := 12) (oi := ⟨_, _, _, _, _, _⟩) rfl (by kernel_rfl) (by kernel_rfl) (by kernel_rfl) (fun _ _ _ h => h) (Or.inr ⟨by kernel_rfl, rfl⟩) hHeld ?_
  simp only [Act.put, List.setIfInBounds_toArray, List.set_cons_zero, List.set_cons_succ]
  refine wpAnyH_take (i := 13) (oi := ⟨_, _, _, _, _, _⟩) rfl (by kernel_rfl) (by kernel_rfl) (by kernel_rfl) (fun _ _ _ h => h) (Or.inr ⟨by kernel_rfl, rfl⟩) hHeld ?_
  simp only [Act.put, List.setIfInBounds_toArray, List.set_cons_zero, List.set_cons_succ]
  refine wpAnyH_take (i := 14) (oi := ⟨_, _, _, _, _, _⟩) (v := ?_) rfl (by kernel_rfl) (by kernel_rfl) (by kernel_rfl) (fun _ _ _ h => h) (Or.inl ⟨by kernel_rfl, ?_⟩) hHeld ?_
  rotate_left
  · (intro w hSw; obtain ⟨s1, s2⟩ := hSw; go_simp; try with_reducible rfl)
  simp only [Act.put, List.setIfInBounds_toArray, List.set_cons_zero, List.set_cons_succ]
  refine wpAnyH_done (by kernel_rfl) ?_ _
  subst hrf
  go_wp2_with (fail)
  go_ret
  exact ⟨rfl, HAd.out.below⟩
set_option maxRecDepth 100000 in
set_option maxHeartbeats 2000000 in
theorem may_high (w : World) (p : Pkt) (C : List Int) (D : List (ByteArray × Int)) (hI : MayIn w p C D) (h : 14 < p.ty) : Calls Tryd.prog 15 #[.agg p.cells] w fun e w' => e = .returned (.bool (decide (May p C D))) ∧ Below w.heap.size w w' := by
  have HI := Lib.hid hI
  have hA := at_box w p
  obtain ⟨W, hW⟩ : ∃ W, Hid (W = w.alloc (.cells p.cells PT)) := ⟨_, rfl⟩
  obtain ⟨g, hg⟩ : ∃ g, Hid (g = w.heap.size) := ⟨_, rfl⟩
  rw [← hW.out, ← hg.out] at hA
  have HA := Lib.hid hA
  have HAd : Hid (At w W.drew g p) := HA.out.drew
  have k0 : W.cell? ⟨g, 0, none⟩ = some (.int .i64 p.ty) := hA.at_.cell 0
  obtain ⟨r, hr⟩ : ∃ r, Hid (decide (May p C D) = r) := ⟨decide (May p C D), by rw [Hid]⟩
  rw [hr.out]
  have HGM : Hid (Pk.Good p C D → r = decide ((bodyB p C D).length ≤ 268435455)) := fun hG => by rw [← hr.out, decide_eq_decide]; exact ⟨fun h => h.2, fun h => ⟨hG, h⟩⟩
  have hbad : Hid (¬ Pk.Good p C D → r = false) := fun hc => by rw [← hr.out]; exact decide_eq_false (fun h => hc h.1)
  clear hA hI
  have hrf := hbad.out (fun h' => by have := h'.2.1; omega)
  have d1 : decide (p.ty < 1) = false := decide_eq_false (by omega)
  have d14 : decide (14 < p.ty) = true := decide_eq_true h
  go_enter Tryd.func15, Tryd.ntmps15
  go_upto_region 1 with (fail)
  rw [← hW.out, ← hg.out]
  refine wp_region_held_drew (S := (fun W' => Hid (At w W' g p) ∧ W'.cell? ⟨g, 0, none⟩ = some (.int .i64 p.ty))) (by kernel_rfl) (by first | exact ⟨HAd.out, HAd.out.at_.cell 0⟩ | exact ⟨HA2.out, HA2.out.at_.cell 0⟩ | exact ⟨HA3.out, HA3.out.at_.cell 0⟩) (fun hHeld => ?_)
  refine wpAnyH_take (i := 0) (oi := ⟨_, _, _, _, _, _⟩) (v := ?_) rfl (by kernel_rfl) (by kernel_rfl) (by kernel_rfl) (fun _ _ _ h => h) (Or.inl ⟨by kernel_rfl, ?_⟩) hHeld ?_
  rotate_left
  · (intro w hSw; obtain ⟨s1, s2⟩ := hSw; go_simp; try with_reducible rfl)
  simp only [Act.put, List.setIfInBounds_toArray, List.set_cons_zero, List.set_cons_succ]
  refine wpAnyH_take (i := 1) (oi := ⟨_, _, _, _, _, _⟩) (v := ?_) rfl (by kernel_rfl) (by kernel_rfl) (by kernel_rfl) (fun _ _ _ h => h) (Or.inl ⟨by kernel_rfl, ?_⟩) hHeld ?_
  rotate_left
  · (intro w hSw; obtain ⟨s1, s2⟩ := hSw; go_simp; try with_reducible rfl)
  simp only [Act.put, List.setIfInBounds_toArray, List.set_cons_zero, List.set_cons_succ]
  refine wpAnyH_take (i := 2) (oi := ⟨_, _, _, _, _, _⟩) (v := ?_) rfl (by kernel_rfl) (by kernel_rfl) (by kernel_rfl) (fun _ _ _ h => h) (Or.inl ⟨by kernel_rfl, ?_⟩) hHeld ?_
  rotate_left
  · (intro w hSw; obtain ⟨s1, s2⟩ := hSw; go_simp; try with_reducible rfl)
  simp only [Act.put, List.setIfInBounds_toArray, List.set_cons_zero, List.set_cons_succ]
  refine wpAnyH_take (i := 3) (oi := ⟨_, _, _, _, _, _⟩) (v := ?_) rfl (by kernel_rfl) (by kernel_rfl) (by kernel_rfl) (fun _ _ _ h => h) (Or.inl ⟨by kernel_rfl, ?_⟩) hHeld ?_
  rotate_left
  · (intro w hSw; obtain ⟨s1, s2⟩ := hSw; go_simp; try with_reducible rfl)
  simp only [Act.put, List.setIfInBounds_toArray, List.set_cons_zero, List.set_cons_succ]
  refine wpAnyH_take (i := 4) (oi := ⟨_, _, _, _, _, _⟩) (v := ?_) rfl (by kernel_rfl) (by kernel_rfl) (by kernel_rfl) (fun _ _ _ h => h) (Or.inl ⟨by kernel_rfl, ?_⟩) hHeld ?_
  rotate_left
  · (intro w hSw; obtain ⟨s1, s2⟩ := hSw; go_simp; try with_reducible rfl)
  simp only [Act.put, List.setIfInBounds_toArray, List.set_cons_zero, List.set_cons_succ]
  refine wpAnyH_take (i := 5) (oi := ⟨_, _, _, _, _, _⟩) (v := ?_) rfl (by kernel_rfl) (by kernel_rfl) (by kernel_rfl) (fun _ _ _ h => h) (Or.inl ⟨by kernel_rfl, ?_⟩) hHeld ?_
  rotate_left
  · (intro w hSw; obtain ⟨s1, s2⟩ := hSw; go_simp; try with_reducible rfl)
  simp only [Act.put, List.setIfInBounds_toArray, List.set_cons_zero, List.set_cons_succ]
  refine wpAnyH_take (i := 6) (oi := ⟨_, _, _, _, _, _⟩) (v := ?_) rfl (by kernel_rfl) (by kernel_rfl) (by kernel_rfl) (fun _ _ _ h => h) (Or.inl ⟨by kernel_rfl, ?_⟩) hHeld ?_
  rotate_left
  · (intro w hSw; obtain ⟨s1, s2⟩ := hSw; go_simp; try with_reducible rfl)
  simp only [Act.put, List.setIfInBounds_toArray, List.set_cons_zero, List.set_cons_succ]
  refine wpAnyH_take (i := 7) (oi := ⟨_, _, _, _, _, _⟩) (v := ?_) rfl (by kernel_rfl) (by kernel_rfl) (by kernel_rfl) (fun _ _ _ h => h) (Or.inl ⟨by kernel_rfl, ?_⟩) hHeld ?_
  rotate_left
  · (intro w hSw; obtain ⟨s1, s2⟩ := hSw; go_simp; try with_reducible rfl)
  simp only [Act.put, List.setIfInBounds_toArray, List.set_cons_zero, List.set_cons_succ]
  refine wpAnyH_take (i := 8) (oi := ⟨_, _, _, _, _, _⟩) (v := ?_) rfl (by kernel_rfl) (by kernel_rfl) (by kernel_rfl) (fun _ _ _ h => h) (Or.inl ⟨by kernel_rfl, ?_⟩) hHeld ?_
  rotate_left
  · (intro w hSw; obtain ⟨s1, s2⟩ := hSw; go_simp; try with_reducible rfl)
  simp only [Act.put, List.setIfInBounds_toArray, List.set_cons_zero, List.set_cons_succ]
  refine wpAnyH_take (i := 9) (oi := ⟨_, _, _, _, _, _⟩) rfl (by kernel_rfl) (by kernel_rfl) (by kernel_rfl) (fun _ _ _ h => h) (Or.inr ⟨by kernel_rfl, rfl⟩) hHeld ?_
  simp only [Act.put, List.setIfInBounds_toArray, List.set_cons_zero, List.set_cons_succ]
  refine wpAnyH_take (i := 10) (oi := ⟨_, _, _, _, _, _⟩) rfl (by kernel_rfl) (by kernel_rfl) (by kernel_rfl) (fun _ _ _ h => h) (Or.inr ⟨by kernel_rfl, rfl⟩) hHeld ?_
  simp only [Act.put, List.setIfInBounds_toArray, List.set_cons_zero, List.set_cons_succ]
  refine wpAnyH_take (i := 11) (oi := ⟨_, _, _, _, _, _⟩) rfl (by kernel_rfl) (by kernel_rfl) (by kernel_rfl) (fun _ _ _ h => h) (Or.inr ⟨by kernel_rfl, rfl⟩) hHeld ?_
  simp only [Act.put, List.setIfInBounds_toArray, List.set_cons_zero, List.set_cons_succ]
  refine wpAnyH_take (i := 12) (oi := ⟨_, _, _, _, _, _⟩) rfl (by kernel_rfl) (by kernel_rfl) (by kernel_rfl) (fun _ _ _ h => h) (Or.inr ⟨by kernel_rfl, rfl⟩) hHeld ?_
  simp only [Act.put, List.setIfInBounds_toArray, List.set_cons_zero, List.set_cons_succ]
  refine wpAnyH_take (i := 13) (oi := ⟨_, _, _, _, _, _⟩) rfl (by kernel_rfl) (by kernel_rfl) (by kernel_rfl) (fun _ _ _ h => h) (Or.inr ⟨by kernel_rfl, rfl⟩) hHeld ?_
  simp only [Act.put, List.setIfInBounds_toArray, List.set_cons_zero, List.set_cons_succ]
  refine wpAnyH_take (i := 14) (oi := ⟨_, _, _, _, _, _⟩) (v := ?_) rfl (by kernel_rfl) (by kernel_rfl) (by kernel_rfl) (fun _ _ _ h => h) (Or.inl ⟨by kernel_rfl, ?_⟩) hHeld ?_
  rotate_left
  · (intro w hSw; obtain ⟨s1, s2⟩ := hSw; go_simp; try with_reducible rfl)
  simp only [Act.put, List.setIfInBounds_toArray, List.set_cons_zero, List.set_cons_succ]
  refine wpAnyH_done (by kernel_rfl) ?_ _
  subst hrf
  go_wp2_with (fail)
  go_ret
  exact ⟨rfl, HAd.out.below⟩
set_option maxRecDepth 100000 in
set_option maxHeartbeats 2000000 in
theorem may_0 (w : World) (p : Pkt) (C : List Int) (D : List (ByteArray × Int)) (hI : MayIn w p C D) (h : p.ty = 12 ∨ p.ty = 13 ∨ p.ty = 14) : Calls Tryd.prog 15 #[.agg p.cells] w fun e w' => e = .returned (.bool (decide (May p C D))) ∧ Below w.heap.size w w' := by
  have HI := Lib.hid hI
  have hA := at_box w p
  obtain ⟨W, hW⟩ : ∃ W, Hid (W = w.alloc (.cells p.cells PT)) := ⟨_, rfl⟩
  obtain ⟨g, hg⟩ : ∃ g, Hid (g = w.heap.size) := ⟨_, rfl⟩
  rw [← hW.out, ← hg.out] at hA
  have HA := Lib.hid hA
  have HAd : Hid (At w W.drew g p) := HA.out.drew
  have k0 : W.cell? ⟨g, 0, none⟩ = some (.int .i64 p.ty) := hA.at_.cell 0
  obtain ⟨r, hr⟩ : ∃ r, Hid (decide (May p C D) = r) := ⟨decide (May p C D), by rw [Hid]⟩
  rw [hr.out]
  have HGM : Hid (Pk.Good p C D → r = decide ((bodyB p C D).length ≤ 268435455)) := fun hG => by rw [← hr.out, decide_eq_decide]; exact ⟨fun h => h.2, fun h => ⟨hG, h⟩⟩
  have hbad : Hid (¬ Pk.Good p C D → r = false) := fun hc => by rw [← hr.out]; exact decide_eq_false (fun h => hc h.1)
  clear hA hI
  have HTY : Hid (1 ≤ p.ty ∧ p.ty ≤ 14) := ⟨by omega, by omega⟩
  obtain ⟨rs, hrs⟩ : ∃ rs, Hid (rs = decide (Uses p C D)) := ⟨_, rfl⟩
  have hsame : Hid (decide (SameP p (usedP p) C (usedC p C) D (usedD p D)) = rs) := by rw [hrs.out, Hid, decide_eq_decide]; exact Iff.rfl
  have d1 : decide (p.ty < 1) = false := decide_eq_false (by omega)
  have d14 : decide (14 < p.ty) = false := decide_eq_false (by omega)
  go_enter Tryd.func15, Tryd.ntmps15
  go_upto_region 1 with (fail)
  rw [← hW.out, ← hg.out]
  refine wp_region_held_drew (S := (fun W' => Hid (At w W' g p) ∧ W'.cell? ⟨g, 0, none⟩ = some (.int .i64 p.ty))) (by kernel_rfl) (by first | exact ⟨HAd.out, HAd.out.at_.cell 0⟩ | exact ⟨HA2.out, HA2.out.at_.cell 0⟩ | exact ⟨HA3.out, HA3.out.at_.cell 0⟩) (fun hHeld => ?_)
  refine wpAnyH_take (i := 0) (oi := ⟨_, _, _, _, _, _⟩) (v := ?_) rfl (by kernel_rfl) (by kernel_rfl) (by kernel_rfl) (fun _ _ _ h => h) (Or.inl ⟨by kernel_rfl, ?_⟩) hHeld ?_
  rotate_left
  · (intro w hSw; obtain ⟨s1, s2⟩ := hSw; go_simp; try with_reducible rfl)
  simp only [Act.put, List.setIfInBounds_toArray, List.set_cons_zero, List.set_cons_succ]
  refine wpAnyH_take (i := 1) (oi := ⟨_, _, _, _, _, _⟩) (v := ?_) rfl (by kernel_rfl) (by kernel_rfl) (by kernel_rfl) (fun _ _ _ h => h) (Or.inl ⟨by kernel_rfl, ?_⟩) hHeld ?_
  rotate_left
  · (intro w hSw; obtain ⟨s1, s2⟩ := hSw; go_simp; try with_reducible rfl)
  simp only [Act.put, List.setIfInBounds_toArray, List.set_cons_zero, List.set_cons_succ]
  refine wpAnyH_take (i := 2) (oi := ⟨_, _, _, _, _, _⟩) (v := ?_) rfl (by kernel_rfl) (by kernel_rfl) (by kernel_rfl) (fun _ _ _ h => h) (Or.inl ⟨by kernel_rfl, ?_⟩) hHeld ?_
  rotate_left
  · (intro w hSw; obtain ⟨s1, s2⟩ := hSw; go_simp; try with_reducible rfl)
  simp only [Act.put, List.setIfInBounds_toArray, List.set_cons_zero, List.set_cons_succ]
  refine wpAnyH_take (i := 3) (oi := ⟨_, _, _, _, _, _⟩) (v := ?_) rfl (by kernel_rfl) (by kernel_rfl) (by kernel_rfl) (fun _ _ _ h => h) (Or.inl ⟨by kernel_rfl, ?_⟩) hHeld ?_
  rotate_left
  · (intro w hSw; obtain ⟨s1, s2⟩ := hSw; go_simp; try with_reducible rfl)
  simp only [Act.put, List.setIfInBounds_toArray, List.set_cons_zero, List.set_cons_succ]
  refine wpAnyH_take (i := 4) (oi := ⟨_, _, _, _, _, _⟩) (v := ?_) rfl (by kernel_rfl) (by kernel_rfl) (by kernel_rfl) (fun _ _ _ h => h) (Or.inl ⟨by kernel_rfl, ?_⟩) hHeld ?_
  rotate_left
  · (intro w hSw; obtain ⟨s1, s2⟩ := hSw; go_simp; try with_reducible rfl)
  simp only [Act.put, List.setIfInBounds_toArray, List.set_cons_zero, List.set_cons_succ]
  refine wpAnyH_take (i := 5) (oi := ⟨_, _, _, _, _, _⟩) (v := ?_) rfl (by kernel_rfl) (by kernel_rfl) (by kernel_rfl) (fun _ _ _ h => h) (Or.inl ⟨by kernel_rfl, ?_⟩) hHeld ?_
  rotate_left
  · (intro w hSw; obtain ⟨s1, s2⟩ := hSw; go_simp; try with_reducible rfl)
  simp only [Act.put, List.setIfInBounds_toArray, List.set_cons_zero, List.set_cons_succ]
  refine wpAnyH_take (i := 6) (oi := ⟨_, _, _, _, _, _⟩) (v := ?_) rfl (by kernel_rfl) (by kernel_rfl) (by kernel_rfl) (fun _ _ _ h => h) (Or.inl ⟨by kernel_rfl, ?_⟩) hHeld ?_
  rotate_left
  · (intro w hSw; obtain ⟨s1, s2⟩ := hSw; go_simp; try with_reducible rfl)
  simp only [Act.put, List.setIfInBounds_toArray, List.set_cons_zero, List.set_cons_succ]
  refine wpAnyH_take (i := 7) (oi := ⟨_, _, _, _, _, _⟩) (v := ?_) rfl (by kernel_rfl) (by kernel_rfl) (by kernel_rfl) (fun _ _ _ h => h) (Or.inl ⟨by kernel_rfl, ?_⟩) hHeld ?_
  rotate_left
  · (intro w hSw; obtain ⟨s1, s2⟩ := hSw; go_simp; try with_reducible rfl)
  simp only [Act.put, List.setIfInBounds_toArray, List.set_cons_zero, List.set_cons_succ]
  refine wpAnyH_take (i := 8) (oi := ⟨_, _, _, _, _, _⟩) (v := ?_) rfl (by kernel_rfl) (by kernel_rfl) (by kernel_rfl) (fun _ _ _ h => h) (Or.inl ⟨by kernel_rfl, ?_⟩) hHeld ?_
  rotate_left
  · (intro w hSw; obtain ⟨s1, s2⟩ := hSw; go_simp; try with_reducible rfl)
  simp only [Act.put, List.setIfInBounds_toArray, List.set_cons_zero, List.set_cons_succ]
  refine wpAnyH_take (i := 9) (oi := ⟨_, _, _, _, _, _⟩) (v := .agg p.cells) rfl (by kernel_rfl) (by kernel_rfl) (by kernel_rfl) (fun _ _ _ h => h) (Or.inl ⟨by kernel_rfl, ?_⟩) hHeld ?_
  · (intro w hSw; obtain ⟨s1, s2⟩ := hSw; exact rLoad (x := .tmp 1) rfl (by exact load_pkt _ _ _ s1.out.at_))
  simp only [Act.put, List.setIfInBounds_toArray, List.set_cons_zero, List.set_cons_succ]
  refine wpAnyH_take (i := 10) (oi := ⟨_, _, _, _, _, _⟩) (v := .agg p.cells) rfl (by kernel_rfl) (by kernel_rfl) (by kernel_rfl) (fun _ _ _ h => h) (Or.inl ⟨by kernel_rfl, ?_⟩) hHeld ?_
  · (intro w hSw; obtain ⟨s1, s2⟩ := hSw; exact rLoad (x := .tmp 1) rfl (by exact load_pkt _ _ _ s1.out.at_))
  simp only [Act.put, List.setIfInBounds_toArray, List.set_cons_zero, List.set_cons_succ]
  refine wpAnyH_ready (rs := [11]) (by kernel_rfl) (by simp) ?_
  refine AllReadyH.cons rfl (fun K hK => ?_) AllReadyH.nil
  go_simp
  go_wp2_with (go_at_call 38; refine (used_calls _ p ⟨HI.out.lies.fit.codes, HI.out.lies.fit.subs⟩ HTY.out).mono ?_; rintro e w2 ⟨rfl, hb2⟩; have HA2 : Hid (At w w2 g p) := HAd.out.old hb2; clear hb2)
  refine hK.out _ _ (by first | exact ⟨HAd.out, HAd.out.at_.cell 0⟩ | exact ⟨HA2.out, HA2.out.at_.cell 0⟩ | exact ⟨HA3.out, HA3.out.at_.cell 0⟩) (fun hHeld => ?_)
  clear hK K
  refine wpAnyH_ready (rs := [12]) (by kernel_rfl) (by simp) ?_
  refine AllReadyH.cons rfl (fun K hK => ?_) AllReadyH.nil
  go_simp
  go_wp2_with (go_at_call 37; refine (same_calls _ p (usedP p) C (usedC p C) D (usedD p D) (HI.out.lies.keep HA2.out.below) (lies_used (HI.out.lies.keep HA2.out.below)) HI.out.c HI.out.d).mono ?_; rintro e w3 ⟨rfl, hb3⟩; have HA3 : Hid (At w w3 g p) := HA2.out.old hb3; clear hb3; rw [hsame.out])
  refine hK.out _ _ (by first | exact ⟨HAd.out, HAd.out.at_.cell 0⟩ | exact ⟨HA2.out, HA2.out.at_.cell 0⟩ | exact ⟨HA3.out, HA3.out.at_.cell 0⟩) (fun hHeld => ?_)
  clear hK K
  refine wpAnyH_take (i := 13) (oi := ⟨_, _, _, _, _, _⟩) (v := ?_) rfl (by kernel_rfl) (by kernel_rfl) (by kernel_rfl) (fun _ _ _ h => h) (Or.inl ⟨by kernel_rfl, ?_⟩) hHeld ?_
  rotate_left
  · (intro w hSw; obtain ⟨s1, s2⟩ := hSw; go_simp; try with_reducible rfl)
  simp only [Act.put, List.setIfInBounds_toArray, List.set_cons_zero, List.set_cons_succ]
  refine wpAnyH_take (i := 14) (oi := ⟨_, _, _, _, _, _⟩) (v := ?_) rfl (by kernel_rfl) (by kernel_rfl) (by kernel_rfl) (fun _ _ _ h => h) (Or.inl ⟨by kernel_rfl, ?_⟩) hHeld ?_
  rotate_left
  · (intro w hSw; obtain ⟨s1, s2⟩ := hSw; go_simp; try with_reducible rfl)
  simp only [Act.put, List.setIfInBounds_toArray, List.set_cons_zero, List.set_cons_succ]
  refine wpAnyH_done (by kernel_rfl) ?_ _
  by_cases hU : Uses p C D
  case neg =>
    have hsf : rs = false := by rw [hrs.out]; exact decide_eq_false hU
    subst hsf
    have hrf := hbad.out (fun h => hU (good_uses p C D (lies_long HI.out.lies) h))
    subst hrf
    go_wp2_with (fail)
    go_ret
    exact ⟨rfl, HA3.out.below⟩
  have hst : rs = true := by rw [hrs.out]; exact decide_eq_true hU
  subst hst
  have k0 : w3.cell? ⟨g, 0, none⟩ = some (.int .i64 p.ty) := HA3.out.at_.cell 0
  have k2 : w3.cell? ⟨g, 2, none⟩ = some (.int .i64 p.id) := HA3.out.at_.cell 2
  have hgood : Pk.Good p C D := (good_0 p C D (lies_long HI.out.lies) h).2 hU
  have hid := uses_id hU (by omega)
  rw [hid] at k2
  rcases h with h | h | h <;> rw [h] at k0
  all_goals
    have hre := HGM.out hgood
    have hzz := uses_C hU
    have htt := HTY.out
    have HBC := Lib.hid (body_calls w3 p C D (HI.out.fit HA3.out hgood) hzz htt)
    clear hzz htt
    obtain ⟨n1, hn1⟩ : ∃ n, Hid (n = (bodyB p C D).length) := ⟨_, rfl⟩
    rw [← hn1.out] at hre
    have hn1b := HI.out.len hgood
    rw [← hn1.out] at hn1b
    go_wp2_with (with_reducible refine wp_load_pktG (o := ⟨some 129, _, _, _, _, _⟩) rfl rfl HA3.out.at_ ?_ (by with_unfolding_all rfl))
    refine HBC.out.mono ?_
    rintro e w9 ⟨A9, c9, rfl, ho9, hb9⟩
    have HB9 : Hid (Below w.heap.size w w9) := (HA3.out.old hb9).below
    rw [← hn1.out]
    clear ho9 hb9
    go_wp2_with (fail)
    refine (Var.is_calls w9 (n1 : Int)).mono ?_
    rintro e w' ⟨rfl, rfl⟩
    have hre2 : decide (0 ≤ (n1 : Int) ∧ (n1 : Int) ≤ 268435455) = r := by
      rw [hre, decide_eq_decide]; constructor
      · intro h; have := h.2; omega
      · intro h; exact ⟨by omega, by omega⟩
    rw [hre2]
    clear hre
    go_wp2_with (fail)
    go_ret
    exact ⟨by simp, HB9.out⟩
set_option maxRecDepth 100000 in
set_option maxHeartbeats 2000000 in
theorem may_id (w : World) (p : Pkt) (C : List Int) (D : List (ByteArray × Int)) (hI : MayIn w p C D) (h : p.ty = 4 ∨ p.ty = 5 ∨ p.ty = 6 ∨ p.ty = 7 ∨ p.ty = 11) : Calls Tryd.prog 15 #[.agg p.cells] w fun e w' => e = .returned (.bool (decide (May p C D))) ∧ Below w.heap.size w w' := by
  have HI := Lib.hid hI
  have hA := at_box w p
  obtain ⟨W, hW⟩ : ∃ W, Hid (W = w.alloc (.cells p.cells PT)) := ⟨_, rfl⟩
  obtain ⟨g, hg⟩ : ∃ g, Hid (g = w.heap.size) := ⟨_, rfl⟩
  rw [← hW.out, ← hg.out] at hA
  have HA := Lib.hid hA
  have HAd : Hid (At w W.drew g p) := HA.out.drew
  have k0 : W.cell? ⟨g, 0, none⟩ = some (.int .i64 p.ty) := hA.at_.cell 0
  obtain ⟨r, hr⟩ : ∃ r, Hid (decide (May p C D) = r) := ⟨decide (May p C D), by rw [Hid]⟩
  rw [hr.out]
  have HGM : Hid (Pk.Good p C D → r = decide ((bodyB p C D).length ≤ 268435455)) := fun hG => by rw [← hr.out, decide_eq_decide]; exact ⟨fun h => h.2, fun h => ⟨hG, h⟩⟩
  have hbad : Hid (¬ Pk.Good p C D → r = false) := fun hc => by rw [← hr.out]; exact decide_eq_false (fun h => hc h.1)
  clear hA hI
  have HTY : Hid (1 ≤ p.ty ∧ p.ty ≤ 14) := ⟨by omega, by omega⟩
  obtain ⟨rs, hrs⟩ : ∃ rs, Hid (rs = decide (Uses p C D)) := ⟨_, rfl⟩
  have hsame : Hid (decide (SameP p (usedP p) C (usedC p C) D (usedD p D)) = rs) := by rw [hrs.out, Hid, decide_eq_decide]; exact Iff.rfl
  have d1 : decide (p.ty < 1) = false := decide_eq_false (by omega)
  have d14 : decide (14 < p.ty) = false := decide_eq_false (by omega)
  go_enter Tryd.func15, Tryd.ntmps15
  go_upto_region 1 with (fail)
  rw [← hW.out, ← hg.out]
  refine wp_region_held_drew (S := (fun W' => Hid (At w W' g p) ∧ W'.cell? ⟨g, 0, none⟩ = some (.int .i64 p.ty))) (by kernel_rfl) (by first | exact ⟨HAd.out, HAd.out.at_.cell 0⟩ | exact ⟨HA2.out, HA2.out.at_.cell 0⟩ | exact ⟨HA3.out, HA3.out.at_.cell 0⟩) (fun hHeld => ?_)
  refine wpAnyH_take (i := 0) (oi := ⟨_, _, _, _, _, _⟩) (v := ?_) rfl (by kernel_rfl) (by kernel_rfl) (by kernel_rfl) (fun _ _ _ h => h) (Or.inl ⟨by kernel_rfl, ?_⟩) hHeld ?_
  rotate_left
  · (intro w hSw; obtain ⟨s1, s2⟩ := hSw; go_simp; try with_reducible rfl)
  simp only [Act.put, List.setIfInBounds_toArray, List.set_cons_zero, List.set_cons_succ]
  refine wpAnyH_take (i := 1) (oi := ⟨_, _, _, _, _, _⟩) (v := ?_) rfl (by kernel_rfl) (by kernel_rfl) (by kernel_rfl) (fun _ _ _ h => h) (Or.inl ⟨by kernel_rfl, ?_⟩) hHeld ?_
  rotate_left
  · (intro w hSw; obtain ⟨s1, s2⟩ := hSw; go_simp; try with_reducible rfl)
  simp only [Act.put, List.setIfInBounds_toArray, List.set_cons_zero, List.set_cons_succ]
  refine wpAnyH_take (i := 2) (oi := ⟨_, _, _, _, _, _⟩) (v := ?_) rfl (by kernel_rfl) (by kernel_rfl) (by kernel_rfl) (fun _ _ _ h => h) (Or.inl ⟨by kernel_rfl, ?_⟩) hHeld ?_
  rotate_left
  · (intro w hSw; obtain ⟨s1, s2⟩ := hSw; go_simp; try with_reducible rfl)
  simp only [Act.put, List.setIfInBounds_toArray, List.set_cons_zero, List.set_cons_succ]
  refine wpAnyH_take (i := 3) (oi := ⟨_, _, _, _, _, _⟩) (v := ?_) rfl (by kernel_rfl) (by kernel_rfl) (by kernel_rfl) (fun _ _ _ h => h) (Or.inl ⟨by kernel_rfl, ?_⟩) hHeld ?_
  rotate_left
  · (intro w hSw; obtain ⟨s1, s2⟩ := hSw; go_simp; try with_reducible rfl)
  simp only [Act.put, List.setIfInBounds_toArray, List.set_cons_zero, List.set_cons_succ]
  refine wpAnyH_take (i := 4) (oi := ⟨_, _, _, _, _, _⟩) (v := ?_) rfl (by kernel_rfl) (by kernel_rfl) (by kernel_rfl) (fun _ _ _ h => h) (Or.inl ⟨by kernel_rfl, ?_⟩) hHeld ?_
  rotate_left
  · (intro w hSw; obtain ⟨s1, s2⟩ := hSw; go_simp; try with_reducible rfl)
  simp only [Act.put, List.setIfInBounds_toArray, List.set_cons_zero, List.set_cons_succ]
  refine wpAnyH_take (i := 5) (oi := ⟨_, _, _, _, _, _⟩) (v := ?_) rfl (by kernel_rfl) (by kernel_rfl) (by kernel_rfl) (fun _ _ _ h => h) (Or.inl ⟨by kernel_rfl, ?_⟩) hHeld ?_
  rotate_left
  · (intro w hSw; obtain ⟨s1, s2⟩ := hSw; go_simp; try with_reducible rfl)
  simp only [Act.put, List.setIfInBounds_toArray, List.set_cons_zero, List.set_cons_succ]
  refine wpAnyH_take (i := 6) (oi := ⟨_, _, _, _, _, _⟩) (v := ?_) rfl (by kernel_rfl) (by kernel_rfl) (by kernel_rfl) (fun _ _ _ h => h) (Or.inl ⟨by kernel_rfl, ?_⟩) hHeld ?_
  rotate_left
  · (intro w hSw; obtain ⟨s1, s2⟩ := hSw; go_simp; try with_reducible rfl)
  simp only [Act.put, List.setIfInBounds_toArray, List.set_cons_zero, List.set_cons_succ]
  refine wpAnyH_take (i := 7) (oi := ⟨_, _, _, _, _, _⟩) (v := ?_) rfl (by kernel_rfl) (by kernel_rfl) (by kernel_rfl) (fun _ _ _ h => h) (Or.inl ⟨by kernel_rfl, ?_⟩) hHeld ?_
  rotate_left
  · (intro w hSw; obtain ⟨s1, s2⟩ := hSw; go_simp; try with_reducible rfl)
  simp only [Act.put, List.setIfInBounds_toArray, List.set_cons_zero, List.set_cons_succ]
  refine wpAnyH_take (i := 8) (oi := ⟨_, _, _, _, _, _⟩) (v := ?_) rfl (by kernel_rfl) (by kernel_rfl) (by kernel_rfl) (fun _ _ _ h => h) (Or.inl ⟨by kernel_rfl, ?_⟩) hHeld ?_
  rotate_left
  · (intro w hSw; obtain ⟨s1, s2⟩ := hSw; go_simp; try with_reducible rfl)
  simp only [Act.put, List.setIfInBounds_toArray, List.set_cons_zero, List.set_cons_succ]
  refine wpAnyH_take (i := 9) (oi := ⟨_, _, _, _, _, _⟩) (v := .agg p.cells) rfl (by kernel_rfl) (by kernel_rfl) (by kernel_rfl) (fun _ _ _ h => h) (Or.inl ⟨by kernel_rfl, ?_⟩) hHeld ?_
  · (intro w hSw; obtain ⟨s1, s2⟩ := hSw; exact rLoad (x := .tmp 1) rfl (by exact load_pkt _ _ _ s1.out.at_))
  simp only [Act.put, List.setIfInBounds_toArray, List.set_cons_zero, List.set_cons_succ]
  refine wpAnyH_take (i := 10) (oi := ⟨_, _, _, _, _, _⟩) (v := .agg p.cells) rfl (by kernel_rfl) (by kernel_rfl) (by kernel_rfl) (fun _ _ _ h => h) (Or.inl ⟨by kernel_rfl, ?_⟩) hHeld ?_
  · (intro w hSw; obtain ⟨s1, s2⟩ := hSw; exact rLoad (x := .tmp 1) rfl (by exact load_pkt _ _ _ s1.out.at_))
  simp only [Act.put, List.setIfInBounds_toArray, List.set_cons_zero, List.set_cons_succ]
  refine wpAnyH_ready (rs := [11]) (by kernel_rfl) (by simp) ?_
  refine AllReadyH.cons rfl (fun K hK => ?_) AllReadyH.nil
  go_simp
  go_wp2_with (go_at_call 38; refine (used_calls _ p ⟨HI.out.lies.fit.codes, HI.out.lies.fit.subs⟩ HTY.out).mono ?_; rintro e w2 ⟨rfl, hb2⟩; have HA2 : Hid (At w w2 g p) := HAd.out.old hb2; clear hb2)
  refine hK.out _ _ (by first | exact ⟨HAd.out, HAd.out.at_.cell 0⟩ | exact ⟨HA2.out, HA2.out.at_.cell 0⟩ | exact ⟨HA3.out, HA3.out.at_.cell 0⟩) (fun hHeld => ?_)
  clear hK K
  refine wpAnyH_ready (rs := [12]) (by kernel_rfl) (by simp) ?_
  refine AllReadyH.cons rfl (fun K hK => ?_) AllReadyH.nil
  go_simp
  go_wp2_with (go_at_call 37; refine (same_calls _ p (usedP p) C (usedC p C) D (usedD p D) (HI.out.lies.keep HA2.out.below) (lies_used (HI.out.lies.keep HA2.out.below)) HI.out.c HI.out.d).mono ?_; rintro e w3 ⟨rfl, hb3⟩; have HA3 : Hid (At w w3 g p) := HA2.out.old hb3; clear hb3; rw [hsame.out])
  refine hK.out _ _ (by first | exact ⟨HAd.out, HAd.out.at_.cell 0⟩ | exact ⟨HA2.out, HA2.out.at_.cell 0⟩ | exact ⟨HA3.out, HA3.out.at_.cell 0⟩) (fun hHeld => ?_)
  clear hK K
  refine wpAnyH_take (i := 13) (oi := ⟨_, _, _, _, _, _⟩) (v := ?_) rfl (by kernel_rfl) (by kernel_rfl) (by kernel_rfl) (fun _ _ _ h => h) (Or.inl ⟨by kernel_rfl, ?_⟩) hHeld ?_
  rotate_left
  · (intro w hSw; obtain ⟨s1, s2⟩ := hSw; go_simp; try with_reducible rfl)
  simp only [Act.put, List.setIfInBounds_toArray, List.set_cons_zero, List.set_cons_succ]
  refine wpAnyH_take (i := 14) (oi := ⟨_, _, _, _, _, _⟩) (v := ?_) rfl (by kernel_rfl) (by kernel_rfl) (by kernel_rfl) (fun _ _ _ h => h) (Or.inl ⟨by kernel_rfl, ?_⟩) hHeld ?_
  rotate_left
  · (intro w hSw; obtain ⟨s1, s2⟩ := hSw; go_simp; try with_reducible rfl)
  simp only [Act.put, List.setIfInBounds_toArray, List.set_cons_zero, List.set_cons_succ]
  refine wpAnyH_done (by kernel_rfl) ?_ _
  by_cases hU : Uses p C D
  case neg =>
    have hsf : rs = false := by rw [hrs.out]; exact decide_eq_false hU
    subst hsf
    have hrf := hbad.out (fun h => hU (good_uses p C D (lies_long HI.out.lies) h))
    subst hrf
    go_wp2_with (fail)
    go_ret
    exact ⟨rfl, HA3.out.below⟩
  have hst : rs = true := by rw [hrs.out]; exact decide_eq_true hU
  subst hst
  have k0 : w3.cell? ⟨g, 0, none⟩ = some (.int .i64 p.ty) := HA3.out.at_.cell 0
  have k2 : w3.cell? ⟨g, 2, none⟩ = some (.int .i64 p.id) := HA3.out.at_.cell 2
  have HGI := Lib.hid (good_id p C D (lies_long HI.out.lies) h)
  rcases h with h | h | h | h | h <;> rw [h] at k0
  all_goals
    by_cases hid : 1 ≤ p.id ∧ p.id ≤ 65535
    case neg =>
      have hrf := hbad.out (fun h' => hid (HGI.out.1 h').2)
      by_cases a1 : 1 ≤ p.id
      · have a2 : decide (p.id ≤ 65535) = false := decide_eq_false (fun h' => hid ⟨a1, h'⟩)
        have a1 : decide (1 ≤ p.id) = true := decide_eq_true a1
        clear hid
        subst hrf
        go_wp2_with (fail)
        go_ret
        exact ⟨rfl, HA3.out.below⟩
      · have a1 : decide (1 ≤ p.id) = false := decide_eq_false a1
        clear hid
        subst hrf
        go_wp2_with (fail)
        go_ret
        exact ⟨rfl, HA3.out.below⟩
    have a1 : decide (1 ≤ p.id) = true := decide_eq_true hid.1
    have a2 : decide (p.id ≤ 65535) = true := decide_eq_true hid.2
    have hgood : Pk.Good p C D := HGI.out.2 ⟨hU, hid⟩
    clear hid
    have hre := HGM.out hgood
    have hzz := uses_C hU
    have htt := HTY.out
    have HBC := Lib.hid (body_calls w3 p C D (HI.out.fit HA3.out hgood) hzz htt)
    clear hzz htt
    obtain ⟨n1, hn1⟩ : ∃ n, Hid (n = (bodyB p C D).length) := ⟨_, rfl⟩
    rw [← hn1.out] at hre
    have hn1b := HI.out.len hgood
    rw [← hn1.out] at hn1b
    go_wp2_with (with_reducible refine wp_load_pktG (o := ⟨some 129, _, _, _, _, _⟩) rfl rfl HA3.out.at_ ?_ (by with_unfolding_all rfl))
    refine HBC.out.mono ?_
    rintro e w9 ⟨A9, c9, rfl, ho9, hb9⟩
    have HB9 : Hid (Below w.heap.size w w9) := (HA3.out.old hb9).below
    rw [← hn1.out]
    clear ho9 hb9
    go_wp2_with (fail)
    refine (Var.is_calls w9 (n1 : Int)).mono ?_
    rintro e w' ⟨rfl, rfl⟩
    have hre2 : decide (0 ≤ (n1 : Int) ∧ (n1 : Int) ≤ 268435455) = r := by
      rw [hre, decide_eq_decide]; constructor
      · intro h; have := h.2; omega
      · intro h; exact ⟨by omega, by omega⟩
    rw [hre2]
    clear hre
    go_wp2_with (fail)
    go_ret
    exact ⟨by simp, HB9.out⟩
set_option maxRecDepth 100000 in
set_option maxHeartbeats 2000000 in
theorem may_8 (w : World) (p : Pkt) (C : List Int) (D : List (ByteArray × Int)) (hI : MayIn w p C D) (h : p.ty = 8 ∨ p.ty = 10) : Calls Tryd.prog 15 #[.agg p.cells] w fun e w' => e = .returned (.bool (decide (May p C D))) ∧ Below w.heap.size w w' := by
  have HI := Lib.hid hI
  have hA := at_box w p
  obtain ⟨W, hW⟩ : ∃ W, Hid (W = w.alloc (.cells p.cells PT)) := ⟨_, rfl⟩
  obtain ⟨g, hg⟩ : ∃ g, Hid (g = w.heap.size) := ⟨_, rfl⟩
  rw [← hW.out, ← hg.out] at hA
  have HA := Lib.hid hA
  have HAd : Hid (At w W.drew g p) := HA.out.drew
  have k0 : W.cell? ⟨g, 0, none⟩ = some (.int .i64 p.ty) := hA.at_.cell 0
  obtain ⟨r, hr⟩ : ∃ r, Hid (decide (May p C D) = r) := ⟨decide (May p C D), by rw [Hid]⟩
  rw [hr.out]
  have HGM : Hid (Pk.Good p C D → r = decide ((bodyB p C D).length ≤ 268435455)) := fun hG => by rw [← hr.out, decide_eq_decide]; exact ⟨fun h => h.2, fun h => ⟨hG, h⟩⟩
  have hbad : Hid (¬ Pk.Good p C D → r = false) := fun hc => by rw [← hr.out]; exact decide_eq_false (fun h => hc h.1)
  clear hA hI
  have HTY : Hid (1 ≤ p.ty ∧ p.ty ≤ 14) := ⟨by omega, by omega⟩
  obtain ⟨rs, hrs⟩ : ∃ rs, Hid (rs = decide (Uses p C D)) := ⟨_, rfl⟩
  have hsame : Hid (decide (SameP p (usedP p) C (usedC p C) D (usedD p D)) = rs) := by rw [hrs.out, Hid, decide_eq_decide]; exact Iff.rfl
  have d1 : decide (p.ty < 1) = false := decide_eq_false (by omega)
  have d14 : decide (14 < p.ty) = false := decide_eq_false (by omega)
  go_enter Tryd.func15, Tryd.ntmps15
  go_upto_region 1 with (fail)
  rw [← hW.out, ← hg.out]
  refine wp_region_held_drew (S := (fun W' => Hid (At w W' g p) ∧ W'.cell? ⟨g, 0, none⟩ = some (.int .i64 p.ty))) (by kernel_rfl) (by first | exact ⟨HAd.out, HAd.out.at_.cell 0⟩ | exact ⟨HA2.out, HA2.out.at_.cell 0⟩ | exact ⟨HA3.out, HA3.out.at_.cell 0⟩) (fun hHeld => ?_)
  refine wpAnyH_take (i := 0) (oi := ⟨_, _, _, _, _, _⟩) (v := ?_) rfl (by kernel_rfl) (by kernel_rfl) (by kernel_rfl) (fun _ _ _ h => h) (Or.inl ⟨by kernel_rfl, ?_⟩) hHeld ?_
  rotate_left
  · (intro w hSw; obtain ⟨s1, s2⟩ := hSw; go_simp; try with_reducible rfl)
  simp only [Act.put, List.setIfInBounds_toArray, List.set_cons_zero, List.set_cons_succ]
  refine wpAnyH_take (i := 1) (oi := ⟨_, _, _, _, _, _⟩) (v := ?_) rfl (by kernel_rfl) (by kernel_rfl) (by kernel_rfl) (fun _ _ _ h => h) (Or.inl ⟨by kernel_rfl, ?_⟩) hHeld ?_
  rotate_left
  · (intro w hSw; obtain ⟨s1, s2⟩ := hSw; go_simp; try with_reducible rfl)
  simp only [Act.put, List.setIfInBounds_toArray, List.set_cons_zero, List.set_cons_succ]
  refine wpAnyH_take (i := 2) (oi := ⟨_, _, _, _, _, _⟩) (v := ?_) rfl (by kernel_rfl) (by kernel_rfl) (by kernel_rfl) (fun _ _ _ h => h) (Or.inl ⟨by kernel_rfl, ?_⟩) hHeld ?_
  rotate_left
  · (intro w hSw; obtain ⟨s1, s2⟩ := hSw; go_simp; try with_reducible rfl)
  simp only [Act.put, List.setIfInBounds_toArray, List.set_cons_zero, List.set_cons_succ]
  refine wpAnyH_take (i := 3) (oi := ⟨_, _, _, _, _, _⟩) (v := ?_) rfl (by kernel_rfl) (by kernel_rfl) (by kernel_rfl) (fun _ _ _ h => h) (Or.inl ⟨by kernel_rfl, ?_⟩) hHeld ?_
  rotate_left
  · (intro w hSw; obtain ⟨s1, s2⟩ := hSw; go_simp; try with_reducible rfl)
  simp only [Act.put, List.setIfInBounds_toArray, List.set_cons_zero, List.set_cons_succ]
  refine wpAnyH_take (i := 4) (oi := ⟨_, _, _, _, _, _⟩) (v := ?_) rfl (by kernel_rfl) (by kernel_rfl) (by kernel_rfl) (fun _ _ _ h => h) (Or.inl ⟨by kernel_rfl, ?_⟩) hHeld ?_
  rotate_left
  · (intro w hSw; obtain ⟨s1, s2⟩ := hSw; go_simp; try with_reducible rfl)
  simp only [Act.put, List.setIfInBounds_toArray, List.set_cons_zero, List.set_cons_succ]
  refine wpAnyH_take (i := 5) (oi := ⟨_, _, _, _, _, _⟩) (v := ?_) rfl (by kernel_rfl) (by kernel_rfl) (by kernel_rfl) (fun _ _ _ h => h) (Or.inl ⟨by kernel_rfl, ?_⟩) hHeld ?_
  rotate_left
  · (intro w hSw; obtain ⟨s1, s2⟩ := hSw; go_simp; try with_reducible rfl)
  simp only [Act.put, List.setIfInBounds_toArray, List.set_cons_zero, List.set_cons_succ]
  refine wpAnyH_take (i := 6) (oi := ⟨_, _, _, _, _, _⟩) (v := ?_) rfl (by kernel_rfl) (by kernel_rfl) (by kernel_rfl) (fun _ _ _ h => h) (Or.inl ⟨by kernel_rfl, ?_⟩) hHeld ?_
  rotate_left
  · (intro w hSw; obtain ⟨s1, s2⟩ := hSw; go_simp; try with_reducible rfl)
  simp only [Act.put, List.setIfInBounds_toArray, List.set_cons_zero, List.set_cons_succ]
  refine wpAnyH_take (i := 7) (oi := ⟨_, _, _, _, _, _⟩) (v := ?_) rfl (by kernel_rfl) (by kernel_rfl) (by kernel_rfl) (fun _ _ _ h => h) (Or.inl ⟨by kernel_rfl, ?_⟩) hHeld ?_
  rotate_left
  · (intro w hSw; obtain ⟨s1, s2⟩ := hSw; go_simp; try with_reducible rfl)
  simp only [Act.put, List.setIfInBounds_toArray, List.set_cons_zero, List.set_cons_succ]
  refine wpAnyH_take (i := 8) (oi := ⟨_, _, _, _, _, _⟩) (v := ?_) rfl (by kernel_rfl) (by kernel_rfl) (by kernel_rfl) (fun _ _ _ h => h) (Or.inl ⟨by kernel_rfl, ?_⟩) hHeld ?_
  rotate_left
  · (intro w hSw; obtain ⟨s1, s2⟩ := hSw; go_simp; try with_reducible rfl)
  simp only [Act.put, List.setIfInBounds_toArray, List.set_cons_zero, List.set_cons_succ]
  refine wpAnyH_take (i := 9) (oi := ⟨_, _, _, _, _, _⟩) (v := .agg p.cells) rfl (by kernel_rfl) (by kernel_rfl) (by kernel_rfl) (fun _ _ _ h => h) (Or.inl ⟨by kernel_rfl, ?_⟩) hHeld ?_
  · (intro w hSw; obtain ⟨s1, s2⟩ := hSw; exact rLoad (x := .tmp 1) rfl (by exact load_pkt _ _ _ s1.out.at_))
  simp only [Act.put, List.setIfInBounds_toArray, List.set_cons_zero, List.set_cons_succ]
  refine wpAnyH_take (i := 10) (oi := ⟨_, _, _, _, _, _⟩) (v := .agg p.cells) rfl (by kernel_rfl) (by kernel_rfl) (by kernel_rfl) (fun _ _ _ h => h) (Or.inl ⟨by kernel_rfl, ?_⟩) hHeld ?_
  · (intro w hSw; obtain ⟨s1, s2⟩ := hSw; exact rLoad (x := .tmp 1) rfl (by exact load_pkt _ _ _ s1.out.at_))
  simp only [Act.put, List.setIfInBounds_toArray, List.set_cons_zero, List.set_cons_succ]
  refine wpAnyH_ready (rs := [11]) (by kernel_rfl) (by simp) ?_
  refine AllReadyH.cons rfl (fun K hK => ?_) AllReadyH.nil
  go_simp
  go_wp2_with (go_at_call 38; refine (used_calls _ p ⟨HI.out.lies.fit.codes, HI.out.lies.fit.subs⟩ HTY.out).mono ?_; rintro e w2 ⟨rfl, hb2⟩; have HA2 : Hid (At w w2 g p) := HAd.out.old hb2; clear hb2)
  refine hK.out _ _ (by first | exact ⟨HAd.out, HAd.out.at_.cell 0⟩ | exact ⟨HA2.out, HA2.out.at_.cell 0⟩ | exact ⟨HA3.out, HA3.out.at_.cell 0⟩) (fun hHeld => ?_)
  clear hK K
  refine wpAnyH_ready (rs := [12]) (by kernel_rfl) (by simp) ?_
  refine AllReadyH.cons rfl (fun K hK => ?_) AllReadyH.nil
  go_simp
  go_wp2_with (go_at_call 37; refine (same_calls _ p (usedP p) C (usedC p C) D (usedD p D) (HI.out.lies.keep HA2.out.below) (lies_used (HI.out.lies.keep HA2.out.below)) HI.out.c HI.out.d).mono ?_; rintro e w3 ⟨rfl, hb3⟩; have HA3 : Hid (At w w3 g p) := HA2.out.old hb3; clear hb3; rw [hsame.out])
  refine hK.out _ _ (by first | exact ⟨HAd.out, HAd.out.at_.cell 0⟩ | exact ⟨HA2.out, HA2.out.at_.cell 0⟩ | exact ⟨HA3.out, HA3.out.at_.cell 0⟩) (fun hHeld => ?_)
  clear hK K
  refine wpAnyH_take (i := 13) (oi := ⟨_, _, _, _, _, _⟩) (v := ?_) rfl (by kernel_rfl) (by kernel_rfl) (by kernel_rfl) (fun _ _ _ h => h) (Or.inl ⟨by kernel_rfl, ?_⟩) hHeld ?_
  rotate_left
  · (intro w hSw; obtain ⟨s1, s2⟩ := hSw; go_simp; try with_reducible rfl)
  simp only [Act.put, List.setIfInBounds_toArray, List.set_cons_zero, List.set_cons_succ]
  refine wpAnyH_take (i := 14) (oi := ⟨_, _, _, _, _, _⟩) (v := ?_) rfl (by kernel_rfl) (by kernel_rfl) (by kernel_rfl) (fun _ _ _ h => h) (Or.inl ⟨by kernel_rfl, ?_⟩) hHeld ?_
  rotate_left
  · (intro w hSw; obtain ⟨s1, s2⟩ := hSw; go_simp; try with_reducible rfl)
  simp only [Act.put, List.setIfInBounds_toArray, List.set_cons_zero, List.set_cons_succ]
  refine wpAnyH_done (by kernel_rfl) ?_ _
  by_cases hU : Uses p C D
  case neg =>
    have hsf : rs = false := by rw [hrs.out]; exact decide_eq_false hU
    subst hsf
    have hrf := hbad.out (fun h => hU (good_uses p C D (lies_long HI.out.lies) h))
    subst hrf
    go_wp2_with (fail)
    go_ret
    exact ⟨rfl, HA3.out.below⟩
  have hst : rs = true := by rw [hrs.out]; exact decide_eq_true hU
  subst hst
  have k0 : w3.cell? ⟨g, 0, none⟩ = some (.int .i64 p.ty) := HA3.out.at_.cell 0
  have k2 : w3.cell? ⟨g, 2, none⟩ = some (.int .i64 p.id) := HA3.out.at_.cell 2
  have HGI := Lib.hid (good_8 p C D (lies_long HI.out.lies) h)
  have h8 := Lib.hid h
  rcases h with h | h <;> rw [h] at k0
  all_goals
    by_cases hid : 1 ≤ p.id ∧ p.id ≤ 65535
    case neg =>
      have hrf := hbad.out (fun h' => hid (HGI.out.1 h').2.1)
      by_cases a1 : 1 ≤ p.id
      · have a2 : decide (p.id ≤ 65535) = false := decide_eq_false (fun h' => hid ⟨a1, h'⟩)
        have a1 : decide (1 ≤ p.id) = true := decide_eq_true a1
        clear hid
        subst hrf
        go_wp2_with (fail)
        go_ret
        exact ⟨rfl, HA3.out.below⟩
      · have a1 : decide (1 ≤ p.id) = false := decide_eq_false a1
        clear hid
        subst hrf
        go_wp2_with (fail)
        go_ret
        exact ⟨rfl, HA3.out.below⟩
    have a1 : decide (1 ≤ p.id) = true := decide_eq_true hid.1
    have a2 : decide (p.id ≤ 65535) = true := decide_eq_true hid.2
    have hgx : Hid ((0 < D.length ∧ ∀ s ∈ D, SubOk p.ty s) → Pk.Good p C D) := fun hx => HGI.out.2 ⟨hU, hid, hx⟩
    have hgn : Hid (¬ (0 < D.length ∧ ∀ s ∈ D, SubOk p.ty s) → r = false) := fun hx => hbad.out (fun h' => hx (HGI.out.1 h').2.2)
    clear hid
    go_wp2_with (with_reducible refine wp_load_pktG (o := ⟨some 117, _, _, _, _, _⟩) rfl rfl HA3.out.at_ ?_ (by with_unfolding_all rfl))
    refine (subs_calls w3 p C D (HI.out.lies.keep HA3.out.below) h8.out).mono ?_
    rintro e w4 ⟨rfl, hb4⟩
    have HA4 : Hid (At w w4 g p) := HA3.out.old hb4
    clear hb4
    by_cases hx : 0 < D.length ∧ ∀ s ∈ D, SubOk p.ty s
    case neg =>
      rw [decide_eq_false hx]
      have hrf := hgn.out hx
      clear hx
      subst hrf
      go_wp2_with (fail)
      go_ret
      exact ⟨rfl, HA4.out.below⟩
    rw [decide_eq_true hx]
    have hgood := hgx.out hx
    clear hx
    have hre := HGM.out hgood
    have hzz := uses_C hU
    have htt := HTY.out
    have HBC := Lib.hid (body_calls w4 p C D (HI.out.fit HA4.out hgood) hzz htt)
    clear hzz htt
    obtain ⟨n1, hn1⟩ : ∃ n, Hid (n = (bodyB p C D).length) := ⟨_, rfl⟩
    rw [← hn1.out] at hre
    have hn1b := HI.out.len hgood
    rw [← hn1.out] at hn1b
    go_wp2_with (with_reducible refine wp_load_pktG (o := ⟨some 129, _, _, _, _, _⟩) rfl rfl HA4.out.at_ ?_ (by with_unfolding_all rfl))
    refine HBC.out.mono ?_
    rintro e w9 ⟨A9, c9, rfl, ho9, hb9⟩
    have HB9 : Hid (Below w.heap.size w w9) := (HA4.out.old hb9).below
    rw [← hn1.out]
    clear ho9 hb9
    go_wp2_with (fail)
    refine (Var.is_calls w9 (n1 : Int)).mono ?_
    rintro e w' ⟨rfl, rfl⟩
    have hre2 : decide (0 ≤ (n1 : Int) ∧ (n1 : Int) ≤ 268435455) = r := by
      rw [hre, decide_eq_decide]; constructor
      · intro h; have := h.2; omega
      · intro h; exact ⟨by omega, by omega⟩
    rw [hre2]
    clear hre
    go_wp2_with (fail)
    go_ret
    exact ⟨by simp, HB9.out⟩
set_option maxRecDepth 100000 in
set_option maxHeartbeats 2000000 in
theorem may_9 (w : World) (p : Pkt) (C : List Int) (D : List (ByteArray × Int)) (hI : MayIn w p C D) (h : p.ty = 9) : Calls Tryd.prog 15 #[.agg p.cells] w fun e w' => e = .returned (.bool (decide (May p C D))) ∧ Below w.heap.size w w' := by
  have HI := Lib.hid hI
  have hA := at_box w p
  obtain ⟨W, hW⟩ : ∃ W, Hid (W = w.alloc (.cells p.cells PT)) := ⟨_, rfl⟩
  obtain ⟨g, hg⟩ : ∃ g, Hid (g = w.heap.size) := ⟨_, rfl⟩
  rw [← hW.out, ← hg.out] at hA
  have HA := Lib.hid hA
  have HAd : Hid (At w W.drew g p) := HA.out.drew
  have k0 : W.cell? ⟨g, 0, none⟩ = some (.int .i64 p.ty) := hA.at_.cell 0
  obtain ⟨r, hr⟩ : ∃ r, Hid (decide (May p C D) = r) := ⟨decide (May p C D), by rw [Hid]⟩
  rw [hr.out]
  have HGM : Hid (Pk.Good p C D → r = decide ((bodyB p C D).length ≤ 268435455)) := fun hG => by rw [← hr.out, decide_eq_decide]; exact ⟨fun h => h.2, fun h => ⟨hG, h⟩⟩
  have hbad : Hid (¬ Pk.Good p C D → r = false) := fun hc => by rw [← hr.out]; exact decide_eq_false (fun h => hc h.1)
  clear hA hI
  have HTY : Hid (1 ≤ p.ty ∧ p.ty ≤ 14) := ⟨by omega, by omega⟩
  obtain ⟨rs, hrs⟩ : ∃ rs, Hid (rs = decide (Uses p C D)) := ⟨_, rfl⟩
  have hsame : Hid (decide (SameP p (usedP p) C (usedC p C) D (usedD p D)) = rs) := by rw [hrs.out, Hid, decide_eq_decide]; exact Iff.rfl
  have d1 : decide (p.ty < 1) = false := decide_eq_false (by omega)
  have d14 : decide (14 < p.ty) = false := decide_eq_false (by omega)
  go_enter Tryd.func15, Tryd.ntmps15
  go_upto_region 1 with (fail)
  rw [← hW.out, ← hg.out]
  refine wp_region_held_drew (S := (fun W' => Hid (At w W' g p) ∧ W'.cell? ⟨g, 0, none⟩ = some (.int .i64 p.ty))) (by kernel_rfl) (by first | exact ⟨HAd.out, HAd.out.at_.cell 0⟩ | exact ⟨HA2.out, HA2.out.at_.cell 0⟩ | exact ⟨HA3.out, HA3.out.at_.cell 0⟩) (fun hHeld => ?_)
  refine wpAnyH_take (i := 0) (oi := ⟨_, _, _, _, _, _⟩) (v := ?_) rfl (by kernel_rfl) (by kernel_rfl) (by kernel_rfl) (fun _ _ _ h => h) (Or.inl ⟨by kernel_rfl, ?_⟩) hHeld ?_
  rotate_left
  · (intro w hSw; obtain ⟨s1, s2⟩ := hSw; go_simp; try with_reducible rfl)
  simp only [Act.put, List.setIfInBounds_toArray, List.set_cons_zero, List.set_cons_succ]
  refine wpAnyH_take (i := 1) (oi := ⟨_, _, _, _, _, _⟩) (v := ?_) rfl (by kernel_rfl) (by kernel_rfl) (by kernel_rfl) (fun _ _ _ h => h) (Or.inl ⟨by kernel_rfl, ?_⟩) hHeld ?_
  rotate_left
  · (intro w hSw; obtain ⟨s1, s2⟩ := hSw; go_simp; try with_reducible rfl)
  simp only [Act.put, List.setIfInBounds_toArray, List.set_cons_zero, List.set_cons_succ]
  refine wpAnyH_take (i := 2) (oi := ⟨_, _, _, _, _, _⟩) (v := ?_) rfl (by kernel_rfl) (by kernel_rfl) (by kernel_rfl) (fun _ _ _ h => h) (Or.inl ⟨by kernel_rfl, ?_⟩) hHeld ?_
  rotate_left
  · (intro w hSw; obtain ⟨s1, s2⟩ := hSw; go_simp; try with_reducible rfl)
  simp only [Act.put, List.setIfInBounds_toArray, List.set_cons_zero, List.set_cons_succ]
  refine wpAnyH_take (i := 3) (oi := ⟨_, _, _, _, _, _⟩) (v := ?_) rfl (by kernel_rfl) (by kernel_rfl) (by kernel_rfl) (fun _ _ _ h => h) (Or.inl ⟨by kernel_rfl, ?_⟩) hHeld ?_
  rotate_left
  · (intro w hSw; obtain ⟨s1, s2⟩ := hSw; go_simp; try with_reducible rfl)
  simp only [Act.put, List.setIfInBounds_toArray, List.set_cons_zero, List.set_cons_succ]
  refine wpAnyH_take (i := 4) (oi := ⟨_, _, _, _, _, _⟩) (v := ?_) rfl (by kernel_rfl) (by kernel_rfl) (by kernel_rfl) (fun _ _ _ h => h) (Or.inl ⟨by kernel_rfl, ?_⟩) hHeld ?_
  rotate_left
  · (intro w hSw; obtain ⟨s1, s2⟩ := hSw; go_simp; try with_reducible rfl)
  simp only [Act.put, List.setIfInBounds_toArray, List.set_cons_zero, List.set_cons_succ]
  refine wpAnyH_take (i := 5) (oi := ⟨_, _, _, _, _, _⟩) (v := ?_) rfl (by kernel_rfl) (by kernel_rfl) (by kernel_rfl) (fun _ _ _ h => h) (Or.inl ⟨by kernel_rfl, ?_⟩) hHeld ?_
  rotate_left
  · (intro w hSw; obtain ⟨s1, s2⟩ := hSw; go_simp; try with_reducible rfl)
  simp only [Act.put, List.setIfInBounds_toArray, List.set_cons_zero, List.set_cons_succ]
  refine wpAnyH_take (i := 6) (oi := ⟨_, _, _, _, _, _⟩) (v := ?_) rfl (by kernel_rfl) (by kernel_rfl) (by kernel_rfl) (fun _ _ _ h => h) (Or.inl ⟨by kernel_rfl, ?_⟩) hHeld ?_
  rotate_left
  · (intro w hSw; obtain ⟨s1, s2⟩ := hSw; go_simp; try with_reducible rfl)
  simp only [Act.put, List.setIfInBounds_toArray, List.set_cons_zero, List.set_cons_succ]
  refine wpAnyH_take (i := 7) (oi := ⟨_, _, _, _, _, _⟩) (v := ?_) rfl (by kernel_rfl) (by kernel_rfl) (by kernel_rfl) (fun _ _ _ h => h) (Or.inl ⟨by kernel_rfl, ?_⟩) hHeld ?_
  rotate_left
  · (intro w hSw; obtain ⟨s1, s2⟩ := hSw; go_simp; try with_reducible rfl)
  simp only [Act.put, List.setIfInBounds_toArray, List.set_cons_zero, List.set_cons_succ]
  refine wpAnyH_take (i := 8) (oi := ⟨_, _, _, _, _, _⟩) (v := ?_) rfl (by kernel_rfl) (by kernel_rfl) (by kernel_rfl) (fun _ _ _ h => h) (Or.inl ⟨by kernel_rfl, ?_⟩) hHeld ?_
  rotate_left
  · (intro w hSw; obtain ⟨s1, s2⟩ := hSw; go_simp; try with_reducible rfl)
  simp only [Act.put, List.setIfInBounds_toArray, List.set_cons_zero, List.set_cons_succ]
  refine wpAnyH_take (i := 9) (oi := ⟨_, _, _, _, _, _⟩) (v := .agg p.cells) rfl (by kernel_rfl) (by kernel_rfl) (by kernel_rfl) (fun _ _ _ h => h) (Or.inl ⟨by kernel_rfl, ?_⟩) hHeld ?_
  · (intro w hSw; obtain ⟨s1, s2⟩ := hSw; exact rLoad (x := .tmp 1) rfl (by exact load_pkt _ _ _ s1.out.at_))
  simp only [Act.put, List.setIfInBounds_toArray, List.set_cons_zero, List.set_cons_succ]
  refine wpAnyH_take (i := 10) (oi := ⟨_, _, _, _, _, _⟩) (v := .agg p.cells) rfl (by kernel_rfl) (by kernel_rfl) (by kernel_rfl) (fun _ _ _ h => h) (Or.inl ⟨by kernel_rfl, ?_⟩) hHeld ?_
  · (intro w hSw; obtain ⟨s1, s2⟩ := hSw; exact rLoad (x := .tmp 1) rfl (by exact load_pkt _ _ _ s1.out.at_))
  simp only [Act.put, List.setIfInBounds_toArray, List.set_cons_zero, List.set_cons_succ]
  refine wpAnyH_ready (rs := [11]) (by kernel_rfl) (by simp) ?_
  refine AllReadyH.cons rfl (fun K hK => ?_) AllReadyH.nil
  go_simp
  go_wp2_with (go_at_call 38; refine (used_calls _ p ⟨HI.out.lies.fit.codes, HI.out.lies.fit.subs⟩ HTY.out).mono ?_; rintro e w2 ⟨rfl, hb2⟩; have HA2 : Hid (At w w2 g p) := HAd.out.old hb2; clear hb2)
  refine hK.out _ _ (by first | exact ⟨HAd.out, HAd.out.at_.cell 0⟩ | exact ⟨HA2.out, HA2.out.at_.cell 0⟩ | exact ⟨HA3.out, HA3.out.at_.cell 0⟩) (fun hHeld => ?_)
  clear hK K
  refine wpAnyH_ready (rs := [12]) (by kernel_rfl) (by simp) ?_
  refine AllReadyH.cons rfl (fun K hK => ?_) AllReadyH.nil
  go_simp
  go_wp2_with (go_at_call 37; refine (same_calls _ p (usedP p) C (usedC p C) D (usedD p D) (HI.out.lies.keep HA2.out.below) (lies_used (HI.out.lies.keep HA2.out.below)) HI.out.c HI.out.d).mono ?_; rintro e w3 ⟨rfl, hb3⟩; have HA3 : Hid (At w w3 g p) := HA2.out.old hb3; clear hb3; rw [hsame.out])
  refine hK.out _ _ (by first | exact ⟨HAd.out, HAd.out.at_.cell 0⟩ | exact ⟨HA2.out, HA2.out.at_.cell 0⟩ | exact ⟨HA3.out, HA3.out.at_.cell 0⟩) (fun hHeld => ?_)
  clear hK K
  refine wpAnyH_take (i := 13) (oi := ⟨_, _, _, _, _, _⟩) (v := ?_) rfl (by kernel_rfl) (by kernel_rfl) (by kernel_rfl) (fun _ _ _ h => h) (Or.inl ⟨by kernel_rfl, ?_⟩) hHeld ?_
  rotate_left
  · (intro w hSw; obtain ⟨s1, s2⟩ := hSw; go_simp; try with_reducible rfl)
  simp only [Act.put, List.setIfInBounds_toArray, List.set_cons_zero, List.set_cons_succ]
  refine wpAnyH_take (i := 14) (oi := ⟨_, _, _, _, _, _⟩) (v := ?_) rfl (by kernel_rfl) (by kernel_rfl) (by kernel_rfl) (fun _ _ _ h => h) (Or.inl ⟨by kernel_rfl, ?_⟩) hHeld ?_
  rotate_left
  · (intro w hSw; obtain ⟨s1, s2⟩ := hSw; go_simp; try with_reducible rfl)
  simp only [Act.put, List.setIfInBounds_toArray, List.set_cons_zero, List.set_cons_succ]
  refine wpAnyH_done (by kernel_rfl) ?_ _
  by_cases hU : Uses p C D
  case neg =>
    have hsf : rs = false := by rw [hrs.out]; exact decide_eq_false hU
    subst hsf
    have hrf := hbad.out (fun h => hU (good_uses p C D (lies_long HI.out.lies) h))
    subst hrf
    go_wp2_with (fail)
    go_ret
    exact ⟨rfl, HA3.out.below⟩
  have hst : rs = true := by rw [hrs.out]; exact decide_eq_true hU
  subst hst
  have k0 : w3.cell? ⟨g, 0, none⟩ = some (.int .i64 p.ty) := HA3.out.at_.cell 0
  have k2 : w3.cell? ⟨g, 2, none⟩ = some (.int .i64 p.id) := HA3.out.at_.cell 2
  have HGI := Lib.hid (good_9 p C D (lies_long HI.out.lies) h)
  rw [h] at k0
  by_cases hid : 1 ≤ p.id ∧ p.id ≤ 65535
  case neg =>
    have hrf := hbad.out (fun h' => hid (HGI.out.1 h').2.1)
    by_cases a1 : 1 ≤ p.id
    · have a2 : decide (p.id ≤ 65535) = false := decide_eq_false (fun h' => hid ⟨a1, h'⟩)
      have a1 : decide (1 ≤ p.id) = true := decide_eq_true a1
      clear hid
      subst hrf
      go_wp2_with (fail)
      go_ret
      exact ⟨rfl, HA3.out.below⟩
    · have a1 : decide (1 ≤ p.id) = false := decide_eq_false a1
      clear hid
      subst hrf
      go_wp2_with (fail)
      go_ret
      exact ⟨rfl, HA3.out.below⟩
  have a1 : decide (1 ≤ p.id) = true := decide_eq_true hid.1
  have a2 : decide (p.id ≤ 65535) = true := decide_eq_true hid.2
  have hgx : Hid ((0 < C.length ∧ ∀ c ∈ C, CodeOk c) → Pk.Good p C D) := fun hx => HGI.out.2 ⟨hU, hid, hx⟩
  have hgn : Hid (¬ (0 < C.length ∧ ∀ c ∈ C, CodeOk c) → r = false) := fun hx => hbad.out (fun h' => hx (HGI.out.1 h').2.2)
  clear hid
  go_wp2_with (with_reducible refine wp_load_pktG (o := ⟨some 124, _, _, _, _, _⟩) rfl rfl HA3.out.at_ ?_ (by with_unfolding_all rfl))
  refine (codes_calls w3 p C D (HI.out.lies.keep HA3.out.below)).mono ?_
  rintro e w4 ⟨rfl, hb4⟩
  have HA4 : Hid (At w w4 g p) := HA3.out.old hb4
  clear hb4
  by_cases hx : 0 < C.length ∧ ∀ c ∈ C, CodeOk c
  case neg =>
    rw [decide_eq_false hx]
    have hrf := hgn.out hx
    clear hx
    subst hrf
    go_wp2_with (fail)
    go_ret
    exact ⟨rfl, HA4.out.below⟩
  rw [decide_eq_true hx]
  have hgood := hgx.out hx
  clear hx
  have hre := HGM.out hgood
  have hzz := uses_C hU
  have htt := HTY.out
  have HBC := Lib.hid (body_calls w4 p C D (HI.out.fit HA4.out hgood) hzz htt)
  clear hzz htt
  obtain ⟨n1, hn1⟩ : ∃ n, Hid (n = (bodyB p C D).length) := ⟨_, rfl⟩
  rw [← hn1.out] at hre
  have hn1b := HI.out.len hgood
  rw [← hn1.out] at hn1b
  go_wp2_with (with_reducible refine wp_load_pktG (o := ⟨some 129, _, _, _, _, _⟩) rfl rfl HA4.out.at_ ?_ (by with_unfolding_all rfl))
  refine HBC.out.mono ?_
  rintro e w9 ⟨A9, c9, rfl, ho9, hb9⟩
  have HB9 : Hid (Below w.heap.size w w9) := (HA4.out.old hb9).below
  rw [← hn1.out]
  clear ho9 hb9
  go_wp2_with (fail)
  refine (Var.is_calls w9 (n1 : Int)).mono ?_
  rintro e w' ⟨rfl, rfl⟩
  have hre2 : decide (0 ≤ (n1 : Int) ∧ (n1 : Int) ≤ 268435455) = r := by
    rw [hre, decide_eq_decide]; constructor
    · intro h; have := h.2; omega
    · intro h; exact ⟨by omega, by omega⟩
  rw [hre2]
  clear hre
  go_wp2_with (fail)
  go_ret
  exact ⟨by simp, HB9.out⟩
set_option maxRecDepth 100000 in
set_option maxHeartbeats 2000000 in
theorem may_1 (w : World) (p : Pkt) (C : List Int) (D : List (ByteArray × Int)) (hI : MayIn w p C D) (h : p.ty = 1) : Calls Tryd.prog 15 #[.agg p.cells] w fun e w' => e = .returned (.bool (decide (May p C D))) ∧ Below w.heap.size w w' := by
  have HI := Lib.hid hI
  have hA := at_box w p
  obtain ⟨W, hW⟩ : ∃ W, Hid (W = w.alloc (.cells p.cells PT)) := ⟨_, rfl⟩
  obtain ⟨g, hg⟩ : ∃ g, Hid (g = w.heap.size) := ⟨_, rfl⟩
  rw [← hW.out, ← hg.out] at hA
  have HA := Lib.hid hA
  have HAd : Hid (At w W.drew g p) := HA.out.drew
  have k0 : W.cell? ⟨g, 0, none⟩ = some (.int .i64 p.ty) := hA.at_.cell 0
  obtain ⟨r, hr⟩ : ∃ r, Hid (decide (May p C D) = r) := ⟨decide (May p C D), by rw [Hid]⟩
  rw [hr.out]
  have HGM : Hid (Pk.Good p C D → r = decide ((bodyB p C D).length ≤ 268435455)) := fun hG => by rw [← hr.out, decide_eq_decide]; exact ⟨fun h => h.2, fun h => ⟨hG, h⟩⟩
  have hbad : Hid (¬ Pk.Good p C D → r = false) := fun hc => by rw [← hr.out]; exact decide_eq_false (fun h => hc h.1)
  clear hA hI
  have HTY : Hid (1 ≤ p.ty ∧ p.ty ≤ 14) := ⟨by omega, by omega⟩
  obtain ⟨rs, hrs⟩ : ∃ rs, Hid (rs = decide (Uses p C D)) := ⟨_, rfl⟩
  have hsame : Hid (decide (SameP p (usedP p) C (usedC p C) D (usedD p D)) = rs) := by rw [hrs.out, Hid, decide_eq_decide]; exact Iff.rfl
  have d1 : decide (p.ty < 1) = false := decide_eq_false (by omega)
  have d14 : decide (14 < p.ty) = false := decide_eq_false (by omega)
  go_enter Tryd.func15, Tryd.ntmps15
  go_upto_region 1 with (fail)
  rw [← hW.out, ← hg.out]
  refine wp_region_held_drew (S := (fun W' => Hid (At w W' g p) ∧ W'.cell? ⟨g, 0, none⟩ = some (.int .i64 p.ty))) (by kernel_rfl) (by first | exact ⟨HAd.out, HAd.out.at_.cell 0⟩ | exact ⟨HA2.out, HA2.out.at_.cell 0⟩ | exact ⟨HA3.out, HA3.out.at_.cell 0⟩) (fun hHeld => ?_)
  refine wpAnyH_take (i := 0) (oi := ⟨_, _, _, _, _, _⟩) (v := ?_) rfl (by kernel_rfl) (by kernel_rfl) (by kernel_rfl) (fun _ _ _ h => h) (Or.inl ⟨by kernel_rfl, ?_⟩) hHeld ?_
  rotate_left
  · (intro w hSw; obtain ⟨s1, s2⟩ := hSw; go_simp; try with_reducible rfl)
  simp only [Act.put, List.setIfInBounds_toArray, List.set_cons_zero, List.set_cons_succ]
  refine wpAnyH_take (i := 1) (oi := ⟨_, _, _, _, _, _⟩) (v := ?_) rfl (by kernel_rfl) (by kernel_rfl) (by kernel_rfl) (fun _ _ _ h => h) (Or.inl ⟨by kernel_rfl, ?_⟩) hHeld ?_
  rotate_left
  · (intro w hSw; obtain ⟨s1, s2⟩ := hSw; go_simp; try with_reducible rfl)
  simp only [Act.put, List.setIfInBounds_toArray, List.set_cons_zero, List.set_cons_succ]
  refine wpAnyH_take (i := 2) (oi := ⟨_, _, _, _, _, _⟩) (v := ?_) rfl (by kernel_rfl) (by kernel_rfl) (by kernel_rfl) (fun _ _ _ h => h) (Or.inl ⟨by kernel_rfl, ?_⟩) hHeld ?_
  rotate_left
  · (intro w hSw; obtain ⟨s1, s2⟩ := hSw; go_simp; try with_reducible rfl)
  simp only [Act.put, List.setIfInBounds_toArray, List.set_cons_zero, List.set_cons_succ]
  refine wpAnyH_take (i := 3) (oi := ⟨_, _, _, _, _, _⟩) (v := ?_) rfl (by kernel_rfl) (by kernel_rfl) (by kernel_rfl) (fun _ _ _ h => h) (Or.inl ⟨by kernel_rfl, ?_⟩) hHeld ?_
  rotate_left
  · (intro w hSw; obtain ⟨s1, s2⟩ := hSw; go_simp; try with_reducible rfl)
  simp only [Act.put, List.setIfInBounds_toArray, List.set_cons_zero, List.set_cons_succ]
  refine wpAnyH_take (i := 4) (oi := ⟨_, _, _, _, _, _⟩) (v := ?_) rfl (by kernel_rfl) (by kernel_rfl) (by kernel_rfl) (fun _ _ _ h => h) (Or.inl ⟨by kernel_rfl, ?_⟩) hHeld ?_
  rotate_left
  · (intro w hSw; obtain ⟨s1, s2⟩ := hSw; go_simp; try with_reducible rfl)
  simp only [Act.put, List.setIfInBounds_toArray, List.set_cons_zero, List.set_cons_succ]
  refine wpAnyH_take (i := 5) (oi := ⟨_, _, _, _, _, _⟩) (v := ?_) rfl (by kernel_rfl) (by kernel_rfl) (by kernel_rfl) (fun _ _ _ h => h) (Or.inl ⟨by kernel_rfl, ?_⟩) hHeld ?_
  rotate_left
  · (intro w hSw; obtain ⟨s1, s2⟩ := hSw; go_simp; try with_reducible rfl)
  simp only [Act.put, List.setIfInBounds_toArray, List.set_cons_zero, List.set_cons_succ]
  refine wpAnyH_take (i := 6) (oi := ⟨_, _, _, _, _, _⟩) (v := ?_) rfl (by kernel_rfl) (by kernel_rfl) (by kernel_rfl) (fun _ _ _ h => h) (Or.inl ⟨by kernel_rfl, ?_⟩) hHeld ?_
  rotate_left
  · (intro w hSw; obtain ⟨s1, s2⟩ := hSw; go_simp; try with_reducible rfl)
  simp only [Act.put, List.setIfInBounds_toArray, List.set_cons_zero, List.set_cons_succ]
  refine wpAnyH_take (i := 7) (oi := ⟨_, _, _, _, _, _⟩) (v := ?_) rfl (by kernel_rfl) (by kernel_rfl) (by kernel_rfl) (fun _ _ _ h => h) (Or.inl ⟨by kernel_rfl, ?_⟩) hHeld ?_
  rotate_left
  · (intro w hSw; obtain ⟨s1, s2⟩ := hSw; go_simp; try with_reducible rfl)
  simp only [Act.put, List.setIfInBounds_toArray, List.set_cons_zero, List.set_cons_succ]
  refine wpAnyH_take (i := 8) (oi := ⟨_, _, _, _, _, _⟩) (v := ?_) rfl (by kernel_rfl) (by kernel_rfl) (by kernel_rfl) (fun _ _ _ h => h) (Or.inl ⟨by kernel_rfl, ?_⟩) hHeld ?_
  rotate_left
  · (intro w hSw; obtain ⟨s1, s2⟩ := hSw; go_simp; try with_reducible rfl)
  simp only [Act.put, List.setIfInBounds_toArray, List.set_cons_zero, List.set_cons_succ]
  refine wpAnyH_take (i := 9) (oi := ⟨_, _, _, _, _, _⟩) (v := .agg p.cells) rfl (by kernel_rfl) (by kernel_rfl) (by kernel_rfl) (fun _ _ _ h => h) (Or.inl ⟨by kernel_rfl, ?_⟩) hHeld ?_
  · (intro w hSw; obtain ⟨s1, s2⟩ := hSw; exact rLoad (x := .tmp 1) rfl (by exact load_pkt _ _ _ s1.out.at_))
  simp only [Act.put, List.setIfInBounds_toArray, List.set_cons_zero, List.set_cons_succ]
  refine wpAnyH_take (i := 10) (oi := ⟨_, _, _, _, _, _⟩) (v := .agg p.cells) rfl (by kernel_rfl) (by kernel_rfl) (by kernel_rfl) (fun _ _ _ h => h) (Or.inl ⟨by kernel_rfl, ?_⟩) hHeld ?_
  · (intro w hSw; obtain ⟨s1, s2⟩ := hSw; exact rLoad (x := .tmp 1) rfl (by exact load_pkt _ _ _ s1.out.at_))
  simp only [Act.put, List.setIfInBounds_toArray, List.set_cons_zero, List.set_cons_succ]
  refine wpAnyH_ready (rs := [11]) (by kernel_rfl) (by simp) ?_
  refine AllReadyH.cons rfl (fun K hK => ?_) AllReadyH.nil
  go_simp
  go_wp2_with (go_at_call 38; refine (used_calls _ p ⟨HI.out.lies.fit.codes, HI.out.lies.fit.subs⟩ HTY.out).mono ?_; rintro e w2 ⟨rfl, hb2⟩; have HA2 : Hid (At w w2 g p) := HAd.out.old hb2; clear hb2)
  refine hK.out _ _ (by first | exact ⟨HAd.out, HAd.out.at_.cell 0⟩ | exact ⟨HA2.out, HA2.out.at_.cell 0⟩ | exact ⟨HA3.out, HA3.out.at_.cell 0⟩) (fun hHeld => ?_)
  clear hK K
  refine wpAnyH_ready (rs := [12]) (by kernel_rfl) (by simp) ?_
  refine AllReadyH.cons rfl (fun K hK => ?_) AllReadyH.nil
  go_simp
  go_wp2_with (go_at_call 37; refine (same_calls _ p (usedP p) C (usedC p C) D (usedD p D) (HI.out.lies.keep HA2.out.below) (lies_used (HI.out.lies.keep HA2.out.below)) HI.out.c HI.out.d).mono ?_; rintro e w3 ⟨rfl, hb3⟩; have HA3 : Hid (At w w3 g p) := HA2.out.old hb3; clear hb3; rw [hsame.out])
  refine hK.out _ _ (by first | exact ⟨HAd.out, HAd.out.at_.cell 0⟩ | exact ⟨HA2.out, HA2.out.at_.cell 0⟩ | exact ⟨HA3.out, HA3.out.at_.cell 0⟩) (fun hHeld => ?_)
  clear hK K
  refine wpAnyH_take (i := 13) (oi := ⟨_, _, _, _, _, _⟩) (v := ?_) rfl (by kernel_rfl) (by kernel_rfl) (by kernel_rfl) (fun _ _ _ h => h) (Or.inl ⟨by kernel_rfl, ?_⟩) hHeld ?_
  rotate_left
  · (intro w hSw; obtain ⟨s1, s2⟩ := hSw; go_simp; try with_reducible rfl)
  simp only [Act.put, List.setIfInBounds_toArray, List.set_cons_zero, List.set_cons_succ]
  refine wpAnyH_take (i := 14) (oi := ⟨_, _, _, _, _, _⟩) (v := ?_) rfl (by kernel_rfl) (by kernel_rfl) (by kernel_rfl) (fun _ _ _ h => h) (Or.inl ⟨by kernel_rfl, ?_⟩) hHeld ?_
  rotate_left
  · (intro w hSw; obtain ⟨s1, s2⟩ := hSw; go_simp; try with_reducible rfl)
  simp only [Act.put, List.setIfInBounds_toArray, List.set_cons_zero, List.set_cons_succ]
  refine wpAnyH_done (by kernel_rfl) ?_ _
  by_cases hU : Uses p C D
  case neg =>
    have hsf : rs = false := by rw [hrs.out]; exact decide_eq_false hU
    subst hsf
    have hrf := hbad.out (fun h => hU (good_uses p C D (lies_long HI.out.lies) h))
    subst hrf
    go_wp2_with (fail)
    go_ret
    exact ⟨rfl, HA3.out.below⟩
  have hst : rs = true := by rw [hrs.out]; exact decide_eq_true hU
  subst hst
  have k0 : w3.cell? ⟨g, 0, none⟩ = some (.int .i64 p.ty) := HA3.out.at_.cell 0
  have k2 : w3.cell? ⟨g, 2, none⟩ = some (.int .i64 p.id) := HA3.out.at_.cell 2
  have HGI := Lib.hid (good_1 p C D (lies_long HI.out.lies) h)
  have hid := uses_id hU (by omega)
  rw [hid] at k2
  rw [h] at k0
  go_wp2_with (with_reducible refine wp_load_pkt (o := ⟨some 33, _, _, _, _, _⟩) rfl rfl rfl HA3.out.at_ ?_)
  refine (connect_calls w3 p HI.out.pass HI.out.payload).mono ?_
  rintro e w4 ⟨rfl, hb4⟩
  have HA4 : Hid (At w w4 g p) := HA3.out.old hb4
  clear hb4
  by_cases hx : ConR p
  case neg =>
    rw [decide_eq_false hx]
    have hrf := hbad.out (fun h' => hx (HGI.out.1 h').2)
    clear hx
    subst hrf
    go_wp2_with (fail)
    go_ret
    exact ⟨rfl, HA4.out.below⟩
  rw [decide_eq_true hx]
  have hgood := HGI.out.2 ⟨hU, hx⟩
  clear hx
  have hre := HGM.out hgood
  have hzz := uses_C hU
  have htt := HTY.out
  have HBC := Lib.hid (body_calls w4 p C D (HI.out.fit HA4.out hgood) hzz htt)
  clear hzz htt
  obtain ⟨n1, hn1⟩ : ∃ n, Hid (n = (bodyB p C D).length) := ⟨_, rfl⟩
  rw [← hn1.out] at hre
  have hn1b := HI.out.len hgood
  rw [← hn1.out] at hn1b
  go_wp2_with (with_reducible refine wp_load_pktG (o := ⟨some 129, _, _, _, _, _⟩) rfl rfl HA4.out.at_ ?_ (by with_unfolding_all rfl))
  refine HBC.out.mono ?_
  rintro e w9 ⟨A9, c9, rfl, ho9, hb9⟩
  have HB9 : Hid (Below w.heap.size w w9) := (HA4.out.old hb9).below
  rw [← hn1.out]
  clear ho9 hb9
  go_wp2_with (fail)
  refine (Var.is_calls w9 (n1 : Int)).mono ?_
  rintro e w' ⟨rfl, rfl⟩
  have hre2 : decide (0 ≤ (n1 : Int) ∧ (n1 : Int) ≤ 268435455) = r := by
    rw [hre, decide_eq_decide]; constructor
    · intro h; have := h.2; omega
    · intro h; exact ⟨by omega, by omega⟩
  rw [hre2]
  clear hre
  go_wp2_with (fail)
  go_ret
  exact ⟨by simp, HB9.out⟩
set_option maxRecDepth 100000 in
set_option maxHeartbeats 2000000 in
theorem may_2 (w : World) (p : Pkt) (C : List Int) (D : List (ByteArray × Int)) (hI : MayIn w p C D) (h : p.ty = 2) : Calls Tryd.prog 15 #[.agg p.cells] w fun e w' => e = .returned (.bool (decide (May p C D))) ∧ Below w.heap.size w w' := by
  have HI := Lib.hid hI
  have hA := at_box w p
  obtain ⟨W, hW⟩ : ∃ W, Hid (W = w.alloc (.cells p.cells PT)) := ⟨_, rfl⟩
  obtain ⟨g, hg⟩ : ∃ g, Hid (g = w.heap.size) := ⟨_, rfl⟩
  rw [← hW.out, ← hg.out] at hA
  have HA := Lib.hid hA
  have HAd : Hid (At w W.drew g p) := HA.out.drew
  have k0 : W.cell? ⟨g, 0, none⟩ = some (.int .i64 p.ty) := hA.at_.cell 0
  obtain ⟨r, hr⟩ : ∃ r, Hid (decide (May p C D) = r) := ⟨decide (May p C D), by rw [Hid]⟩
  rw [hr.out]
  have HGM : Hid (Pk.Good p C D → r = decide ((bodyB p C D).length ≤ 268435455)) := fun hG => by rw [← hr.out, decide_eq_decide]; exact ⟨fun h => h.2, fun h => ⟨hG, h⟩⟩
  have hbad : Hid (¬ Pk.Good p C D → r = false) := fun hc => by rw [← hr.out]; exact decide_eq_false (fun h => hc h.1)
  clear hA hI
  have HTY : Hid (1 ≤ p.ty ∧ p.ty ≤ 14) := ⟨by omega, by omega⟩
  obtain ⟨rs, hrs⟩ : ∃ rs, Hid (rs = decide (Uses p C D)) := ⟨_, rfl⟩
  have hsame : Hid (decide (SameP p (usedP p) C (usedC p C) D (usedD p D)) = rs) := by rw [hrs.out, Hid, decide_eq_decide]; exact Iff.rfl
  have d1 : decide (p.ty < 1) = false := decide_eq_false (by omega)
  have d14 : decide (14 < p.ty) = false := decide_eq_false (by omega)
  go_enter Tryd.func15, Tryd.ntmps15
  go_upto_region 1 with (fail)
  rw [← hW.out, ← hg.out]
  refine wp_region_held_drew (S := (fun W' => Hid (At w W' g p) ∧ W'.cell? ⟨g, 0, none⟩ = some (.int .i64 p.ty))) (by kernel_rfl) (by first | exact ⟨HAd.out, HAd.out.at_.cell 0⟩ | exact ⟨HA2.out, HA2.out.at_.cell 0⟩ | exact ⟨HA3.out, HA3.out.at_.cell 0⟩) (fun hHeld => ?_)
  refine wpAnyH_take (i := 0) (oi := ⟨_, _, _, _, _, _⟩) (v := ?_) rfl (by kernel_rfl) (by kernel_rfl) (by kernel_rfl) (fun _ _ _ h => h) (Or.inl ⟨by kernel_rfl, ?_⟩) hHeld ?_
  rotate_left
  · (intro w hSw; obtain ⟨s1, s2⟩ := hSw; go_simp; try with_reducible rfl)
  simp only [Act.put, List.setIfInBounds_toArray, List.set_cons_zero, List.set_cons_succ]
  refine wpAnyH_take (i := 1) (oi := ⟨_, _, _, _, _, _⟩) (v := ?_) rfl (by kernel_rfl) (by kernel_rfl) (by kernel_rfl) (fun _ _ _ h => h) (Or.inl ⟨by kernel_rfl, ?_⟩) hHeld ?_
  rotate_left
  · (intro w hSw; obtain ⟨s1, s2⟩ := hSw; go_simp; try with_reducible rfl)
  simp only [Act.put, List.setIfInBounds_toArray, List.set_cons_zero, List.set_cons_succ]
  refine wpAnyH_take (i := 2) (oi := ⟨_, _, _, _, _, _⟩) (v := ?_) rfl (by kernel_rfl) (by kernel_rfl) (by kernel_rfl) (fun _ _ _ h => h) (Or.inl ⟨by kernel_rfl, ?_⟩) hHeld ?_
  rotate_left
  · (intro w hSw; obtain ⟨s1, s2⟩ := hSw; go_simp; try with_reducible rfl)
  simp only [Act.put, List.setIfInBounds_toArray, List.set_cons_zero, List.set_cons_succ]
  refine wpAnyH_take (i := 3) (oi := ⟨_, _, _, _, _, _⟩) (v := ?_) rfl (by kernel_rfl) (by kernel_rfl) (by kernel_rfl) (fun _ _ _ h => h) (Or.inl ⟨by kernel_rfl, ?_⟩) hHeld ?_
  rotate_left
  · (intro w hSw; obtain ⟨s1, s2⟩ := hSw; go_simp; try with_reducible rfl)
  simp only [Act.put, List.setIfInBounds_toArray, List.set_cons_zero, List.set_cons_succ]
  refine wpAnyH_take (i := 4) (oi := ⟨_, _, _, _, _, _⟩) (v := ?_) rfl (by kernel_rfl) (by kernel_rfl) (by kernel_rfl) (fun _ _ _ h => h) (Or.inl ⟨by kernel_rfl, ?_⟩) hHeld ?_
  rotate_left
  · (intro w hSw; obtain ⟨s1, s2⟩ := hSw; go_simp; try with_reducible rfl)
  simp only [Act.put, List.setIfInBounds_toArray, List.set_cons_zero, List.set_cons_succ]
  refine wpAnyH_take (i := 5) (oi := ⟨_, _, _, _, _, _⟩) (v := ?_) rfl (by kernel_rfl) (by kernel_rfl) (by kernel_rfl) (fun _ _ _ h => h) (Or.inl ⟨by kernel_rfl, ?_⟩) hHeld ?_
  rotate_left
  · (intro w hSw; obtain ⟨s1, s2⟩ := hSw; go_simp; try with_reducible rfl)
  simp only [Act.put, List.setIfInBounds_toArray, List.set_cons_zero, List.set_cons_succ]
  refine wpAnyH_take (i := 6) (oi := ⟨_, _, _, _, _, _⟩) (v := ?_) rfl (by kernel_rfl) (by kernel_rfl) (by kernel_rfl) (fun _ _ _ h => h) (Or.inl ⟨by kernel_rfl, ?_⟩) hHeld ?_
  rotate_left
  · (intro w hSw; obtain ⟨s1, s2⟩ := hSw; go_simp; try with_reducible rfl)
  simp only [Act.put, List.setIfInBounds_toArray, List.set_cons_zero, List.set_cons_succ]
  refine wpAnyH_take (i := 7) (oi := ⟨_, _, _, _, _, _⟩) (v := ?_) rfl (by kernel_rfl) (by kernel_rfl) (by kernel_rfl) (fun _ _ _ h => h) (Or.inl ⟨by kernel_rfl, ?_⟩) hHeld ?_
  rotate_left
  · (intro w hSw; obtain ⟨s1, s2⟩ := hSw; go_simp; try with_reducible rfl)
  simp only [Act.put, List.setIfInBounds_toArray, List.set_cons_zero, List.set_cons_succ]
  refine wpAnyH_take (i := 8) (oi := ⟨_, _, _, _, _, _⟩) (v := ?_) rfl (by kernel_rfl) (by kernel_rfl) (by kernel_rfl) (fun _ _ _ h => h) (Or.inl ⟨by kernel_rfl, ?_⟩) hHeld ?_
  rotate_left
  · (intro w hSw; obtain ⟨s1, s2⟩ := hSw; go_simp; try with_reducible rfl)
  simp only [Act.put, List.setIfInBounds_toArray, List.set_cons_zero, List.set_cons_succ]
  refine wpAnyH_take (i := 9) (oi := ⟨_, _, _, _, _, _⟩) (v := .agg p.cells) rfl (by kernel_rfl) (by kernel_rfl) (by kernel_rfl) (fun _ _ _ h => h) (Or.inl ⟨by kernel_rfl, ?_⟩) hHeld ?_
  · (intro w hSw; obtain ⟨s1, s2⟩ := hSw; exact rLoad (x := .tmp 1) rfl (by exact load_pkt _ _ _ s1.out.at_))
  simp only [Act.put, List.setIfInBounds_toArray, List.set_cons_zero, List.set_cons_succ]
  refine wpAnyH_take (i := 10) (oi := ⟨_, _, _, _, _, _⟩) (v := .agg p.cells) rfl (by kernel_rfl) (by kernel_rfl) (by kernel_rfl) (fun _ _ _ h => h) (Or.inl ⟨by kernel_rfl, ?_⟩) hHeld ?_
  · (intro w hSw; obtain ⟨s1, s2⟩ := hSw; exact rLoad (x := .tmp 1) rfl (by exact load_pkt _ _ _ s1.out.at_))
  simp only [Act.put, List.setIfInBounds_toArray, List.set_cons_zero, List.set_cons_succ]
  refine wpAnyH_ready (rs := [11]) (by kernel_rfl) (by simp) ?_
  refine AllReadyH.cons rfl (fun K hK => ?_) AllReadyH.nil
  go_simp
  go_wp2_with (go_at_call 38; refine (used_calls _ p ⟨HI.out.lies.fit.codes, HI.out.lies.fit.subs⟩ HTY.out).mono ?_; rintro e w2 ⟨rfl, hb2⟩; have HA2 : Hid (At w w2 g p) := HAd.out.old hb2; clear hb2)
  refine hK.out _ _ (by first | exact ⟨HAd.out, HAd.out.at_.cell 0⟩ | exact ⟨HA2.out, HA2.out.at_.cell 0⟩ | exact ⟨HA3.out, HA3.out.at_.cell 0⟩) (fun hHeld => ?_)
  clear hK K
  refine wpAnyH_ready (rs := [12]) (by kernel_rfl) (by simp) ?_
  refine AllReadyH.cons rfl (fun K hK => ?_) AllReadyH.nil
  go_simp
  go_wp2_with (go_at_call 37; refine (same_calls _ p (usedP p) C (usedC p C) D (usedD p D) (HI.out.lies.keep HA2.out.below) (lies_used (HI.out.lies.keep HA2.out.below)) HI.out.c HI.out.d).mono ?_; rintro e w3 ⟨rfl, hb3⟩; have HA3 : Hid (At w w3 g p) := HA2.out.old hb3; clear hb3; rw [hsame.out])
  refine hK.out _ _ (by first | exact ⟨HAd.out, HAd.out.at_.cell 0⟩ | exact ⟨HA2.out, HA2.out.at_.cell 0⟩ | exact ⟨HA3.out, HA3.out.at_.cell 0⟩) (fun hHeld => ?_)
  clear hK K
  refine wpAnyH_take (i := 13) (oi := ⟨_, _, _, _, _, _⟩) (v := ?_) rfl (by kernel_rfl) (by kernel_rfl) (by kernel_rfl) (fun _ _ _ h => h) (Or.inl ⟨by kernel_rfl, ?_⟩) hHeld ?_
  rotate_left
  · (intro w hSw; obtain ⟨s1, s2⟩ := hSw; go_simp; try with_reducible rfl)
  simp only [Act.put, List.setIfInBounds_toArray, List.set_cons_zero, List.set_cons_succ]
  refine wpAnyH_take (i := 14) (oi := ⟨_, _, _, _, _, _⟩) (v := ?_) rfl (by kernel_rfl) (by kernel_rfl) (by kernel_rfl) (fun _ _ _ h => h) (Or.inl ⟨by kernel_rfl, ?_⟩) hHeld ?_
  rotate_left
  · (intro w hSw; obtain ⟨s1, s2⟩ := hSw; go_simp; try with_reducible rfl)
  simp only [Act.put, List.setIfInBounds_toArray, List.set_cons_zero, List.set_cons_succ]
  refine wpAnyH_done (by kernel_rfl) ?_ _
  by_cases hU : Uses p C D
  case neg =>
    have hsf : rs = false := by rw [hrs.out]; exact decide_eq_false hU
    subst hsf
    have hrf := hbad.out (fun h => hU (good_uses p C D (lies_long HI.out.lies) h))
    subst hrf
    go_wp2_with (fail)
    go_ret
    exact ⟨rfl, HA3.out.below⟩
  have hst : rs = true := by rw [hrs.out]; exact decide_eq_true hU
  subst hst
  have k0 : w3.cell? ⟨g, 0, none⟩ = some (.int .i64 p.ty) := HA3.out.at_.cell 0
  have k2 : w3.cell? ⟨g, 2, none⟩ = some (.int .i64 p.id) := HA3.out.at_.cell 2
  have HGI := Lib.hid (good_2 p C D (lies_long HI.out.lies) h)
  have hid := uses_id hU (by omega)
  rw [hid] at k2
  rw [h] at k0
  have k12 : w3.cell? ⟨g, 15, none⟩ = some (.bool p.present) := HA3.out.at_.cell 15
  obtain ⟨Ac, cc, hcs, hCr⟩ := (HI.out.lies.keep HA3.out.below).codes
  have k13 : w3.cell? ⟨g, 16, none⟩ = some (.slice Ac C.length cc) := by rw [← hcs]; exact HA3.out.at_.cell 16
  by_cases hl : C.length = 1
  case neg =>
    have hrf := hbad.out (fun h' => hl (HGI.out.1 h').2.1)
    obtain ⟨n, hn⟩ : ∃ n, Hid (n = C.length) := ⟨_, rfl⟩
    rw [← hn.out] at hl k13
    have e1 : ((n : Int) == 1) = false := beq_eq_false_iff_ne.2 (by omega)
    have e2 : decide ((n : Int) = 1) = false := decide_eq_false (by omega)
    have e3 : (n == 1) = false := beq_eq_false_iff_ne.2 hl
    have e4 : decide (n = 1) = false := decide_eq_false hl
    clear hCr hcs
    subst hrf
    go_wp2_with (fail)
    go_ret
    exact ⟨rfl, HA3.out.below⟩
  obtain ⟨x, rfl, hcell⟩ := hCr (by omega)
  have hx0 := hcell 0 (by omega)
  have hx : w3.cell? x = some (.int .i64 (lat C 0)) := by
    have e : x.add 0 = x := by simp [Addr.add]
    rw [e] at hx0; exact hx0
  have HGJ : Hid (Pk.Good p C D ↔ 0 ≤ lat C 0 ∧ lat C 0 ≤ 5 ∧ (p.present = false ∨ lat C 0 = 0)) := ⟨fun h' => (HGI.out.1 h').2.2, fun h' => HGI.out.2 ⟨hU, hl, h'⟩⟩
  rw [hl] at k13
  obtain ⟨c0, hc0⟩ : ∃ c0, Hid (c0 = lat C 0) := ⟨_, rfl⟩
  rw [← hc0.out] at hx HGJ
  clear hcell hx0 hcs hCr hl
  by_cases b1 : 0 ≤ c0
  case neg =>
    have hrf := hbad.out (fun h' => b1 (HGJ.out.1 h').1)
    have b1 : decide (0 ≤ c0) = false := decide_eq_false b1
    subst hrf
    go_wp2_with (fail)
    go_ret
    exact ⟨rfl, HA3.out.below⟩
  by_cases b2 : c0 ≤ 5
  case neg =>
    have hrf := hbad.out (fun h' => b2 (HGJ.out.1 h').2.1)
    have b1 : decide (0 ≤ c0) = true := decide_eq_true b1
    have b2 : decide (c0 ≤ 5) = false := decide_eq_false b2
    subst hrf
    go_wp2_with (fail)
    go_ret
    exact ⟨rfl, HA3.out.below⟩
  have HGK : Hid (p.present = false ∨ c0 = 0 ↔ Pk.Good p C D) := ⟨fun h' => HGJ.out.2 ⟨b1, b2, h'⟩, fun h' => (HGJ.out.1 h').2.2⟩
  have b0 := Lib.hid b1
  have b1 : decide (0 ≤ c0) = true := decide_eq_true b1
  have b2 : decide (c0 ≤ 5) = true := decide_eq_true b2
  cases hp : p.present with
  | false =>
    rw [hp] at k12
    have hgood := HGK.out.1 (.inl hp)
    have hre := HGM.out hgood
    have hzz := uses_C hU
    have htt := HTY.out
    have HBC := Lib.hid (body_calls w3 p C D (HI.out.fit HA3.out hgood) hzz htt)
    clear hzz htt
    obtain ⟨n1, hn1⟩ : ∃ n, Hid (n = (bodyB p C D).length) := ⟨_, rfl⟩
    rw [← hn1.out] at hre
    have hn1b := HI.out.len hgood
    rw [← hn1.out] at hn1b
    go_wp2_with (with_reducible refine wp_load_pktG (o := ⟨some 129, _, _, _, _, _⟩) rfl rfl HA3.out.at_ ?_ (by with_unfolding_all rfl))
    refine HBC.out.mono ?_
    rintro e w9 ⟨A9, c9, rfl, ho9, hb9⟩
    have HB9 : Hid (Below w.heap.size w w9) := (HA3.out.old hb9).below
    rw [← hn1.out]
    clear ho9 hb9
    go_wp2_with (fail)
    refine (Var.is_calls w9 (n1 : Int)).mono ?_
    rintro e w' ⟨rfl, rfl⟩
    have hre2 : decide (0 ≤ (n1 : Int) ∧ (n1 : Int) ≤ 268435455) = r := by
      rw [hre, decide_eq_decide]; constructor
      · intro h; have := h.2; omega
      · intro h; exact ⟨by omega, by omega⟩
    rw [hre2]
    clear hre
    go_wp2_with (fail)
    go_ret
    exact ⟨by simp, HB9.out⟩
  | true =>
    rw [hp] at k12
    by_cases b3 : c0 = 0
    case pos =>
      have hgood := HGK.out.1 (.inr b3)
      rw [b3] at hx
      have hre := HGM.out hgood
      have hzz := uses_C hU
      have htt := HTY.out
      have HBC := Lib.hid (body_calls w3 p C D (HI.out.fit HA3.out hgood) hzz htt)
      clear hzz htt
      obtain ⟨n1, hn1⟩ : ∃ n, Hid (n = (bodyB p C D).length) := ⟨_, rfl⟩
      rw [← hn1.out] at hre
      have hn1b := HI.out.len hgood
      rw [← hn1.out] at hn1b
      go_wp2_with (with_reducible refine wp_load_pktG (o := ⟨some 129, _, _, _, _, _⟩) rfl rfl HA3.out.at_ ?_ (by with_unfolding_all rfl))
      refine HBC.out.mono ?_
      rintro e w9 ⟨A9, c9, rfl, ho9, hb9⟩
      have HB9 : Hid (Below w.heap.size w w9) := (HA3.out.old hb9).below
      rw [← hn1.out]
      clear ho9 hb9
      go_wp2_with (fail)
      refine (Var.is_calls w9 (n1 : Int)).mono ?_
      rintro e w' ⟨rfl, rfl⟩
      have hre2 : decide (0 ≤ (n1 : Int) ∧ (n1 : Int) ≤ 268435455) = r := by
        rw [hre, decide_eq_decide]; constructor
        · intro h; have := h.2; omega
        · intro h; exact ⟨by omega, by omega⟩
      rw [hre2]
      clear hre
      go_wp2_with (fail)
      go_ret
      exact ⟨by simp, HB9.out⟩
    have hrf := hbad.out (fun h' => by rcases HGK.out.2 h' with h' | h'; (rw [hp] at h'; cases h'); exact b3 h')
    have b3 : decide (0 < c0) = true := decide_eq_true (by have := b0.out; omega)
    subst hrf
    go_wp2_with (fail)
    go_ret
    exact ⟨rfl, HA3.out.below⟩
set_option maxRecDepth 100000 in
set_option maxHeartbeats 2000000 in
theorem may_3low (w : World) (p : Pkt) (C : List Int) (D : List (ByteArray × Int)) (hI : MayIn w p C D) (h : p.ty = 3) (hid1 : p.id < 1) : Calls Tryd.prog 15 #[.agg p.cells] w fun e w' => e = .returned (.bool (decide (May p C D))) ∧ Below w.heap.size w w' := by
  have HI := Lib.hid hI
  have hA := at_box w p
  obtain ⟨W, hW⟩ : ∃ W, Hid (W = w.alloc (.cells p.cells PT)) := ⟨_, rfl⟩
  obtain ⟨g, hg⟩ : ∃ g, Hid (g = w.heap.size) := ⟨_, rfl⟩
  rw [← hW.out, ← hg.out] at hA
  have HA := Lib.hid hA
  have HAd : Hid (At w W.drew g p) := HA.out.drew
  have k0 : W.cell? ⟨g, 0, none⟩ = some (.int .i64 p.ty) := hA.at_.cell 0
  obtain ⟨r, hr⟩ : ∃ r, Hid (decide (May p C D) = r) := ⟨decide (May p C D), by rw [Hid]⟩
  rw [hr.out]
  have HGM : Hid (Pk.Good p C D → r = decide ((bodyB p C D).length ≤ 268435455)) := fun hG => by rw [← hr.out, decide_eq_decide]; exact ⟨fun h => h.2, fun h => ⟨hG, h⟩⟩
  have hbad : Hid (¬ Pk.Good p C D → r = false) := fun hc => by rw [← hr.out]; exact decide_eq_false (fun h => hc h.1)
  clear hA hI
  have HTY : Hid (1 ≤ p.ty ∧ p.ty ≤ 14) := ⟨by omega, by omega⟩
  obtain ⟨rs, hrs⟩ : ∃ rs, Hid (rs = decide (Uses p C D)) := ⟨_, rfl⟩
  have hsame : Hid (decide (SameP p (usedP p) C (usedC p C) D (usedD p D)) = rs) := by rw [hrs.out, Hid, decide_eq_decide]; exact Iff.rfl
  have d1 : decide (p.ty < 1) = false := decide_eq_false (by omega)
  have d14 : decide (14 < p.ty) = false := decide_eq_false (by omega)
  go_enter Tryd.func15, Tryd.ntmps15
  go_upto_region 1 with (fail)
  rw [← hW.out, ← hg.out]
  refine wp_region_held_drew (S := (fun W' => Hid (At w W' g p) ∧ W'.cell? ⟨g, 0, none⟩ = some (.int .i64 p.ty))) (by kernel_rfl) (by first | exact ⟨HAd.out, HAd.out.at_.cell 0⟩ | exact ⟨HA2.out, HA2.out.at_.cell 0⟩ | exact ⟨HA3.out, HA3.out.at_.cell 0⟩) (fun hHeld => ?_)
  refine wpAnyH_take (i := 0) (oi := ⟨_, _, _, _, _, _⟩) (v := ?_) rfl (by kernel_rfl) (by kernel_rfl) (by kernel_rfl) (fun _ _ _ h => h) (Or.inl ⟨by kernel_rfl, ?_⟩) hHeld ?_
  rotate_left
  · (intro w hSw; obtain ⟨s1, s2⟩ := hSw; go_simp; try with_reducible rfl)
  simp only [Act.put, List.setIfInBounds_toArray, List.set_cons_zero, List.set_cons_succ]
  refine wpAnyH_take (i := 1) (oi := ⟨_, _, _, _, _, _⟩) (v := ?_) rfl (by kernel_rfl) (by kernel_rfl) (by kernel_rfl) (fun _ _ _ h => h) (Or.inl ⟨by kernel_rfl, ?_⟩) hHeld ?_
  rotate_left
  · (intro w hSw; obtain ⟨s1, s2⟩ := hSw; go_simp; try with_reducible rfl)
  simp only [Act.put, List.setIfInBounds_toArray, List.set_cons_zero, List.set_cons_succ]
  refine wpAnyH_take (i := 2) (oi := ⟨_, _, _, _, _, _⟩) (v := ?_) rfl (by kernel_rfl) (by kernel_rfl) (by kernel_rfl) (fun _ _ _ h => h) (Or.inl ⟨by kernel_rfl, ?_⟩) hHeld ?_
  rotate_left
  · (intro w hSw; obtain ⟨s1, s2⟩ := hSw; go_simp; try with_reducible rfl)
  simp only [Act.put, List.setIfInBounds_toArray, List.set_cons_zero, List.set_cons_succ]
  refine wpAnyH_take (i := 3) (oi := ⟨_, _, _, _, _, _⟩) (v := ?_) rfl (by kernel_rfl) (by kernel_rfl) (by kernel_rfl) (fun _ _ _ h => h) (Or.inl ⟨by kernel_rfl, ?_⟩) hHeld ?_
  rotate_left
  · (intro w hSw; obtain ⟨s1, s2⟩ := hSw; go_simp; try with_reducible rfl)
  simp only [Act.put, List.setIfInBounds_toArray, List.set_cons_zero, List.set_cons_succ]
  refine wpAnyH_take (i := 4) (oi := ⟨_, _, _, _, _, _⟩) (v := ?_) rfl (by kernel_rfl) (by kernel_rfl) (by kernel_rfl) (fun _ _ _ h => h) (Or.inl ⟨by kernel_rfl, ?_⟩) hHeld ?_
  rotate_left
  · (intro w hSw; obtain ⟨s1, s2⟩ := hSw; go_simp; try with_reducible rfl)
  simp only [Act.put, List.setIfInBounds_toArray, List.set_cons_zero, List.set_cons_succ]
  refine wpAnyH_take (i := 5) (oi := ⟨_, _, _, _, _, _⟩) (v := ?_) rfl (by kernel_rfl) (by kernel_rfl) (by kernel_rfl) (fun _ _ _ h => h) (Or.inl ⟨by kernel_rfl, ?_⟩) hHeld ?_
  rotate_left
  · (intro w hSw; obtain ⟨s1, s2⟩ := hSw; go_simp; try with_reducible rfl)
  simp only [Act.put, List.setIfInBounds_toArray, List.set_cons_zero, List.set_cons_succ]
  refine wpAnyH_take (i := 6) (oi := ⟨_, _, _, _, _, _⟩) (v := ?_) rfl (by kernel_rfl) (by kernel_rfl) (by kernel_rfl) (fun _ _ _ h => h) (Or.inl ⟨by kernel_rfl, ?_⟩) hHeld ?_
  rotate_left
  · (intro w hSw; obtain ⟨s1, s2⟩ := hSw; go_simp; try with_reducible rfl)
  simp only [Act.put, List.setIfInBounds_toArray, List.set_cons_zero, List.set_cons_succ]
  refine wpAnyH_take (i := 7) (oi := ⟨_, _, _, _, _, _⟩) (v := ?_) rfl (by kernel_rfl) (by kernel_rfl) (by kernel_rfl) (fun _ _ _ h => h) (Or.inl ⟨by kernel_rfl, ?_⟩) hHeld ?_
  rotate_left
  · (intro w hSw; obtain ⟨s1, s2⟩ := hSw; go_simp; try with_reducible rfl)
  simp only [Act.put, List.setIfInBounds_toArray, List.set_cons_zero, List.set_cons_succ]
  refine wpAnyH_take (i := 8) (oi := ⟨_, _, _, _, _, _⟩) (v := ?_) rfl (by kernel_rfl) (by kernel_rfl) (by kernel_rfl) (fun _ _ _ h => h) (Or.inl ⟨by kernel_rfl, ?_⟩) hHeld ?_
  rotate_left
  · (intro w hSw; obtain ⟨s1, s2⟩ := hSw; go_simp; try with_reducible rfl)
  simp only [Act.put, List.setIfInBounds_toArray, List.set_cons_zero, List.set_cons_succ]
  refine wpAnyH_take (i := 9) (oi := ⟨_, _, _, _, _, _⟩) (v := .agg p.cells) rfl (by kernel_rfl) (by kernel_rfl) (by kernel_rfl) (fun _ _ _ h => h) (Or.inl ⟨by kernel_rfl, ?_⟩) hHeld ?_
  · (intro w hSw; obtain ⟨s1, s2⟩ := hSw; exact rLoad (x := .tmp 1) rfl (by exact load_pkt _ _ _ s1.out.at_))
  simp only [Act.put, List.setIfInBounds_toArray, List.set_cons_zero, List.set_cons_succ]
  refine wpAnyH_take (i := 10) (oi := ⟨_, _, _, _, _, _⟩) (v := .agg p.cells) rfl (by kernel_rfl) (by kernel_rfl) (by kernel_rfl) (fun _ _ _ h => h) (Or.inl ⟨by kernel_rfl, ?_⟩) hHeld ?_
  · (intro w hSw; obtain ⟨s1, s2⟩ := hSw; exact rLoad (x := .tmp 1) rfl (by exact load_pkt _ _ _ s1.out.at_))
  simp only [Act.put, List.setIfInBounds_toArray, List.set_cons_zero, List.set_cons_succ]
  refine wpAnyH_ready (rs := [11]) (by kernel_rfl) (by simp) ?_
  refine AllReadyH.cons rfl (fun K hK => ?_) AllReadyH.nil
  go_simp
  go_wp2_with (go_at_call 38; refine (used_calls _ p ⟨HI.out.lies.fit.codes, HI.out.lies.fit.subs⟩ HTY.out).mono ?_; rintro e w2 ⟨rfl, hb2⟩; have HA2 : Hid (At w w2 g p) := HAd.out.old hb2; clear hb2)
  refine hK.out _ _ (by first | exact ⟨HAd.out, HAd.out.at_.cell 0⟩ | exact ⟨HA2.out, HA2.out.at_.cell 0⟩ | exact ⟨HA3.out, HA3.out.at_.cell 0⟩) (fun hHeld => ?_)
  clear hK K
  refine wpAnyH_ready (rs := [12]) (by kernel_rfl) (by simp) ?_
  refine AllReadyH.cons rfl (fun K hK => ?_) AllReadyH.nil
  go_simp
  go_wp2_with (go_at_call 37; refine (same_calls _ p (usedP p) C (usedC p C) D (usedD p D) (HI.out.lies.keep HA2.out.below) (lies_used (HI.out.lies.keep HA2.out.below)) HI.out.c HI.out.d).mono ?_; rintro e w3 ⟨rfl, hb3⟩; have HA3 : Hid (At w w3 g p) := HA2.out.old hb3; clear hb3; rw [hsame.out])
  refine hK.out _ _ (by first | exact ⟨HAd.out, HAd.out.at_.cell 0⟩ | exact ⟨HA2.out, HA2.out.at_.cell 0⟩ | exact ⟨HA3.out, HA3.out.at_.cell 0⟩) (fun hHeld => ?_)
  clear hK K
  refine wpAnyH_take (i := 13) (oi := ⟨_, _, _, _, _, _⟩) (v := ?_) rfl (by kernel_rfl) (by kernel_rfl) (by kernel_rfl) (fun _ _ _ h => h) (Or.inl ⟨by kernel_rfl, ?_⟩) hHeld ?_
  rotate_left
  · (intro w hSw; obtain ⟨s1, s2⟩ := hSw; go_simp; try with_reducible rfl)
  simp only [Act.put, List.setIfInBounds_toArray, List.set_cons_zero, List.set_cons_succ]
  refine wpAnyH_take (i := 14) (oi := ⟨_, _, _, _, _, _⟩) (v := ?_) rfl (by kernel_rfl) (by kernel_rfl) (by kernel_rfl) (fun _ _ _ h => h) (Or.inl ⟨by kernel_rfl, ?_⟩) hHeld ?_
  rotate_left
  · (intro w hSw; obtain ⟨s1, s2⟩ := hSw; go_simp; try with_reducible rfl)
  simp only [Act.put, List.setIfInBounds_toArray, List.set_cons_zero, List.set_cons_succ]
  refine wpAnyH_done (by kernel_rfl) ?_ _
  by_cases hU : Uses p C D
  case neg =>
    have hsf : rs = false := by rw [hrs.out]; exact decide_eq_false hU
    subst hsf
    have hrf := hbad.out (fun h => hU (good_uses p C D (lies_long HI.out.lies) h))
    subst hrf
    go_wp2_with (fail)
    go_ret
    exact ⟨rfl, HA3.out.below⟩
  have hst : rs = true := by rw [hrs.out]; exact decide_eq_true hU
  subst hst
  have k0 : w3.cell? ⟨g, 0, none⟩ = some (.int .i64 p.ty) := HA3.out.at_.cell 0
  have k2 : w3.cell? ⟨g, 2, none⟩ = some (.int .i64 p.id) := HA3.out.at_.cell 2
  have HGI := Lib.hid (good_3 p C D (lies_long HI.out.lies) h)
  rw [h] at k0
  have k5 : w3.cell? ⟨g, 5, none⟩ = some (.int .i64 p.qos) := HA3.out.at_.cell 5
  have k3 : w3.cell? ⟨g, 3, none⟩ = some (.string p.topic) := HA3.out.at_.cell 3
  have a1 : decide (1 ≤ p.id) = false := decide_eq_false (by omega)
  have hid : ¬ (1 ≤ p.id ∧ p.id ≤ 65535) := fun h' => by omega
  go_wp2_with (fail)
  refine (full_calls w3 p.topic).mono ?_
  rintro e w4 ⟨rfl, hb4⟩
  have HA4 : Hid (At w w4 g p) := HA3.out.old hb4
  have k1 : w4.cell? ⟨g, 1, none⟩ = some (.bool p.dup) := HA4.out.at_.cell 1
  have k2 : w4.cell? ⟨g, 2, none⟩ = some (.int .i64 p.id) := HA4.out.at_.cell 2
  clear hb4
  by_cases b1 : Full p.topic
  case neg =>
    rw [decide_eq_false b1]
    have hrf := hbad.out (fun h' => b1 (HGI.out.1 h').2.1)
    subst hrf
    go_wp2_with (fail)
    go_ret
    exact ⟨rfl, HA4.out.below⟩
  rw [decide_eq_true b1]
  by_cases b2 : 0 ≤ p.qos
  case neg =>
    have hrf := hbad.out (fun h' => b2 (HGI.out.1 h').2.2.1)
    have b2 : decide (0 ≤ p.qos) = false := decide_eq_false b2
    subst hrf
    go_wp2_with (fail)
    go_ret
    exact ⟨rfl, HA4.out.below⟩
  by_cases b3 : p.qos ≤ 2
  case neg =>
    have hrf := hbad.out (fun h' => b3 (HGI.out.1 h').2.2.2.1)
    have b2 : decide (0 ≤ p.qos) = true := decide_eq_true b2
    have b3 : decide (p.qos ≤ 2) = false := decide_eq_false b3
    subst hrf
    go_wp2_with (fail)
    go_ret
    exact ⟨rfl, HA4.out.below⟩
  have HGJ : Hid ((0 < p.qos ∧ IdOk p) ∨ (p.qos = 0 ∧ p.id = 0 ∧ p.dup = false) ↔ Pk.Good p C D) := ⟨fun h' => HGI.out.2 ⟨hU, b1, b2, b3, h'⟩, fun h' => (HGI.out.1 h').2.2.2.2⟩
  have HQ := Lib.hid b2
  have b2 : decide (0 ≤ p.qos) = true := decide_eq_true b2
  have b3 : decide (p.qos ≤ 2) = true := decide_eq_true b3
  by_cases b4 : 0 < p.qos
  case pos =>
    have hrf := hbad.out (fun h' => by rcases HGJ.out.2 h' with h' | h'; (exact hid h'.2); (have := h'.1; omega))
    have b5 : (p.qos == 0) = false := beq_eq_false_iff_ne.2 (by omega)
    have b4 : decide (0 < p.qos) = true := decide_eq_true b4
    subst hrf
    go_wp2_with (fail)
    go_ret
    exact ⟨rfl, HA4.out.below⟩
  have b5 : p.qos = 0 := by have := HQ.out; omega
  have b6 : (p.qos == 0) = true := by rw [b5]; rfl
  have b4 : decide (0 < p.qos) = false := decide_eq_false b4
  by_cases b7 : p.id = 0
  case neg =>
    have hrf := hbad.out (fun h' => by rcases HGJ.out.2 h' with h' | h'; (exact hid h'.2); (exact b7 h'.2.1))
    have b7 : (p.id == 0) = false := beq_eq_false_iff_ne.2 b7
    subst hrf
    go_wp2_with (fail)
    go_ret
    exact ⟨rfl, HA4.out.below⟩
  rw [b7] at k2
  cases hdp : p.dup with
  | true =>
    rw [hdp] at k1
    have hrf := hbad.out (fun h' => by rcases HGJ.out.2 h' with h' | h'; (exact hid h'.2); (have := h'.2.2; rw [hdp] at this; cases this))
    subst hrf
    go_wp2_with (fail)
    go_ret
    exact ⟨rfl, HA4.out.below⟩
  | false =>
    rw [hdp] at k1
    have hgood := HGJ.out.1 (.inr ⟨b5, b7, hdp⟩)
    have hre := HGM.out hgood
    have hzz := uses_C hU
    have htt := HTY.out
    have HBC := Lib.hid (body_calls w4 p C D (HI.out.fit HA4.out hgood) hzz htt)
    clear hzz htt
    obtain ⟨n1, hn1⟩ : ∃ n, Hid (n = (bodyB p C D).length) := ⟨_, rfl⟩
    rw [← hn1.out] at hre
    have hn1b := HI.out.len hgood
    rw [← hn1.out] at hn1b
    go_wp2_with (with_reducible refine wp_load_pktG (o := ⟨some 129, _, _, _, _, _⟩) rfl rfl HA4.out.at_ ?_ (by with_unfolding_all rfl))
    refine HBC.out.mono ?_
    rintro e w9 ⟨A9, c9, rfl, ho9, hb9⟩
    have HB9 : Hid (Below w.heap.size w w9) := (HA4.out.old hb9).below
    rw [← hn1.out]
    clear ho9 hb9
    go_wp2_with (fail)
    refine (Var.is_calls w9 (n1 : Int)).mono ?_
    rintro e w' ⟨rfl, rfl⟩
    have hre2 : decide (0 ≤ (n1 : Int) ∧ (n1 : Int) ≤ 268435455) = r := by
      rw [hre, decide_eq_decide]; constructor
      · intro h; have := h.2; omega
      · intro h; exact ⟨by omega, by omega⟩
    rw [hre2]
    clear hre
    go_wp2_with (fail)
    go_ret
    exact ⟨by simp, HB9.out⟩
set_option maxRecDepth 100000 in
set_option maxHeartbeats 2000000 in
theorem may_3high (w : World) (p : Pkt) (C : List Int) (D : List (ByteArray × Int)) (hI : MayIn w p C D) (h : p.ty = 3) (hid1 : 65535 < p.id) : Calls Tryd.prog 15 #[.agg p.cells] w fun e w' => e = .returned (.bool (decide (May p C D))) ∧ Below w.heap.size w w' := by
  have HI := Lib.hid hI
  have hA := at_box w p
  obtain ⟨W, hW⟩ : ∃ W, Hid (W = w.alloc (.cells p.cells PT)) := ⟨_, rfl⟩
  obtain ⟨g, hg⟩ : ∃ g, Hid (g = w.heap.size) := ⟨_, rfl⟩
  rw [← hW.out, ← hg.out] at hA
  have HA := Lib.hid hA
  have HAd : Hid (At w W.drew g p) := HA.out.drew
  have k0 : W.cell? ⟨g, 0, none⟩ = some (.int .i64 p.ty) := hA.at_.cell 0
  obtain ⟨r, hr⟩ : ∃ r, Hid (decide (May p C D) = r) := ⟨decide (May p C D), by rw [Hid]⟩
  rw [hr.out]
  have HGM : Hid (Pk.Good p C D → r = decide ((bodyB p C D).length ≤ 268435455)) := fun hG => by rw [← hr.out, decide_eq_decide]; exact ⟨fun h => h.2, fun h => ⟨hG, h⟩⟩
  have hbad : Hid (¬ Pk.Good p C D → r = false) := fun hc => by rw [← hr.out]; exact decide_eq_false (fun h => hc h.1)
  clear hA hI
  have HTY : Hid (1 ≤ p.ty ∧ p.ty ≤ 14) := ⟨by omega, by omega⟩
  obtain ⟨rs, hrs⟩ : ∃ rs, Hid (rs = decide (Uses p C D)) := ⟨_, rfl⟩
  have hsame : Hid (decide (SameP p (usedP p) C (usedC p C) D (usedD p D)) = rs) := by rw [hrs.out, Hid, decide_eq_decide]; exact Iff.rfl
  have d1 : decide (p.ty < 1) = false := decide_eq_false (by omega)
  have d14 : decide (14 < p.ty) = false := decide_eq_false (by omega)
  go_enter Tryd.func15, Tryd.ntmps15
  go_upto_region 1 with (fail)
  rw [← hW.out, ← hg.out]
  refine wp_region_held_drew (S := (fun W' => Hid (At w W' g p) ∧ W'.cell? ⟨g, 0, none⟩ = some (.int .i64 p.ty))) (by kernel_rfl) (by first | exact ⟨HAd.out, HAd.out.at_.cell 0⟩ | exact ⟨HA2.out, HA2.out.at_.cell 0⟩ | exact ⟨HA3.out, HA3.out.at_.cell 0⟩) (fun hHeld => ?_)
  refine wpAnyH_take (i := 0) (oi := ⟨_, _, _, _, _, _⟩) (v := ?_) rfl (by kernel_rfl) (by kernel_rfl) (by kernel_rfl) (fun _ _ _ h => h) (Or.inl ⟨by kernel_rfl, ?_⟩) hHeld ?_
  rotate_left
  · (intro w hSw; obtain ⟨s1, s2⟩ := hSw; go_simp; try with_reducible rfl)
  simp only [Act.put, List.setIfInBounds_toArray, List.set_cons_zero, List.set_cons_succ]
  refine wpAnyH_take (i := 1) (oi := ⟨_, _, _, _, _, _⟩) (v := ?_) rfl (by kernel_rfl) (by kernel_rfl) (by kernel_rfl) (fun _ _ _ h => h) (Or.inl ⟨by kernel_rfl, ?_⟩) hHeld ?_
  rotate_left
  · (intro w hSw; obtain ⟨s1, s2⟩ := hSw; go_simp; try with_reducible rfl)
  simp only [Act.put, List.setIfInBounds_toArray, List.set_cons_zero, List.set_cons_succ]
  refine wpAnyH_take (i := 2) (oi := ⟨_, _, _, _, _, _⟩) (v := ?_) rfl (by kernel_rfl) (by kernel_rfl) (by kernel_rfl) (fun _ _ _ h => h) (Or.inl ⟨by kernel_rfl, ?_⟩) hHeld ?_
  rotate_left
  · (intro w hSw; obtain ⟨s1, s2⟩ := hSw; go_simp; try with_reducible rfl)
  simp only [Act.put, List.setIfInBounds_toArray, List.set_cons_zero, List.set_cons_succ]
  refine wpAnyH_take (i := 3) (oi := ⟨_, _, _, _, _, _⟩) (v := ?_) rfl (by kernel_rfl) (by kernel_rfl) (by kernel_rfl) (fun _ _ _ h => h) (Or.inl ⟨by kernel_rfl, ?_⟩) hHeld ?_
  rotate_left
  · (intro w hSw; obtain ⟨s1, s2⟩ := hSw; go_simp; try with_reducible rfl)
  simp only [Act.put, List.setIfInBounds_toArray, List.set_cons_zero, List.set_cons_succ]
  refine wpAnyH_take (i := 4) (oi := ⟨_, _, _, _, _, _⟩) (v := ?_) rfl (by kernel_rfl) (by kernel_rfl) (by kernel_rfl) (fun _ _ _ h => h) (Or.inl ⟨by kernel_rfl, ?_⟩) hHeld ?_
  rotate_left
  · (intro w hSw; obtain ⟨s1, s2⟩ := hSw; go_simp; try with_reducible rfl)
  simp only [Act.put, List.setIfInBounds_toArray, List.set_cons_zero, List.set_cons_succ]
  refine wpAnyH_take (i := 5) (oi := ⟨_, _, _, _, _, _⟩) (v := ?_) rfl (by kernel_rfl) (by kernel_rfl) (by kernel_rfl) (fun _ _ _ h => h) (Or.inl ⟨by kernel_rfl, ?_⟩) hHeld ?_
  rotate_left
  · (intro w hSw; obtain ⟨s1, s2⟩ := hSw; go_simp; try with_reducible rfl)
  simp only [Act.put, List.setIfInBounds_toArray, List.set_cons_zero, List.set_cons_succ]
  refine wpAnyH_take (i := 6) (oi := ⟨_, _, _, _, _, _⟩) (v := ?_) rfl (by kernel_rfl) (by kernel_rfl) (by kernel_rfl) (fun _ _ _ h => h) (Or.inl ⟨by kernel_rfl, ?_⟩) hHeld ?_
  rotate_left
  · (intro w hSw; obtain ⟨s1, s2⟩ := hSw; go_simp; try with_reducible rfl)
  simp only [Act.put, List.setIfInBounds_toArray, List.set_cons_zero, List.set_cons_succ]
  refine wpAnyH_take (i := 7) (oi := ⟨_, _, _, _, _, _⟩) (v := ?_) rfl (by kernel_rfl) (by kernel_rfl) (by kernel_rfl) (fun _ _ _ h => h) (Or.inl ⟨by kernel_rfl, ?_⟩) hHeld ?_
  rotate_left
  · (intro w hSw; obtain ⟨s1, s2⟩ := hSw; go_simp; try with_reducible rfl)
  simp only [Act.put, List.setIfInBounds_toArray, List.set_cons_zero, List.set_cons_succ]
  refine wpAnyH_take (i := 8) (oi := ⟨_, _, _, _, _, _⟩) (v := ?_) rfl (by kernel_rfl) (by kernel_rfl) (by kernel_rfl) (fun _ _ _ h => h) (Or.inl ⟨by kernel_rfl, ?_⟩) hHeld ?_
  rotate_left
  · (intro w hSw; obtain ⟨s1, s2⟩ := hSw; go_simp; try with_reducible rfl)
  simp only [Act.put, List.setIfInBounds_toArray, List.set_cons_zero, List.set_cons_succ]
  refine wpAnyH_take (i := 9) (oi := ⟨_, _, _, _, _, _⟩) (v := .agg p.cells) rfl (by kernel_rfl) (by kernel_rfl) (by kernel_rfl) (fun _ _ _ h => h) (Or.inl ⟨by kernel_rfl, ?_⟩) hHeld ?_
  · (intro w hSw; obtain ⟨s1, s2⟩ := hSw; exact rLoad (x := .tmp 1) rfl (by exact load_pkt _ _ _ s1.out.at_))
  simp only [Act.put, List.setIfInBounds_toArray, List.set_cons_zero, List.set_cons_succ]
  refine wpAnyH_take (i := 10) (oi := ⟨_, _, _, _, _, _⟩) (v := .agg p.cells) rfl (by kernel_rfl) (by kernel_rfl) (by kernel_rfl) (fun _ _ _ h => h) (Or.inl ⟨by kernel_rfl, ?_⟩) hHeld ?_
  · (intro w hSw; obtain ⟨s1, s2⟩ := hSw; exact rLoad (x := .tmp 1) rfl (by exact load_pkt _ _ _ s1.out.at_))
  simp only [Act.put, List.setIfInBounds_toArray, List.set_cons_zero, List.set_cons_succ]
  refine wpAnyH_ready (rs := [11]) (by kernel_rfl) (by simp) ?_
  refine AllReadyH.cons rfl (fun K hK => ?_) AllReadyH.nil
  go_simp
  go_wp2_with (go_at_call 38; refine (used_calls _ p ⟨HI.out.lies.fit.codes, HI.out.lies.fit.subs⟩ HTY.out).mono ?_; rintro e w2 ⟨rfl, hb2⟩; have HA2 : Hid (At w w2 g p) := HAd.out.old hb2; clear hb2)
  refine hK.out _ _ (by first | exact ⟨HAd.out, HAd.out.at_.cell 0⟩ | exact ⟨HA2.out, HA2.out.at_.cell 0⟩ | exact ⟨HA3.out, HA3.out.at_.cell 0⟩) (fun hHeld => ?_)
  clear hK K
  refine wpAnyH_ready (rs := [12]) (by kernel_rfl) (by simp) ?_
  refine AllReadyH.cons rfl (fun K hK => ?_) AllReadyH.nil
  go_simp
  go_wp2_with (go_at_call 37; refine (same_calls _ p (usedP p) C (usedC p C) D (usedD p D) (HI.out.lies.keep HA2.out.below) (lies_used (HI.out.lies.keep HA2.out.below)) HI.out.c HI.out.d).mono ?_; rintro e w3 ⟨rfl, hb3⟩; have HA3 : Hid (At w w3 g p) := HA2.out.old hb3; clear hb3; rw [hsame.out])
  refine hK.out _ _ (by first | exact ⟨HAd.out, HAd.out.at_.cell 0⟩ | exact ⟨HA2.out, HA2.out.at_.cell 0⟩ | exact ⟨HA3.out, HA3.out.at_.cell 0⟩) (fun hHeld => ?_)
  clear hK K
  refine wpAnyH_take (i := 13) (oi := ⟨_, _, _, _, _, _⟩) (v := ?_) rfl (by kernel_rfl) (by kernel_rfl) (by kernel_rfl) (fun _ _ _ h => h) (Or.inl ⟨by kernel_rfl, ?_⟩) hHeld ?_
  rotate_left
  · (intro w hSw; obtain ⟨s1, s2⟩ := hSw; go_simp; try with_reducible rfl)
  simp only [Act.put, List.setIfInBounds_toArray, List.set_cons_zero, List.set_cons_succ]
  refine wpAnyH_take (i := 14) (oi := ⟨_, _, _, _, _, _⟩) (v := ?_) rfl (by kernel_rfl) (by kernel_rfl) (by kernel_rfl) (fun _ _ _ h => h) (Or.inl ⟨by kernel_rfl, ?_⟩) hHeld ?_
  rotate_left
  · (intro w hSw; obtain ⟨s1, s2⟩ := hSw; go_simp; try with_reducible rfl)
  simp only [Act.put, List.setIfInBounds_toArray, List.set_cons_zero, List.set_cons_succ]
  refine wpAnyH_done (by kernel_rfl) ?_ _
  by_cases hU : Uses p C D
  case neg =>
    have hsf : rs = false := by rw [hrs.out]; exact decide_eq_false hU
    subst hsf
    have hrf := hbad.out (fun h => hU (good_uses p C D (lies_long HI.out.lies) h))
    subst hrf
    go_wp2_with (fail)
    go_ret
    exact ⟨rfl, HA3.out.below⟩
  have hst : rs = true := by rw [hrs.out]; exact decide_eq_true hU
  subst hst
  have k0 : w3.cell? ⟨g, 0, none⟩ = some (.int .i64 p.ty) := HA3.out.at_.cell 0
  have k2 : w3.cell? ⟨g, 2, none⟩ = some (.int .i64 p.id) := HA3.out.at_.cell 2
  have HGI := Lib.hid (good_3 p C D (lies_long HI.out.lies) h)
  rw [h] at k0
  have k5 : w3.cell? ⟨g, 5, none⟩ = some (.int .i64 p.qos) := HA3.out.at_.cell 5
  have k3 : w3.cell? ⟨g, 3, none⟩ = some (.string p.topic) := HA3.out.at_.cell 3
  have a1 : decide (1 ≤ p.id) = true := decide_eq_true (by omega)
  have a2 : decide (p.id ≤ 65535) = false := decide_eq_false (by omega)
  have hid : ¬ (1 ≤ p.id ∧ p.id ≤ 65535) := fun h' => by omega
  go_wp2_with (fail)
  refine (full_calls w3 p.topic).mono ?_
  rintro e w4 ⟨rfl, hb4⟩
  have HA4 : Hid (At w w4 g p) := HA3.out.old hb4
  have k1 : w4.cell? ⟨g, 1, none⟩ = some (.bool p.dup) := HA4.out.at_.cell 1
  have k2 : w4.cell? ⟨g, 2, none⟩ = some (.int .i64 p.id) := HA4.out.at_.cell 2
  clear hb4
  by_cases b1 : Full p.topic
  case neg =>
    rw [decide_eq_false b1]
    have hrf := hbad.out (fun h' => b1 (HGI.out.1 h').2.1)
    subst hrf
    go_wp2_with (fail)
    go_ret
    exact ⟨rfl, HA4.out.below⟩
  rw [decide_eq_true b1]
  by_cases b2 : 0 ≤ p.qos
  case neg =>
    have hrf := hbad.out (fun h' => b2 (HGI.out.1 h').2.2.1)
    have b2 : decide (0 ≤ p.qos) = false := decide_eq_false b2
    subst hrf
    go_wp2_with (fail)
    go_ret
    exact ⟨rfl, HA4.out.below⟩
  by_cases b3 : p.qos ≤ 2
  case neg =>
    have hrf := hbad.out (fun h' => b3 (HGI.out.1 h').2.2.2.1)
    have b2 : decide (0 ≤ p.qos) = true := decide_eq_true b2
    have b3 : decide (p.qos ≤ 2) = false := decide_eq_false b3
    subst hrf
    go_wp2_with (fail)
    go_ret
    exact ⟨rfl, HA4.out.below⟩
  have HGJ : Hid ((0 < p.qos ∧ IdOk p) ∨ (p.qos = 0 ∧ p.id = 0 ∧ p.dup = false) ↔ Pk.Good p C D) := ⟨fun h' => HGI.out.2 ⟨hU, b1, b2, b3, h'⟩, fun h' => (HGI.out.1 h').2.2.2.2⟩
  have HQ := Lib.hid b2
  have b2 : decide (0 ≤ p.qos) = true := decide_eq_true b2
  have b3 : decide (p.qos ≤ 2) = true := decide_eq_true b3
  by_cases b4 : 0 < p.qos
  case pos =>
    have hrf := hbad.out (fun h' => by rcases HGJ.out.2 h' with h' | h'; (exact hid h'.2); (have := h'.1; omega))
    have b5 : (p.qos == 0) = false := beq_eq_false_iff_ne.2 (by omega)
    have b4 : decide (0 < p.qos) = true := decide_eq_true b4
    subst hrf
    go_wp2_with (fail)
    go_ret
    exact ⟨rfl, HA4.out.below⟩
  have b5 : p.qos = 0 := by have := HQ.out; omega
  have b6 : (p.qos == 0) = true := by rw [b5]; rfl
  have b4 : decide (0 < p.qos) = false := decide_eq_false b4
  have b7 : (p.id == 0) = false := beq_eq_false_iff_ne.2 (by omega)
  have hrf := hbad.out (fun h' => by rcases HGJ.out.2 h' with h' | h'; (have := h'.1; omega); (have := h'.2.1; omega))
  subst hrf
  go_wp2_with (fail)
  go_ret
  exact ⟨rfl, HA4.out.below⟩
set_option maxRecDepth 100000 in
set_option maxHeartbeats 2000000 in
theorem may_3ok (w : World) (p : Pkt) (C : List Int) (D : List (ByteArray × Int)) (hI : MayIn w p C D) (h : p.ty = 3) (hid : 1 ≤ p.id ∧ p.id ≤ 65535) : Calls Tryd.prog 15 #[.agg p.cells] w fun e w' => e = .returned (.bool (decide (May p C D))) ∧ Below w.heap.size w w' := by
  have HI := Lib.hid hI
  have hA := at_box w p
  obtain ⟨W, hW⟩ : ∃ W, Hid (W = w.alloc (.cells p.cells PT)) := ⟨_, rfl⟩
  obtain ⟨g, hg⟩ : ∃ g, Hid (g = w.heap.size) := ⟨_, rfl⟩
  rw [← hW.out, ← hg.out] at hA
  have HA := Lib.hid hA
  have HAd : Hid (At w W.drew g p) := HA.out.drew
  have k0 : W.cell? ⟨g, 0, none⟩ = some (.int .i64 p.ty) := hA.at_.cell 0
  obtain ⟨r, hr⟩ : ∃ r, Hid (decide (May p C D) = r) := ⟨decide (May p C D), by rw [Hid]⟩
  rw [hr.out]
  have HGM : Hid (Pk.Good p C D → r = decide ((bodyB p C D).length ≤ 268435455)) := fun hG => by rw [← hr.out, decide_eq_decide]; exact ⟨fun h => h.2, fun h => ⟨hG, h⟩⟩
  have hbad : Hid (¬ Pk.Good p C D → r = false) := fun hc => by rw [← hr.out]; exact decide_eq_false (fun h => hc h.1)
  clear hA hI
  have HTY : Hid (1 ≤ p.ty ∧ p.ty ≤ 14) := ⟨by omega, by omega⟩
  obtain ⟨rs, hrs⟩ : ∃ rs, Hid (rs = decide (Uses p C D)) := ⟨_, rfl⟩
  have hsame : Hid (decide (SameP p (usedP p) C (usedC p C) D (usedD p D)) = rs) := by rw [hrs.out, Hid, decide_eq_decide]; exact Iff.rfl
  have d1 : decide (p.ty < 1) = false := decide_eq_false (by omega)
  have d14 : decide (14 < p.ty) = false := decide_eq_false (by omega)
  go_enter Tryd.func15, Tryd.ntmps15
  go_upto_region 1 with (fail)
  rw [← hW.out, ← hg.out]
  refine wp_region_held_drew (S := (fun W' => Hid (At w W' g p) ∧ W'.cell? ⟨g, 0, none⟩ = some (.int .i64 p.ty))) (by kernel_rfl) (by first | exact ⟨HAd.out, HAd.out.at_.cell 0⟩ | exact ⟨HA2.out, HA2.out.at_.cell 0⟩ | exact ⟨HA3.out, HA3.out.at_.cell 0⟩) (fun hHeld => ?_)
  refine wpAnyH_take (i := 0) (oi := ⟨_, _, _, _, _, _⟩) (v := ?_) rfl (by kernel_rfl) (by kernel_rfl) (by kernel_rfl) (fun _ _ _ h => h) (Or.inl ⟨by kernel_rfl, ?_⟩) hHeld ?_
  rotate_left
  · (intro w hSw; obtain ⟨s1, s2⟩ := hSw; go_simp; try with_reducible rfl)
  simp only [Act.put, List.setIfInBounds_toArray, List.set_cons_zero, List.set_cons_succ]
  refine wpAnyH_take (i := 1) (oi := ⟨_, _, _, _, _, _⟩) (v := ?_) rfl (by kernel_rfl) (by kernel_rfl) (by kernel_rfl) (fun _ _ _ h => h) (Or.inl ⟨by kernel_rfl, ?_⟩) hHeld ?_
  rotate_left
  · (intro w hSw; obtain ⟨s1, s2⟩ := hSw; go_simp; try with_reducible rfl)
  simp only [Act.put, List.setIfInBounds_toArray, List.set_cons_zero, List.set_cons_succ]
  refine wpAnyH_take (i := 2) (oi := ⟨_, _, _, _, _, _⟩) (v := ?_) rfl (by kernel_rfl) (by kernel_rfl) (by kernel_rfl) (fun _ _ _ h => h) (Or.inl ⟨by kernel_rfl, ?_⟩) hHeld ?_
  rotate_left
  · (intro w hSw; obtain ⟨s1, s2⟩ := hSw; go_simp; try with_reducible rfl)
  simp only [Act.put, List.setIfInBounds_toArray, List.set_cons_zero, List.set_cons_succ]
  refine wpAnyH_take (i := 3) (oi := ⟨_, _, _, _, _, _⟩) (v := ?_) rfl (by kernel_rfl) (by kernel_rfl) (by kernel_rfl) (fun _ _ _ h => h) (Or.inl ⟨by kernel_rfl, ?_⟩) hHeld ?_
  rotate_left
  · (intro w hSw; obtain ⟨s1, s2⟩ := hSw; go_simp; try with_reducible rfl)
  simp only [Act.put, List.setIfInBounds_toArray, List.set_cons_zero, List.set_cons_succ]
  refine wpAnyH_take (i := 4) (oi := ⟨_, _, _, _, _, _⟩) (v := ?_) rfl (by kernel_rfl) (by kernel_rfl) (by kernel_rfl) (fun _ _ _ h => h) (Or.inl ⟨by kernel_rfl, ?_⟩) hHeld ?_
  rotate_left
  · (intro w hSw; obtain ⟨s1, s2⟩ := hSw; go_simp; try with_reducible rfl)
  simp only [Act.put, List.setIfInBounds_toArray, List.set_cons_zero, List.set_cons_succ]
  refine wpAnyH_take (i := 5) (oi := ⟨_, _, _, _, _, _⟩) (v := ?_) rfl (by kernel_rfl) (by kernel_rfl) (by kernel_rfl) (fun _ _ _ h => h) (Or.inl ⟨by kernel_rfl, ?_⟩) hHeld ?_
  rotate_left
  · (intro w hSw; obtain ⟨s1, s2⟩ := hSw; go_simp; try with_reducible rfl)
  simp only [Act.put, List.setIfInBounds_toArray, List.set_cons_zero, List.set_cons_succ]
  refine wpAnyH_take (i := 6) (oi := ⟨_, _, _, _, _, _⟩) (v := ?_) rfl (by kernel_rfl) (by kernel_rfl) (by kernel_rfl) (fun _ _ _ h => h) (Or.inl ⟨by kernel_rfl, ?_⟩) hHeld ?_
  rotate_left
  · (intro w hSw; obtain ⟨s1, s2⟩ := hSw; go_simp; try with_reducible rfl)
  simp only [Act.put, List.setIfInBounds_toArray, List.set_cons_zero, List.set_cons_succ]
  refine wpAnyH_take (i := 7) (oi := ⟨_, _, _, _, _, _⟩) (v := ?_) rfl (by kernel_rfl) (by kernel_rfl) (by kernel_rfl) (fun _ _ _ h => h) (Or.inl ⟨by kernel_rfl, ?_⟩) hHeld ?_
  rotate_left
  · (intro w hSw; obtain ⟨s1, s2⟩ := hSw; go_simp; try with_reducible rfl)
  simp only [Act.put, List.setIfInBounds_toArray, List.set_cons_zero, List.set_cons_succ]
  refine wpAnyH_take (i := 8) (oi := ⟨_, _, _, _, _, _⟩) (v := ?_) rfl (by kernel_rfl) (by kernel_rfl) (by kernel_rfl) (fun _ _ _ h => h) (Or.inl ⟨by kernel_rfl, ?_⟩) hHeld ?_
  rotate_left
  · (intro w hSw; obtain ⟨s1, s2⟩ := hSw; go_simp; try with_reducible rfl)
  simp only [Act.put, List.setIfInBounds_toArray, List.set_cons_zero, List.set_cons_succ]
  refine wpAnyH_take (i := 9) (oi := ⟨_, _, _, _, _, _⟩) (v := .agg p.cells) rfl (by kernel_rfl) (by kernel_rfl) (by kernel_rfl) (fun _ _ _ h => h) (Or.inl ⟨by kernel_rfl, ?_⟩) hHeld ?_
  · (intro w hSw; obtain ⟨s1, s2⟩ := hSw; exact rLoad (x := .tmp 1) rfl (by exact load_pkt _ _ _ s1.out.at_))
  simp only [Act.put, List.setIfInBounds_toArray, List.set_cons_zero, List.set_cons_succ]
  refine wpAnyH_take (i := 10) (oi := ⟨_, _, _, _, _, _⟩) (v := .agg p.cells) rfl (by kernel_rfl) (by kernel_rfl) (by kernel_rfl) (fun _ _ _ h => h) (Or.inl ⟨by kernel_rfl, ?_⟩) hHeld ?_
  · (intro w hSw; obtain ⟨s1, s2⟩ := hSw; exact rLoad (x := .tmp 1) rfl (by exact load_pkt _ _ _ s1.out.at_))
  simp only [Act.put, List.setIfInBounds_toArray, List.set_cons_zero, List.set_cons_succ]
  refine wpAnyH_ready (rs := [11]) (by kernel_rfl) (by simp) ?_
  refine AllReadyH.cons rfl (fun K hK => ?_) AllReadyH.nil
  go_simp
  go_wp2_with (go_at_call 38; refine (used_calls _ p ⟨HI.out.lies.fit.codes, HI.out.lies.fit.subs⟩ HTY.out).mono ?_; rintro e w2 ⟨rfl, hb2⟩; have HA2 : Hid (At w w2 g p) := HAd.out.old hb2; clear hb2)
  refine hK.out _ _ (by first | exact ⟨HAd.out, HAd.out.at_.cell 0⟩ | exact ⟨HA2.out, HA2.out.at_.cell 0⟩ | exact ⟨HA3.out, HA3.out.at_.cell 0⟩) (fun hHeld => ?_)
  clear hK K
  refine wpAnyH_ready (rs := [12]) (by kernel_rfl) (by simp) ?_
  refine AllReadyH.cons rfl (fun K hK => ?_) AllReadyH.nil
  go_simp
  go_wp2_with (go_at_call 37; refine (same_calls _ p (usedP p) C (usedC p C) D (usedD p D) (HI.out.lies.keep HA2.out.below) (lies_used (HI.out.lies.keep HA2.out.below)) HI.out.c HI.out.d).mono ?_; rintro e w3 ⟨rfl, hb3⟩; have HA3 : Hid (At w w3 g p) := HA2.out.old hb3; clear hb3; rw [hsame.out])
  refine hK.out _ _ (by first | exact ⟨HAd.out, HAd.out.at_.cell 0⟩ | exact ⟨HA2.out, HA2.out.at_.cell 0⟩ | exact ⟨HA3.out, HA3.out.at_.cell 0⟩) (fun hHeld => ?_)
  clear hK K
  refine wpAnyH_take (i := 13) (oi := ⟨_, _, _, _, _, _⟩) (v := ?_) rfl (by kernel_rfl) (by kernel_rfl) (by kernel_rfl) (fun _ _ _ h => h) (Or.inl ⟨by kernel_rfl, ?_⟩) hHeld ?_
  rotate_left
  · (intro w hSw; obtain ⟨s1, s2⟩ := hSw; go_simp; try with_reducible rfl)
  simp only [Act.put, List.setIfInBounds_toArray, List.set_cons_zero, List.set_cons_succ]
  refine wpAnyH_take (i := 14) (oi := ⟨_, _, _, _, _, _⟩) (v := ?_) rfl (by kernel_rfl) (by kernel_rfl) (by kernel_rfl) (fun _ _ _ h => h) (Or.inl ⟨by kernel_rfl, ?_⟩) hHeld ?_
  rotate_left
  · (intro w hSw; obtain ⟨s1, s2⟩ := hSw; go_simp; try with_reducible rfl)
  simp only [Act.put, List.setIfInBounds_toArray, List.set_cons_zero, List.set_cons_succ]
  refine wpAnyH_done (by kernel_rfl) ?_ _
  by_cases hU : Uses p C D
  case neg =>
    have hsf : rs = false := by rw [hrs.out]; exact decide_eq_false hU
    subst hsf
    have hrf := hbad.out (fun h => hU (good_uses p C D (lies_long HI.out.lies) h))
    subst hrf
    go_wp2_with (fail)
    go_ret
    exact ⟨rfl, HA3.out.below⟩
  have hst : rs = true := by rw [hrs.out]; exact decide_eq_true hU
  subst hst
  have k0 : w3.cell? ⟨g, 0, none⟩ = some (.int .i64 p.ty) := HA3.out.at_.cell 0
  have k2 : w3.cell? ⟨g, 2, none⟩ = some (.int .i64 p.id) := HA3.out.at_.cell 2
  have HGI := Lib.hid (good_3 p C D (lies_long HI.out.lies) h)
  rw [h] at k0
  have k5 : w3.cell? ⟨g, 5, none⟩ = some (.int .i64 p.qos) := HA3.out.at_.cell 5
  have k3 : w3.cell? ⟨g, 3, none⟩ = some (.string p.topic) := HA3.out.at_.cell 3
  have a1 : decide (1 ≤ p.id) = true := decide_eq_true hid.1
  have a2 : decide (p.id ≤ 65535) = true := decide_eq_true hid.2
  go_wp2_with (fail)
  refine (full_calls w3 p.topic).mono ?_
  rintro e w4 ⟨rfl, hb4⟩
  have HA4 : Hid (At w w4 g p) := HA3.out.old hb4
  have k1 : w4.cell? ⟨g, 1, none⟩ = some (.bool p.dup) := HA4.out.at_.cell 1
  have k2 : w4.cell? ⟨g, 2, none⟩ = some (.int .i64 p.id) := HA4.out.at_.cell 2
  clear hb4
  by_cases b1 : Full p.topic
  case neg =>
    rw [decide_eq_false b1]
    have hrf := hbad.out (fun h' => b1 (HGI.out.1 h').2.1)
    subst hrf
    go_wp2_with (fail)
    go_ret
    exact ⟨rfl, HA4.out.below⟩
  rw [decide_eq_true b1]
  by_cases b2 : 0 ≤ p.qos
  case neg =>
    have hrf := hbad.out (fun h' => b2 (HGI.out.1 h').2.2.1)
    have b2 : decide (0 ≤ p.qos) = false := decide_eq_false b2
    subst hrf
    go_wp2_with (fail)
    go_ret
    exact ⟨rfl, HA4.out.below⟩
  by_cases b3 : p.qos ≤ 2
  case neg =>
    have hrf := hbad.out (fun h' => b3 (HGI.out.1 h').2.2.2.1)
    have b2 : decide (0 ≤ p.qos) = true := decide_eq_true b2
    have b3 : decide (p.qos ≤ 2) = false := decide_eq_false b3
    subst hrf
    go_wp2_with (fail)
    go_ret
    exact ⟨rfl, HA4.out.below⟩
  have HGJ : Hid ((0 < p.qos ∧ IdOk p) ∨ (p.qos = 0 ∧ p.id = 0 ∧ p.dup = false) ↔ Pk.Good p C D) := ⟨fun h' => HGI.out.2 ⟨hU, b1, b2, b3, h'⟩, fun h' => (HGI.out.1 h').2.2.2.2⟩
  have HQ := Lib.hid b2
  have b2 : decide (0 ≤ p.qos) = true := decide_eq_true b2
  have b3 : decide (p.qos ≤ 2) = true := decide_eq_true b3
  by_cases b4 : 0 < p.qos
  case pos =>
    have hgood := HGJ.out.1 (.inl ⟨b4, hid⟩)
    have b4 : decide (0 < p.qos) = true := decide_eq_true b4
    have hre := HGM.out hgood
    have hzz := uses_C hU
    have htt := HTY.out
    have HBC := Lib.hid (body_calls w4 p C D (HI.out.fit HA4.out hgood) hzz htt)
    clear hzz htt
    obtain ⟨n1, hn1⟩ : ∃ n, Hid (n = (bodyB p C D).length) := ⟨_, rfl⟩
    rw [← hn1.out] at hre
    have hn1b := HI.out.len hgood
    rw [← hn1.out] at hn1b
    go_wp2_with (with_reducible refine wp_load_pktG (o := ⟨some 129, _, _, _, _, _⟩) rfl rfl HA4.out.at_ ?_ (by with_unfolding_all rfl))
    refine HBC.out.mono ?_
    rintro e w9 ⟨A9, c9, rfl, ho9, hb9⟩
    have HB9 : Hid (Below w.heap.size w w9) := (HA4.out.old hb9).below
    rw [← hn1.out]
    clear ho9 hb9
    go_wp2_with (fail)
    refine (Var.is_calls w9 (n1 : Int)).mono ?_
    rintro e w' ⟨rfl, rfl⟩
    have hre2 : decide (0 ≤ (n1 : Int) ∧ (n1 : Int) ≤ 268435455) = r := by
      rw [hre, decide_eq_decide]; constructor
      · intro h; have := h.2; omega
      · intro h; exact ⟨by omega, by omega⟩
    rw [hre2]
    clear hre
    go_wp2_with (fail)
    go_ret
    exact ⟨by simp, HB9.out⟩
  have b5 : p.qos = 0 := by have := HQ.out; omega
  have b6 : (p.qos == 0) = true := by rw [b5]; rfl
  have b4 : decide (0 < p.qos) = false := decide_eq_false b4
  have b7 : (p.id == 0) = false := beq_eq_false_iff_ne.2 (by omega)
  have hrf := hbad.out (fun h' => by rcases HGJ.out.2 h' with h' | h'; (have := h'.1; omega); (have := h'.2.1; omega))
  subst hrf
  go_wp2_with (fail)
  go_ret
  exact ⟨rfl, HA4.out.below⟩
theorem may_calls (w : World) (p : Pkt) (C : List Int) (D : List (ByteArray × Int)) (hI : MayIn w p C D) : Calls Tryd.prog 15 #[.agg p.cells] w fun e w' => e = .returned (.bool (decide (May p C D))) ∧ Below w.heap.size w w' := by
  by_cases t1 : p.ty < 1
  · exact may_low w p C D hI t1
  by_cases t2 : 14 < p.ty
  · exact may_high w p C D hI t2
  rcases (by omega : p.ty = 1 ∨ p.ty = 2 ∨ p.ty = 3 ∨ (p.ty = 4 ∨ p.ty = 5 ∨ p.ty = 6 ∨ p.ty = 7 ∨ p.ty = 11) ∨ (p.ty = 8 ∨ p.ty = 10) ∨ p.ty = 9 ∨ (p.ty = 12 ∨ p.ty = 13 ∨ p.ty = 14)) with h | h | h | h | h | h | h
  · exact may_1 w p C D hI h
  · exact may_2 w p C D hI h
  · by_cases i1 : p.id < 1
    · exact may_3low w p C D hI h i1
    · by_cases i2 : 65535 < p.id
      · exact may_3high w p C D hI h i2
      · exact may_3ok w p C D hI h ⟨by omega, by omega⟩
  · exact may_id w p C D hI h
  · exact may_8 w p C D hI h
  · exact may_9 w p C D hI h
  · exact may_0 w p C D hI h
end Ref
end Go.Proofs.YtonemmdipmohgaaDoor

/- PacketLays: whether a packet may be, and its bytes, are as the document says. -/
import Derived.Test.YteigakkghkjakaaDoorRfJ
namespace Go.Proofs.YteigakkghkjakaaDoor
open Go.RowKit Go.ChangeShapes
set_option linter.unusedVariables false
set_option linter.unusedSimpArgs false
namespace Ref
open Utf (nums nums_length nums_bytes IsStr nums_str)
open Var (BT info_byte GivesBytes digs digs_length)
open Pk

theorem small_in {w : World} {p : Pkt} {C : List Int} {D : List (ByteArray × Int)} (hF : Lies w p C D) (h : SmallP p C D) : MayIn w p C D :=
  ⟨hF, by have := h.codes; omega, by have := h.subs; omega, by have := h.pass; omega, by have := h.payload; omega, small_body hF h⟩
theorem may_fit {w : World} {p : Pkt} {C : List Int} {D : List (ByteArray × Int)} (hI : MayIn w p C D) (h : May p C D) : BodyFit w p C D ∧ ((p.ty ≠ 2 → p.ty ≠ 9 → C = []) ∧ (p.ty ≠ 8 → p.ty ≠ 10 → D = [])) :=
  ⟨good_fit hI.lies h.1 (hI.len h.1), uses_C (good_uses p C D hI.lies.long h.1)⟩

set_option maxRecDepth 100000 in
set_option maxHeartbeats 2000000 in
theorem lays_walk (p : Pkt) (C : List Int) (D : List (ByteArray × Int)) (w : World) (hF : Lies w p C D) (hS : Sized p C D) (hT : Lib.Utf8Tabs 0 1 w) :
    Calls Tryd.prog 6 #[.agg p.cells] w fun e w' => e = .returned (.bool true) ∧ Below w.heap.size w w' := by
  have hA := at_box w p
  obtain ⟨W, hW⟩ : ∃ W, Hid (W = w.alloc (.cells p.cells PT)) := ⟨_, rfl⟩
  obtain ⟨g, hg⟩ : ∃ g, Hid (g = w.heap.size) := ⟨_, rfl⟩
  rw [← hW.out, ← hg.out] at hA
  have HB : Hid (Below w.heap.size w W) := hA.below
  have HP := Lib.hid hA.at_
  have HL : Hid (Lies W p C D) := hF.keep HB.out
  have HT : Hid (Lib.Utf8Tabs 0 1 W) := Utf.tabs_keep hT HB.out
  have HS := Lib.hid hS
  clear hA hF hT hS
  go_enter Tryd.func6, Tryd.ntmps6
  go_upto_region 1 with (fail)
  rw [← hW.out, ← hg.out]
  go_wp2_with (with_reducible refine wp_load_pkt (o := ⟨some 6, _, _, _, _, _⟩) rfl rfl rfl HP.out ?_)
  refine (small_calls W p C D HL.out HS.out).mono ?_
  rintro e w1 ⟨hb1, b, rfl, hsm⟩
  have HB1 : Hid (Below w.heap.size w w1) := HB.out.trans (hb1.mono HB.out.size)
  have HP1 := Lib.hid (HP.out.keep (Turn.of_below (S := fun _ => False) hb1) (fun h => h))
  have HL1 := Lib.hid (HL.out.keep hb1)
  have HT1 : Hid (Lib.Utf8Tabs 0 1 w1) := Utf.tabs_keep HT.out hb1
  cases b with
  | false =>
    clear hb1 hsm
    go_wp2_with (fail)
    go_ret
    exact ⟨rfl, HB1.out⟩
  | true =>
  have HSM := Lib.hid (hsm rfl)
  have HLEN := Lib.hid (small_body HL1.out HSM.out)
  clear hb1 hsm
  go_wp2_with (with_reducible refine wp_load_pkt (o := ⟨some 9, _, _, _, _, _⟩) rfl rfl rfl HP1.out ?_)
  refine (pcheck_calls w1 HT1.out p C D HL1.out HLEN.out).mono ?_
  rintro e w2 ⟨hb2, (⟨hm, rfl⟩ | ⟨hm, rfl⟩)⟩
  · have HB2 : Hid (Below w.heap.size w w2) := HB1.out.trans (hb2.mono HB1.out.size)
    have HP2 := Lib.hid (HP1.out.keep (Turn.of_below (S := fun _ => False) hb2) (fun h => h))
    have HL2 := Lib.hid (HL1.out.keep hb2)
    have HT2 : Hid (Lib.Utf8Tabs 0 1 w2) := Utf.tabs_keep HT1.out hb2
    have HM := Lib.hid hm
    clear hb2 hm
    go_wp2_with (with_reducible refine wp_load_pkt (o := ⟨some 12, _, _, _, _, _⟩) rfl rfl rfl HP2.out ?_)
    refine (Pk.bytes_calls w2 HT2.out p C D HL2.out HLEN.out).mono ?_
    rintro e w3 ⟨hb3, (⟨_, A3, c3, rfl, ho3⟩ | ⟨hnm, _⟩)⟩
    case inr => exact absurd HM.out hnm
    have HB3 : Hid (Below w.heap.size w w3) := HB2.out.trans (hb3.mono HB2.out.size)
    have HP3 := Lib.hid (HP2.out.keep (Turn.of_below (S := fun _ => False) hb3) (fun h => h))
    have HL3 := Lib.hid (HL2.out.keep hb3)
    have HT3 : Hid (Lib.Utf8Tabs 0 1 w3) := Utf.tabs_keep HT2.out hb3
    obtain ⟨L, hL⟩ : ∃ L, Hid (L = bytesB p C D) := ⟨_, rfl⟩
    rw [← hL.out] at ho3 ⊢
    have HO3 := Lib.hid ho3
    clear hb3 ho3
    go_wp2_with (with_reducible refine wp_load_pkt (o := ⟨some 16, _, _, _, _, _⟩) rfl rfl rfl HP3.out ?_)
    refine (may_calls w3 p C D (small_in HL3.out HSM.out)).mono ?_
    rw [decide_eq_true HM.out]
    rintro e w4 ⟨rfl, hb4⟩
    have HB4 : Hid (Below w.heap.size w w4) := HB3.out.trans (hb4.mono HB3.out.size)
    have HP4 := Lib.hid (HP3.out.keep (Turn.of_below (S := fun _ => False) hb4) (fun h => h))
    have HL4 := Lib.hid (HL3.out.keep hb4)
    have HT4 : Hid (Lib.Utf8Tabs 0 1 w4) := Utf.tabs_keep HT3.out hb4
    have HO4 := Lib.hid (HO3.out.turn (Turn.of_below (S := fun _ => False) hb4) (fun _ _ h => h))
    have HRB : Hid (∀ W', Below w4.heap.size w4 W' → Calls Tryd.prog 24 #[.agg p.cells] W' fun e w' => GivesBytes W' L e w') := Lib.hid fun W' hb => by
      have hin := small_in (HL4.out.keep hb) HSM.out
      have hf := may_fit hin HM.out
      rw [hL.out]; exact bytes_calls W' p C D hin.lies HM.out hf.1 hf.2
    have HK : Hid (∀ W', Turn (fun _ => False) w4 W' → PkAt W' g p ∧ (convert 22 9 (.slice A3 L.length c3)).run Tryd.prog W' = .ok (.string (strOfNums L)) W') := Lib.hid fun W' t => ⟨HP4.out.keep t (fun h => h), conv_own (src := 22) (dst := 9) (e := BT) Tryd.underlying22 Tryd.underlying5 Tryd.underlying9 (HO4.out.turn t (fun _ _ h => h))⟩
    have HTT : Hid (∀ W', Turn (fun _ => False) w4 W' → Lib.Utf8Tabs 0 1 W') := Lib.hid fun W' t => Utf.tabs_keep HT4.out (t.toBelow (Nat.le_refl _) (fun _ _ h => h))
    have HT0 : Turn (fun _ => False) w4 w4.drew := Turn.drew (Turn.refl _ _)
    clear hb4
    go_upto_region 7 with (fail)
    refine wp_region_held_drew (S := (fun W' => Hid (PkAt W' g p) ∧ (convert 22 9 (.slice A3 L.length c3)).run Tryd.prog W' = .ok (.string (strOfNums L)) W')) (by kernel_rfl) (by first | exact HK.out _ HT6 | exact HK.out _ HT5 | exact HK.out _ HT0) (fun hHeld => ?_)
    refine wpAnyH_ready (rs := [0]) (by kernel_rfl) (by simp) ?_
    refine AllReadyH.cons rfl (fun K hK => ?_) AllReadyH.nil
    go_simp
    go_wp2_with (go_at_call 17; refine (awake_calls _ (HTT.out _ HT0)).mono ?_; rintro e w5 ⟨rfl, hb5⟩; have HT5 := HT0.trans (Turn.of_below hb5))
    refine hK.out _ _ (by first | exact HK.out _ HT6 | exact HK.out _ HT5 | exact HK.out _ HT0) (fun hHeld => ?_)
    clear hK K
    refine wpAnyH_take (i := 1) (oi := ⟨_, _, _, _, _, _⟩) (v := ?_) rfl (by kernel_rfl) (by kernel_rfl) (by kernel_rfl) (fun _ _ _ h => h) (Or.inl ⟨by kernel_rfl, ?_⟩) hHeld ?_
    rotate_left
    · (intro w hSw; obtain ⟨s1, s2⟩ := hSw; go_simp; try with_reducible rfl)
    simp only [Act.put, List.setIfInBounds_toArray, List.set_cons_zero, List.set_cons_succ]
    refine wpAnyH_take (i := 2) (oi := ⟨_, _, _, _, _, _⟩) (v := ?_) rfl (by kernel_rfl) (by kernel_rfl) (by kernel_rfl) (fun _ _ _ h => h) (Or.inl ⟨by kernel_rfl, ?_⟩) hHeld ?_
    rotate_left
    · (intro w hSw; obtain ⟨s1, s2⟩ := hSw; go_simp; try with_reducible rfl)
    simp only [Act.put, List.setIfInBounds_toArray, List.set_cons_zero, List.set_cons_succ]
    refine wpAnyH_take (i := 3) (oi := ⟨_, _, _, _, _, _⟩) (v := ?_) rfl (by kernel_rfl) (by kernel_rfl) (by kernel_rfl) (fun _ _ _ h => h) (Or.inl ⟨by kernel_rfl, ?_⟩) hHeld ?_
    rotate_left
    · (intro w hSw; obtain ⟨s1, s2⟩ := hSw; go_simp; try with_reducible rfl)
    simp only [Act.put, List.setIfInBounds_toArray, List.set_cons_zero, List.set_cons_succ]
    refine wpAnyH_take (i := 4) (oi := ⟨_, _, _, _, _, _⟩) (v := ?_) rfl (by kernel_rfl) (by kernel_rfl) (by kernel_rfl) (fun _ _ _ h => h) (Or.inl ⟨by kernel_rfl, ?_⟩) hHeld ?_
    rotate_left
    · (intro w hSw; obtain ⟨s1, s2⟩ := hSw; go_simp; try with_reducible rfl)
    simp only [Act.put, List.setIfInBounds_toArray, List.set_cons_zero, List.set_cons_succ]
    refine wpAnyH_take (i := 5) (oi := ⟨_, _, _, _, _, _⟩) (v := ?_) rfl (by kernel_rfl) (by kernel_rfl) (by kernel_rfl) (fun _ _ _ h => h) (Or.inl ⟨by kernel_rfl, ?_⟩) hHeld ?_
    rotate_left
    · (intro w hSw; obtain ⟨s1, s2⟩ := hSw; go_simp; try with_reducible rfl)
    simp only [Act.put, List.setIfInBounds_toArray, List.set_cons_zero, List.set_cons_succ]
    refine wpAnyH_take (i := 6) (oi := ⟨_, _, _, _, _, _⟩) (v := ?_) rfl (by kernel_rfl) (by kernel_rfl) (by kernel_rfl) (fun _ _ _ h => h) (Or.inl ⟨by kernel_rfl, ?_⟩) hHeld ?_
    rotate_left
    · (intro w hSw; obtain ⟨s1, s2⟩ := hSw; go_simp; try with_reducible rfl)
    simp only [Act.put, List.setIfInBounds_toArray, List.set_cons_zero, List.set_cons_succ]
    refine wpAnyH_take (i := 7) (oi := ⟨_, _, _, _, _, _⟩) (v := ?_) rfl (by kernel_rfl) (by kernel_rfl) (by kernel_rfl) (fun _ _ _ h => h) (Or.inl ⟨by kernel_rfl, ?_⟩) hHeld ?_
    rotate_left
    · (intro w hSw; obtain ⟨s1, s2⟩ := hSw; go_simp; try with_reducible rfl)
    simp only [Act.put, List.setIfInBounds_toArray, List.set_cons_zero, List.set_cons_succ]
    refine wpAnyH_take (i := 8) (oi := ⟨_, _, _, _, _, _⟩) (v := ?_) rfl (by kernel_rfl) (by kernel_rfl) (by kernel_rfl) (fun _ _ _ h => h) (Or.inl ⟨by kernel_rfl, ?_⟩) hHeld ?_
    rotate_left
    · (intro w hSw; obtain ⟨s1, s2⟩ := hSw; go_simp; try with_reducible rfl)
    simp only [Act.put, List.setIfInBounds_toArray, List.set_cons_zero, List.set_cons_succ]
    refine wpAnyH_take (i := 9) (oi := ⟨_, _, _, _, _, _⟩) (v := ?_) rfl (by kernel_rfl) (by kernel_rfl) (by kernel_rfl) (fun _ _ _ h => h) (Or.inl ⟨by kernel_rfl, ?_⟩) hHeld ?_
    rotate_left
    · (intro w hSw; obtain ⟨s1, s2⟩ := hSw; go_simp; try with_reducible rfl)
    simp only [Act.put, List.setIfInBounds_toArray, List.set_cons_zero, List.set_cons_succ]
    refine wpAnyH_take (i := 10) (oi := ⟨_, _, _, _, _, _⟩) (v := ?_) rfl (by kernel_rfl) (by kernel_rfl) (by kernel_rfl) (fun _ _ _ h => h) (Or.inl ⟨by kernel_rfl, ?_⟩) hHeld ?_
    rotate_left
    · (intro w hSw; obtain ⟨s1, s2⟩ := hSw; go_simp; try with_reducible rfl)
    simp only [Act.put, List.setIfInBounds_toArray, List.set_cons_zero, List.set_cons_succ]
    refine wpAnyH_take (i := 11) (oi := ⟨_, _, _, _, _, _⟩) (v := ?_) rfl (by kernel_rfl) (by kernel_rfl) (by kernel_rfl) (fun _ _ _ h => h) (Or.inl ⟨by kernel_rfl, ?_⟩) hHeld ?_
    rotate_left
    · (intro w hSw; obtain ⟨s1, s2⟩ := hSw; go_simp; try with_reducible rfl)
    simp only [Act.put, List.setIfInBounds_toArray, List.set_cons_zero, List.set_cons_succ]
    refine wpAnyH_take (i := 12) (oi := ⟨_, _, _, _, _, _⟩) (v := ?_) rfl (by kernel_rfl) (by kernel_rfl) (by kernel_rfl) (fun _ _ _ h => h) (Or.inl ⟨by kernel_rfl, ?_⟩) hHeld ?_
    rotate_left
    · (intro w hSw; obtain ⟨s1, s2⟩ := hSw; go_simp; try with_reducible rfl)
    simp only [Act.put, List.setIfInBounds_toArray, List.set_cons_zero, List.set_cons_succ]
    refine wpAnyH_take (i := 13) (oi := ⟨_, _, _, _, _, _⟩) (v := .agg p.cells) rfl (by kernel_rfl) (by kernel_rfl) (by kernel_rfl) (fun _ _ _ h => h) (Or.inl ⟨by kernel_rfl, ?_⟩) hHeld ?_
    · (intro w hSw; obtain ⟨s1, s2⟩ := hSw; exact rLoad (x := .tmp 1) rfl (by exact load_pkt _ _ _ s1.out))
    simp only [Act.put, List.setIfInBounds_toArray, List.set_cons_zero, List.set_cons_succ]
    refine wpAnyH_ready (rs := [14]) (by kernel_rfl) (by simp) ?_
    refine AllReadyH.cons rfl (fun K hK => ?_) AllReadyH.nil
    go_simp
    go_wp2_with (go_at_call 24; refine (HRB.out _ (HT5.toBelow (Nat.le_refl _) (fun _ _ h => h))).mono ?_; rintro e w6 ⟨A6, c6, rfl, ho6, hb6⟩; have HT6 := HT5.trans (Turn.of_below hb6); have hcv6 := conv_own (P := Tryd.prog) (W := w6) (src := 22) (dst := 9) Tryd.underlying22 Tryd.underlying5 Tryd.underlying9 ho6)
    refine hK.out _ _ (by first | exact HK.out _ HT6 | exact HK.out _ HT5 | exact HK.out _ HT0) (fun hHeld => ?_)
    clear hK K
    refine wpAnyH_ready (rs := [15]) (by kernel_rfl) (by simp) ?_
    refine AllReadyH.cons rfl (fun K hK => ?_) AllReadyH.nil
    go_simp
    skip
    refine hK.out _ _ (by first | exact HK.out _ HT6 | exact HK.out _ HT5 | exact HK.out _ HT0) (fun hHeld => ?_)
    clear hK K
    refine wpAnyH_take (i := 16) (oi := ⟨_, _, _, _, _, _⟩) (v := ?_) rfl (by kernel_rfl) (by kernel_rfl) (by kernel_rfl) (fun _ _ _ h => h) (Or.inl ⟨by kernel_rfl, ?_⟩) hHeld ?_
    rotate_left
    · (intro w hSw; obtain ⟨s1, s2⟩ := hSw; go_simp; try with_reducible rfl)
    simp only [Act.put, List.setIfInBounds_toArray, List.set_cons_zero, List.set_cons_succ]
    refine wpAnyH_take (i := 17) (oi := ⟨_, _, _, _, _, _⟩) (v := ?_) rfl (by kernel_rfl) (by kernel_rfl) (by kernel_rfl) (fun _ _ _ h => h) (Or.inl ⟨by kernel_rfl, ?_⟩) hHeld ?_
    rotate_left
    · (intro w hSw; obtain ⟨s1, s2⟩ := hSw; go_simp; try with_reducible rfl)
    simp only [Act.put, List.setIfInBounds_toArray, List.set_cons_zero, List.set_cons_succ]
    refine wpAnyH_take (i := 18) (oi := ⟨_, _, _, _, _, _⟩) (v := ?_) rfl (by kernel_rfl) (by kernel_rfl) (by kernel_rfl) (fun _ _ _ h => h) (Or.inl ⟨by kernel_rfl, ?_⟩) hHeld ?_
    rotate_left
    · (intro w hSw; obtain ⟨s1, s2⟩ := hSw; go_simp; try with_reducible rfl)
    simp only [Act.put, List.setIfInBounds_toArray, List.set_cons_zero, List.set_cons_succ]
    refine wpAnyH_done (by kernel_rfl) ?_ _
    go_wp2_with (fail)
    go_ret
    exact ⟨rfl, HT6.belowTrans HB4.out HB4.out.size (fun _ _ h => h)⟩
  · have HB2 : Hid (Below w.heap.size w w2) := HB1.out.trans (hb2.mono HB1.out.size)
    have HP2 := Lib.hid (HP1.out.keep (Turn.of_below (S := fun _ => False) hb2) (fun h => h))
    have HL2 := Lib.hid (HL1.out.keep hb2)
    have HT2 : Hid (Lib.Utf8Tabs 0 1 w2) := Utf.tabs_keep HT1.out hb2
    have HM := Lib.hid hm
    clear hb2 hm
    go_wp2_with (with_reducible refine wp_load_pkt (o := ⟨some 12, _, _, _, _, _⟩) rfl rfl rfl HP2.out ?_)
    refine (Pk.bytes_calls w2 HT2.out p C D HL2.out HLEN.out).mono ?_
    rintro e w3 ⟨hb3, (⟨hm, _⟩ | ⟨_, rfl⟩)⟩
    · exact absurd hm HM.out
    have HB3 : Hid (Below w.heap.size w w3) := HB2.out.trans (hb3.mono HB2.out.size)
    have HP3 := Lib.hid (HP2.out.keep (Turn.of_below (S := fun _ => False) hb3) (fun h => h))
    have HL3 := Lib.hid (HL2.out.keep hb3)
    have HT3 : Hid (Lib.Utf8Tabs 0 1 w3) := Utf.tabs_keep HT2.out hb3
    clear hb3
    go_wp2_with (with_reducible refine wp_load_pkt (o := ⟨some 16, _, _, _, _, _⟩) rfl rfl rfl HP3.out ?_)
    refine (may_calls w3 p C D (small_in HL3.out HSM.out)).mono ?_
    rw [decide_eq_false HM.out]
    rintro e w4 ⟨rfl, hb4⟩
    have HB4 : Hid (Below w.heap.size w w4) := HB3.out.trans (hb4.mono HB3.out.size)
    have HP4 := Lib.hid (HP3.out.keep (Turn.of_below (S := fun _ => False) hb4) (fun h => h))
    have HL4 := Lib.hid (HL3.out.keep hb4)
    have HT4 : Hid (Lib.Utf8Tabs 0 1 w4) := Utf.tabs_keep HT3.out hb4
    clear hb4
    go_wp2_with (fail)
    refine (awake_calls w4 HT4.out).mono ?_
    rintro e w5 ⟨rfl, hb5⟩
    have HB5 : Hid (Below w.heap.size w w5) := HB4.out.trans (hb5.mono HB4.out.size)
    have HP5 := Lib.hid (HP4.out.keep (Turn.of_below (S := fun _ => False) hb5) (fun h => h))
    have HL5 := Lib.hid (HL4.out.keep hb5)
    have HT5 : Hid (Lib.Utf8Tabs 0 1 w5) := Utf.tabs_keep HT4.out hb5
    clear hb5
    go_wp2_with (fail)
    go_ret
    exact ⟨rfl, HB5.out⟩
end Ref
end Go.Proofs.YteigakkghkjakaaDoor

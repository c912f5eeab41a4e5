/- PacketBack: what is laid down is read as itself. -/
import Derived.Test.YteigakkghkjakaaDoorPlV
import Derived.Test.YteigakkghkjakaaDoorPlW
namespace Go.Proofs.YteigakkghkjakaaDoor
open Go.RowKit Go.ChangeShapes
set_option linter.unusedVariables false
set_option linter.unusedSimpArgs false
namespace Pk
open Utf (nums nums_length nums_bytes IsStr nums_str)
open Var (BT digs digs_length)

set_option maxRecDepth 100000 in
set_option maxHeartbeats 2000000 in
theorem back_walk (p : Pkt) (C : List Int) (D : List (ByteArray × Int)) (w : World) (hF : Lies w p C D) (hS : Sized p C D) (hT : Lib.Utf8Tabs 0 1 w) :
    Calls Tryd.prog 7 #[.agg p.cells] w fun e w' => e = .returned (.bool true) ∧ Below w.heap.size w w' := by
  have hA := at_box w p
  obtain ⟨W, hW⟩ : ∃ W, Hid (W = w.alloc (.cells p.cells PT)) := ⟨_, rfl⟩
  obtain ⟨g, hg⟩ : ∃ g, Hid (g = w.heap.size) := ⟨_, rfl⟩
  rw [← hW.out, ← hg.out] at hA
  have HB : Hid (Below w.heap.size w W) := hA.below
  have HP := Lib.hid hA.at_
  have HL : Hid (Lies W p C D) := hF.keep HB.out
  have HT : Hid (Lib.Utf8Tabs 0 1 W) := Utf.tabs_keep hT HB.out
  have HS := Lib.hid hS
  clear hA hF hT hS
  go_enter Tryd.func7, Tryd.ntmps7
  go_upto_region 1 with (fail)
  rw [← hW.out, ← hg.out]
  go_wp2_with (with_reducible refine wp_load_pkt (o := ⟨some 7, _, _, _, _, _⟩) rfl rfl rfl HP.out ?_)
  refine (small_calls W p C D HL.out HS.out).mono ?_
  rintro e w1 ⟨hb1, b, rfl, hsm⟩
  have HB1 : Hid (Below w.heap.size w w1) := HB.out.trans (hb1.mono HB.out.size)
  have HP1 := Lib.hid (HP.out.keep (Turn.of_below (S := fun _ => False) hb1) (fun h => h))
  have HL1 := Lib.hid (HL.out.keep hb1)
  have HT1 : Hid (Lib.Utf8Tabs 0 1 w1) := Utf.tabs_keep HT.out hb1
  cases b with
  | false =>
    clear hb1 hsm
    go_wp2_with (fail)
    go_ret
    exact ⟨rfl, HB1.out⟩
  | true =>
  have HSM := Lib.hid (hsm rfl)
  have HLEN := Lib.hid (small_body HL1.out HSM.out)
  clear hb1 hsm
  go_wp2_with (with_reducible refine wp_load_pkt (o := ⟨some 11, _, _, _, _, _⟩) rfl rfl rfl HP1.out ?_)
  refine (bytes_calls w1 HT1.out p C D HL1.out HLEN.out).mono ?_
  rintro e w2 ⟨hb2, (⟨hm, A2, c2, rfl, ho2⟩ | ⟨hnm, rfl⟩)⟩
  · have HB2 : Hid (Below w.heap.size w w2) := HB1.out.trans (hb2.mono HB1.out.size)
    have HP2 := Lib.hid (HP1.out.keep (Turn.of_below (S := fun _ => False) hb2) (fun h => h))
    have HL2 := Lib.hid (HL1.out.keep hb2)
    have HT2 : Hid (Lib.Utf8Tabs 0 1 w2) := Utf.tabs_keep HT1.out hb2
    have hI : IsPkt (bytesB p C D) p C D := ⟨HL1.out.long, hm, rfl⟩
    have hby := bytesB_bytes HL1.out hm
    have hll := bytesB_length p C D
    have hdl := digs_length 3 ((bodyB p C D).length : Int)
    obtain ⟨L, hL⟩ : ∃ L, Hid (L = bytesB p C D) := ⟨_, rfl⟩
    have hLb : (bytesB p C D).length ≤ 268435465 := by have := hm.2; omega
    rw [← hL.out] at ho2 hby hI hLb ⊢
    have HI := Lib.hid hI
    have HBY := Lib.hid hby
    have hLi : (L.length : Int) ≤ 268435465 := by omega
    have HR2 := Lib.hid (own_reads ho2).2.2.1
    have HC2 := Lib.hid (own_reads ho2).2.1
    have HC2b : Hid (c2 ≤ 9223372036854775807) := by obtain ⟨_, c', hv, _, h, _⟩ := ho2.form; injection hv with _ _ e; rw [e]; exact h
    clear hb2 ho2 hI hby hm hll hdl hLb
    go_wp2_with (fail)
    refine (parse_calls w2 HT2.out A2 L c2 HR2.out HC2.out HC2b.out HBY.out (by omega)).mono ?_
    rintro e w5 ⟨hb5, (⟨p', C', D', hI', rfl, hoc, hos⟩ | ⟨hnI5, rfl⟩)⟩
    case inr => exact absurd HI.out (hnI5 _ _ _)
    have HB5 : Hid (Below w.heap.size w w5) := HB2.out.trans (hb5.mono HB2.out.size)
    have HP5 := Lib.hid (HP2.out.keep (Turn.of_below (S := fun _ => False) hb5) (fun h => h))
    have HL5 := Lib.hid (HL2.out.keep hb5)
    have HL5' := Lib.hid (own_lies hI' HBY.out (by omega) hoc hos)
    have hpc : Hid (p'.codes.oneCell' = true) := by obtain ⟨A', c', hv, _⟩ := hoc.form; rw [hv]; exact rfl
    have hps : Hid (p'.subs.oneCell' = true) := by obtain ⟨A', c', hv, _⟩ := own_form hos; rw [hv]; exact rfl
    have HSP : Hid (SameP p' p C' C D' D) := is_unique hI' HI.out
    have hb5' := Lib.hid hb5
    clear hb5 hoc hos hI'
    rename_i hK
    refine hK _ _ ?_
    refine st_val (.tuple #[.agg p'.cells, .int .i64 0]) (wanted_free rfl) (by exact rMove (x := .tmp 26) rfl) ?_
    refine st_val (.agg p'.cells) (wanted_free rfl) (by exact rExtract (x := .tmp 24) rfl (kExt0 _ _)) ?_
    refine st_val (.int .i64 0) (wanted_free rfl) (by exact rExtract (x := .tmp 24) rfl (kExt1 _ _)) ?_
    refine st_alloc (wanted_free rfl) rfl (by exact kAllocP _) ?_
    refine wp_store_pkt (g := w5.heap.size) p' zeroP rfl rfl rfl rfl (by exact heap_new _ _) hpc.out hps.out ?_
    intro w6 HP6 t
    refine st_val (.int .i64 0) (wanted_free rfl) (by exact rAssign (x := .tmp 28) rfl) ?_
    refine wpList_nil ?_
    simp only [Exit.then, Act.put, List.setIfInBounds_toArray, List.set_cons_zero, List.set_cons_succ]
    have HW6 : Hid (Below w5.heap.size w5 w6) := (Below.alloc (Below.refl _ _) (Nat.le_refl _) _).trans (t.toBelow (by simp) (fun k hk e => by omega))
    have HB6 : Hid (Below w.heap.size w w6) := HB5.out.trans (HW6.out.mono HB5.out.size)
    have HB25 : Hid (Below w2.heap.size w2 w6) := hb5'.out.trans (HW6.out.mono hb5'.out.size)
    have HP6' := Lib.hid HP6
    have HPo6 := Lib.hid (HP5.out.keep (Turn.of_below (S := fun _ => False) HW6.out) (fun h => h))
    have HL6 := Lib.hid (HL5.out.keep HW6.out)
    have HL6' := Lib.hid (HL5'.out.keep HW6.out)
    have HTb : Hid (Lib.Utf8Tabs 0 1 w6) := Utf.tabs_keep HT2.out HB25.out
    clear t hK HP6
    obtain ⟨gg, hgg⟩ : ∃ gg, Hid (gg = w5.heap.size) := ⟨_, rfl⟩
    rw [← hgg.out] at HP6' ⊢
    go_wp2_with (fail)
    refine (awake_calls w6 HTb.out).mono ?_
    rintro e w7 ⟨rfl, hb7⟩
    have HB7 := Lib.hid (HB6.out.trans (hb7.mono HB6.out.size))
    have HP7' := Lib.hid (HP6'.out.keep (Turn.of_below (S := fun _ => False) hb7) (fun h => h))
    have HPo7 := Lib.hid (HPo6.out.keep (Turn.of_below (S := fun _ => False) hb7) (fun h => h))
    have HL7 := Lib.hid (HL6.out.keep hb7)
    have HL7' := Lib.hid (HL6'.out.keep hb7)
    clear hb7
    go_wp2_with ((with_reducible refine wp_load_pktG (o := ⟨some 35, _, _, _, _, _⟩) rfl rfl HP7'.out ?_ (by with_unfolding_all rfl)); (with_reducible refine wp_load_pktG (o := ⟨some 36, _, _, _, _, _⟩) rfl (by with_unfolding_all rfl) HPo7.out ?_ (by with_unfolding_all rfl)))
    refine (same_calls w7 p' p C' C D' D HL7'.out HL7.out (by have := HSM.out.codes; have := HSP.out.2.1; rw [this]; omega) (by have := HSM.out.subs; have := HSP.out.2.2; rw [this]; omega)).mono ?_
    rw [decide_eq_true HSP.out]
    rintro e w8 ⟨rfl, hb8⟩
    have HB8 := Lib.hid (HB7.out.trans (hb8.mono HB7.out.size))
    clear hb8
    go_wp2_with (fail)
    go_ret
    exact ⟨rfl, HB8.out⟩
  · have HB2 : Hid (Below w.heap.size w w2) := HB1.out.trans (hb2.mono HB1.out.size)
    have HP2 := Lib.hid (HP1.out.keep (Turn.of_below (S := fun _ => False) hb2) (fun h => h))
    have HL2 := Lib.hid (HL1.out.keep hb2)
    have HT2 : Hid (Lib.Utf8Tabs 0 1 w2) := Utf.tabs_keep HT1.out hb2
    have HM := Lib.hid hnm
    clear hb2 hnm
    go_wp2_with (fail)
    refine (awake_calls w2 HT2.out).mono ?_
    rintro e w4 ⟨rfl, hb4⟩
    have HB4 := Lib.hid (HB2.out.trans (hb4.mono HB2.out.size))
    have HP4 := Lib.hid (HP2.out.keep (Turn.of_below (S := fun _ => False) hb4) (fun h => h))
    have HL4 := Lib.hid (HL2.out.keep hb4)
    have HT4 : Hid (Lib.Utf8Tabs 0 1 w4) := Utf.tabs_keep HT2.out hb4
    clear hb4
    go_wp2_with (with_reducible refine wp_load_pktG (o := ⟨some 19, _, _, _, _, _⟩) rfl rfl HP4.out ?_ (by with_unfolding_all rfl))
    refine (pcheck_calls w4 HT4.out p C D HL4.out HLEN.out).mono ?_
    rintro e w5 ⟨hb5, (⟨hm, _⟩ | ⟨_, rfl⟩)⟩
    · exact absurd hm HM.out
    have HB5 := Lib.hid (HB4.out.trans (hb5.mono HB4.out.size))
    clear hb5
    go_wp2_with (fail)
    go_ret
    exact ⟨rfl, HB5.out⟩
end Pk
end Go.Proofs.YteigakkghkjakaaDoor

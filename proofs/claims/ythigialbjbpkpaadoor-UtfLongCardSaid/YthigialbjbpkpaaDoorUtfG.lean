/- UtfTells; UtfTexts. -/
import Derived.Test.YthigialbjbpkpaaDoorUtfF
namespace Go.Proofs.YthigialbjbpkpaaDoor
open Go.RowKit
set_option linter.unusedVariables false
set_option linter.unusedSimpArgs false
namespace Utf

theorem str_one {L l m : List Int} (h : IsStr L l) (k : IsStr L m) : l = m := encs_inj h.1 k.1 (h.2.1.symm.trans k.2.1)

set_option maxHeartbeats 1000000 in
theorem tells_walk (a0 : ByteArray) (w : World) (w0 : a0.size ≤ 140737488351232) (hT : Lib.Utf8Tabs 0 1 w) :
    Calls Tryd.prog 3 #[.string a0] w fun e w' => e = .returned (.bool true) ∧ Below w.heap.size w w' := by
  have HT := Lib.hid hT
  clear hT w0
  by_cases hbig : (3000 : Int) < (a0.size : Int)
  · have hd := decide_eq_true hbig
    go_enter Tryd.func3, Tryd.ntmps3
    go_wp2_with (fail)
    go_ret
    exact ⟨rfl, Below.refl _ _⟩
  have hd := decide_eq_false hbig
  have Hbig : Hid ((nums a0).length ≤ 3000) := by rw [Hid, nums_length]; omega
  clear hbig
  go_enter Tryd.func3, Tryd.ntmps3
  go_wp2_with (fail)
  refine (points_calls _ HT.out _).mono ?_
  rintro e w1 (⟨l, A, c, hi, rfl, ho, hb⟩ | ⟨hn, rfl, hb⟩)
  · have HI := Lib.hid hi
    have HO := Lib.hid ho
    have HB := Lib.hid hb
    clear hi ho hb
    go_wp2_with (fail)
    refine (rpoints_calls _ _).mono ?_
    rintro e w2 (⟨m, A2, c2, hi2, rfl, ho2, hb2⟩ | ⟨hn2, rfl, hb2⟩)
    · have hml := str_one HI.out hi2
      subst hml
      have HO2 := Lib.hid ho2
      have HB2 := Lib.hid (HB.out.trans (hb2.mono HB.out.size))
      have HO1 := Lib.hid (HO.out.turn (Turn.of_below (S := fun _ => False) hb2) (fun _ _ h => h))
      clear ho2 hb2 hi2
      go_wp2_with (fail)
      refine (is_yes _ (tabs_keep HT.out HB2.out) _ _ HI.out).mono ?_
      rintro e w3 ⟨rfl, hb3⟩
      have HB3 := Lib.hid (HB2.out.trans (hb3.mono HB2.out.size))
      have HO13 := Lib.hid (HO1.out.turn (Turn.of_below (S := fun _ => False) hb3) (fun _ _ h => h))
      have HO23 := Lib.hid (HO2.out.turn (Turn.of_below (S := fun _ => False) hb3) (fun _ _ h => h))
      clear hb3
      go_wp2_with (fail)
      refine (awake_calls _ (tabs_keep HT.out HB3.out)).mono ?_
      rintro e w4 ⟨rfl, hb4⟩
      have HB4 := Lib.hid (HB3.out.trans (hb4.mono HB3.out.size))
      have HO14 := Lib.hid (own_reads (HO13.out.turn (Turn.of_below (S := fun _ => False) hb4) (fun _ _ h => h)))
      have HO24 := Lib.hid (own_reads (HO23.out.turn (Turn.of_below (S := fun _ => False) hb4) (fun _ _ h => h)))
      clear hb4
      go_wp2_with (fail)
      refine (ints_calls _ _ _ l l _ _ HO14.out.2.2.1 HO24.out.2.2.1 (by have h1 := encs_length l; have h2 := HI.out.2.2; rw [HI.out.2.1] at h2; omega)).mono ?_
      rw [decide_eq_true (rfl : l = l)]
      rintro e w5 ⟨rfl, hb5⟩
      go_wp2_with (fail)
      go_ret
      exact ⟨rfl, HB4.out.trans (hb5.mono HB4.out.size)⟩
    · exact absurd HI.out (hn2 l)
  · have HN := Lib.hid hn
    have HB := Lib.hid hb
    clear hn hb
    go_wp2_with (fail)
    refine (rpoints_calls _ _).mono ?_
    rintro e w2 (⟨m, A2, c2, hi2, rfl, ho2, hb2⟩ | ⟨hn2, rfl, hb2⟩)
    · exact absurd hi2 (HN.out m)
    · have HB2 := Lib.hid (HB.out.trans (hb2.mono HB.out.size))
      clear hn2 hb2
      go_wp2_with (fail)
      refine (is_no _ (tabs_keep HT.out HB2.out) _ HN.out).mono ?_
      rintro e w3 ⟨rfl, hb3⟩
      have HB3 := Lib.hid (HB2.out.trans (hb3.mono HB2.out.size))
      clear hb3
      go_wp2_with (fail)
      refine (awake_calls _ (tabs_keep HT.out HB3.out)).mono ?_
      rintro e w4 ⟨rfl, hb4⟩
      go_wp2_with (fail)
      go_ret
      exact ⟨rfl, HB3.out.trans (hb4.mono HB3.out.size)⟩

end Utf
end Go.Proofs.YthigialbjbpkpaaDoor

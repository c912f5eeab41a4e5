/- UtfTexts. -/
import Derived.Test.YthigialbjbpkpaaDoorUtfG
namespace Go.Proofs.YthigialbjbpkpaaDoor
open Go.RowKit
set_option linter.unusedVariables false
set_option linter.unusedSimpArgs false
namespace Utf

set_option maxHeartbeats 1000000 in
theorem texts_walk (a0 : Option Addr) (len0 cap0 : Nat) (z0 : List Int) (w : World) (w0 : IsRow .i64 w a0 len0 cap0 z0) (y0 : cap0 * 8 ≤ 140737488351232) (hT : Lib.Utf8Tabs 0 1 w) :
    Calls Tryd.prog 4 #[.slice a0 len0 cap0] w fun e w' => e = .returned (.bool true) ∧ Below w.heap.size w w' := by
  obtain ⟨hl, hR⟩ := row_reads w0
  obtain ⟨L, hLd⟩ : ∃ L, L = z0.take len0 := ⟨_, rfl⟩
  rw [← hLd] at hl hR
  subst hl
  have HT := Lib.hid hT
  have HR := Lib.hid hR
  clear hLd w0 y0 hT hR
  by_cases hbig : (1000 : Int) < (L.length : Int)
  · have hd := decide_eq_true hbig
    go_enter Tryd.func4, Tryd.ntmps4
    go_wp2_with (fail)
    go_ret
    exact ⟨rfl, Below.refl _ _⟩
  have hd := decide_eq_false hbig
  have Hbig := Lib.hid hbig
  clear hbig
  go_enter Tryd.func4, Tryd.ntmps4
  go_wp2_with (fail)
  refine (text_calls _ _ L _ HR.out (by have := Hbig.out; omega)).mono ?_
  rintro e w1 ⟨hb, (⟨hg, hle, rfl⟩ | ⟨hbad, rfl⟩)⟩
  · have HG := Lib.hid hg
    have HLE := Lib.hid hle
    have HB := Lib.hid hb
    clear hg hle hb
    go_wp2_with (fail)
    refine (rtext_calls _ _ L _ (HR.out.keep HB.out) (by have := Hbig.out; omega)).mono ?_
    rintro e w2 ⟨hb2, h2⟩
    have he2 : e = .returned (.tuple #[.string (strOfNums (encs L)), .bool true]) := by
      rcases h2 with ⟨_, rfl⟩ | ⟨hbad, _⟩
      · rw [decide_eq_true HLE.out]
      · exact absurd HG.out hbad
    subst he2
    clear h2
    · have HB2 := Lib.hid (HB.out.trans (hb2.mono HB.out.size))
      clear hb2
      obtain ⟨S, hS⟩ : ∃ S, Hid (S = strOfNums (encs L)) := ⟨_, rfl⟩
      rw [← hS.out]
      have hSn : Hid (nums S = encs L) := by rw [hS.out, Hid, nums_str _ (encs_bytes L HG.out)]
      have hstr : Hid (IsStr (nums S) L) := ⟨HG.out, hSn.out, by rw [hSn.out]; exact HLE.out⟩
      go_wp2_with (fail)
      refine (points_calls _ (tabs_keep HT.out HB2.out) S).mono ?_
      rintro e w3 (⟨l, A, c, hi, rfl, ho, hb3⟩ | ⟨hn, rfl, hb3⟩)
      · have hll := str_one hi hstr.out
        subst hll
        have HB3 := Lib.hid (HB2.out.trans (hb3.mono HB2.out.size))
        have HO := Lib.hid ho
        clear hi ho hb3
        go_wp2_with (fail)
        refine (awake_calls _ (tabs_keep HT.out HB3.out)).mono ?_
        rintro e w4 ⟨rfl, hb4⟩
        have HB4 := Lib.hid (HB3.out.trans (hb4.mono HB3.out.size))
        have HO4 := Lib.hid (own_reads (HO.out.turn (Turn.of_below (S := fun _ => False) hb4) (fun _ _ h => h)))
        clear hb4
        have hse : (S.toList == S.toList) = true := (str_beq _ _).2 rfl
        go_wp2_with (fail)
        refine (ints_calls _ _ _ l l _ _ HO4.out.2.2.1 (HR.out.keep HB4.out) (by have := Hbig.out; omega)).mono ?_
        rw [decide_eq_true (rfl : l = l)]
        rintro e w5 ⟨rfl, hb5⟩
        go_wp2_with (fail)
        go_ret
        exact ⟨rfl, HB4.out.trans (hb5.mono HB4.out.size)⟩
      · exact absurd hstr.out (hn L)
  · have HBAD := Lib.hid hbad
    have HB := Lib.hid hb
    clear hbad hb
    go_wp2_with (fail)
    refine (rtext_calls _ _ L _ (HR.out.keep HB.out) (by have := Hbig.out; omega)).mono ?_
    rintro e w2 ⟨hb2, h2⟩
    have h3 : ∃ S : ByteArray, e = .returned (.tuple #[.string S, .bool false]) := by
      rcases h2 with ⟨hg, rfl⟩ | ⟨_, rfl⟩
      · refine ⟨strOfNums (encs L), ?_⟩
        rw [decide_eq_false (fun h => HBAD.out ⟨hg, h⟩)]
      · exact ⟨_, rfl⟩
    obtain ⟨S, rfl⟩ := h3
    have HB2 := Lib.hid (HB.out.trans (hb2.mono HB.out.size))
    clear hb2 h2
    go_wp2_with (fail)
    refine (awake_calls _ (tabs_keep HT.out HB2.out)).mono ?_
    rintro e w4 ⟨rfl, hb4⟩
    go_wp2_with (fail)
    go_ret
    exact ⟨rfl, HB2.out.trans (hb4.mono HB2.out.size)⟩

end Utf
end Go.Proofs.YthigialbjbpkpaaDoor

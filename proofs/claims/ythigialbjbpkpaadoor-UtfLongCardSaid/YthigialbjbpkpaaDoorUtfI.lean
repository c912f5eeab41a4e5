/- UtfBack. -/
import Derived.Test.YthigialbjbpkpaaDoorUtfH
namespace Go.Proofs.YthigialbjbpkpaaDoor
open Go.RowKit
set_option linter.unusedVariables false
set_option linter.unusedSimpArgs false
namespace Utf

theorem str_of {s : ByteArray} {l : List Int} (h : IsStr (nums s) l) : strOfNums (encs l) = s :=
  nums_inj (by rw [nums_str _ (encs_bytes l h.1)]; exact h.2.1.symm)

theorem low {w : World} {base base' : Nat} {e : TypeId} {k : IntKind} {v : Value} {L : List Int} (h : OwnInts w base e k v L) (hb : base' ≤ base) : OwnInts w base' e k v L := own_mono h hb
theorem reads_pre {k : IntKind} {W : World} {A : Option Addr} {L M : List Int} {n : Nat} (h : Reads k W A L) (hM : M = L.take n) : Reads k W A M := by
  subst hM
  intro h0
  have h1 : 0 < L.length := by rw [List.length_take] at h0; omega
  obtain ⟨x, hx, hc⟩ := h h1
  refine ⟨x, hx, fun i hi => ?_⟩
  rw [List.length_take] at hi
  rw [lat_take _ _ _ (by omega)]
  exact hc i (by omega)
theorem dropLast_take (L : List Int) : L.dropLast = (L.drop 0).take (L.length - 1) := by rw [List.drop_zero, List.dropLast_eq_take]

set_option maxHeartbeats 2000000 in
set_option maxRecDepth 100000 in
theorem back_walk (a0 a1 : ByteArray) (w : World) (w0 : a0.size ≤ 140737488351232) (w1 : a1.size ≤ 140737488351232) (hT : Lib.Utf8Tabs 0 1 w) :
    Calls Tryd.prog 5 #[.string a0, .string a1] w fun e w' => e = .returned (.bool true) ∧ Below w.heap.size w w' := by
  have HT := Lib.hid hT
  clear hT w0 w1
  by_cases hbig : (3000 : Int) < (a0.size : Int)
  · have hd := decide_eq_true hbig
    go_enter Tryd.func5, Tryd.ntmps5
    go_wp2_with (fail)
    go_ret
    exact ⟨rfl, Below.refl _ _⟩
  have hd0 := decide_eq_false hbig
  have HB0 := Lib.hid hbig
  clear hbig
  by_cases hbig : (3000 : Int) < (a1.size : Int)
  · have hd := decide_eq_true hbig
    go_enter Tryd.func5, Tryd.ntmps5
    go_wp2_with (fail)
    go_ret
    exact ⟨rfl, Below.refl _ _⟩
  have hd1 := decide_eq_false hbig
  have HB1 := Lib.hid hbig
  clear hbig
  have hadd : ((a0.size : Nat) : Int) + ((a1.size : Nat) : Int) ≤ 9223372036854775807 := by have := HB0.out; have := HB1.out; omega
  have Hadd := Lib.hid hadd
  clear hadd
  go_enter Tryd.func5, Tryd.ntmps5
  go_wp2_with (fail)
  refine (points_calls _ HT.out a0).mono ?_
  rintro e w1 (⟨l, A, c, hi, rfl, ho, hb⟩ | ⟨hn, rfl, hb⟩)
  · have HI := Lib.hid hi
    have HO := Lib.hid ho
    have HB := Lib.hid hb
    clear hi ho hb
    go_wp2_with (fail)
    refine (points_calls _ (tabs_keep HT.out HB.out) a1).mono ?_
    rintro e w2 (⟨m, A2, c2, hi2, rfl, ho2, hb2⟩ | ⟨hn, rfl, hb2⟩)
    · have HI2 := Lib.hid hi2
      have HB2 := Lib.hid (HB.out.trans (hb2.mono HB.out.size))
      have HO1 := Lib.hid (HO.out.turn (Turn.of_below (S := fun _ => False) hb2) (fun _ _ h => h))
      have HO2 := Lib.hid (low ho2 HB.out.size)
      have hll : Hid ((l.length : Int) ≤ 3000) := by have h1 := encs_length l; have h2 := HI.out.2.1; rw [← h2, nums_length] at h1; have := HB0.out; rw [Hid]; omega
      have hml : Hid ((m.length : Int) ≤ 3000) := by have h1 := encs_length m; have h2 := HI2.out.2.1; rw [← h2, nums_length] at h1; have := HB1.out; rw [Hid]; omega
      clear hi2 ho2 hb2 HO
      go_wp2_with (fail)
      refine (text_calls _ _ l _ (own_reads HO1.out).2.2.1 (by have := hll.out; omega)).mono ?_
      rintro e w3 ⟨hb3, h3⟩
      have he3 : e = .returned (.tuple #[.string a0, .int .i64 0]) := by
        rcases h3 with ⟨_, _, rfl⟩ | ⟨hno, _⟩
        · rw [str_of HI.out]
        · exact absurd ⟨HI.out.1, by rw [← HI.out.2.1]; exact HI.out.2.2⟩ hno
      subst he3
      have HB3 := Lib.hid (HB2.out.trans (hb3.mono HB2.out.size))
      have HO13 := Lib.hid (HO1.out.turn (Turn.of_below (S := fun _ => False) hb3) (fun _ _ h => h))
      have HO23 := Lib.hid (HO2.out.turn (Turn.of_below (S := fun _ => False) hb3) (fun _ _ h => h))
      have hadd := Hadd.out
      clear h3 hb3
      go_wp2_with (fail)
      have hboth : Hid (IsStr (nums (a0 ++ a1)) (l ++ m)) := by
        refine ⟨fun n hn => ?_, ?_, ?_⟩
        · rcases List.mem_append.1 hn with h | h
          · exact HI.out.1 n h
          · exact HI2.out.1 n h
        · rw [nums_append, encs_app, HI.out.2.1, HI2.out.2.1]
        · rw [nums_append, List.length_append, nums_length, nums_length]; have := HB0.out; have := HB1.out; omega
      refine (points_calls _ (tabs_keep HT.out HB3.out) (a0 ++ a1)).mono ?_
      rintro e w4 (⟨lm, A4, c4, hi4, rfl, ho4, hb4⟩ | ⟨hn, rfl, hb4⟩)
      · have hlm := str_one hi4 hboth.out
        subst hlm
        have HB4 := Lib.hid (HB3.out.trans (hb4.mono HB3.out.size))
        have HO14 := Lib.hid (HO13.out.turn (Turn.of_below (S := fun _ => False) hb4) (fun _ _ h => h))
        have HO24 := Lib.hid (HO23.out.turn (Turn.of_below (S := fun _ => False) hb4) (fun _ _ h => h))
        have HO44 := Lib.hid (low ho4 HB3.out.size)
        clear hi4 ho4 hb4 hadd
        go_wp2_with (at_builtin; go_must (refine wp_append_row (W := w4) w4.heap.size rfl _ _ 22 3 .i64 8 rfl Tryd.underlying22 info_int (.slice none 0 0) [] l A c rfl rfl (own_reads HO14.out).2.2.2 (own_reads HO14.out).2.2.1 (OwnInts.nil _ _ _ _) (Nat.le_refl _) (by have := hll.out; simp; omega) ?_))
        intro A5 c5 w5 ho5 ht5
        have HT5 : Hid (Turn (fun _ => False) w4 w5) := ht5.mono (fun k _ h => by cases h)
        have HO5 := Lib.hid ho5
        have HRm := Lib.hid (own_reads (HO24.out.turn HT5.out (fun _ _ h => h)))
        have Hs5 := Lib.hid HT5.out.size
        clear ho5 ht5
        go_wp2_with (at_builtin; go_must (refine wp_append_row (W := w5) w4.heap.size rfl _ _ 22 3 .i64 8 rfl Tryd.underlying22 info_int (.slice A5 l.length c5) l m A2 c2 rfl rfl HRm.out.2.2.2 HRm.out.2.2.1 HO5.out Hs5.out (by have := hll.out; have := hml.out; omega) ?_))
        intro A6 c6 w6 ho6 ht6
        have B46 : Hid (Below w4.heap.size w4 w6) := ht6.belowTrans (HT5.out.toBelow (Nat.le_refl _) (fun _ _ h => h)) HT5.out.size (fun k hk e => by have := (own_block_ge HO5.out k e).1; omega)
        have HB6 := Lib.hid (HB4.out.trans (B46.out.mono HB4.out.size))
        have HRl := Lib.hid ((own_reads HO14.out).2.2.1.keep B46.out)
        have Hlc := Lib.hid (own_reads HO14.out).2.1
        obtain ⟨X, hX⟩ : ∃ X, Hid (X = l ++ m) := ⟨_, rfl⟩
        have hXl : l.length + m.length = X.length := by rw [hX.out, List.length_append]
        have ho44 := HO44.out
        rw [← hX.out] at ho6 ho44
        have HRX := Lib.hid ((own_reads ho44).2.2.1.keep B46.out)
        have HRX6 := Lib.hid (own_reads ho6).2.2.1
        have HXl := Lib.hid hXl
        rw [hXl]
        clear ho6 ht6 ho44 hXl
        have hse : (a0.toList == a0.toList) = true := (str_beq _ _).2 rfl
        have hsn : (a0.toList != a0.toList) = false := by simp
        go_wp2_with (fail)
        refine (ints_calls _ _ _ X X _ _ HRX.out HRX6.out (by have := HXl.out; have := hll.out; have := hml.out; omega)).mono ?_
        rw [decide_eq_true (rfl : X = X)]
        rintro e w7 ⟨rfl, hb7⟩
        have HB7 := Lib.hid (HB6.out.trans (hb7.mono HB6.out.size))
        have HRl7 := Lib.hid (HRl.out.keep hb7)
        clear hb7
        by_cases hz : a0.size = 0
        · have hz1 : ((a0.size : Int) == 0) = true := by simp [hz]
          have hz2 : (a0.size == 0) = true := by simp [hz]
          have hl0 : l = [] := encs_eq_nil (by rw [← HI.out.2.1]; exact List.eq_nil_of_length_eq_zero (by rw [nums_length]; exact hz))
          subst hl0
          clear hz
          go_wp2_with (fail)
          refine (awake_calls _ (tabs_keep HT.out HB7.out)).mono ?_
          rintro e w8 ⟨rfl, hb8⟩
          go_wp2_with (fail)
          go_ret
          exact ⟨by simp, HB7.out.trans (hb8.mono HB7.out.size)⟩
        · have hz1 : ((a0.size : Int) == 0) = false := by simp [hz]
          have hz2 : (a0.size == 0) = false := by simp [hz]
          obtain ⟨T, hTe⟩ : ∃ T : Nat, T = a0.size - 1 := ⟨_, rfl⟩
          have hTw : wrap64 ((a0.size : Int) - 1) = (T : Int) := by
            have := HB0.out
            rw [IntWalk.wrap64_in _ ⟨by omega, by omega⟩]
            omega
          have hT0 : (0 : Int) ≤ (T : Int) := by omega
          have hTc : (T : Int) ≤ (a0.size : Int) := by omega
          have hlne : Hid (l ≠ []) := fun e => by
            have := HI.out.2.1
            rw [e, encs_nil] at this
            exact nums_ne hz this
          have hdl : Hid (nums (a0.extract 0 T) = (encs l).dropLast) := by
            rw [Hid, nums_extract, List.drop_zero, List.dropLast_eq_take, ← HI.out.2.1, nums_length, hTe]
          have hsz : 0 < a0.size := by omega
          have hsz' : (0 : Int) < (a0.size : Int) := by omega
          clear hz hTe
          go_wp2_with (fail)
          refine (points_calls _ (tabs_keep HT.out HB7.out) (a0.extract 0 T)).mono ?_
          have hlp : decide (0 < l.length) = true := decide_eq_true (List.length_pos_iff.2 hlne.out)
          rintro e w8 (⟨d, A8, c8, hi8, rfl, ho8, hb8⟩ | ⟨hn, rfl, hb8⟩)
          · have hd : Hid (d = l.dropLast) := encs_short l d HI.out.1 hi8.1 hlne.out (by rw [← hdl.out]; exact hi8.2.1)
            have hUw : wrap64 ((l.length : Int) - 1) = (d.length : Int) := by
              have h1 := hll.out
              have h2 := List.length_pos_iff.2 hlne.out
              rw [IntWalk.wrap64_in _ ⟨by omega, by omega⟩, hd.out, List.length_dropLast]
              omega
            have hU0 : (0 : Int) ≤ (d.length : Int) := by omega
            have hUc : (d.length : Int) ≤ (c : Int) := by
              have h1 := Hlc.out
              rw [hd.out, List.length_dropLast]
              omega
            have HB8 := Lib.hid (HB7.out.trans (hb8.mono HB7.out.size))
            have HRl8 := Lib.hid (HRl7.out.keep hb8)
            have HO8 := Lib.hid (own_reads ho8).2.2.1
            clear hi8 ho8 hb8
            go_wp2_with (fail)
            refine (awake_calls _ (tabs_keep HT.out HB8.out)).mono ?_
            rintro e w9 ⟨rfl, hb9⟩
            have HB9 := Lib.hid (HB8.out.trans (hb9.mono HB8.out.size))
            have HRd := Lib.hid (reads_pre (HRl8.out.keep hb9) (show d = l.take (l.length - 1) by rw [hd.out, List.dropLast_eq_take]))
            have HR8 := Lib.hid (HO8.out.keep hb9)
            clear hb9
            go_wp2_with (fail)
            refine (ints_calls _ _ _ d d _ _ HR8.out HRd.out (by have h1 := hll.out; rw [hd.out, List.length_dropLast]; omega)).mono ?_
            rw [decide_eq_true (rfl : d = d)]
            rintro e w10 ⟨rfl, hb10⟩
            go_wp2_with (fail)
            go_ret
            exact ⟨rfl, HB9.out.trans (hb10.mono HB9.out.size)⟩
          · have HB8 := Lib.hid (HB7.out.trans (hb8.mono HB7.out.size))
            clear hn hb8
            go_wp2_with (fail)
            refine (awake_calls _ (tabs_keep HT.out HB8.out)).mono ?_
            rintro e w9 ⟨rfl, hb9⟩
            go_wp2_with (fail)
            go_ret
            exact ⟨rfl, HB8.out.trans (hb9.mono HB8.out.size)⟩
      · exact absurd hboth.out (hn _)
    · have HN := Lib.hid hn
      have HB2 := Lib.hid (HB.out.trans (hb2.mono HB.out.size))
      clear hn hb2
      go_wp2_with (fail)
      refine (awake_calls _ (tabs_keep HT.out HB2.out)).mono ?_
      rintro e w3 ⟨rfl, hb3⟩
      have HB3 := Lib.hid (HB2.out.trans (hb3.mono HB2.out.size))
      clear hb3
      go_wp2_with (fail)
      refine (is_yes _ (tabs_keep HT.out HB3.out) a0 l HI.out).mono ?_
      rintro e w4 ⟨rfl, hb4⟩
      have HB4 := Lib.hid (HB3.out.trans (hb4.mono HB3.out.size))
      clear hb4
      go_wp2_with (fail)
      refine (is_no _ (tabs_keep HT.out HB4.out) a1 HN.out).mono ?_
      rintro e w5 ⟨rfl, hb5⟩
      go_wp2_with (fail)
      go_ret
      exact ⟨rfl, HB4.out.trans (hb5.mono HB4.out.size)⟩
  · have HN := Lib.hid hn
    have HB := Lib.hid hb
    clear hn hb
    go_wp2_with (fail)
    refine (points_calls _ (tabs_keep HT.out HB.out) a1).mono ?_
    rintro e w2 (⟨m, A2, c2, hi2, rfl, ho2, hb2⟩ | ⟨hn, rfl, hb2⟩)
    all_goals
      have HB2 := Lib.hid (HB.out.trans (hb2.mono HB.out.size))
      clear hb2
      go_wp2_with (fail)
      refine (awake_calls _ (tabs_keep HT.out HB2.out)).mono ?_
      rintro e w3 ⟨rfl, hb3⟩
      have HB3 := Lib.hid (HB2.out.trans (hb3.mono HB2.out.size))
      clear hb3
      go_wp2_with (fail)
      refine (is_no _ (tabs_keep HT.out HB3.out) a0 HN.out).mono ?_
      rintro e w4 ⟨rfl, hb4⟩
      go_wp2_with (fail)
      go_ret
      exact ⟨rfl, HB3.out.trans (hb4.mono HB3.out.size)⟩

end Utf
end Go.Proofs.YthigialbjbpkpaaDoor

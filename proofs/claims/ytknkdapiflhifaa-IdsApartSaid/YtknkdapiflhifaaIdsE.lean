/- IdsRound. -/
import Derived.Test.YtknkdapiflhifaaIdsD
namespace Go.Proofs.Ytknkdapiflhifaa
open Go.RowKit Go.Maps
set_option linter.unusedVariables false
set_option linter.unusedSimpArgs false
namespace Ids

theorem filter_back (n : Nat) (y : Int) (h : (n : Int) < y) : (upTo n ++ [y]).filter (· ≠ y) = upTo n := by
  rw [List.filter_append]
  have h1 : (upTo n).filter (· ≠ y) = upTo n := List.filter_eq_self.2 fun z hz => by
    have := (mem_upTo n z).1 hz
    simp; omega
  rw [h1]; simp

set_option maxHeartbeats 2000000 in
set_option maxRecDepth 100000 in
theorem round_walk (a0 a1 : Int) (w : World) (w0 : (Lit.int .i64 a0).wf = true) (w1 : (Lit.int .i64 a1).wf = true) : Calls Try.prog 7 #[.int .i64 a0, .int .i64 a1] w fun e w' => e = .returned (.bool true) ∧ Below w.heap.size w w' := by
  clear w0 w1
  by_cases hc1 : a0 < 0
  · go_enter Try.func7, Try.ntmps7
    go_wp2
    go_ret
    exact ⟨rfl, Below.refl _ _⟩
  by_cases hc2 : 300 < a0
  · go_enter Try.func7, Try.ntmps7
    go_wp2
    go_ret
    exact ⟨rfl, Below.refl _ _⟩
  by_cases hc3 : a1 < 0
  · go_enter Try.func7, Try.ntmps7
    go_wp2
    go_ret
    exact ⟨rfl, Below.refl _ _⟩
  by_cases hc4 : 70000 < a1
  · go_enter Try.func7, Try.ntmps7
    go_wp2
    go_ret
    exact ⟨rfl, Below.refl _ _⟩
  have hc1' : 0 ≤ a0 := by omega
  have hc2' : a0 ≤ 300 := by omega
  have hc3' : 0 ≤ a1 := by omega
  have hc4' : a1 ≤ 70000 := by omega
  clear hc1 hc2 hc3 hc4
  go_enter Try.func7, Try.ntmps7
  go_wp2_with (fail)
  refine (new_calls _).mono ?_
  rintro e w1 ⟨rfl, h1, b1⟩
  go_wp2_with (fail)
  go_loopw [6] (fun i wr => ∃ x : Int, 1 ≤ x ∧ x ≤ a0 + 1 ∧ i = .int .i64 x ∧ At wr (w.heap.size + 1) w.heap.size (upTo (x - 1).toNat) (x - 1) ∧ Below w.heap.size w wr) (fun i _ => (a0 + 1 - intOf i).toNat)
  case atStart => exact ⟨1, by omega, by omega, rfl, h1, b1⟩
  case round =>
    obtain ⟨x, hx1, hx2, rfl, hA, hB⟩ := hrel
    by_cases hlt : x ≤ a0
    · have hcand : cand (x - 1) (0 : Nat) = x := by simp only [cand]; omega
      have hnot : x ∉ upTo (x - 1).toNat := by rw [mem_upTo]; omega
      have HT := Lib.hid (take_is (h := hA) (j := 0) (id := x) (hj := by omega) (hc := hcand) (hn := hnot) (hb := fun i hi => absurd hi (by omega)))
      clear hcand hnot
      go_wp2_with (fail)
      refine HT.out.mono ?_
      rintro e w2 ⟨rfl, hA2, t2⟩
      go_wp2_with (fail)
      go_roundw
      case rel =>
        have e1 : (x + 1 - 1).toNat = (x - 1).toNat + 1 := by omega
        have e2 : (((x - 1).toNat : Nat) : Int) + 1 = x := by omega
        exact ⟨x + 1, by omega, by omega, rfl, by rw [e1, upTo_succ, e2, show x + 1 - 1 = x from by omega]; exact hA2, below_p2 hB t2⟩
      case measure => simp [intOf]; omega
    · have hA' : At wr (w.heap.size + 1) w.heap.size (upTo a0.toNat) a0 := by
        have : x - 1 = a0 := by omega
        rw [this] at hA
        exact hA
      clear hA
      go_wp2_with (fail)
      go_loopw [9, 10] (fun want i wr => ∃ x y : Int, 0 ≤ y ∧ y ≤ a1 ∧ a0 ≤ x ∧ x ≤ 65535 ∧ want = .int .i64 x ∧ i = .int .i64 y ∧ At wr (w.heap.size + 1) w.heap.size (upTo a0.toNat) x ∧ Below w.heap.size w wr) (fun _ i _ => (a1 - intOf i).toNat)
      case atStart => exact ⟨a0, 0, by omega, by omega, by omega, by omega, rfl, rfl, hA', hB⟩
      case round =>
        clear hA' hB hx1 hx2 hlt
        obtain ⟨x, y, hy1, hy2, hx1, hx2, rfl, rfl, hA, hB⟩ := hrel
        by_cases hlt : y < a1
        · by_cases hw : x < 65535
          · have hcand : cand x (0 : Nat) = x + 1 := cand0 _ (by omega) hw
            have hnot : x + 1 ∉ upTo a0.toNat := by rw [mem_upTo]; omega
            have HT := Lib.hid (take_is (h := hA) (j := 0) (id := x + 1) (hj := by omega) (hc := hcand) (hn := hnot) (hb := fun i hi => absurd hi (by omega)))
            clear hcand hnot
            go_wp2_with (fail)
            refine HT.out.mono ?_
            rintro e w2 ⟨rfl, hA2, t2⟩
            go_wp2_with (fail)
            refine (free_is _ _ _ _ _ hA2 (x + 1) true (wf_i64 (by omega) (by omega)) (by simp)).mono ?_
            rintro e w3 ⟨rfl, hA3, t3⟩
            rw [filter_back _ _ (by omega)] at hA3
            go_wp2_with (fail)
            go_roundw
            case rel => exact ⟨x + 1, y + 1, by omega, by omega, by omega, by omega, rfl, rfl, hA3, below_p2 hB (t2.trans t3)⟩
            case measure => simp [intOf]; omega
          · have hcand : ∀ i : Nat, i < 65535 → cand x i = (i : Int) + 1 := by intro i hi; simp only [cand]; omega
            have hnot : a0 + 1 ∉ upTo a0.toNat := by rw [mem_upTo]; omega
            have HT := Lib.hid (take_is (h := hA) (j := a0.toNat) (id := a0 + 1) (hj := by omega) (hc := by rw [hcand _ (by omega)]; omega) (hn := hnot) (hb := fun i hi => by rw [hcand _ (by omega), mem_upTo]; omega))
            clear hcand hnot
            go_wp2_with (fail)
            refine HT.out.mono ?_
            rintro e w2 ⟨rfl, hA2, t2⟩
            go_wp2_with (fail)
            refine (free_is _ _ _ _ _ hA2 (a0 + 1) true (wf_i64 (by omega) (by omega)) (by simp)).mono ?_
            rintro e w3 ⟨rfl, hA3, t3⟩
            rw [filter_back _ _ (by omega)] at hA3
            go_wp2_with (fail)
            go_roundw
            case rel => exact ⟨a0 + 1, y + 1, by omega, by omega, by omega, by omega, rfl, rfl, hA3, below_p2 hB (t2.trans t3)⟩
            case measure => simp [intOf]; omega
        · have HC := Lib.hid (count_is (h := hA.turn (Turn.refl (fun _ => False) _) (fun h => h) (fun h => h)) (n := a0) (hn := by rw [length_upTo]; omega))
          go_wp2_with (fail)
          refine (awake_calls _).mono ?_
          rintro e w6 ⟨rfl, hb6⟩
          have hA6 : At w6 (w.heap.size + 1) w.heap.size (upTo a0.toNat) x := hA.turn (Turn.of_below (S := fun _ => False) hb6) (fun h => h) (fun h => h)
          have HC := Lib.hid (count_is (h := hA6) (n := a0) (hn := by rw [length_upTo]; omega))
          go_wp2_with (fail)
          refine HC.out.mono ?_
          rintro e w7 ⟨rfl, rfl⟩
          go_wp2_with (fail)
          go_ret
          exact ⟨by simp, hB.trans (hb6.mono hB.size)⟩

end Ids
end Go.Proofs.Ytknkdapiflhifaa

/- IdsFull, IdsRound: the numbers go round. -/
import Derived.Test.YtknkdapiflhifaaIdsC
namespace Go.Proofs.Ytknkdapiflhifaa
open Go.RowKit Go.Maps
set_option linter.unusedVariables false
set_option linter.unusedSimpArgs false
namespace Ids

/-- 1, 2, .., k. -/
def upTo (k : Nat) : List Int := (List.range k).map fun i : Nat => (i : Int) + 1
theorem upTo_succ (k : Nat) : upTo (k + 1) = upTo k ++ [(k : Int) + 1] := by simp [upTo, List.range_succ]
theorem mem_upTo (k : Nat) (x : Int) : x ∈ upTo k ↔ 1 ≤ x ∧ x ≤ k := by
  simp only [upTo, List.mem_map, List.mem_range]
  constructor
  · rintro ⟨i, hi, rfl⟩; omega
  · intro h; exact ⟨(x - 1).toNat, by omega, by omega⟩
theorem length_upTo (k : Nat) : (upTo k).length = k := by simp [upTo]

/-- Full: nothing is taken. -/
theorem take_full (w : World) (B b : Nat) (L : List Int) (last : Int) (h : At w B b L last) (hf : ∀ x : Int, 1 ≤ x → x ≤ 65535 → x ∈ L) :
    Calls Try.prog 9 #[.pointer (some ⟨B, 0, none⟩)] w fun e w' => e = .returned (.tuple #[.int .i64 0, .int .i64 6]) ∧ At w' B b L last ∧ Turn (P2 B b) w w' := by
  refine (take_calls w B b L last h).mono ?_
  rintro e w' (⟨j', h1, h2, h3, rfl, h5, h6⟩ | ⟨h1, rfl, h3, h4⟩)
  · have := cand_range last j'
    exact absurd (hf _ this.1 this.2) h3
  · exact ⟨rfl, h3, h4⟩
theorem free_is (w : World) (B b : Nat) (L : List Int) (last : Int) (h : At w B b L last) (i : Int) (v : Bool) (hi : (Lit.int .i64 i).wf = true) (hv : decide (i ∈ L) = v) :
    Calls Try.prog 11 #[.pointer (some ⟨B, 0, none⟩), .int .i64 i] w fun e w' => e = .returned (.tuple #[.bool v, .int .i64 0]) ∧ At w' B b (L.filter (· ≠ i)) last ∧ Turn (P2 B b) w w' := by
  subst hv
  exact free_calls w B b L last h i hi

theorem below_p2 {w0 w w' : World} (h : Below w0.heap.size w0 w) (t : Turn (P2 (w0.heap.size + 1) w0.heap.size) w w') : Below w0.heap.size w0 w' :=
  t.belowTrans h h.size (fun k hk => by rintro (rfl | rfl) <;> omega)

set_option maxHeartbeats 1000000 in
set_option maxRecDepth 100000 in
theorem full_walk (a0 : Int) (w : World) (w0 : (Lit.int .i64 a0).wf = true) : Calls Try.prog 5 #[.int .i64 a0] w fun e w' => e = .returned (.bool true) ∧ Below w.heap.size w w' := by
  by_cases hc1 : a0 < 1
  · go_enter Try.func5, Try.ntmps5
    go_wp2
    go_ret
    exact ⟨rfl, Below.refl _ _⟩
  by_cases hc2 : 65535 < a0
  · go_enter Try.func5, Try.ntmps5
    go_wp2
    go_ret
    exact ⟨rfl, Below.refl _ _⟩
  have hc1' : 1 ≤ a0 := by omega
  have hc2' : a0 ≤ 65535 := by omega
  clear hc1 hc2
  go_enter Try.func5, Try.ntmps5
  go_wp2_with (fail)
  refine (new_calls _).mono ?_
  rintro e w1 ⟨rfl, h1, b1⟩
  go_wp2_with (fail)
  go_loopw [4] (fun i wr => ∃ x : Int, 1 ≤ x ∧ x ≤ 65536 ∧ i = .int .i64 x ∧ At wr (w.heap.size + 1) w.heap.size (upTo (x - 1).toNat) (x - 1) ∧ Below w.heap.size w wr) (fun i _ => 65536 - (intOf i).toNat)
  case atStart => exact ⟨1, by omega, by omega, rfl, h1, b1⟩
  case round =>
    obtain ⟨x, hx1, hx2, rfl, hA, hB⟩ := hrel
    by_cases hlt : x ≤ 65535
    · have hcand : cand (x - 1) (0 : Nat) = x := by simp only [cand]; omega
      have hnot : x ∉ upTo (x - 1).toNat := by rw [mem_upTo]; omega
      have HT := Lib.hid (take_is (h := hA) (j := 0) (id := x) (hj := by omega) (hc := hcand) (hn := hnot) (hb := fun i hi => absurd hi (by omega)))
      clear hcand hnot
      go_wp2_with (fail)
      refine HT.out.mono ?_
      rintro e w2 ⟨rfl, hA2, t2⟩
      go_wp2_with (fail)
      go_roundw
      case rel =>
        have e1 : (x + 1 - 1).toNat = (x - 1).toNat + 1 := by omega
        have e2 : (((x - 1).toNat : Nat) : Int) + 1 = x := by omega
        exact ⟨x + 1, by omega, by omega, rfl, by rw [e1, upTo_succ, e2, show x + 1 - 1 = x from by omega]; exact hA2, below_p2 hB t2⟩
      case measure => simp [intOf]; omega
    · have HX : Hid (x = 65536) := (by omega : x = 65536)
      have hfull : ∀ y : Int, 1 ≤ y → y ≤ 65535 → y ∈ upTo (x - 1).toNat := fun y h1 h2 => (mem_upTo _ y).2 ⟨h1, by omega⟩
      go_wp2_with (fail)
      refine (take_full _ _ _ _ _ hA hfull).mono ?_
      rintro e w2 ⟨rfl, hA2, t2⟩
      go_wp2_with (fail)
      refine (free_is _ _ _ _ _ hA2 a0 true w0 (decide_eq_true (hfull a0 hc1' hc2'))).mono ?_
      rintro e w3 ⟨rfl, hA3, t3⟩
      go_wp2_with (fail)
      have hcand : ∀ i : Nat, i < 65535 → cand (x - 1) i = (i : Int) + 1 := by intro i hi; rw [HX.out]; simp only [cand]; omega
      refine (take_is _ _ _ _ _ hA3 (a0 - 1).toNat a0 (by omega) (by rw [hcand _ (by omega)]; omega) (by simp) (fun i hi => by
        rw [hcand i (by omega), List.mem_filter]
        exact ⟨hfull _ (by omega) (by omega), by simp; omega⟩)).mono ?_
      rintro e w4 ⟨rfl, hA4, t4⟩
      clear hcand
      go_wp2_with (fail)
      refine (take_full _ _ _ _ _ hA4 (fun y h1 h2 => by
        rw [List.mem_append, List.mem_filter]
        by_cases e : y = a0
        · right; simp [e]
        · left; exact ⟨hfull y h1 h2, by simpa using e⟩)).mono ?_
      rintro e w5 ⟨rfl, hA5, t5⟩
      have hB5 : Below w.heap.size w w5 := below_p2 hB (((t2.trans t3).trans t4).trans t5)
      have ha : ((a0 : Int) == a0) = true := by simp
      go_wp2_with (first | (go_at_call 16; refine (awake_calls _).mono ?_; rintro e w6 ⟨rfl, hb6⟩))
      go_ret
      exact ⟨rfl, hB5.trans (hb6.mono hB5.size)⟩

end Ids
end Go.Proofs.Ytknkdapiflhifaa

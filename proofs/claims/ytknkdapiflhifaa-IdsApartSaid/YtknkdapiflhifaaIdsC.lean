/- The document's example of ids; what Take does where the next number is free. -/
import Derived.Test.YtknkdapiflhifaaIdsB
namespace Go.Proofs.Ytknkdapiflhifaa
open Go.RowKit Go.Maps
set_option linter.unusedVariables false
set_option linter.unusedSimpArgs false
namespace Ids

/-- The j-th that is tried is the first that is free. -/
theorem take_is (w : World) (B b : Nat) (L : List Int) (last : Int) (h : At w B b L last) (j : Nat) (id : Int) (hj : j < 65535) (hc : cand last j = id) (hn : id ∉ L) (hb : ∀ i : Nat, i < j → cand last i ∈ L) :
    Calls Try.prog 9 #[.pointer (some ⟨B, 0, none⟩)] w fun e w' => e = .returned (.tuple #[.int .i64 id, .int .i64 0]) ∧ At w' B b (L ++ [id]) id ∧ Turn (P2 B b) w w' := by
  refine (take_calls w B b L last h).mono ?_
  rintro e w' (⟨j', h1, h2, h3, rfl, h5, h6⟩ | ⟨h1, _⟩)
  · have : j' = j := by
      rcases Nat.lt_trichotomy j' j with h | h | h
      · exact absurd (hb j' h) h3
      · exact h
      · exact absurd (hc ▸ h2 j h) hn
    subst this
    rw [hc] at h5 ⊢
    exact ⟨rfl, h5, h6⟩
  · exact absurd (hc ▸ h1 j hj) hn

theorem used_is (w : World) (B b : Nat) (L : List Int) (last : Int) (h : At w B b L last) (i : Int) (v : Bool) (hi : (Lit.int .i64 i).wf = true) (hv : decide (i ∈ L) = v) :
    Calls Try.prog 14 #[.pointer (some ⟨B, 0, none⟩), .int .i64 i] w fun e w' => e = .returned (.bool v) ∧ w = w' := hv ▸ used_calls w B b L last h i hi
theorem count_is (w : World) (B b : Nat) (L : List Int) (last : Int) (h : At w B b L last) (n : Int) (hn : (L.length : Int) = n) :
    Calls Try.prog 13 #[.pointer (some ⟨B, 0, none⟩)] w fun e w' => e = .returned (.int .i64 n) ∧ w = w' := hn ▸ count_calls w B b L last h

theorem cand0 (last : Int) (h0 : 0 ≤ last) (h1 : last < 65535) : cand last (0 : Nat) = last + 1 := by
  simp only [cand]
  omega

set_option maxHeartbeats 1000000 in
set_option maxRecDepth 100000 in
theorem awake_calls (w : World) : Calls Try.prog 16 #[] w fun e w' => e = .returned (.bool true) ∧ Below w.heap.size w w' := by
  go_enter Try.func16, Try.ntmps16
  go_wp2_with (fail)
  refine (new_calls _).mono ?_
  rintro e w1 ⟨rfl, h1, b1⟩
  go_wp2_with (fail)
  refine (take_is _ _ _ _ _ h1 0 1 (by omega) (by decide) (by simp) (fun i hi => absurd hi (by omega))).mono ?_
  rintro e w2 ⟨rfl, h2, t2⟩
  go_wp2_with (fail)
  refine (take_is _ _ _ _ _ h2 0 2 (by omega) (by decide) (by simp) (fun i hi => absurd hi (by omega))).mono ?_
  rintro e w3 ⟨rfl, h3, t3⟩
  go_wp2_with (fail)
  refine (free_calls _ _ _ _ _ h3 1 (wf_i64 (by omega) (by omega))).mono ?_
  rintro e w4 ⟨rfl, h4, t4⟩
  have e4 : ((([] ++ [1]) ++ [2] : List Int).filter (· ≠ 1)) = [2] := by decide
  rw [e4] at h4
  go_wp2_with (fail)
  refine (take_is _ _ _ _ _ h4 0 3 (by omega) (by decide) (by simp) (fun i hi => absurd hi (by omega))).mono ?_
  rintro e w5 ⟨rfl, h5, t5⟩
  go_wp2_with (fail)
  refine (used_is _ _ _ _ _ h5 3 true (wf_i64 (by omega) (by omega)) (by decide)).mono ?_
  rintro e w' ⟨rfl, rfl⟩
  go_wp2_with (fail)
  refine (count_is _ _ _ _ _ h5 2 (by decide)).mono ?_
  rintro e w' ⟨rfl, rfl⟩
  go_wp2_with (fail)
  go_ret
  refine ⟨rfl, b1.trans ?_⟩
  have t := ((t2.trans t3).trans t4).trans t5
  refine t.toBelow b1.size (fun k hk => ?_)
  rintro (rfl | rfl) <;> omega

/-- IdsNil: whatever the number. -/
theorem nil_walk (a0 : Int) (w : World) (w0 : (Lit.int .i64 a0).wf = true) : Calls Try.prog 6 #[.int .i64 a0] w fun e w' => e = .returned (.bool true) ∧ Below w.heap.size w w' := by
  go_enter Try.func6, Try.ntmps6
  go_wp2_with (first | (go_at_call 9; refine (take_nil _).mono ?_; rintro e w' ⟨rfl, rfl⟩) | (go_at_call 11; refine (free_nil _ _).mono ?_; rintro e w' ⟨rfl, rfl⟩) | (go_at_call 16; refine (awake_calls _).mono ?_; rintro e w' ⟨rfl, hb⟩) | (go_at_call 14; refine (used_nil _ _).mono ?_; rintro e w' ⟨rfl, rfl⟩) | (go_at_call 13; refine (count_nil _).mono ?_; rintro e w' ⟨rfl, rfl⟩))
  go_ret
  exact ⟨rfl, hb⟩

end Ids
end Go.Proofs.Ytknkdapiflhifaa

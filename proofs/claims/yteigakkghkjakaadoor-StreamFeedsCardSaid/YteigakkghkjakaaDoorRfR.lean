/- Rows of the call's own: laid down empty, filled; the empty packet. -/
import Derived.Test.YteigakkghkjakaaDoorPlW
import Derived.Test.YteigakkghkjakaaDoorPlR
namespace Go.Proofs.YteigakkghkjakaaDoor
open Go.RowKit Go.ChangeShapes
set_option linter.unusedVariables false
set_option linter.unusedSimpArgs false
namespace Ref
open Utf (nums nums_length nums_bytes IsStr nums_str)
open Var (BT)
open Pk

theorem own_lit0 (w : World) (base : Nat) (hb : base ≤ w.heap.size) : OwnInts (w.alloc (.cells #[] BT)) base BT .u8 (.slice (some ⟨w.heap.size, 0, none⟩) 0 0) [] :=
  ⟨rfl, .inr ⟨w.heap.size, 0, #[], rfl, hb, heap_new _ _, Nat.le_refl _, by simp [maxLen], rfl, rfl⟩⟩
theorem turn_above0 {w2 W w1 : World} {base : Nat} {e : TypeId} {k : IntKind} {v : Value} {L : List Int} (T : Turn (fun j => base ≤ j) w2 W) (HO : OwnInts W base e k v L) (t : Turn (fun j => v.ownBlock = some j) W w1) : Turn (fun j => base ≤ j) w2 w1 :=
  T.trans (t.mono fun k _ h => (own_block_ge HO k h).1)
theorem lies_zero (w : World) : Lies w zeroP [] [] := ⟨⟨none, 0, rfl, fun h => absurd h (by simp)⟩, ⟨none, 0, rfl, fun h => absurd h (by simp)⟩, by decide, by decide, by decide⟩
theorem same_zero (w : World) : Calls Tryd.prog 18 #[.agg zeroP.cells, .agg zeroP.cells] w fun e w' => e = .returned (.bool true) ∧ Below w.heap.size w w' := by
  have h := same_calls w zeroP zeroP [] [] [] [] (lies_zero w) (lies_zero w) (by decide) (by decide)
  rw [decide_eq_true ⟨rfl, rfl, rfl⟩] at h
  exact h
/-- A row of the call's own that is being filled. -/
def Fills (w w' : World) (A : Option Addr) (n c : Nat) : Prop :=
  Turn (fun j => (Value.slice A n c).ownBlock = some j) w w' ∧ (0 < n → ∃ g cur, A = some ⟨g, 0, none⟩ ∧ w'.heap[g]? = some (.cells cur BT (0, 0)) ∧ n ≤ cur.size)
theorem Fills.start {w : World} {base : Nat} {A : Option Addr} {n c : Nat} {L : List Int} (h : OwnInts w base BT .u8 (.slice A n c) L) : Fills w w A n c := by
  refine ⟨Turn.refl _ _, fun hn => ?_⟩
  have hl := (own_reads h).1
  rcases h.2 with ⟨h1, h2⟩ | ⟨g, cap, cur, h1, hg, hh, hc, hm, hs, ht⟩
  · omega
  · injection h1 with h1 _ _
    refine ⟨g, cur, h1, hh, ?_⟩
    have := congrArg List.length ht
    simp at this
    omega
theorem Fills.step {w w' : World} {A : Option Addr} {n c k : Nat} {x : Addr} (h : Fills w w' A n c) (hA : A = some x) (hk : k < n) (v : Value) : Fills w (w'.setCell (x.add k) v) A n c := by
  obtain ⟨t, h2⟩ := h
  obtain ⟨g, cur, h3, h4, h5⟩ := h2 (by omega)
  rw [h3] at hA
  cases hA
  rw [add_plain0]
  refine ⟨t.trans (Turn.setCell _ _ (by rw [h3]; rfl)), fun _ => ⟨g, cur.setIfInBounds k v, h3, heap_set_same _ _ _ _ h4, by simpa using h5⟩⟩
theorem Fills.cell {w w' : World} {A : Option Addr} {n c k : Nat} (h : Fills w w' A n c) (hk : k < n) : ∃ x v, A = some x ∧ w'.cell? (x.add k) = some v ∧ w'.frozen? (x.add k) = false := by
  obtain ⟨g, cur, h3, h4, h5⟩ := h.2 (by omega)
  refine ⟨_, cur[k]'(by omega), h3, ?_, ?_⟩
  · rw [add_plain0, cell_heap h4]; simp
  · rw [add_plain0]; exact frozen_heap h4

end Ref
end Go.Proofs.YteigakkghkjakaaDoor

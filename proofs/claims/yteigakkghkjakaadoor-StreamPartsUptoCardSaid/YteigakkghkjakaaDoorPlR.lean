/- PacketAgain: what is read is laid down as the same bytes. -/
import Derived.Test.YteigakkghkjakaaDoorPlO
import Derived.OpenShut
namespace Go.Proofs.YteigakkghkjakaaDoor
open Go.RowKit Go.ChangeShapes
set_option linter.unusedVariables false
set_option linter.unusedSimpArgs false
namespace Pk
open Utf (nums nums_length nums_bytes IsStr nums_str)
open Var (BT)

theorem u8_range {x : Int} (h : (Lit.int .u8 x).wf = true) : 0 ≤ x ∧ x < 256 := by have := bounds_u8 h; omega
theorem row_reads8 {w : World} {a : Option Addr} {len cap : Nat} {zs : List Int} (h : IsRow .u8 w a len cap zs) :
    (zs.take len).length = len ∧ Reads .u8 w a (zs.take len) ∧ (∀ x ∈ zs.take len, 0 ≤ x ∧ x < 256) ∧ len ≤ cap := by
  rcases h with ⟨rfl, rfl, rfl, rfl⟩ | ⟨x, rfl, h1, h2, h3, h4, h5⟩
  · exact ⟨rfl, fun h => absurd h (by simp), by simp, Nat.le_refl _⟩
  · have hl : (zs.take len).length = len := by simp; omega
    refine ⟨hl, fun _ => ⟨x, rfl, fun i hi => ?_⟩, fun y hy => u8_range (h5 y (List.mem_of_mem_take hy)), h1⟩
    rw [hl] at hi
    rw [lat_take _ _ _ hi]
    exact h4 i (by omega)

end Pk
end Go.Proofs.YteigakkghkjakaaDoor

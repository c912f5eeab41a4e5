/- The reference's Parse: what it answers. -/
import Derived.Test.YteigakkghkjakaaDoorRfP
import Derived.Test.YteigakkghkjakaaDoorRfQ
import Derived.Test.YteigakkghkjakaaDoorRfS
namespace Go.Proofs.YteigakkghkjakaaDoor
open Go.RowKit Go.ChangeShapes
set_option linter.unusedVariables false
set_option linter.unusedSimpArgs false
namespace Ref
open Utf (nums nums_length nums_bytes IsStr nums_str)
open Var (BT info_byte GivesBytes digs digs_length tell rat_calls)
open Pk

theorem rparse_calls (w : World) (A : Option Addr) (L : List Int) (c : Nat) (hR : Reads .u8 w A L) (hc : L.length ≤ c) (hcb : c ≤ 9223372036854775807) (hby : ∀ x ∈ L, 0 ≤ x ∧ x < 256) (hl : L.length ≤ 50000) : Calls Tryd.prog 16 #[.slice A L.length c] w fun e w' => RParsePost w L e w'  := by
  have hb : 0 ≤ lat L 0 ∧ lat L 0 < 256 := by
    cases L with
    | nil => exact ⟨by decide, by decide⟩
    | cons y M => exact hby _ (lat_mem (y :: M) 0 (by simp))
  obtain ⟨T, hT⟩ : ∃ T, T = lat L 0 / 16 := ⟨_, rfl⟩
  by_cases h1 : T = 1 ∨ T = 2 ∨ T = 3
  · exact rparse_b w A L c hR hc hcb hby hl (fun T' h => by rw [h, ← hT]; exact h1)
  · by_cases h2 : T = 8 ∨ T = 10
    · exact rparse_c w A L c hR hc hcb hby hl (fun T' h => by rw [h, ← hT]; exact h2)
    · exact rparse_a w A L c hR hc hcb hby hl (fun T' h => by rw [h, ← hT]; omega)
end Ref
end Go.Proofs.YteigakkghkjakaaDoor

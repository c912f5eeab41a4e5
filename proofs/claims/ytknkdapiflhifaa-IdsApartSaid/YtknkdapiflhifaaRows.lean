/-
  No cell of these rows narrows 'for every input' (looked for: loops, veiled, ifaces, maps, wideKeys, modest, calm, conditions, laid).
  DERIVED. THE GIVEN ROWS OF THIS SEAT. 5 by the template 'for every input the law returns true; each argument reads behind the call as it read before'; 0 by the template 'total and deterministic' (their statements: YtknkdapiflhifaaTotals.lean).
  GIVEN WITH THE SEED: the statements are not yours to turn. If you find one false, say at which input.
  Laid BY PROGRAM, IN A SANDBOX (cutbox-rows.mjs): the forced cells as the released guide's own fill.sh prints them over the translation 22479eed89d35368… (all of the seat's roots in one cut). By AI agents, Wed Nov 11 2026. No macro, syntax, notation, axiom, sorry.
-/
import Derived.Test.YtknkdapiflhifaaChecked
import GoSem.Claim
import GoSem.ClaimJoined
import GoSem.ClaimMapViews
import Derived.JoinedTies
import Derived.KernelRfl
namespace Go.Proofs.Ytknkdapiflhifaa
/- THE CELL 'sum', in the pinned program and in every row, IS THE sha256 OF THE DUMP (.gsa) THAT YtknkdapiflhifaaProg.lean LOADS. Nothing in Lean hashes anything: it is a label: what it is worth is what the hold of that sum in a sandbox is worth. -/
noncomputable def Try.pinned : Pinned := { name := "ytknkdapiflhifaa", sum := "22479eed89d35368884ed52a90f736e9662554765f7a08638a487f1f9472676d", checked := Try.checked }
namespace Rows
def none {H : Type} : Left H := { results := [], args := [] }

/-- 'basculelaw15.IdsDoes': WHATEVER THE INPUT: true; the input reads as it did. -/
def idsDoesSpec : ChangeSpec := { name := "idsDoes", fn := fun _ => fun
  | [d1, d2] => { results := [.lit (.bool true)], args := [d1, d2] }
  | _ => none }
def idsDoesRow : OpenClaim := { program := "ytknkdapiflhifaa", sum := "22479eed89d35368884ed52a90f736e9662554765f7a08638a487f1f9472676d", func := "bascule/basculelaw15.IdsDoes", spec := "idsDoes", apart := false }
def IdsDoesSaid : Prop := idsDoesRow.holds Try.pinned (OpenSpec.ofChange idsDoesSpec)

/-- ITS FALSE NEIGHBOUR: 'it returns false'. Refute it at one input. -/
def idsDoesWrong : ChangeSpec := { name := "idsDoes", fn := fun _ => fun
  | [d1, d2] => { results := [.lit (.bool false)], args := [d1, d2] }
  | _ => none }
def IdsDoesWrongFalsely : Prop := idsDoesRow.holds Try.pinned (OpenSpec.ofChange idsDoesWrong)

/-- 'basculelaw15.IdsApart': WHATEVER THE INPUT: true; the input reads as it did. -/
def idsApartSpec : ChangeSpec := { name := "idsApart", fn := fun _ => fun
  | [d] => { results := [.lit (.bool true)], args := [d] }
  | _ => none }
def idsApartRow : OpenClaim := { program := "ytknkdapiflhifaa", sum := "22479eed89d35368884ed52a90f736e9662554765f7a08638a487f1f9472676d", func := "bascule/basculelaw15.IdsApart", spec := "idsApart", apart := false }
def IdsApartSaid : Prop := idsApartRow.holds Try.pinned (OpenSpec.ofChange idsApartSpec)

/-- ITS FALSE NEIGHBOUR: 'it returns false'. Refute it at one input. -/
def idsApartWrong : ChangeSpec := { name := "idsApart", fn := fun _ => fun
  | [d] => { results := [.lit (.bool false)], args := [d] }
  | _ => none }
def IdsApartWrongFalsely : Prop := idsApartRow.holds Try.pinned (OpenSpec.ofChange idsApartWrong)

/-- 'basculelaw15.IdsFull': WHATEVER THE INPUT: true; the input reads as it did. -/
def idsFullSpec : ChangeSpec := { name := "idsFull", fn := fun _ => fun
  | [d] => { results := [.lit (.bool true)], args := [d] }
  | _ => none }
def idsFullRow : OpenClaim := { program := "ytknkdapiflhifaa", sum := "22479eed89d35368884ed52a90f736e9662554765f7a08638a487f1f9472676d", func := "bascule/basculelaw15.IdsFull", spec := "idsFull", apart := false }
def IdsFullSaid : Prop := idsFullRow.holds Try.pinned (OpenSpec.ofChange idsFullSpec)

/-- ITS FALSE NEIGHBOUR: 'it returns false'. Refute it at one input. -/
def idsFullWrong : ChangeSpec := { name := "idsFull", fn := fun _ => fun
  | [d] => { results := [.lit (.bool false)], args := [d] }
  | _ => none }
def IdsFullWrongFalsely : Prop := idsFullRow.holds Try.pinned (OpenSpec.ofChange idsFullWrong)

/-- 'basculelaw15.IdsNil': WHATEVER THE INPUT: true; the input reads as it did. -/
def idsNilSpec : ChangeSpec := { name := "idsNil", fn := fun _ => fun
  | [d] => { results := [.lit (.bool true)], args := [d] }
  | _ => none }
def idsNilRow : OpenClaim := { program := "ytknkdapiflhifaa", sum := "22479eed89d35368884ed52a90f736e9662554765f7a08638a487f1f9472676d", func := "bascule/basculelaw15.IdsNil", spec := "idsNil", apart := false }
def IdsNilSaid : Prop := idsNilRow.holds Try.pinned (OpenSpec.ofChange idsNilSpec)

/-- ITS FALSE NEIGHBOUR: 'it returns false'. Refute it at one input. -/
def idsNilWrong : ChangeSpec := { name := "idsNil", fn := fun _ => fun
  | [d] => { results := [.lit (.bool false)], args := [d] }
  | _ => none }
def IdsNilWrongFalsely : Prop := idsNilRow.holds Try.pinned (OpenSpec.ofChange idsNilWrong)

/-- 'basculelaw15.IdsRound': WHATEVER THE INPUT: true; the input reads as it did. -/
def idsRoundSpec : ChangeSpec := { name := "idsRound", fn := fun _ => fun
  | [d1, d2] => { results := [.lit (.bool true)], args := [d1, d2] }
  | _ => none }
def idsRoundRow : OpenClaim := { program := "ytknkdapiflhifaa", sum := "22479eed89d35368884ed52a90f736e9662554765f7a08638a487f1f9472676d", func := "bascule/basculelaw15.IdsRound", spec := "idsRound", apart := false }
def IdsRoundSaid : Prop := idsRoundRow.holds Try.pinned (OpenSpec.ofChange idsRoundSpec)

/-- ITS FALSE NEIGHBOUR: 'it returns false'. Refute it at one input. -/
def idsRoundWrong : ChangeSpec := { name := "idsRound", fn := fun _ => fun
  | [d1, d2] => { results := [.lit (.bool false)], args := [d1, d2] }
  | _ => none }
def IdsRoundWrongFalsely : Prop := idsRoundRow.holds Try.pinned (OpenSpec.ofChange idsRoundWrong)

/- THE SECOND FORM. 'bulk': how many values and letters a reading holds, each counted each time it is reached (what is shared counts as often as it is met; a slice's spare places count too). A statement '..UptoSaid' is the law's where the arguments, and the package variables that the reading takes, are together of bulk at most 1048576: NARROWER than '..Said'. Prove '..Said' where nothing that the law and all that it calls make is longer than what came in: it says more and counts as full. Else prove '..UptoSaid'. A law counts once. -/
mutual
def uptoBulk {H : Type} : DataW H → Nat
  | .lit (.string bytes) => bytes.length + 1
  | .lit _ => 1
  | .nil => 1
  | .ptr d => uptoBulk d + 1
  | .slice elems spare => uptoBulkAll elems + uptoBulkAll spare + 1
  | .agg parts => uptoBulkAll parts + 1
  | .iface _ d => uptoBulk d + 1
  | .map entries => uptoBulkEntries entries + 1
  | .held _ => 1
def uptoBulkAll {H : Type} : List (DataW H) → Nat
  | [] => 0
  | d :: r => uptoBulk d + uptoBulkAll r
def uptoBulkEntries {H : Type} : List (Lit × DataW H) → Nat
  | [] => 0
  | x :: r => uptoBulkEntry x + uptoBulkEntries r
def uptoBulkEntry {H : Type} : Lit × DataW H → Nat
  | (.string bytes, d) => bytes.length + uptoBulk d + 1
  | (_, d) => uptoBulk d + 1
 end
def uptoSmall : (H : Type) → List (DataW H) → Bool := fun _ ds => decide (uptoBulkAll ds ≤ 1048576)
def OpenSpec.upto (s : _root_.Go.ChangeSpec) : _root_.Go.OpenSpec := { _root_.Go.OpenSpec.ofChange s with cond := some uptoSmall }

/-- 'basculelaw15.IdsDoes', WHERE WHAT IT READS IS OF BULK AT MOST 1048576: true; the input reads as it did. -/
def idsDoesUptoRow : OpenClaim := { program := "ytknkdapiflhifaa", sum := "22479eed89d35368884ed52a90f736e9662554765f7a08638a487f1f9472676d", func := "bascule/basculelaw15.IdsDoes", spec := "idsDoes", apart := false, narrowed := true }
def IdsDoesUptoSaid : Prop := idsDoesUptoRow.holds Try.pinned (OpenSpec.upto idsDoesSpec)

/-- 'basculelaw15.IdsApart', WHERE WHAT IT READS IS OF BULK AT MOST 1048576: true; the input reads as it did. -/
def idsApartUptoRow : OpenClaim := { program := "ytknkdapiflhifaa", sum := "22479eed89d35368884ed52a90f736e9662554765f7a08638a487f1f9472676d", func := "bascule/basculelaw15.IdsApart", spec := "idsApart", apart := false, narrowed := true }
def IdsApartUptoSaid : Prop := idsApartUptoRow.holds Try.pinned (OpenSpec.upto idsApartSpec)

/-- 'basculelaw15.IdsFull', WHERE WHAT IT READS IS OF BULK AT MOST 1048576: true; the input reads as it did. -/
def idsFullUptoRow : OpenClaim := { program := "ytknkdapiflhifaa", sum := "22479eed89d35368884ed52a90f736e9662554765f7a08638a487f1f9472676d", func := "bascule/basculelaw15.IdsFull", spec := "idsFull", apart := false, narrowed := true }
def IdsFullUptoSaid : Prop := idsFullUptoRow.holds Try.pinned (OpenSpec.upto idsFullSpec)

/-- 'basculelaw15.IdsNil', WHERE WHAT IT READS IS OF BULK AT MOST 1048576: true; the input reads as it did. -/
def idsNilUptoRow : OpenClaim := { program := "ytknkdapiflhifaa", sum := "22479eed89d35368884ed52a90f736e9662554765f7a08638a487f1f9472676d", func := "bascule/basculelaw15.IdsNil", spec := "idsNil", apart := false, narrowed := true }
def IdsNilUptoSaid : Prop := idsNilUptoRow.holds Try.pinned (OpenSpec.upto idsNilSpec)

/-- 'basculelaw15.IdsRound', WHERE WHAT IT READS IS OF BULK AT MOST 1048576: true; the input reads as it did. -/
def idsRoundUptoRow : OpenClaim := { program := "ytknkdapiflhifaa", sum := "22479eed89d35368884ed52a90f736e9662554765f7a08638a487f1f9472676d", func := "bascule/basculelaw15.IdsRound", spec := "idsRound", apart := false, narrowed := true }
def IdsRoundUptoSaid : Prop := idsRoundUptoRow.holds Try.pinned (OpenSpec.upto idsRoundSpec)

end Rows
end Go.Proofs.Ytknkdapiflhifaa

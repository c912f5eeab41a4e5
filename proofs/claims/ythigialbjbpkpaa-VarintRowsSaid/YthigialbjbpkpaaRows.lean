/-
  No cell of these rows narrows 'for every input' (looked for: loops, veiled, ifaces, maps, wideKeys, modest, calm, conditions, laid).
  DERIVED. THE GIVEN ROWS OF THIS SEAT. 5 by the template 'for every input the law returns true; each argument reads behind the call as it read before'; 0 by the template 'total and deterministic' (their statements: YthigialbjbpkpaaTotals.lean).
  GIVEN WITH THE SEED: the statements are not yours to turn. If you find one false, say at which input.
  Laid BY PROGRAM, IN A SANDBOX (cutbox-rows.mjs): the forced cells as the released guide's own fill.sh prints them over the translation 4d27ca865e9a95d6… (all of the seat's roots in one cut). By AI agents, Wed Nov 11 2026. No macro, syntax, notation, axiom, sorry.
-/
import Derived.Test.YthigialbjbpkpaaChecked
import GoSem.Claim
import GoSem.ClaimJoined
import GoSem.ClaimMapViews
import Derived.JoinedTies
import Derived.KernelRfl
namespace Go.Proofs.Ythigialbjbpkpaa
/- THE CELL 'sum', in the pinned program and in every row, IS THE sha256 OF THE DUMP (.gsa) THAT YthigialbjbpkpaaProg.lean LOADS. Nothing in Lean hashes anything: it is a label: what it is worth is what the hold of that sum in a sandbox is worth. -/
noncomputable def Try.pinned : Pinned := { name := "ythigialbjbpkpaa", sum := "4d27ca865e9a95d64539265678fe8c61007fee222c2394c0cae19a530c1c403a", checked := Try.checked }
namespace Rows
def none {H : Type} : Left H := { results := [], args := [] }

/-- 'basculelaw08.VarintPuts': WHATEVER THE INPUT: true; the input reads as it did. -/
def varintPutsSpec : ChangeSpec := { name := "varintPuts", fn := fun _ => fun
  | [d] => { results := [.lit (.bool true)], args := [d] }
  | _ => none }
def varintPutsRow : OpenClaim := { program := "ythigialbjbpkpaa", sum := "4d27ca865e9a95d64539265678fe8c61007fee222c2394c0cae19a530c1c403a", func := "bascule/basculelaw08.VarintPuts", spec := "varintPuts", unfollowed := true, recurses := true, apart := false }
def VarintPutsSaid : Prop := varintPutsRow.holds Try.pinned (OpenSpec.ofChange varintPutsSpec)

/-- ITS FALSE NEIGHBOUR: 'it returns false'. Refute it at one input. -/
def varintPutsWrong : ChangeSpec := { name := "varintPuts", fn := fun _ => fun
  | [d] => { results := [.lit (.bool false)], args := [d] }
  | _ => none }
def VarintPutsWrongFalsely : Prop := varintPutsRow.holds Try.pinned (OpenSpec.ofChange varintPutsWrong)

/-- 'basculelaw08.VarintTells': WHATEVER THE INPUT: true; the input reads as it did. -/
def varintTellsSpec : ChangeSpec := { name := "varintTells", fn := fun _ => fun
  | [d1, d2] => { results := [.lit (.bool true)], args := [d1, d2] }
  | _ => none }
def varintTellsRow : OpenClaim := { program := "ythigialbjbpkpaa", sum := "4d27ca865e9a95d64539265678fe8c61007fee222c2394c0cae19a530c1c403a", func := "bascule/basculelaw08.VarintTells", spec := "varintTells", unfollowed := true, recurses := true, apart := false }
def VarintTellsSaid : Prop := varintTellsRow.holds Try.pinned (OpenSpec.ofChange varintTellsSpec)

/-- ITS FALSE NEIGHBOUR: 'it returns false'. Refute it at one input. -/
def varintTellsWrong : ChangeSpec := { name := "varintTells", fn := fun _ => fun
  | [d1, d2] => { results := [.lit (.bool false)], args := [d1, d2] }
  | _ => none }
def VarintTellsWrongFalsely : Prop := varintTellsRow.holds Try.pinned (OpenSpec.ofChange varintTellsWrong)

/-- 'basculelaw08.VarintBack': WHATEVER THE INPUT: true; the input reads as it did. -/
def varintBackSpec : ChangeSpec := { name := "varintBack", fn := fun _ => fun
  | [d1, d2, d3, d4] => { results := [.lit (.bool true)], args := [d1, d2, d3, d4] }
  | _ => none }
def varintBackRow : OpenClaim := { program := "ythigialbjbpkpaa", sum := "4d27ca865e9a95d64539265678fe8c61007fee222c2394c0cae19a530c1c403a", func := "bascule/basculelaw08.VarintBack", spec := "varintBack", unfollowed := true, recurses := true, apart := false }
def VarintBackSaid : Prop := varintBackRow.holds Try.pinned (OpenSpec.ofChange varintBackSpec)

/-- ITS FALSE NEIGHBOUR: 'it returns false'. Refute it at one input. -/
def varintBackWrong : ChangeSpec := { name := "varintBack", fn := fun _ => fun
  | [d1, d2, d3, d4] => { results := [.lit (.bool false)], args := [d1, d2, d3, d4] }
  | _ => none }
def VarintBackWrongFalsely : Prop := varintBackRow.holds Try.pinned (OpenSpec.ofChange varintBackWrong)

/-- 'basculelaw08.VarintAgain': WHATEVER THE INPUT: true; the input reads as it did. -/
def varintAgainSpec : ChangeSpec := { name := "varintAgain", fn := fun _ => fun
  | [d1, d2] => { results := [.lit (.bool true)], args := [d1, d2] }
  | _ => none }
def varintAgainRow : OpenClaim := { program := "ythigialbjbpkpaa", sum := "4d27ca865e9a95d64539265678fe8c61007fee222c2394c0cae19a530c1c403a", func := "bascule/basculelaw08.VarintAgain", spec := "varintAgain", unfollowed := true, recurses := true, apart := false }
def VarintAgainSaid : Prop := varintAgainRow.holds Try.pinned (OpenSpec.ofChange varintAgainSpec)

/-- ITS FALSE NEIGHBOUR: 'it returns false'. Refute it at one input. -/
def varintAgainWrong : ChangeSpec := { name := "varintAgain", fn := fun _ => fun
  | [d1, d2] => { results := [.lit (.bool false)], args := [d1, d2] }
  | _ => none }
def VarintAgainWrongFalsely : Prop := varintAgainRow.holds Try.pinned (OpenSpec.ofChange varintAgainWrong)

/-- 'basculelaw08.VarintRows': WHATEVER THE INPUT: true; the input reads as it did. -/
def varintRowsSpec : ChangeSpec := { name := "varintRows", fn := fun _ => fun
  | [d] => { results := [.lit (.bool true)], args := [d] }
  | _ => none }
def varintRowsRow : OpenClaim := { program := "ythigialbjbpkpaa", sum := "4d27ca865e9a95d64539265678fe8c61007fee222c2394c0cae19a530c1c403a", func := "bascule/basculelaw08.VarintRows", spec := "varintRows", unfollowed := true, recurses := true, apart := false }
def VarintRowsSaid : Prop := varintRowsRow.holds Try.pinned (OpenSpec.ofChange varintRowsSpec)

/-- ITS FALSE NEIGHBOUR: 'it returns false'. Refute it at one input. -/
def varintRowsWrong : ChangeSpec := { name := "varintRows", fn := fun _ => fun
  | [d] => { results := [.lit (.bool false)], args := [d] }
  | _ => none }
def VarintRowsWrongFalsely : Prop := varintRowsRow.holds Try.pinned (OpenSpec.ofChange varintRowsWrong)

/- THE SECOND FORM. 'bulk': how many values and letters a reading holds, each counted each time it is reached (what is shared counts as often as it is met; a slice's spare places count too). A statement '..UptoSaid' is the law's where the arguments, and the package variables that the reading takes, are together of bulk at most 1048576: NARROWER than '..Said'. Prove '..Said' where nothing that the law and all that it calls make is longer than what came in: it says more and counts as full. Else prove '..UptoSaid'. A law counts once. -/
mutual
def uptoBulk {H : Type} : DataW H → Nat
  | .lit (.string bytes) => bytes.length + 1
  | .lit _ => 1
  | .nil => 1
  | .ptr d => uptoBulk d + 1
  | .slice elems spare => uptoBulkAll elems + uptoBulkAll spare + 1
  | .agg parts => uptoBulkAll parts + 1
  | .iface _ d => uptoBulk d + 1
  | .map entries => uptoBulkEntries entries + 1
  | .held _ => 1
def uptoBulkAll {H : Type} : List (DataW H) → Nat
  | [] => 0
  | d :: r => uptoBulk d + uptoBulkAll r
def uptoBulkEntries {H : Type} : List (Lit × DataW H) → Nat
  | [] => 0
  | x :: r => uptoBulkEntry x + uptoBulkEntries r
def uptoBulkEntry {H : Type} : Lit × DataW H → Nat
  | (.string bytes, d) => bytes.length + uptoBulk d + 1
  | (_, d) => uptoBulk d + 1
 end
def uptoSmall : (H : Type) → List (DataW H) → Bool := fun _ ds => decide (uptoBulkAll ds ≤ 1048576)
def OpenSpec.upto (s : _root_.Go.ChangeSpec) : _root_.Go.OpenSpec := { _root_.Go.OpenSpec.ofChange s with cond := some uptoSmall }

/-- 'basculelaw08.VarintPuts', WHERE WHAT IT READS IS OF BULK AT MOST 1048576: true; the input reads as it did. -/
def varintPutsUptoRow : OpenClaim := { program := "ythigialbjbpkpaa", sum := "4d27ca865e9a95d64539265678fe8c61007fee222c2394c0cae19a530c1c403a", func := "bascule/basculelaw08.VarintPuts", spec := "varintPuts", unfollowed := true, recurses := true, apart := false, narrowed := true }
def VarintPutsUptoSaid : Prop := varintPutsUptoRow.holds Try.pinned (OpenSpec.upto varintPutsSpec)

/-- 'basculelaw08.VarintTells', WHERE WHAT IT READS IS OF BULK AT MOST 1048576: true; the input reads as it did. -/
def varintTellsUptoRow : OpenClaim := { program := "ythigialbjbpkpaa", sum := "4d27ca865e9a95d64539265678fe8c61007fee222c2394c0cae19a530c1c403a", func := "bascule/basculelaw08.VarintTells", spec := "varintTells", unfollowed := true, recurses := true, apart := false, narrowed := true }
def VarintTellsUptoSaid : Prop := varintTellsUptoRow.holds Try.pinned (OpenSpec.upto varintTellsSpec)

/-- 'basculelaw08.VarintBack', WHERE WHAT IT READS IS OF BULK AT MOST 1048576: true; the input reads as it did. -/
def varintBackUptoRow : OpenClaim := { program := "ythigialbjbpkpaa", sum := "4d27ca865e9a95d64539265678fe8c61007fee222c2394c0cae19a530c1c403a", func := "bascule/basculelaw08.VarintBack", spec := "varintBack", unfollowed := true, recurses := true, apart := false, narrowed := true }
def VarintBackUptoSaid : Prop := varintBackUptoRow.holds Try.pinned (OpenSpec.upto varintBackSpec)

/-- 'basculelaw08.VarintAgain', WHERE WHAT IT READS IS OF BULK AT MOST 1048576: true; the input reads as it did. -/
def varintAgainUptoRow : OpenClaim := { program := "ythigialbjbpkpaa", sum := "4d27ca865e9a95d64539265678fe8c61007fee222c2394c0cae19a530c1c403a", func := "bascule/basculelaw08.VarintAgain", spec := "varintAgain", unfollowed := true, recurses := true, apart := false, narrowed := true }
def VarintAgainUptoSaid : Prop := varintAgainUptoRow.holds Try.pinned (OpenSpec.upto varintAgainSpec)

/-- 'basculelaw08.VarintRows', WHERE WHAT IT READS IS OF BULK AT MOST 1048576: true; the input reads as it did. -/
def varintRowsUptoRow : OpenClaim := { program := "ythigialbjbpkpaa", sum := "4d27ca865e9a95d64539265678fe8c61007fee222c2394c0cae19a530c1c403a", func := "bascule/basculelaw08.VarintRows", spec := "varintRows", unfollowed := true, recurses := true, apart := false, narrowed := true }
def VarintRowsUptoSaid : Prop := varintRowsUptoRow.holds Try.pinned (OpenSpec.upto varintRowsSpec)

end Rows
end Go.Proofs.Ythigialbjbpkpaa

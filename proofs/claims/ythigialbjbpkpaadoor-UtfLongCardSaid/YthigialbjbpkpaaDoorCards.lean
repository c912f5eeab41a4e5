/-
  DERIVED. GIVEN WITH THE SEED: THE CARDS: each row of YthigialbjbpkpaaDoorRows.lean that lists a variable, with what it lists TIED to the program's text (the seventh form; the later family's looks); each row that meets fmt, with fmt's text TOLD by the authors' own Lean function (tested against real Go, not proved from fmt's source: count such statements apart). THE CARD IS WHAT COUNTS. Prove the row's statement (the work); the ties are given (YthigialbjbpkpaaDoorTie.lean); close each card by the builder's one call (the guide's Derived/Test/ToyasCard.lean, 'card_holds'). Laid BY PROGRAM, IN A SANDBOX (cutbox-door.mjs). By AI agents, Wed Nov 11 2026. No macro, syntax, notation, axiom, sorry.
-/
import Derived.Test.YthigialbjbpkpaaDoorRows
import GoSem.ClaimSeven
namespace Go.Proofs.YthigialbjbpkpaaDoor
namespace Rows

/-- THE TIED CARD OF 'basculelaw09.UtfTells'. -/
def utfTellsCard : Claim7 := { stood := { row := utfTellsRow, standIns := [], harness := (true, "9460100b1019736bd69ea98832050658c03f5f2f226b8a5e1215f4354248c4d9"), looks := false }, kinds := [], alts := [], laidByText := true, laidKinds := [.data, .pinned], laidTests := true, laidLooks := .later }
def UtfTellsCardSaid : Prop := Claim7.holds Tryd.pinned (.plain (OpenSpec.ofChange utfTellsSpec)) utfTellsCard

/-- THE TIED CARD OF 'basculelaw09.UtfTexts'. -/
def utfTextsCard : Claim7 := { stood := { row := utfTextsRow, standIns := [], harness := (true, "9460100b1019736bd69ea98832050658c03f5f2f226b8a5e1215f4354248c4d9"), looks := false }, kinds := [], alts := [], laidByText := true, laidKinds := [.data, .pinned], laidTests := true, laidLooks := .later }
def UtfTextsCardSaid : Prop := Claim7.holds Tryd.pinned (.plain (OpenSpec.ofChange utfTextsSpec)) utfTextsCard

/-- THE TIED CARD OF 'basculelaw09.UtfBack'. -/
def utfBackCard : Claim7 := { stood := { row := utfBackRow, standIns := [], harness := (true, "9460100b1019736bd69ea98832050658c03f5f2f226b8a5e1215f4354248c4d9"), looks := false }, kinds := [], alts := [], laidByText := true, laidKinds := [.data, .pinned], laidTests := true, laidLooks := .later }
def UtfBackCardSaid : Prop := Claim7.holds Tryd.pinned (.plain (OpenSpec.ofChange utfBackSpec)) utfBackCard

/-- THE TIED CARD OF 'basculelaw09.UtfLong'. -/
def utfLongCard : Claim7 := { stood := { row := utfLongRow, standIns := [], harness := (true, "9460100b1019736bd69ea98832050658c03f5f2f226b8a5e1215f4354248c4d9"), looks := false }, kinds := [], alts := [], laidByText := true, laidKinds := [.data, .pinned], laidTests := true, laidLooks := .later }
def UtfLongCardSaid : Prop := Claim7.holds Tryd.pinned (.plain (OpenSpec.ofChange utfLongSpec)) utfLongCard

/-- THE SECOND FORM's CARD OF 'basculelaw09.UtfTells'. -/
def utfTellsUptoCard : Claim7 := { stood := { row := utfTellsUptoRow, standIns := [], harness := (true, "9460100b1019736bd69ea98832050658c03f5f2f226b8a5e1215f4354248c4d9"), looks := false }, kinds := [], alts := [], laidByText := true, laidKinds := [.data, .pinned], laidTests := true, laidLooks := .later }
def UtfTellsUptoCardSaid : Prop := Claim7.holds Tryd.pinned (.plain (OpenSpec.upto utfTellsSpec)) utfTellsUptoCard

/-- THE SECOND FORM's CARD OF 'basculelaw09.UtfTexts'. -/
def utfTextsUptoCard : Claim7 := { stood := { row := utfTextsUptoRow, standIns := [], harness := (true, "9460100b1019736bd69ea98832050658c03f5f2f226b8a5e1215f4354248c4d9"), looks := false }, kinds := [], alts := [], laidByText := true, laidKinds := [.data, .pinned], laidTests := true, laidLooks := .later }
def UtfTextsUptoCardSaid : Prop := Claim7.holds Tryd.pinned (.plain (OpenSpec.upto utfTextsSpec)) utfTextsUptoCard

/-- THE SECOND FORM's CARD OF 'basculelaw09.UtfBack'. -/
def utfBackUptoCard : Claim7 := { stood := { row := utfBackUptoRow, standIns := [], harness := (true, "9460100b1019736bd69ea98832050658c03f5f2f226b8a5e1215f4354248c4d9"), looks := false }, kinds := [], alts := [], laidByText := true, laidKinds := [.data, .pinned], laidTests := true, laidLooks := .later }
def UtfBackUptoCardSaid : Prop := Claim7.holds Tryd.pinned (.plain (OpenSpec.upto utfBackSpec)) utfBackUptoCard

/-- THE SECOND FORM's CARD OF 'basculelaw09.UtfLong'. -/
def utfLongUptoCard : Claim7 := { stood := { row := utfLongUptoRow, standIns := [], harness := (true, "9460100b1019736bd69ea98832050658c03f5f2f226b8a5e1215f4354248c4d9"), looks := false }, kinds := [], alts := [], laidByText := true, laidKinds := [.data, .pinned], laidTests := true, laidLooks := .later }
def UtfLongUptoCardSaid : Prop := Claim7.holds Tryd.pinned (.plain (OpenSpec.upto utfLongSpec)) utfLongUptoCard
end Rows
end Go.Proofs.YthigialbjbpkpaaDoor

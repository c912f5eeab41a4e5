/-
  DERIVED. GIVEN WITH THE SEED: THE CARDS: each row of YtonemmdipmohgaaDoorRows.lean that lists a variable, with what it lists TIED to the program's text (the seventh form; the later family's looks); each row that meets fmt, with fmt's text TOLD by the authors' own Lean function (tested against real Go, not proved from fmt's source: count such statements apart). THE CARD IS WHAT COUNTS. Prove the row's statement (the work); the ties are given (YtonemmdipmohgaaDoorTie.lean); close each card by the builder's one call (the guide's Derived/Test/ToyasCard.lean, 'card_holds'). Laid BY PROGRAM, IN A SANDBOX (cutbox-door.mjs). By AI agents, Wed Nov 11 2026. No macro, syntax, notation, axiom, sorry.
-/
import Derived.Test.YtonemmdipmohgaaDoorRows
import GoSem.ClaimSeven
namespace Go.Proofs.YtonemmdipmohgaaDoor
namespace Rows

/-- THE TIED CARD OF 'basculelaw17.ReceiverAnswers'. -/
def receiverAnswersCard : Claim7 := { stood := { row := receiverAnswersRow, standIns := [], harness := (true, "a5e676bf2a3e7bd16e1f00e2facc4a02b166c4eb9c0fe127d3324eba0192af1f"), looks := true }, kinds := [], alts := [], laidByText := true, laidKinds := [.data, .pinned], laidTests := true, laidLooks := .later }
def ReceiverAnswersCardSaid : Prop := Claim7.holds Tryd.pinned (.plain (OpenSpec.ofChange receiverAnswersSpec)) receiverAnswersCard

/-- THE TIED CARD OF 'basculelaw17.ReceiverMeets'. -/
def receiverMeetsCard : Claim7 := { stood := { row := receiverMeetsRow, standIns := [], harness := (true, "a5e676bf2a3e7bd16e1f00e2facc4a02b166c4eb9c0fe127d3324eba0192af1f"), looks := true }, kinds := [], alts := [], laidByText := true, laidKinds := [.data, .pinned], laidTests := true, laidLooks := .later }
def ReceiverMeetsCardSaid : Prop := Claim7.holds Tryd.pinned (.plain (OpenSpec.ofChange receiverMeetsSpec)) receiverMeetsCard

/-- THE TIED CARD OF 'basculelaw16.SenderDoes'. -/
def senderDoesCard : Claim7 := { stood := { row := senderDoesRow, standIns := [], harness := (true, "a5e676bf2a3e7bd16e1f00e2facc4a02b166c4eb9c0fe127d3324eba0192af1f"), looks := true }, kinds := [], alts := [], laidByText := true, laidKinds := [.data, .pinned], laidTests := true, laidLooks := .later }
def SenderDoesCardSaid : Prop := Claim7.holds Tryd.pinned (.plain (OpenSpec.ofChange senderDoesSpec)) senderDoesCard

/-- THE TIED CARD OF 'basculelaw16.SenderArrives'. -/
def senderArrivesCard : Claim7 := { stood := { row := senderArrivesRow, standIns := [], harness := (true, "a5e676bf2a3e7bd16e1f00e2facc4a02b166c4eb9c0fe127d3324eba0192af1f"), looks := true }, kinds := [], alts := [], laidByText := true, laidKinds := [.data, .pinned], laidTests := true, laidLooks := .later }
def SenderArrivesCardSaid : Prop := Claim7.holds Tryd.pinned (.plain (OpenSpec.ofChange senderArrivesSpec)) senderArrivesCard

/-- THE TIED CARD OF 'basculelaw16.SenderWindow'. -/
def senderWindowCard : Claim7 := { stood := { row := senderWindowRow, standIns := [], harness := (true, "a5e676bf2a3e7bd16e1f00e2facc4a02b166c4eb9c0fe127d3324eba0192af1f"), looks := true }, kinds := [], alts := [], laidByText := true, laidKinds := [.data, .pinned], laidTests := true, laidLooks := .later }
def SenderWindowCardSaid : Prop := Claim7.holds Tryd.pinned (.plain (OpenSpec.ofChange senderWindowSpec)) senderWindowCard

/-- THE TIED CARD OF 'basculelaw16.SenderNil'. -/
def senderNilCard : Claim7 := { stood := { row := senderNilRow, standIns := [], harness := (true, "a5e676bf2a3e7bd16e1f00e2facc4a02b166c4eb9c0fe127d3324eba0192af1f"), looks := true }, kinds := [], alts := [], laidByText := true, laidKinds := [.data, .pinned], laidTests := true, laidLooks := .later }
def SenderNilCardSaid : Prop := Claim7.holds Tryd.pinned (.plain (OpenSpec.ofChange senderNilSpec)) senderNilCard

/-- THE TIED CARD OF 'basculelaw16.SenderAgain'. -/
def senderAgainCard : Claim7 := { stood := { row := senderAgainRow, standIns := [], harness := (true, "a5e676bf2a3e7bd16e1f00e2facc4a02b166c4eb9c0fe127d3324eba0192af1f"), looks := true }, kinds := [], alts := [], laidByText := true, laidKinds := [.data, .pinned], laidTests := true, laidLooks := .later }
def SenderAgainCardSaid : Prop := Claim7.holds Tryd.pinned (.plain (OpenSpec.ofChange senderAgainSpec)) senderAgainCard

/-- THE TIED CARD OF 'basculelaw17.ReceiverTakes'. -/
def receiverTakesCard : Claim7 := { stood := { row := receiverTakesRow, standIns := [], harness := (true, "a5e676bf2a3e7bd16e1f00e2facc4a02b166c4eb9c0fe127d3324eba0192af1f"), looks := true }, kinds := [], alts := [], laidByText := true, laidKinds := [.data, .pinned], laidTests := true, laidLooks := .later }
def ReceiverTakesCardSaid : Prop := Claim7.holds Tryd.pinned (.plain (OpenSpec.ofChange receiverTakesSpec)) receiverTakesCard

/-- THE TIED CARD OF 'basculelaw17.ReceiverOnce'. -/
def receiverOnceCard : Claim7 := { stood := { row := receiverOnceRow, standIns := [], harness := (true, "a5e676bf2a3e7bd16e1f00e2facc4a02b166c4eb9c0fe127d3324eba0192af1f"), looks := true }, kinds := [], alts := [], laidByText := true, laidKinds := [.data, .pinned], laidTests := true, laidLooks := .later }
def ReceiverOnceCardSaid : Prop := Claim7.holds Tryd.pinned (.plain (OpenSpec.ofChange receiverOnceSpec)) receiverOnceCard

/-- THE SECOND FORM's CARD OF 'basculelaw17.ReceiverAnswers'. -/
def receiverAnswersUptoCard : Claim7 := { stood := { row := receiverAnswersUptoRow, standIns := [], harness := (true, "a5e676bf2a3e7bd16e1f00e2facc4a02b166c4eb9c0fe127d3324eba0192af1f"), looks := true }, kinds := [], alts := [], laidByText := true, laidKinds := [.data, .pinned], laidTests := true, laidLooks := .later }
def ReceiverAnswersUptoCardSaid : Prop := Claim7.holds Tryd.pinned (.plain (OpenSpec.upto receiverAnswersSpec)) receiverAnswersUptoCard

/-- THE SECOND FORM's CARD OF 'basculelaw17.ReceiverMeets'. -/
def receiverMeetsUptoCard : Claim7 := { stood := { row := receiverMeetsUptoRow, standIns := [], harness := (true, "a5e676bf2a3e7bd16e1f00e2facc4a02b166c4eb9c0fe127d3324eba0192af1f"), looks := true }, kinds := [], alts := [], laidByText := true, laidKinds := [.data, .pinned], laidTests := true, laidLooks := .later }
def ReceiverMeetsUptoCardSaid : Prop := Claim7.holds Tryd.pinned (.plain (OpenSpec.upto receiverMeetsSpec)) receiverMeetsUptoCard

/-- THE SECOND FORM's CARD OF 'basculelaw16.SenderDoes'. -/
def senderDoesUptoCard : Claim7 := { stood := { row := senderDoesUptoRow, standIns := [], harness := (true, "a5e676bf2a3e7bd16e1f00e2facc4a02b166c4eb9c0fe127d3324eba0192af1f"), looks := true }, kinds := [], alts := [], laidByText := true, laidKinds := [.data, .pinned], laidTests := true, laidLooks := .later }
def SenderDoesUptoCardSaid : Prop := Claim7.holds Tryd.pinned (.plain (OpenSpec.upto senderDoesSpec)) senderDoesUptoCard

/-- THE SECOND FORM's CARD OF 'basculelaw16.SenderArrives'. -/
def senderArrivesUptoCard : Claim7 := { stood := { row := senderArrivesUptoRow, standIns := [], harness := (true, "a5e676bf2a3e7bd16e1f00e2facc4a02b166c4eb9c0fe127d3324eba0192af1f"), looks := true }, kinds := [], alts := [], laidByText := true, laidKinds := [.data, .pinned], laidTests := true, laidLooks := .later }
def SenderArrivesUptoCardSaid : Prop := Claim7.holds Tryd.pinned (.plain (OpenSpec.upto senderArrivesSpec)) senderArrivesUptoCard

/-- THE SECOND FORM's CARD OF 'basculelaw16.SenderWindow'. -/
def senderWindowUptoCard : Claim7 := { stood := { row := senderWindowUptoRow, standIns := [], harness := (true, "a5e676bf2a3e7bd16e1f00e2facc4a02b166c4eb9c0fe127d3324eba0192af1f"), looks := true }, kinds := [], alts := [], laidByText := true, laidKinds := [.data, .pinned], laidTests := true, laidLooks := .later }
def SenderWindowUptoCardSaid : Prop := Claim7.holds Tryd.pinned (.plain (OpenSpec.upto senderWindowSpec)) senderWindowUptoCard

/-- THE SECOND FORM's CARD OF 'basculelaw16.SenderNil'. -/
def senderNilUptoCard : Claim7 := { stood := { row := senderNilUptoRow, standIns := [], harness := (true, "a5e676bf2a3e7bd16e1f00e2facc4a02b166c4eb9c0fe127d3324eba0192af1f"), looks := true }, kinds := [], alts := [], laidByText := true, laidKinds := [.data, .pinned], laidTests := true, laidLooks := .later }
def SenderNilUptoCardSaid : Prop := Claim7.holds Tryd.pinned (.plain (OpenSpec.upto senderNilSpec)) senderNilUptoCard

/-- THE SECOND FORM's CARD OF 'basculelaw16.SenderAgain'. -/
def senderAgainUptoCard : Claim7 := { stood := { row := senderAgainUptoRow, standIns := [], harness := (true, "a5e676bf2a3e7bd16e1f00e2facc4a02b166c4eb9c0fe127d3324eba0192af1f"), looks := true }, kinds := [], alts := [], laidByText := true, laidKinds := [.data, .pinned], laidTests := true, laidLooks := .later }
def SenderAgainUptoCardSaid : Prop := Claim7.holds Tryd.pinned (.plain (OpenSpec.upto senderAgainSpec)) senderAgainUptoCard

/-- THE SECOND FORM's CARD OF 'basculelaw17.ReceiverTakes'. -/
def receiverTakesUptoCard : Claim7 := { stood := { row := receiverTakesUptoRow, standIns := [], harness := (true, "a5e676bf2a3e7bd16e1f00e2facc4a02b166c4eb9c0fe127d3324eba0192af1f"), looks := true }, kinds := [], alts := [], laidByText := true, laidKinds := [.data, .pinned], laidTests := true, laidLooks := .later }
def ReceiverTakesUptoCardSaid : Prop := Claim7.holds Tryd.pinned (.plain (OpenSpec.upto receiverTakesSpec)) receiverTakesUptoCard

/-- THE SECOND FORM's CARD OF 'basculelaw17.ReceiverOnce'. -/
def receiverOnceUptoCard : Claim7 := { stood := { row := receiverOnceUptoRow, standIns := [], harness := (true, "a5e676bf2a3e7bd16e1f00e2facc4a02b166c4eb9c0fe127d3324eba0192af1f"), looks := true }, kinds := [], alts := [], laidByText := true, laidKinds := [.data, .pinned], laidTests := true, laidLooks := .later }
def ReceiverOnceUptoCardSaid : Prop := Claim7.holds Tryd.pinned (.plain (OpenSpec.upto receiverOnceSpec)) receiverOnceUptoCard
end Rows
end Go.Proofs.YtonemmdipmohgaaDoor

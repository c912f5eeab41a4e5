/-
  DERIVED. GIVEN WITH THE SEED: THE CARDS: each row of YteigakkghkjakaaDoorRows.lean that lists a variable, with what it lists TIED to the program's text (the seventh form; the later family's looks); each row that meets fmt, with fmt's text TOLD by the authors' own Lean function (tested against real Go, not proved from fmt's source: count such statements apart). THE CARD IS WHAT COUNTS. Prove the row's statement (the work); the ties are given (YteigakkghkjakaaDoorTie.lean); close each card by the builder's one call (the guide's Derived/Test/ToyasCard.lean, 'card_holds'). Laid BY PROGRAM, IN A SANDBOX (cutbox-door.mjs). By AI agents, Wed Nov 11 2026. No macro, syntax, notation, axiom, sorry.
-/
import Derived.Test.YteigakkghkjakaaDoorRows
import GoSem.ClaimSeven
namespace Go.Proofs.YteigakkghkjakaaDoor
namespace Rows

/-- THE TIED CARD OF 'basculelaw10.PacketParses'. -/
def packetParsesCard : Claim7 := { stood := { row := packetParsesRow, standIns := [], harness := (true, "577388a5d941d6a678984518277b566b76b58292e396ca7d8795d9d5c67f2eeb"), looks := true }, kinds := [], alts := [], laidByText := true, laidKinds := [.data, .pinned], laidTests := true, laidLooks := .later }
def PacketParsesCardSaid : Prop := Claim7.holds Tryd.pinned (.plain (OpenSpec.ofChange packetParsesSpec)) packetParsesCard

/-- THE TIED CARD OF 'basculelaw10.PacketAlone'. -/
def packetAloneCard : Claim7 := { stood := { row := packetAloneRow, standIns := [], harness := (true, "577388a5d941d6a678984518277b566b76b58292e396ca7d8795d9d5c67f2eeb"), looks := true }, kinds := [], alts := [], laidByText := true, laidKinds := [.data, .pinned], laidTests := true, laidLooks := .later }
def PacketAloneCardSaid : Prop := Claim7.holds Tryd.pinned (.plain (OpenSpec.ofChange packetAloneSpec)) packetAloneCard

/-- THE TIED CARD OF 'basculelaw10.PacketSizes'. -/
def packetSizesCard : Claim7 := { stood := { row := packetSizesRow, standIns := [], harness := (true, "577388a5d941d6a678984518277b566b76b58292e396ca7d8795d9d5c67f2eeb"), looks := true }, kinds := [], alts := [], laidByText := true, laidKinds := [.data, .pinned], laidTests := true, laidLooks := .later }
def PacketSizesCardSaid : Prop := Claim7.holds Tryd.pinned (.plain (OpenSpec.ofChange packetSizesSpec)) packetSizesCard

/-- THE TIED CARD OF 'basculelaw10.PacketLays'. -/
def packetLaysCard : Claim7 := { stood := { row := packetLaysRow, standIns := [], harness := (true, "577388a5d941d6a678984518277b566b76b58292e396ca7d8795d9d5c67f2eeb"), looks := true }, kinds := [], alts := [], laidByText := true, laidKinds := [.data, .pinned], laidTests := true, laidLooks := .later }
def PacketLaysCardSaid : Prop := Claim7.holds Tryd.pinned (.plain (OpenSpec.ofChange packetLaysSpec)) packetLaysCard

/-- THE TIED CARD OF 'basculelaw10.PacketBack'. -/
def packetBackCard : Claim7 := { stood := { row := packetBackRow, standIns := [], harness := (true, "577388a5d941d6a678984518277b566b76b58292e396ca7d8795d9d5c67f2eeb"), looks := true }, kinds := [], alts := [], laidByText := true, laidKinds := [.data, .pinned], laidTests := true, laidLooks := .later }
def PacketBackCardSaid : Prop := Claim7.holds Tryd.pinned (.plain (OpenSpec.ofChange packetBackSpec)) packetBackCard

/-- THE TIED CARD OF 'basculelaw10.PacketAgain'. -/
def packetAgainCard : Claim7 := { stood := { row := packetAgainRow, standIns := [], harness := (true, "577388a5d941d6a678984518277b566b76b58292e396ca7d8795d9d5c67f2eeb"), looks := true }, kinds := [], alts := [], laidByText := true, laidKinds := [.data, .pinned], laidTests := true, laidLooks := .later }
def PacketAgainCardSaid : Prop := Claim7.holds Tryd.pinned (.plain (OpenSpec.ofChange packetAgainSpec)) packetAgainCard

/-- THE TIED CARD OF 'basculelaw10.PacketIds'. -/
def packetIdsCard : Claim7 := { stood := { row := packetIdsRow, standIns := [], harness := (true, "577388a5d941d6a678984518277b566b76b58292e396ca7d8795d9d5c67f2eeb"), looks := true }, kinds := [], alts := [], laidByText := true, laidKinds := [.data, .pinned], laidTests := true, laidLooks := .later }
def PacketIdsCardSaid : Prop := Claim7.holds Tryd.pinned (.plain (OpenSpec.ofChange packetIdsSpec)) packetIdsCard

/-- THE TIED CARD OF 'basculelaw11.StreamFeeds'. -/
def streamFeedsCard : Claim7 := { stood := { row := streamFeedsRow, standIns := [], harness := (true, "577388a5d941d6a678984518277b566b76b58292e396ca7d8795d9d5c67f2eeb"), looks := true }, kinds := [], alts := [], laidByText := true, laidKinds := [.data, .pinned], laidTests := true, laidLooks := .later }
def StreamFeedsCardSaid : Prop := Claim7.holds Tryd.pinned (.plain (OpenSpec.ofChange streamFeedsSpec)) streamFeedsCard

/-- THE TIED CARD OF 'basculelaw11.StreamParts'. -/
def streamPartsCard : Claim7 := { stood := { row := streamPartsRow, standIns := [], harness := (true, "577388a5d941d6a678984518277b566b76b58292e396ca7d8795d9d5c67f2eeb"), looks := true }, kinds := [], alts := [], laidByText := true, laidKinds := [.data, .pinned], laidTests := true, laidLooks := .later }
def StreamPartsCardSaid : Prop := Claim7.holds Tryd.pinned (.plain (OpenSpec.ofChange streamPartsSpec)) streamPartsCard

/-- THE TIED CARD OF 'basculelaw11.StreamOne'. -/
def streamOneCard : Claim7 := { stood := { row := streamOneRow, standIns := [], harness := (true, "577388a5d941d6a678984518277b566b76b58292e396ca7d8795d9d5c67f2eeb"), looks := true }, kinds := [], alts := [], laidByText := true, laidKinds := [.data, .pinned], laidTests := true, laidLooks := .later }
def StreamOneCardSaid : Prop := Claim7.holds Tryd.pinned (.plain (OpenSpec.ofChange streamOneSpec)) streamOneCard

/-- THE TIED CARD OF 'basculelaw11.StreamNil'. -/
def streamNilCard : Claim7 := { stood := { row := streamNilRow, standIns := [], harness := (true, "577388a5d941d6a678984518277b566b76b58292e396ca7d8795d9d5c67f2eeb"), looks := true }, kinds := [], alts := [], laidByText := true, laidKinds := [.data, .pinned], laidTests := true, laidLooks := .later }
def StreamNilCardSaid : Prop := Claim7.holds Tryd.pinned (.plain (OpenSpec.ofChange streamNilSpec)) streamNilCard

/-- THE TIED CARD OF 'basculelaw11.StreamLeft'. -/
def streamLeftCard : Claim7 := { stood := { row := streamLeftRow, standIns := [], harness := (true, "577388a5d941d6a678984518277b566b76b58292e396ca7d8795d9d5c67f2eeb"), looks := true }, kinds := [], alts := [], laidByText := true, laidKinds := [.data, .pinned], laidTests := true, laidLooks := .later }
def StreamLeftCardSaid : Prop := Claim7.holds Tryd.pinned (.plain (OpenSpec.ofChange streamLeftSpec)) streamLeftCard

/-- THE SECOND FORM's CARD OF 'basculelaw10.PacketParses'. -/
def packetParsesUptoCard : Claim7 := { stood := { row := packetParsesUptoRow, standIns := [], harness := (true, "577388a5d941d6a678984518277b566b76b58292e396ca7d8795d9d5c67f2eeb"), looks := true }, kinds := [], alts := [], laidByText := true, laidKinds := [.data, .pinned], laidTests := true, laidLooks := .later }
def PacketParsesUptoCardSaid : Prop := Claim7.holds Tryd.pinned (.plain (OpenSpec.upto packetParsesSpec)) packetParsesUptoCard

/-- THE SECOND FORM's CARD OF 'basculelaw10.PacketAlone'. -/
def packetAloneUptoCard : Claim7 := { stood := { row := packetAloneUptoRow, standIns := [], harness := (true, "577388a5d941d6a678984518277b566b76b58292e396ca7d8795d9d5c67f2eeb"), looks := true }, kinds := [], alts := [], laidByText := true, laidKinds := [.data, .pinned], laidTests := true, laidLooks := .later }
def PacketAloneUptoCardSaid : Prop := Claim7.holds Tryd.pinned (.plain (OpenSpec.upto packetAloneSpec)) packetAloneUptoCard

/-- THE SECOND FORM's CARD OF 'basculelaw10.PacketSizes'. -/
def packetSizesUptoCard : Claim7 := { stood := { row := packetSizesUptoRow, standIns := [], harness := (true, "577388a5d941d6a678984518277b566b76b58292e396ca7d8795d9d5c67f2eeb"), looks := true }, kinds := [], alts := [], laidByText := true, laidKinds := [.data, .pinned], laidTests := true, laidLooks := .later }
def PacketSizesUptoCardSaid : Prop := Claim7.holds Tryd.pinned (.plain (OpenSpec.upto packetSizesSpec)) packetSizesUptoCard

/-- THE SECOND FORM's CARD OF 'basculelaw10.PacketLays'. -/
def packetLaysUptoCard : Claim7 := { stood := { row := packetLaysUptoRow, standIns := [], harness := (true, "577388a5d941d6a678984518277b566b76b58292e396ca7d8795d9d5c67f2eeb"), looks := true }, kinds := [], alts := [], laidByText := true, laidKinds := [.data, .pinned], laidTests := true, laidLooks := .later }
def PacketLaysUptoCardSaid : Prop := Claim7.holds Tryd.pinned (.plain (OpenSpec.upto packetLaysSpec)) packetLaysUptoCard

/-- THE SECOND FORM's CARD OF 'basculelaw10.PacketBack'. -/
def packetBackUptoCard : Claim7 := { stood := { row := packetBackUptoRow, standIns := [], harness := (true, "577388a5d941d6a678984518277b566b76b58292e396ca7d8795d9d5c67f2eeb"), looks := true }, kinds := [], alts := [], laidByText := true, laidKinds := [.data, .pinned], laidTests := true, laidLooks := .later }
def PacketBackUptoCardSaid : Prop := Claim7.holds Tryd.pinned (.plain (OpenSpec.upto packetBackSpec)) packetBackUptoCard

/-- THE SECOND FORM's CARD OF 'basculelaw10.PacketAgain'. -/
def packetAgainUptoCard : Claim7 := { stood := { row := packetAgainUptoRow, standIns := [], harness := (true, "577388a5d941d6a678984518277b566b76b58292e396ca7d8795d9d5c67f2eeb"), looks := true }, kinds := [], alts := [], laidByText := true, laidKinds := [.data, .pinned], laidTests := true, laidLooks := .later }
def PacketAgainUptoCardSaid : Prop := Claim7.holds Tryd.pinned (.plain (OpenSpec.upto packetAgainSpec)) packetAgainUptoCard

/-- THE SECOND FORM's CARD OF 'basculelaw10.PacketIds'. -/
def packetIdsUptoCard : Claim7 := { stood := { row := packetIdsUptoRow, standIns := [], harness := (true, "577388a5d941d6a678984518277b566b76b58292e396ca7d8795d9d5c67f2eeb"), looks := true }, kinds := [], alts := [], laidByText := true, laidKinds := [.data, .pinned], laidTests := true, laidLooks := .later }
def PacketIdsUptoCardSaid : Prop := Claim7.holds Tryd.pinned (.plain (OpenSpec.upto packetIdsSpec)) packetIdsUptoCard

/-- THE SECOND FORM's CARD OF 'basculelaw11.StreamFeeds'. -/
def streamFeedsUptoCard : Claim7 := { stood := { row := streamFeedsUptoRow, standIns := [], harness := (true, "577388a5d941d6a678984518277b566b76b58292e396ca7d8795d9d5c67f2eeb"), looks := true }, kinds := [], alts := [], laidByText := true, laidKinds := [.data, .pinned], laidTests := true, laidLooks := .later }
def StreamFeedsUptoCardSaid : Prop := Claim7.holds Tryd.pinned (.plain (OpenSpec.upto streamFeedsSpec)) streamFeedsUptoCard

/-- THE SECOND FORM's CARD OF 'basculelaw11.StreamParts'. -/
def streamPartsUptoCard : Claim7 := { stood := { row := streamPartsUptoRow, standIns := [], harness := (true, "577388a5d941d6a678984518277b566b76b58292e396ca7d8795d9d5c67f2eeb"), looks := true }, kinds := [], alts := [], laidByText := true, laidKinds := [.data, .pinned], laidTests := true, laidLooks := .later }
def StreamPartsUptoCardSaid : Prop := Claim7.holds Tryd.pinned (.plain (OpenSpec.upto streamPartsSpec)) streamPartsUptoCard

/-- THE SECOND FORM's CARD OF 'basculelaw11.StreamOne'. -/
def streamOneUptoCard : Claim7 := { stood := { row := streamOneUptoRow, standIns := [], harness := (true, "577388a5d941d6a678984518277b566b76b58292e396ca7d8795d9d5c67f2eeb"), looks := true }, kinds := [], alts := [], laidByText := true, laidKinds := [.data, .pinned], laidTests := true, laidLooks := .later }
def StreamOneUptoCardSaid : Prop := Claim7.holds Tryd.pinned (.plain (OpenSpec.upto streamOneSpec)) streamOneUptoCard

/-- THE SECOND FORM's CARD OF 'basculelaw11.StreamNil'. -/
def streamNilUptoCard : Claim7 := { stood := { row := streamNilUptoRow, standIns := [], harness := (true, "577388a5d941d6a678984518277b566b76b58292e396ca7d8795d9d5c67f2eeb"), looks := true }, kinds := [], alts := [], laidByText := true, laidKinds := [.data, .pinned], laidTests := true, laidLooks := .later }
def StreamNilUptoCardSaid : Prop := Claim7.holds Tryd.pinned (.plain (OpenSpec.upto streamNilSpec)) streamNilUptoCard

/-- THE SECOND FORM's CARD OF 'basculelaw11.StreamLeft'. -/
def streamLeftUptoCard : Claim7 := { stood := { row := streamLeftUptoRow, standIns := [], harness := (true, "577388a5d941d6a678984518277b566b76b58292e396ca7d8795d9d5c67f2eeb"), looks := true }, kinds := [], alts := [], laidByText := true, laidKinds := [.data, .pinned], laidTests := true, laidLooks := .later }
def StreamLeftUptoCardSaid : Prop := Claim7.holds Tryd.pinned (.plain (OpenSpec.upto streamLeftSpec)) streamLeftUptoCard
end Rows
end Go.Proofs.YteigakkghkjakaaDoor

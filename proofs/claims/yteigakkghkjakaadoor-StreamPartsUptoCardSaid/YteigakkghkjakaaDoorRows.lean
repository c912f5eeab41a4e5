/-
  NARROWER THAN 'FOR EVERY INPUT', by the rows' own cells (each row's printed sentence says how): PacketParses: laid · PacketAlone: laid · PacketSizes: laid · PacketLays: laid · PacketBack: laid · PacketAgain: laid · PacketIds: laid · StreamFeeds: laid · StreamParts: laid · StreamOne: laid · StreamNil: laid · StreamLeft: laid.
  DERIVED. THE GIVEN ROWS OF THIS SEAT. 12 by the template 'for every input the law returns true; each argument reads behind the call as it read before'; 0 by the template 'total and deterministic' (their statements: YteigakkghkjakaaDoorTotals.lean).
  GIVEN WITH THE SEED: the statements are not yours to turn. If you find one false, say at which input.
  Laid BY PROGRAM, IN A SANDBOX (cutbox-rows.mjs): the forced cells as the released guide's own fill.sh prints them over the translation afadabd0f6f6bc9d… (all of the seat's roots in one cut). By AI agents, Wed Nov 11 2026. No macro, syntax, notation, axiom, sorry.
-/
import Derived.Test.YteigakkghkjakaaDoorChecked
import GoSem.PinnedTables
import GoSem.Claim
import GoSem.ClaimJoined
import GoSem.ClaimMapViews
import Derived.JoinedTies
import Derived.KernelRfl
namespace Go.Proofs.YteigakkghkjakaaDoor
/- THE CELL 'sum', in the pinned program and in every row, IS THE sha256 OF THE DUMP (.gsa) THAT YteigakkghkjakaaDoorProg.lean LOADS. Nothing in Lean hashes anything: it is a label: what it is worth is what the hold of that sum in a sandbox is worth. -/
noncomputable def Tryd.pinned : Pinned := { name := "yteigakkghkjakaadoor", sum := "afadabd0f6f6bc9df5ba1060695eef18dc875d8aa41f35fc2237b3111d45326d", checked := Tryd.checked }
namespace Rows
def none {H : Type} : Left H := { results := [], args := [] }

/- WHAT THE LISTED PACKAGE-LEVEL VARIABLES READ AS WHEN THE CALL BEGINS. Each datum BY PROGRAM (the guide's laid-datum.mjs) off the statement by which the dump's own 'gosem.cut.vars' lays the variable. In a bare row this is a premise. The card (YteigakkghkjakaaDoorCards.lean) ties it to the program's text. -/
def laid_unicode_utf8_acceptRanges {H : Type} : DataW H := .agg [.agg [.lit (.int .u8 128), .lit (.int .u8 191)], .agg [.lit (.int .u8 160), .lit (.int .u8 191)], .agg [.lit (.int .u8 128), .lit (.int .u8 159)], .agg [.lit (.int .u8 144), .lit (.int .u8 191)], .agg [.lit (.int .u8 128), .lit (.int .u8 143)], .agg [.lit (.int .u8 0), .lit (.int .u8 0)], .agg [.lit (.int .u8 0), .lit (.int .u8 0)], .agg [.lit (.int .u8 0), .lit (.int .u8 0)], .agg [.lit (.int .u8 0), .lit (.int .u8 0)], .agg [.lit (.int .u8 0), .lit (.int .u8 0)], .agg [.lit (.int .u8 0), .lit (.int .u8 0)], .agg [.lit (.int .u8 0), .lit (.int .u8 0)], .agg [.lit (.int .u8 0), .lit (.int .u8 0)], .agg [.lit (.int .u8 0), .lit (.int .u8 0)], .agg [.lit (.int .u8 0), .lit (.int .u8 0)], .agg [.lit (.int .u8 0), .lit (.int .u8 0)]]
/-- One of Go's own tables, pinned by name: the form's constant. -/
def laid_unicode_utf8_first : DataW Unit := Go.Pinned.utf8First

/-- 'basculelaw10.PacketParses': WHATEVER THE INPUT: true; the input reads as it did. -/
def packetParsesSpec : ChangeSpec := { name := "packetParses", fn := fun _ => fun
  | [d] => { results := [.lit (.bool true)], args := [d] }
  | _ => none }
def packetParsesRow : OpenClaim := { program := "yteigakkghkjakaadoor", sum := "afadabd0f6f6bc9df5ba1060695eef18dc875d8aa41f35fc2237b3111d45326d", func := "bascule/basculelaw10.PacketParses", spec := "packetParses", unfollowed := true, recurses := true, named := ["unicode/utf8.first", "unicode/utf8.acceptRanges"], apart := false, laid := [("unicode/utf8.acceptRanges", laid_unicode_utf8_acceptRanges), ("unicode/utf8.first", laid_unicode_utf8_first)] }
def PacketParsesSaid : Prop := packetParsesRow.holds Tryd.pinned (OpenSpec.ofChange packetParsesSpec)

/-- ITS FALSE NEIGHBOUR: 'it returns false'. Refute it at one input. -/
def packetParsesWrong : ChangeSpec := { name := "packetParses", fn := fun _ => fun
  | [d] => { results := [.lit (.bool false)], args := [d] }
  | _ => none }
def PacketParsesWrongFalsely : Prop := packetParsesRow.holds Tryd.pinned (OpenSpec.ofChange packetParsesWrong)

/-- 'basculelaw10.PacketAlone': WHATEVER THE INPUT: true; the input reads as it did. -/
def packetAloneSpec : ChangeSpec := { name := "packetAlone", fn := fun _ => fun
  | [d1, d2] => { results := [.lit (.bool true)], args := [d1, d2] }
  | _ => none }
def packetAloneRow : OpenClaim := { program := "yteigakkghkjakaadoor", sum := "afadabd0f6f6bc9df5ba1060695eef18dc875d8aa41f35fc2237b3111d45326d", func := "bascule/basculelaw10.PacketAlone", spec := "packetAlone", unfollowed := true, recurses := true, named := ["unicode/utf8.first", "unicode/utf8.acceptRanges"], apart := false, laid := [("unicode/utf8.acceptRanges", laid_unicode_utf8_acceptRanges), ("unicode/utf8.first", laid_unicode_utf8_first)] }
def PacketAloneSaid : Prop := packetAloneRow.holds Tryd.pinned (OpenSpec.ofChange packetAloneSpec)

/-- ITS FALSE NEIGHBOUR: 'it returns false'. Refute it at one input. -/
def packetAloneWrong : ChangeSpec := { name := "packetAlone", fn := fun _ => fun
  | [d1, d2] => { results := [.lit (.bool false)], args := [d1, d2] }
  | _ => none }
def PacketAloneWrongFalsely : Prop := packetAloneRow.holds Tryd.pinned (OpenSpec.ofChange packetAloneWrong)

/-- 'basculelaw10.PacketSizes': WHATEVER THE INPUT: true; the input reads as it did. -/
def packetSizesSpec : ChangeSpec := { name := "packetSizes", fn := fun _ => fun
  | [d] => { results := [.lit (.bool true)], args := [d] }
  | _ => none }
def packetSizesRow : OpenClaim := { program := "yteigakkghkjakaadoor", sum := "afadabd0f6f6bc9df5ba1060695eef18dc875d8aa41f35fc2237b3111d45326d", func := "bascule/basculelaw10.PacketSizes", spec := "packetSizes", unfollowed := true, recurses := true, named := ["unicode/utf8.first", "unicode/utf8.acceptRanges"], apart := false, laid := [("unicode/utf8.acceptRanges", laid_unicode_utf8_acceptRanges), ("unicode/utf8.first", laid_unicode_utf8_first)] }
def PacketSizesSaid : Prop := packetSizesRow.holds Tryd.pinned (OpenSpec.ofChange packetSizesSpec)

/-- ITS FALSE NEIGHBOUR: 'it returns false'. Refute it at one input. -/
def packetSizesWrong : ChangeSpec := { name := "packetSizes", fn := fun _ => fun
  | [d] => { results := [.lit (.bool false)], args := [d] }
  | _ => none }
def PacketSizesWrongFalsely : Prop := packetSizesRow.holds Tryd.pinned (OpenSpec.ofChange packetSizesWrong)

/-- 'basculelaw10.PacketLays': WHATEVER THE INPUT: true; the input reads as it did. -/
def packetLaysSpec : ChangeSpec := { name := "packetLays", fn := fun _ => fun
  | [d] => { results := [.lit (.bool true)], args := [d] }
  | _ => none }
def packetLaysRow : OpenClaim := { program := "yteigakkghkjakaadoor", sum := "afadabd0f6f6bc9df5ba1060695eef18dc875d8aa41f35fc2237b3111d45326d", func := "bascule/basculelaw10.PacketLays", spec := "packetLays", unfollowed := true, recurses := true, named := ["unicode/utf8.first", "unicode/utf8.acceptRanges"], apart := false, laid := [("unicode/utf8.acceptRanges", laid_unicode_utf8_acceptRanges), ("unicode/utf8.first", laid_unicode_utf8_first)] }
def PacketLaysSaid : Prop := packetLaysRow.holds Tryd.pinned (OpenSpec.ofChange packetLaysSpec)

/-- ITS FALSE NEIGHBOUR: 'it returns false'. Refute it at one input. -/
def packetLaysWrong : ChangeSpec := { name := "packetLays", fn := fun _ => fun
  | [d] => { results := [.lit (.bool false)], args := [d] }
  | _ => none }
def PacketLaysWrongFalsely : Prop := packetLaysRow.holds Tryd.pinned (OpenSpec.ofChange packetLaysWrong)

/-- 'basculelaw10.PacketBack': WHATEVER THE INPUT: true; the input reads as it did. -/
def packetBackSpec : ChangeSpec := { name := "packetBack", fn := fun _ => fun
  | [d] => { results := [.lit (.bool true)], args := [d] }
  | _ => none }
def packetBackRow : OpenClaim := { program := "yteigakkghkjakaadoor", sum := "afadabd0f6f6bc9df5ba1060695eef18dc875d8aa41f35fc2237b3111d45326d", func := "bascule/basculelaw10.PacketBack", spec := "packetBack", unfollowed := true, recurses := true, named := ["unicode/utf8.first", "unicode/utf8.acceptRanges"], apart := false, laid := [("unicode/utf8.acceptRanges", laid_unicode_utf8_acceptRanges), ("unicode/utf8.first", laid_unicode_utf8_first)] }
def PacketBackSaid : Prop := packetBackRow.holds Tryd.pinned (OpenSpec.ofChange packetBackSpec)

/-- ITS FALSE NEIGHBOUR: 'it returns false'. Refute it at one input. -/
def packetBackWrong : ChangeSpec := { name := "packetBack", fn := fun _ => fun
  | [d] => { results := [.lit (.bool false)], args := [d] }
  | _ => none }
def PacketBackWrongFalsely : Prop := packetBackRow.holds Tryd.pinned (OpenSpec.ofChange packetBackWrong)

/-- 'basculelaw10.PacketAgain': WHATEVER THE INPUT: true; the input reads as it did. -/
def packetAgainSpec : ChangeSpec := { name := "packetAgain", fn := fun _ => fun
  | [d] => { results := [.lit (.bool true)], args := [d] }
  | _ => none }
def packetAgainRow : OpenClaim := { program := "yteigakkghkjakaadoor", sum := "afadabd0f6f6bc9df5ba1060695eef18dc875d8aa41f35fc2237b3111d45326d", func := "bascule/basculelaw10.PacketAgain", spec := "packetAgain", unfollowed := true, recurses := true, named := ["unicode/utf8.first", "unicode/utf8.acceptRanges"], apart := false, laid := [("unicode/utf8.acceptRanges", laid_unicode_utf8_acceptRanges), ("unicode/utf8.first", laid_unicode_utf8_first)] }
def PacketAgainSaid : Prop := packetAgainRow.holds Tryd.pinned (OpenSpec.ofChange packetAgainSpec)

/-- ITS FALSE NEIGHBOUR: 'it returns false'. Refute it at one input. -/
def packetAgainWrong : ChangeSpec := { name := "packetAgain", fn := fun _ => fun
  | [d] => { results := [.lit (.bool false)], args := [d] }
  | _ => none }
def PacketAgainWrongFalsely : Prop := packetAgainRow.holds Tryd.pinned (OpenSpec.ofChange packetAgainWrong)

/-- 'basculelaw10.PacketIds': WHATEVER THE INPUT: true; the input reads as it did. -/
def packetIdsSpec : ChangeSpec := { name := "packetIds", fn := fun _ => fun
  | [d1, d2, d3] => { results := [.lit (.bool true)], args := [d1, d2, d3] }
  | _ => none }
def packetIdsRow : OpenClaim := { program := "yteigakkghkjakaadoor", sum := "afadabd0f6f6bc9df5ba1060695eef18dc875d8aa41f35fc2237b3111d45326d", func := "bascule/basculelaw10.PacketIds", spec := "packetIds", unfollowed := true, recurses := true, named := ["unicode/utf8.first", "unicode/utf8.acceptRanges"], apart := false, laid := [("unicode/utf8.acceptRanges", laid_unicode_utf8_acceptRanges), ("unicode/utf8.first", laid_unicode_utf8_first)] }
def PacketIdsSaid : Prop := packetIdsRow.holds Tryd.pinned (OpenSpec.ofChange packetIdsSpec)

/-- ITS FALSE NEIGHBOUR: 'it returns false'. Refute it at one input. -/
def packetIdsWrong : ChangeSpec := { name := "packetIds", fn := fun _ => fun
  | [d1, d2, d3] => { results := [.lit (.bool false)], args := [d1, d2, d3] }
  | _ => none }
def PacketIdsWrongFalsely : Prop := packetIdsRow.holds Tryd.pinned (OpenSpec.ofChange packetIdsWrong)

/-- 'basculelaw11.StreamFeeds': WHATEVER THE INPUT: true; the input reads as it did. -/
def streamFeedsSpec : ChangeSpec := { name := "streamFeeds", fn := fun _ => fun
  | [d1, d2] => { results := [.lit (.bool true)], args := [d1, d2] }
  | _ => none }
def streamFeedsRow : OpenClaim := { program := "yteigakkghkjakaadoor", sum := "afadabd0f6f6bc9df5ba1060695eef18dc875d8aa41f35fc2237b3111d45326d", func := "bascule/basculelaw11.StreamFeeds", spec := "streamFeeds", unfollowed := true, recurses := true, named := ["unicode/utf8.first", "unicode/utf8.acceptRanges"], apart := false, laid := [("unicode/utf8.acceptRanges", laid_unicode_utf8_acceptRanges), ("unicode/utf8.first", laid_unicode_utf8_first)] }
def StreamFeedsSaid : Prop := streamFeedsRow.holds Tryd.pinned (OpenSpec.ofChange streamFeedsSpec)

/-- ITS FALSE NEIGHBOUR: 'it returns false'. Refute it at one input. -/
def streamFeedsWrong : ChangeSpec := { name := "streamFeeds", fn := fun _ => fun
  | [d1, d2] => { results := [.lit (.bool false)], args := [d1, d2] }
  | _ => none }
def StreamFeedsWrongFalsely : Prop := streamFeedsRow.holds Tryd.pinned (OpenSpec.ofChange streamFeedsWrong)

/-- 'basculelaw11.StreamParts': WHATEVER THE INPUT: true; the input reads as it did. -/
def streamPartsSpec : ChangeSpec := { name := "streamParts", fn := fun _ => fun
  | [d1, d2] => { results := [.lit (.bool true)], args := [d1, d2] }
  | _ => none }
def streamPartsRow : OpenClaim := { program := "yteigakkghkjakaadoor", sum := "afadabd0f6f6bc9df5ba1060695eef18dc875d8aa41f35fc2237b3111d45326d", func := "bascule/basculelaw11.StreamParts", spec := "streamParts", unfollowed := true, recurses := true, named := ["unicode/utf8.first", "unicode/utf8.acceptRanges"], apart := false, laid := [("unicode/utf8.acceptRanges", laid_unicode_utf8_acceptRanges), ("unicode/utf8.first", laid_unicode_utf8_first)] }
def StreamPartsSaid : Prop := streamPartsRow.holds Tryd.pinned (OpenSpec.ofChange streamPartsSpec)

/-- ITS FALSE NEIGHBOUR: 'it returns false'. Refute it at one input. -/
def streamPartsWrong : ChangeSpec := { name := "streamParts", fn := fun _ => fun
  | [d1, d2] => { results := [.lit (.bool false)], args := [d1, d2] }
  | _ => none }
def StreamPartsWrongFalsely : Prop := streamPartsRow.holds Tryd.pinned (OpenSpec.ofChange streamPartsWrong)

/-- 'basculelaw11.StreamOne': WHATEVER THE INPUT: true; the input reads as it did. -/
def streamOneSpec : ChangeSpec := { name := "streamOne", fn := fun _ => fun
  | [d1, d2, d3] => { results := [.lit (.bool true)], args := [d1, d2, d3] }
  | _ => none }
def streamOneRow : OpenClaim := { program := "yteigakkghkjakaadoor", sum := "afadabd0f6f6bc9df5ba1060695eef18dc875d8aa41f35fc2237b3111d45326d", func := "bascule/basculelaw11.StreamOne", spec := "streamOne", unfollowed := true, recurses := true, named := ["unicode/utf8.first", "unicode/utf8.acceptRanges"], apart := false, laid := [("unicode/utf8.acceptRanges", laid_unicode_utf8_acceptRanges), ("unicode/utf8.first", laid_unicode_utf8_first)] }
def StreamOneSaid : Prop := streamOneRow.holds Tryd.pinned (OpenSpec.ofChange streamOneSpec)

/-- ITS FALSE NEIGHBOUR: 'it returns false'. Refute it at one input. -/
def streamOneWrong : ChangeSpec := { name := "streamOne", fn := fun _ => fun
  | [d1, d2, d3] => { results := [.lit (.bool false)], args := [d1, d2, d3] }
  | _ => none }
def StreamOneWrongFalsely : Prop := streamOneRow.holds Tryd.pinned (OpenSpec.ofChange streamOneWrong)

/-- 'basculelaw11.StreamNil': WHATEVER THE INPUT: true; the input reads as it did. -/
def streamNilSpec : ChangeSpec := { name := "streamNil", fn := fun _ => fun
  | [d] => { results := [.lit (.bool true)], args := [d] }
  | _ => none }
def streamNilRow : OpenClaim := { program := "yteigakkghkjakaadoor", sum := "afadabd0f6f6bc9df5ba1060695eef18dc875d8aa41f35fc2237b3111d45326d", func := "bascule/basculelaw11.StreamNil", spec := "streamNil", unfollowed := true, recurses := true, named := ["unicode/utf8.first", "unicode/utf8.acceptRanges"], apart := false, laid := [("unicode/utf8.acceptRanges", laid_unicode_utf8_acceptRanges), ("unicode/utf8.first", laid_unicode_utf8_first)] }
def StreamNilSaid : Prop := streamNilRow.holds Tryd.pinned (OpenSpec.ofChange streamNilSpec)

/-- ITS FALSE NEIGHBOUR: 'it returns false'. Refute it at one input. -/
def streamNilWrong : ChangeSpec := { name := "streamNil", fn := fun _ => fun
  | [d] => { results := [.lit (.bool false)], args := [d] }
  | _ => none }
def StreamNilWrongFalsely : Prop := streamNilRow.holds Tryd.pinned (OpenSpec.ofChange streamNilWrong)

/-- 'basculelaw11.StreamLeft': WHATEVER THE INPUT: true; the input reads as it did. -/
def streamLeftSpec : ChangeSpec := { name := "streamLeft", fn := fun _ => fun
  | [d1, d2] => { results := [.lit (.bool true)], args := [d1, d2] }
  | _ => none }
def streamLeftRow : OpenClaim := { program := "yteigakkghkjakaadoor", sum := "afadabd0f6f6bc9df5ba1060695eef18dc875d8aa41f35fc2237b3111d45326d", func := "bascule/basculelaw11.StreamLeft", spec := "streamLeft", unfollowed := true, recurses := true, named := ["unicode/utf8.first", "unicode/utf8.acceptRanges"], apart := false, laid := [("unicode/utf8.acceptRanges", laid_unicode_utf8_acceptRanges), ("unicode/utf8.first", laid_unicode_utf8_first)] }
def StreamLeftSaid : Prop := streamLeftRow.holds Tryd.pinned (OpenSpec.ofChange streamLeftSpec)

/-- ITS FALSE NEIGHBOUR: 'it returns false'. Refute it at one input. -/
def streamLeftWrong : ChangeSpec := { name := "streamLeft", fn := fun _ => fun
  | [d1, d2] => { results := [.lit (.bool false)], args := [d1, d2] }
  | _ => none }
def StreamLeftWrongFalsely : Prop := streamLeftRow.holds Tryd.pinned (OpenSpec.ofChange streamLeftWrong)

/- THE SECOND FORM. 'bulk': how many values and letters a reading holds, each counted each time it is reached (what is shared counts as often as it is met; a slice's spare places count too). A statement '..UptoSaid' is the law's where the arguments, and the package variables that the reading takes, are together of bulk at most 1048576: NARROWER than '..Said'. Prove '..Said' where nothing that the law and all that it calls make is longer than what came in: it says more and counts as full. Else prove '..UptoSaid'. A law counts once. -/
mutual
def uptoBulk {H : Type} : DataW H → Nat
  | .lit (.string bytes) => bytes.length + 1
  | .lit _ => 1
  | .nil => 1
  | .ptr d => uptoBulk d + 1
  | .slice elems spare => uptoBulkAll elems + uptoBulkAll spare + 1
  | .agg parts => uptoBulkAll parts + 1
  | .iface _ d => uptoBulk d + 1
  | .map entries => uptoBulkEntries entries + 1
  | .held _ => 1
def uptoBulkAll {H : Type} : List (DataW H) → Nat
  | [] => 0
  | d :: r => uptoBulk d + uptoBulkAll r
def uptoBulkEntries {H : Type} : List (Lit × DataW H) → Nat
  | [] => 0
  | x :: r => uptoBulkEntry x + uptoBulkEntries r
def uptoBulkEntry {H : Type} : Lit × DataW H → Nat
  | (.string bytes, d) => bytes.length + uptoBulk d + 1
  | (_, d) => uptoBulk d + 1
 end
def uptoSmall : (H : Type) → List (DataW H) → Bool := fun _ ds => decide (uptoBulkAll ds ≤ 1048576)
def OpenSpec.upto (s : _root_.Go.ChangeSpec) : _root_.Go.OpenSpec := { _root_.Go.OpenSpec.ofChange s with cond := some uptoSmall }

/-- 'basculelaw10.PacketParses', WHERE WHAT IT READS IS OF BULK AT MOST 1048576: true; the input reads as it did. -/
def packetParsesUptoRow : OpenClaim := { program := "yteigakkghkjakaadoor", sum := "afadabd0f6f6bc9df5ba1060695eef18dc875d8aa41f35fc2237b3111d45326d", func := "bascule/basculelaw10.PacketParses", spec := "packetParses", unfollowed := true, recurses := true, named := ["unicode/utf8.first", "unicode/utf8.acceptRanges"], apart := false, laid := [("unicode/utf8.acceptRanges", laid_unicode_utf8_acceptRanges), ("unicode/utf8.first", laid_unicode_utf8_first)], narrowed := true }
def PacketParsesUptoSaid : Prop := packetParsesUptoRow.holds Tryd.pinned (OpenSpec.upto packetParsesSpec)

/-- 'basculelaw10.PacketAlone', WHERE WHAT IT READS IS OF BULK AT MOST 1048576: true; the input reads as it did. -/
def packetAloneUptoRow : OpenClaim := { program := "yteigakkghkjakaadoor", sum := "afadabd0f6f6bc9df5ba1060695eef18dc875d8aa41f35fc2237b3111d45326d", func := "bascule/basculelaw10.PacketAlone", spec := "packetAlone", unfollowed := true, recurses := true, named := ["unicode/utf8.first", "unicode/utf8.acceptRanges"], apart := false, laid := [("unicode/utf8.acceptRanges", laid_unicode_utf8_acceptRanges), ("unicode/utf8.first", laid_unicode_utf8_first)], narrowed := true }
def PacketAloneUptoSaid : Prop := packetAloneUptoRow.holds Tryd.pinned (OpenSpec.upto packetAloneSpec)

/-- 'basculelaw10.PacketSizes', WHERE WHAT IT READS IS OF BULK AT MOST 1048576: true; the input reads as it did. -/
def packetSizesUptoRow : OpenClaim := { program := "yteigakkghkjakaadoor", sum := "afadabd0f6f6bc9df5ba1060695eef18dc875d8aa41f35fc2237b3111d45326d", func := "bascule/basculelaw10.PacketSizes", spec := "packetSizes", unfollowed := true, recurses := true, named := ["unicode/utf8.first", "unicode/utf8.acceptRanges"], apart := false, laid := [("unicode/utf8.acceptRanges", laid_unicode_utf8_acceptRanges), ("unicode/utf8.first", laid_unicode_utf8_first)], narrowed := true }
def PacketSizesUptoSaid : Prop := packetSizesUptoRow.holds Tryd.pinned (OpenSpec.upto packetSizesSpec)

/-- 'basculelaw10.PacketLays', WHERE WHAT IT READS IS OF BULK AT MOST 1048576: true; the input reads as it did. -/
def packetLaysUptoRow : OpenClaim := { program := "yteigakkghkjakaadoor", sum := "afadabd0f6f6bc9df5ba1060695eef18dc875d8aa41f35fc2237b3111d45326d", func := "bascule/basculelaw10.PacketLays", spec := "packetLays", unfollowed := true, recurses := true, named := ["unicode/utf8.first", "unicode/utf8.acceptRanges"], apart := false, laid := [("unicode/utf8.acceptRanges", laid_unicode_utf8_acceptRanges), ("unicode/utf8.first", laid_unicode_utf8_first)], narrowed := true }
def PacketLaysUptoSaid : Prop := packetLaysUptoRow.holds Tryd.pinned (OpenSpec.upto packetLaysSpec)

/-- 'basculelaw10.PacketBack', WHERE WHAT IT READS IS OF BULK AT MOST 1048576: true; the input reads as it did. -/
def packetBackUptoRow : OpenClaim := { program := "yteigakkghkjakaadoor", sum := "afadabd0f6f6bc9df5ba1060695eef18dc875d8aa41f35fc2237b3111d45326d", func := "bascule/basculelaw10.PacketBack", spec := "packetBack", unfollowed := true, recurses := true, named := ["unicode/utf8.first", "unicode/utf8.acceptRanges"], apart := false, laid := [("unicode/utf8.acceptRanges", laid_unicode_utf8_acceptRanges), ("unicode/utf8.first", laid_unicode_utf8_first)], narrowed := true }
def PacketBackUptoSaid : Prop := packetBackUptoRow.holds Tryd.pinned (OpenSpec.upto packetBackSpec)

/-- 'basculelaw10.PacketAgain', WHERE WHAT IT READS IS OF BULK AT MOST 1048576: true; the input reads as it did. -/
def packetAgainUptoRow : OpenClaim := { program := "yteigakkghkjakaadoor", sum := "afadabd0f6f6bc9df5ba1060695eef18dc875d8aa41f35fc2237b3111d45326d", func := "bascule/basculelaw10.PacketAgain", spec := "packetAgain", unfollowed := true, recurses := true, named := ["unicode/utf8.first", "unicode/utf8.acceptRanges"], apart := false, laid := [("unicode/utf8.acceptRanges", laid_unicode_utf8_acceptRanges), ("unicode/utf8.first", laid_unicode_utf8_first)], narrowed := true }
def PacketAgainUptoSaid : Prop := packetAgainUptoRow.holds Tryd.pinned (OpenSpec.upto packetAgainSpec)

/-- 'basculelaw10.PacketIds', WHERE WHAT IT READS IS OF BULK AT MOST 1048576: true; the input reads as it did. -/
def packetIdsUptoRow : OpenClaim := { program := "yteigakkghkjakaadoor", sum := "afadabd0f6f6bc9df5ba1060695eef18dc875d8aa41f35fc2237b3111d45326d", func := "bascule/basculelaw10.PacketIds", spec := "packetIds", unfollowed := true, recurses := true, named := ["unicode/utf8.first", "unicode/utf8.acceptRanges"], apart := false, laid := [("unicode/utf8.acceptRanges", laid_unicode_utf8_acceptRanges), ("unicode/utf8.first", laid_unicode_utf8_first)], narrowed := true }
def PacketIdsUptoSaid : Prop := packetIdsUptoRow.holds Tryd.pinned (OpenSpec.upto packetIdsSpec)

/-- 'basculelaw11.StreamFeeds', WHERE WHAT IT READS IS OF BULK AT MOST 1048576: true; the input reads as it did. -/
def streamFeedsUptoRow : OpenClaim := { program := "yteigakkghkjakaadoor", sum := "afadabd0f6f6bc9df5ba1060695eef18dc875d8aa41f35fc2237b3111d45326d", func := "bascule/basculelaw11.StreamFeeds", spec := "streamFeeds", unfollowed := true, recurses := true, named := ["unicode/utf8.first", "unicode/utf8.acceptRanges"], apart := false, laid := [("unicode/utf8.acceptRanges", laid_unicode_utf8_acceptRanges), ("unicode/utf8.first", laid_unicode_utf8_first)], narrowed := true }
def StreamFeedsUptoSaid : Prop := streamFeedsUptoRow.holds Tryd.pinned (OpenSpec.upto streamFeedsSpec)

/-- 'basculelaw11.StreamParts', WHERE WHAT IT READS IS OF BULK AT MOST 1048576: true; the input reads as it did. -/
def streamPartsUptoRow : OpenClaim := { program := "yteigakkghkjakaadoor", sum := "afadabd0f6f6bc9df5ba1060695eef18dc875d8aa41f35fc2237b3111d45326d", func := "bascule/basculelaw11.StreamParts", spec := "streamParts", unfollowed := true, recurses := true, named := ["unicode/utf8.first", "unicode/utf8.acceptRanges"], apart := false, laid := [("unicode/utf8.acceptRanges", laid_unicode_utf8_acceptRanges), ("unicode/utf8.first", laid_unicode_utf8_first)], narrowed := true }
def StreamPartsUptoSaid : Prop := streamPartsUptoRow.holds Tryd.pinned (OpenSpec.upto streamPartsSpec)

/-- 'basculelaw11.StreamOne', WHERE WHAT IT READS IS OF BULK AT MOST 1048576: true; the input reads as it did. -/
def streamOneUptoRow : OpenClaim := { program := "yteigakkghkjakaadoor", sum := "afadabd0f6f6bc9df5ba1060695eef18dc875d8aa41f35fc2237b3111d45326d", func := "bascule/basculelaw11.StreamOne", spec := "streamOne", unfollowed := true, recurses := true, named := ["unicode/utf8.first", "unicode/utf8.acceptRanges"], apart := false, laid := [("unicode/utf8.acceptRanges", laid_unicode_utf8_acceptRanges), ("unicode/utf8.first", laid_unicode_utf8_first)], narrowed := true }
def StreamOneUptoSaid : Prop := streamOneUptoRow.holds Tryd.pinned (OpenSpec.upto streamOneSpec)

/-- 'basculelaw11.StreamNil', WHERE WHAT IT READS IS OF BULK AT MOST 1048576: true; the input reads as it did. -/
def streamNilUptoRow : OpenClaim := { program := "yteigakkghkjakaadoor", sum := "afadabd0f6f6bc9df5ba1060695eef18dc875d8aa41f35fc2237b3111d45326d", func := "bascule/basculelaw11.StreamNil", spec := "streamNil", unfollowed := true, recurses := true, named := ["unicode/utf8.first", "unicode/utf8.acceptRanges"], apart := false, laid := [("unicode/utf8.acceptRanges", laid_unicode_utf8_acceptRanges), ("unicode/utf8.first", laid_unicode_utf8_first)], narrowed := true }
def StreamNilUptoSaid : Prop := streamNilUptoRow.holds Tryd.pinned (OpenSpec.upto streamNilSpec)

/-- 'basculelaw11.StreamLeft', WHERE WHAT IT READS IS OF BULK AT MOST 1048576: true; the input reads as it did. -/
def streamLeftUptoRow : OpenClaim := { program := "yteigakkghkjakaadoor", sum := "afadabd0f6f6bc9df5ba1060695eef18dc875d8aa41f35fc2237b3111d45326d", func := "bascule/basculelaw11.StreamLeft", spec := "streamLeft", unfollowed := true, recurses := true, named := ["unicode/utf8.first", "unicode/utf8.acceptRanges"], apart := false, laid := [("unicode/utf8.acceptRanges", laid_unicode_utf8_acceptRanges), ("unicode/utf8.first", laid_unicode_utf8_first)], narrowed := true }
def StreamLeftUptoSaid : Prop := streamLeftUptoRow.holds Tryd.pinned (OpenSpec.upto streamLeftSpec)

end Rows
end Go.Proofs.YteigakkghkjakaaDoor

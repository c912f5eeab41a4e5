/-
  NARROWER THAN 'FOR EVERY INPUT', by the rows' own cells (each row's printed sentence says how): ReceiverAnswers: laid · ReceiverMeets: laid · SenderDoes: laid · SenderArrives: laid · SenderWindow: laid · SenderNil: laid · SenderAgain: laid · ReceiverTakes: laid · ReceiverOnce: laid.
  DERIVED. THE GIVEN ROWS OF THIS SEAT. 9 by the template 'for every input the law returns true; each argument reads behind the call as it read before'; 0 by the template 'total and deterministic' (their statements: YtonemmdipmohgaaDoorTotals.lean).
  GIVEN WITH THE SEED: the statements are not yours to turn. If you find one false, say at which input.
  Laid BY PROGRAM, IN A SANDBOX (cutbox-rows.mjs): the forced cells as the released guide's own fill.sh prints them over the translation a8fa2ba4e3b4e6d3… (all of the seat's roots in one cut). By AI agents, Wed Nov 11 2026. No macro, syntax, notation, axiom, sorry.
-/
import Derived.Test.YtonemmdipmohgaaDoorChecked
import GoSem.PinnedTables
import GoSem.Claim
import GoSem.ClaimJoined
import GoSem.ClaimMapViews
import Derived.JoinedTies
import Derived.KernelRfl
namespace Go.Proofs.YtonemmdipmohgaaDoor
/- THE CELL 'sum', in the pinned program and in every row, IS THE sha256 OF THE DUMP (.gsa) THAT YtonemmdipmohgaaDoorProg.lean LOADS. Nothing in Lean hashes anything: it is a label: what it is worth is what the hold of that sum in a sandbox is worth. -/
noncomputable def Tryd.pinned : Pinned := { name := "ytonemmdipmohgaadoor", sum := "a8fa2ba4e3b4e6d34591493e54701ce5044a8e7649e7533a06aa639b0776c5e2", checked := Tryd.checked }
namespace Rows
def none {H : Type} : Left H := { results := [], args := [] }

/- WHAT THE LISTED PACKAGE-LEVEL VARIABLES READ AS WHEN THE CALL BEGINS. Each datum BY PROGRAM (the guide's laid-datum.mjs) off the statement by which the dump's own 'gosem.cut.vars' lays the variable. In a bare row this is a premise. The card (YtonemmdipmohgaaDoorCards.lean) ties it to the program's text. -/
def laid_unicode_utf8_acceptRanges {H : Type} : DataW H := .agg [.agg [.lit (.int .u8 128), .lit (.int .u8 191)], .agg [.lit (.int .u8 160), .lit (.int .u8 191)], .agg [.lit (.int .u8 128), .lit (.int .u8 159)], .agg [.lit (.int .u8 144), .lit (.int .u8 191)], .agg [.lit (.int .u8 128), .lit (.int .u8 143)], .agg [.lit (.int .u8 0), .lit (.int .u8 0)], .agg [.lit (.int .u8 0), .lit (.int .u8 0)], .agg [.lit (.int .u8 0), .lit (.int .u8 0)], .agg [.lit (.int .u8 0), .lit (.int .u8 0)], .agg [.lit (.int .u8 0), .lit (.int .u8 0)], .agg [.lit (.int .u8 0), .lit (.int .u8 0)], .agg [.lit (.int .u8 0), .lit (.int .u8 0)], .agg [.lit (.int .u8 0), .lit (.int .u8 0)], .agg [.lit (.int .u8 0), .lit (.int .u8 0)], .agg [.lit (.int .u8 0), .lit (.int .u8 0)], .agg [.lit (.int .u8 0), .lit (.int .u8 0)]]
/-- One of Go's own tables, pinned by name: the form's constant. -/
def laid_unicode_utf8_first : DataW Unit := Go.Pinned.utf8First

/-- 'basculelaw17.ReceiverAnswers': WHATEVER THE INPUT: true; the input reads as it did. -/
def receiverAnswersSpec : ChangeSpec := { name := "receiverAnswers", fn := fun _ => fun
  | [d] => { results := [.lit (.bool true)], args := [d] }
  | _ => none }
def receiverAnswersRow : OpenClaim := { program := "ytonemmdipmohgaadoor", sum := "a8fa2ba4e3b4e6d34591493e54701ce5044a8e7649e7533a06aa639b0776c5e2", func := "bascule/basculelaw17.ReceiverAnswers", spec := "receiverAnswers", unfollowed := true, recurses := true, named := ["unicode/utf8.first", "unicode/utf8.acceptRanges"], apart := false, laid := [("unicode/utf8.acceptRanges", laid_unicode_utf8_acceptRanges), ("unicode/utf8.first", laid_unicode_utf8_first)] }
def ReceiverAnswersSaid : Prop := receiverAnswersRow.holds Tryd.pinned (OpenSpec.ofChange receiverAnswersSpec)

/-- ITS FALSE NEIGHBOUR: 'it returns false'. Refute it at one input. -/
def receiverAnswersWrong : ChangeSpec := { name := "receiverAnswers", fn := fun _ => fun
  | [d] => { results := [.lit (.bool false)], args := [d] }
  | _ => none }
def ReceiverAnswersWrongFalsely : Prop := receiverAnswersRow.holds Tryd.pinned (OpenSpec.ofChange receiverAnswersWrong)

/-- 'basculelaw17.ReceiverMeets': WHATEVER THE INPUT: true; the input reads as it did. -/
def receiverMeetsSpec : ChangeSpec := { name := "receiverMeets", fn := fun _ => fun
  | [d1, d2] => { results := [.lit (.bool true)], args := [d1, d2] }
  | _ => none }
def receiverMeetsRow : OpenClaim := { program := "ytonemmdipmohgaadoor", sum := "a8fa2ba4e3b4e6d34591493e54701ce5044a8e7649e7533a06aa639b0776c5e2", func := "bascule/basculelaw17.ReceiverMeets", spec := "receiverMeets", unfollowed := true, recurses := true, named := ["unicode/utf8.first", "unicode/utf8.acceptRanges"], apart := false, laid := [("unicode/utf8.acceptRanges", laid_unicode_utf8_acceptRanges), ("unicode/utf8.first", laid_unicode_utf8_first)] }
def ReceiverMeetsSaid : Prop := receiverMeetsRow.holds Tryd.pinned (OpenSpec.ofChange receiverMeetsSpec)

/-- ITS FALSE NEIGHBOUR: 'it returns false'. Refute it at one input. -/
def receiverMeetsWrong : ChangeSpec := { name := "receiverMeets", fn := fun _ => fun
  | [d1, d2] => { results := [.lit (.bool false)], args := [d1, d2] }
  | _ => none }
def ReceiverMeetsWrongFalsely : Prop := receiverMeetsRow.holds Tryd.pinned (OpenSpec.ofChange receiverMeetsWrong)

/-- 'basculelaw16.SenderDoes': WHATEVER THE INPUT: true; the input reads as it did. -/
def senderDoesSpec : ChangeSpec := { name := "senderDoes", fn := fun _ => fun
  | [d1, d2, d3] => { results := [.lit (.bool true)], args := [d1, d2, d3] }
  | _ => none }
def senderDoesRow : OpenClaim := { program := "ytonemmdipmohgaadoor", sum := "a8fa2ba4e3b4e6d34591493e54701ce5044a8e7649e7533a06aa639b0776c5e2", func := "bascule/basculelaw16.SenderDoes", spec := "senderDoes", unfollowed := true, recurses := true, named := ["unicode/utf8.first", "unicode/utf8.acceptRanges"], apart := false, laid := [("unicode/utf8.acceptRanges", laid_unicode_utf8_acceptRanges), ("unicode/utf8.first", laid_unicode_utf8_first)] }
def SenderDoesSaid : Prop := senderDoesRow.holds Tryd.pinned (OpenSpec.ofChange senderDoesSpec)

/-- ITS FALSE NEIGHBOUR: 'it returns false'. Refute it at one input. -/
def senderDoesWrong : ChangeSpec := { name := "senderDoes", fn := fun _ => fun
  | [d1, d2, d3] => { results := [.lit (.bool false)], args := [d1, d2, d3] }
  | _ => none }
def SenderDoesWrongFalsely : Prop := senderDoesRow.holds Tryd.pinned (OpenSpec.ofChange senderDoesWrong)

/-- 'basculelaw16.SenderArrives': WHATEVER THE INPUT: true; the input reads as it did. -/
def senderArrivesSpec : ChangeSpec := { name := "senderArrives", fn := fun _ => fun
  | [d1, d2, d3, d4] => { results := [.lit (.bool true)], args := [d1, d2, d3, d4] }
  | _ => none }
def senderArrivesRow : OpenClaim := { program := "ytonemmdipmohgaadoor", sum := "a8fa2ba4e3b4e6d34591493e54701ce5044a8e7649e7533a06aa639b0776c5e2", func := "bascule/basculelaw16.SenderArrives", spec := "senderArrives", unfollowed := true, recurses := true, named := ["unicode/utf8.first", "unicode/utf8.acceptRanges"], apart := false, laid := [("unicode/utf8.acceptRanges", laid_unicode_utf8_acceptRanges), ("unicode/utf8.first", laid_unicode_utf8_first)] }
def SenderArrivesSaid : Prop := senderArrivesRow.holds Tryd.pinned (OpenSpec.ofChange senderArrivesSpec)

/-- ITS FALSE NEIGHBOUR: 'it returns false'. Refute it at one input. -/
def senderArrivesWrong : ChangeSpec := { name := "senderArrives", fn := fun _ => fun
  | [d1, d2, d3, d4] => { results := [.lit (.bool false)], args := [d1, d2, d3, d4] }
  | _ => none }
def SenderArrivesWrongFalsely : Prop := senderArrivesRow.holds Tryd.pinned (OpenSpec.ofChange senderArrivesWrong)

/-- 'basculelaw16.SenderWindow': WHATEVER THE INPUT: true; the input reads as it did. -/
def senderWindowSpec : ChangeSpec := { name := "senderWindow", fn := fun _ => fun
  | [d1, d2, d3] => { results := [.lit (.bool true)], args := [d1, d2, d3] }
  | _ => none }
def senderWindowRow : OpenClaim := { program := "ytonemmdipmohgaadoor", sum := "a8fa2ba4e3b4e6d34591493e54701ce5044a8e7649e7533a06aa639b0776c5e2", func := "bascule/basculelaw16.SenderWindow", spec := "senderWindow", unfollowed := true, recurses := true, named := ["unicode/utf8.first", "unicode/utf8.acceptRanges"], apart := false, laid := [("unicode/utf8.acceptRanges", laid_unicode_utf8_acceptRanges), ("unicode/utf8.first", laid_unicode_utf8_first)] }
def SenderWindowSaid : Prop := senderWindowRow.holds Tryd.pinned (OpenSpec.ofChange senderWindowSpec)

/-- ITS FALSE NEIGHBOUR: 'it returns false'. Refute it at one input. -/
def senderWindowWrong : ChangeSpec := { name := "senderWindow", fn := fun _ => fun
  | [d1, d2, d3] => { results := [.lit (.bool false)], args := [d1, d2, d3] }
  | _ => none }
def SenderWindowWrongFalsely : Prop := senderWindowRow.holds Tryd.pinned (OpenSpec.ofChange senderWindowWrong)

/-- 'basculelaw16.SenderNil': WHATEVER THE INPUT: true; the input reads as it did. -/
def senderNilSpec : ChangeSpec := { name := "senderNil", fn := fun _ => fun
  | [d1, d2] => { results := [.lit (.bool true)], args := [d1, d2] }
  | _ => none }
def senderNilRow : OpenClaim := { program := "ytonemmdipmohgaadoor", sum := "a8fa2ba4e3b4e6d34591493e54701ce5044a8e7649e7533a06aa639b0776c5e2", func := "bascule/basculelaw16.SenderNil", spec := "senderNil", unfollowed := true, recurses := true, named := ["unicode/utf8.first", "unicode/utf8.acceptRanges"], apart := false, laid := [("unicode/utf8.acceptRanges", laid_unicode_utf8_acceptRanges), ("unicode/utf8.first", laid_unicode_utf8_first)] }
def SenderNilSaid : Prop := senderNilRow.holds Tryd.pinned (OpenSpec.ofChange senderNilSpec)

/-- ITS FALSE NEIGHBOUR: 'it returns false'. Refute it at one input. -/
def senderNilWrong : ChangeSpec := { name := "senderNil", fn := fun _ => fun
  | [d1, d2] => { results := [.lit (.bool false)], args := [d1, d2] }
  | _ => none }
def SenderNilWrongFalsely : Prop := senderNilRow.holds Tryd.pinned (OpenSpec.ofChange senderNilWrong)

/-- 'basculelaw16.SenderAgain': WHATEVER THE INPUT: true; the input reads as it did. -/
def senderAgainSpec : ChangeSpec := { name := "senderAgain", fn := fun _ => fun
  | [d1, d2, d3] => { results := [.lit (.bool true)], args := [d1, d2, d3] }
  | _ => none }
def senderAgainRow : OpenClaim := { program := "ytonemmdipmohgaadoor", sum := "a8fa2ba4e3b4e6d34591493e54701ce5044a8e7649e7533a06aa639b0776c5e2", func := "bascule/basculelaw16.SenderAgain", spec := "senderAgain", unfollowed := true, recurses := true, named := ["unicode/utf8.first", "unicode/utf8.acceptRanges"], apart := false, laid := [("unicode/utf8.acceptRanges", laid_unicode_utf8_acceptRanges), ("unicode/utf8.first", laid_unicode_utf8_first)] }
def SenderAgainSaid : Prop := senderAgainRow.holds Tryd.pinned (OpenSpec.ofChange senderAgainSpec)

/-- ITS FALSE NEIGHBOUR: 'it returns false'. Refute it at one input. -/
def senderAgainWrong : ChangeSpec := { name := "senderAgain", fn := fun _ => fun
  | [d1, d2, d3] => { results := [.lit (.bool false)], args := [d1, d2, d3] }
  | _ => none }
def SenderAgainWrongFalsely : Prop := senderAgainRow.holds Tryd.pinned (OpenSpec.ofChange senderAgainWrong)

/-- 'basculelaw17.ReceiverTakes': WHATEVER THE INPUT: true; the input reads as it did. -/
def receiverTakesSpec : ChangeSpec := { name := "receiverTakes", fn := fun _ => fun
  | [d] => { results := [.lit (.bool true)], args := [d] }
  | _ => none }
def receiverTakesRow : OpenClaim := { program := "ytonemmdipmohgaadoor", sum := "a8fa2ba4e3b4e6d34591493e54701ce5044a8e7649e7533a06aa639b0776c5e2", func := "bascule/basculelaw17.ReceiverTakes", spec := "receiverTakes", unfollowed := true, recurses := true, named := ["unicode/utf8.first", "unicode/utf8.acceptRanges"], apart := false, laid := [("unicode/utf8.acceptRanges", laid_unicode_utf8_acceptRanges), ("unicode/utf8.first", laid_unicode_utf8_first)] }
def ReceiverTakesSaid : Prop := receiverTakesRow.holds Tryd.pinned (OpenSpec.ofChange receiverTakesSpec)

/-- ITS FALSE NEIGHBOUR: 'it returns false'. Refute it at one input. -/
def receiverTakesWrong : ChangeSpec := { name := "receiverTakes", fn := fun _ => fun
  | [d] => { results := [.lit (.bool false)], args := [d] }
  | _ => none }
def ReceiverTakesWrongFalsely : Prop := receiverTakesRow.holds Tryd.pinned (OpenSpec.ofChange receiverTakesWrong)

/-- 'basculelaw17.ReceiverOnce': WHATEVER THE INPUT: true; the input reads as it did. -/
def receiverOnceSpec : ChangeSpec := { name := "receiverOnce", fn := fun _ => fun
  | [d1, d2] => { results := [.lit (.bool true)], args := [d1, d2] }
  | _ => none }
def receiverOnceRow : OpenClaim := { program := "ytonemmdipmohgaadoor", sum := "a8fa2ba4e3b4e6d34591493e54701ce5044a8e7649e7533a06aa639b0776c5e2", func := "bascule/basculelaw17.ReceiverOnce", spec := "receiverOnce", unfollowed := true, recurses := true, named := ["unicode/utf8.first", "unicode/utf8.acceptRanges"], apart := false, laid := [("unicode/utf8.acceptRanges", laid_unicode_utf8_acceptRanges), ("unicode/utf8.first", laid_unicode_utf8_first)] }
def ReceiverOnceSaid : Prop := receiverOnceRow.holds Tryd.pinned (OpenSpec.ofChange receiverOnceSpec)

/-- ITS FALSE NEIGHBOUR: 'it returns false'. Refute it at one input. -/
def receiverOnceWrong : ChangeSpec := { name := "receiverOnce", fn := fun _ => fun
  | [d1, d2] => { results := [.lit (.bool false)], args := [d1, d2] }
  | _ => none }
def ReceiverOnceWrongFalsely : Prop := receiverOnceRow.holds Tryd.pinned (OpenSpec.ofChange receiverOnceWrong)

/- THE SECOND FORM. 'bulk': how many values and letters a reading holds, each counted each time it is reached (what is shared counts as often as it is met; a slice's spare places count too). A statement '..UptoSaid' is the law's where the arguments, and the package variables that the reading takes, are together of bulk at most 1048576: NARROWER than '..Said'. Prove '..Said' where nothing that the law and all that it calls make is longer than what came in: it says more and counts as full. Else prove '..UptoSaid'. A law counts once. -/
mutual
def uptoBulk {H : Type} : DataW H → Nat
  | .lit (.string bytes) => bytes.length + 1
  | .lit _ => 1
  | .nil => 1
  | .ptr d => uptoBulk d + 1
  | .slice elems spare => uptoBulkAll elems + uptoBulkAll spare + 1
  | .agg parts => uptoBulkAll parts + 1
  | .iface _ d => uptoBulk d + 1
  | .map entries => uptoBulkEntries entries + 1
  | .held _ => 1
def uptoBulkAll {H : Type} : List (DataW H) → Nat
  | [] => 0
  | d :: r => uptoBulk d + uptoBulkAll r
def uptoBulkEntries {H : Type} : List (Lit × DataW H) → Nat
  | [] => 0
  | x :: r => uptoBulkEntry x + uptoBulkEntries r
def uptoBulkEntry {H : Type} : Lit × DataW H → Nat
  | (.string bytes, d) => bytes.length + uptoBulk d + 1
  | (_, d) => uptoBulk d + 1
 end
def uptoSmall : (H : Type) → List (DataW H) → Bool := fun _ ds => decide (uptoBulkAll ds ≤ 1048576)
def OpenSpec.upto (s : _root_.Go.ChangeSpec) : _root_.Go.OpenSpec := { _root_.Go.OpenSpec.ofChange s with cond := some uptoSmall }

/-- 'basculelaw17.ReceiverAnswers', WHERE WHAT IT READS IS OF BULK AT MOST 1048576: true; the input reads as it did. -/
def receiverAnswersUptoRow : OpenClaim := { program := "ytonemmdipmohgaadoor", sum := "a8fa2ba4e3b4e6d34591493e54701ce5044a8e7649e7533a06aa639b0776c5e2", func := "bascule/basculelaw17.ReceiverAnswers", spec := "receiverAnswers", unfollowed := true, recurses := true, named := ["unicode/utf8.first", "unicode/utf8.acceptRanges"], apart := false, laid := [("unicode/utf8.acceptRanges", laid_unicode_utf8_acceptRanges), ("unicode/utf8.first", laid_unicode_utf8_first)], narrowed := true }
def ReceiverAnswersUptoSaid : Prop := receiverAnswersUptoRow.holds Tryd.pinned (OpenSpec.upto receiverAnswersSpec)

/-- 'basculelaw17.ReceiverMeets', WHERE WHAT IT READS IS OF BULK AT MOST 1048576: true; the input reads as it did. -/
def receiverMeetsUptoRow : OpenClaim := { program := "ytonemmdipmohgaadoor", sum := "a8fa2ba4e3b4e6d34591493e54701ce5044a8e7649e7533a06aa639b0776c5e2", func := "bascule/basculelaw17.ReceiverMeets", spec := "receiverMeets", unfollowed := true, recurses := true, named := ["unicode/utf8.first", "unicode/utf8.acceptRanges"], apart := false, laid := [("unicode/utf8.acceptRanges", laid_unicode_utf8_acceptRanges), ("unicode/utf8.first", laid_unicode_utf8_first)], narrowed := true }
def ReceiverMeetsUptoSaid : Prop := receiverMeetsUptoRow.holds Tryd.pinned (OpenSpec.upto receiverMeetsSpec)

/-- 'basculelaw16.SenderDoes', WHERE WHAT IT READS IS OF BULK AT MOST 1048576: true; the input reads as it did. -/
def senderDoesUptoRow : OpenClaim := { program := "ytonemmdipmohgaadoor", sum := "a8fa2ba4e3b4e6d34591493e54701ce5044a8e7649e7533a06aa639b0776c5e2", func := "bascule/basculelaw16.SenderDoes", spec := "senderDoes", unfollowed := true, recurses := true, named := ["unicode/utf8.first", "unicode/utf8.acceptRanges"], apart := false, laid := [("unicode/utf8.acceptRanges", laid_unicode_utf8_acceptRanges), ("unicode/utf8.first", laid_unicode_utf8_first)], narrowed := true }
def SenderDoesUptoSaid : Prop := senderDoesUptoRow.holds Tryd.pinned (OpenSpec.upto senderDoesSpec)

/-- 'basculelaw16.SenderArrives', WHERE WHAT IT READS IS OF BULK AT MOST 1048576: true; the input reads as it did. -/
def senderArrivesUptoRow : OpenClaim := { program := "ytonemmdipmohgaadoor", sum := "a8fa2ba4e3b4e6d34591493e54701ce5044a8e7649e7533a06aa639b0776c5e2", func := "bascule/basculelaw16.SenderArrives", spec := "senderArrives", unfollowed := true, recurses := true, named := ["unicode/utf8.first", "unicode/utf8.acceptRanges"], apart := false, laid := [("unicode/utf8.acceptRanges", laid_unicode_utf8_acceptRanges), ("unicode/utf8.first", laid_unicode_utf8_first)], narrowed := true }
def SenderArrivesUptoSaid : Prop := senderArrivesUptoRow.holds Tryd.pinned (OpenSpec.upto senderArrivesSpec)

/-- 'basculelaw16.SenderWindow', WHERE WHAT IT READS IS OF BULK AT MOST 1048576: true; the input reads as it did. -/
def senderWindowUptoRow : OpenClaim := { program := "ytonemmdipmohgaadoor", sum := "a8fa2ba4e3b4e6d34591493e54701ce5044a8e7649e7533a06aa639b0776c5e2", func := "bascule/basculelaw16.SenderWindow", spec := "senderWindow", unfollowed := true, recurses := true, named := ["unicode/utf8.first", "unicode/utf8.acceptRanges"], apart := false, laid := [("unicode/utf8.acceptRanges", laid_unicode_utf8_acceptRanges), ("unicode/utf8.first", laid_unicode_utf8_first)], narrowed := true }
def SenderWindowUptoSaid : Prop := senderWindowUptoRow.holds Tryd.pinned (OpenSpec.upto senderWindowSpec)

/-- 'basculelaw16.SenderNil', WHERE WHAT IT READS IS OF BULK AT MOST 1048576: true; the input reads as it did. -/
def senderNilUptoRow : OpenClaim := { program := "ytonemmdipmohgaadoor", sum := "a8fa2ba4e3b4e6d34591493e54701ce5044a8e7649e7533a06aa639b0776c5e2", func := "bascule/basculelaw16.SenderNil", spec := "senderNil", unfollowed := true, recurses := true, named := ["unicode/utf8.first", "unicode/utf8.acceptRanges"], apart := false, laid := [("unicode/utf8.acceptRanges", laid_unicode_utf8_acceptRanges), ("unicode/utf8.first", laid_unicode_utf8_first)], narrowed := true }
def SenderNilUptoSaid : Prop := senderNilUptoRow.holds Tryd.pinned (OpenSpec.upto senderNilSpec)

/-- 'basculelaw16.SenderAgain', WHERE WHAT IT READS IS OF BULK AT MOST 1048576: true; the input reads as it did. -/
def senderAgainUptoRow : OpenClaim := { program := "ytonemmdipmohgaadoor", sum := "a8fa2ba4e3b4e6d34591493e54701ce5044a8e7649e7533a06aa639b0776c5e2", func := "bascule/basculelaw16.SenderAgain", spec := "senderAgain", unfollowed := true, recurses := true, named := ["unicode/utf8.first", "unicode/utf8.acceptRanges"], apart := false, laid := [("unicode/utf8.acceptRanges", laid_unicode_utf8_acceptRanges), ("unicode/utf8.first", laid_unicode_utf8_first)], narrowed := true }
def SenderAgainUptoSaid : Prop := senderAgainUptoRow.holds Tryd.pinned (OpenSpec.upto senderAgainSpec)

/-- 'basculelaw17.ReceiverTakes', WHERE WHAT IT READS IS OF BULK AT MOST 1048576: true; the input reads as it did. -/
def receiverTakesUptoRow : OpenClaim := { program := "ytonemmdipmohgaadoor", sum := "a8fa2ba4e3b4e6d34591493e54701ce5044a8e7649e7533a06aa639b0776c5e2", func := "bascule/basculelaw17.ReceiverTakes", spec := "receiverTakes", unfollowed := true, recurses := true, named := ["unicode/utf8.first", "unicode/utf8.acceptRanges"], apart := false, laid := [("unicode/utf8.acceptRanges", laid_unicode_utf8_acceptRanges), ("unicode/utf8.first", laid_unicode_utf8_first)], narrowed := true }
def ReceiverTakesUptoSaid : Prop := receiverTakesUptoRow.holds Tryd.pinned (OpenSpec.upto receiverTakesSpec)

/-- 'basculelaw17.ReceiverOnce', WHERE WHAT IT READS IS OF BULK AT MOST 1048576: true; the input reads as it did. -/
def receiverOnceUptoRow : OpenClaim := { program := "ytonemmdipmohgaadoor", sum := "a8fa2ba4e3b4e6d34591493e54701ce5044a8e7649e7533a06aa639b0776c5e2", func := "bascule/basculelaw17.ReceiverOnce", spec := "receiverOnce", unfollowed := true, recurses := true, named := ["unicode/utf8.first", "unicode/utf8.acceptRanges"], apart := false, laid := [("unicode/utf8.acceptRanges", laid_unicode_utf8_acceptRanges), ("unicode/utf8.first", laid_unicode_utf8_first)], narrowed := true }
def ReceiverOnceUptoSaid : Prop := receiverOnceUptoRow.holds Tryd.pinned (OpenSpec.upto receiverOnceSpec)

end Rows
end Go.Proofs.YtonemmdipmohgaaDoor

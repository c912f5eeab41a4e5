/- The reader: a packet stored whole; read. -/
import Derived.Test.YteigakkghkjakaaDoorPlB
import Derived.Laws.Tables
namespace Go.Proofs.YteigakkghkjakaaDoor
open Go.RowKit
set_option linter.unusedVariables false
set_option linter.unusedSimpArgs false
namespace Pk
open Utf (nums nums_length nums_bytes IsStr)
open Var (BT)

def zeroP : Pkt := ⟨0, false, 0, ⟨#[]⟩, ⟨#[]⟩, 0, false, ⟨#[]⟩, false, 0, false, false, false, ⟨#[]⟩, ⟨#[]⟩, false, nilV, nilV⟩
def typeP (t : Int) : Pkt := { zeroP with ty := t }

theorem cells_one (p : Pkt) (hc : p.codes.oneCell' = true) (hs : p.subs.oneCell' = true) : ∀ v ∈ p.cells.toList, v.oneCell' = true := by
  intro v hv
  simp [Pkt.cells] at hv
  rcases hv with h | h | h | h | h | h | h | h | h | h | h | h | h | h | h | h | h | h <;> subst h <;> first | rfl | assumption
theorem store_pkt (W : World) (g : Nat) (p q : Pkt) (h : PkAt W g q) (hc : p.codes.oneCell' = true) (hs : p.subs.oneCell' = true) : ∃ W', (Instr.storeAt PT (.pointer (some ⟨g, 0, none⟩)) (.agg p.cells)).run Tryd.prog W = .ok () W' ∧ PkAt W' g p ∧ Turn (fun k => k = g) W W' := by
  have hl := run_storeCells_from (P := Tryd.prog) g PT p.cells.toList 0 q.cells W h (by simp [Pkt.cells]) (cells_one p hc hs)
  have h2 : (sizeOf PT).run Tryd.prog W = .ok 18 W := by kernel_rfl
  have hsz : (Value.agg p.cells).cells.size = 18 := rfl
  rw [List.take_zero, List.nil_append, Array.toArray_toList] at hl
  refine ⟨W.setRow g p.cells, ?_, ?_, ?_⟩
  · unfold Instr.storeAt storeVar
    simp only [Instr.sureAddr, Sem.run_bind, Sem.run_pure, Result.andThen_ok, h2, hsz]
    exact hl
  · exact setRow_heap W g q.cells p.cells PT (0, 0) h
  · exact ⟨rfl, rfl, rfl, by simp [World.setRow], fun k hk hn => setRow_other W g k _ hn⟩
/-- The whole packet stored, as an operation. -/
theorem wp_store_pkt {ops : Array Oper} {rest : List Oper} {o : Oper} {a : Act} {W : World} {Q : Exit → Act → World → Prop} {x y : Operand} {g : Nat} (p q : Pkt) (hgd : o.guard = none) (ho : o.op = .store PT x y) (hx : a.eval x = .pointer (some ⟨g, 0, none⟩)) (hy : a.eval y = .agg p.cells) (h : PkAt W g q) (hc : p.codes.oneCell' = true) (hs : p.subs.oneCell' = true)
    (hK : ∀ W', Hid (PkAt W' g p) → Turn (fun k => k = g) W W' → wpList Tryd.prog ops Q rest (a.put o.dst undef) W') : wpList Tryd.prog ops Q (o :: rest) a W := by
  refine BigFrame.wpList_want (wanted_free hgd) (fun K hK' => ?_)
  obtain ⟨W', h1, h2, h3⟩ := store_pkt W g p q h hc hs
  unfold Oper.wp
  have he : (execOp a.eval o).run Tryd.prog W = .ok .skip W' := by
    unfold execOp
    rw [ho]
    show ((Instr.storeAt PT (a.eval x) (a.eval y)) >>= fun _ => pure Next.skip).run Tryd.prog W = _
    rw [Sem.run_bind, hx, hy, h1]; rfl
  rw [he, Oper.upon_skip]
  exact hK' _ _ (hK W' h2 h3)

def subCells (D : List (ByteArray × Int)) : List Value := (D.map fun s => [.string s.1, .int .i64 s.2]).flatten
def rdSubs : Nat → Int → List Int → Option (List (ByteArray × Int))
  | 0, _, L => if L = [] then some [] else none
  | k + 1, ty, L => if L = [] then some [] else (rdText L).bind fun s => if ty = 8 then (rdOct s.2).bind fun q => (rdSubs k ty q.2).map fun D => (s.1, q.1) :: D else (rdSubs k ty s.2).map fun D => (s.1, 0) :: D
def pub3 (f : Int) (t : ByteArray) (L : List Int) : Option (Pkt × List Int × List (ByteArray × Int)) :=
  if 0 < bits .and .i64 (f / 2) 3 then (rdWord L).bind fun x => some ({ typeP 3 with dup := flagB f 8, topic := t, qos := bits .and .i64 (f / 2) 3, retain := flagB f 1, id := x.1, payload := strOfNums x.2 }, [], [])
  else some ({ typeP 3 with dup := flagB f 8, topic := t, qos := bits .and .i64 (f / 2) 3, retain := flagB f 1, payload := strOfNums L }, [], [])
def rdPkt (f : Int) (L : List Int) : Option (Pkt × List Int × List (ByteArray × Int)) :=
  if f / 16 = 1 then (rdCon (typeP 1) L).bind fun x => some (x.1, [], [])
  else if f / 16 = 2 then (rdOct L).bind fun a => (rdOct a.2).bind fun b => some ({ typeP 2 with present := a.1 == 1 }, [b.1], [])
  else if f / 16 = 3 then (rdText L).bind fun t => pub3 f t.1 t.2
  else if f / 16 = 12 ∨ f / 16 = 13 ∨ f / 16 = 14 then some (typeP (f / 16), [], [])
  else (rdWord L).bind fun x => if f / 16 = 9 then some ({ typeP 9 with id := x.1 }, x.2, [])
    else if f / 16 = 8 ∨ f / 16 = 10 then (rdSubs x.2.length (f / 16) x.2).bind fun D => some ({ typeP (f / 16) with id := x.1 }, [], D)
    else some ({ typeP (f / 16) with id := x.1 }, [], [])
def Pkt.rows (p : Pkt) (vc vs : Value) : Pkt := { p with codes := vc, subs := vs }
theorem rows_self (p : Pkt) {vc vs : Value} (h1 : p.codes = vc) (h2 : p.subs = vs) : p.rows vc vs = p := by
  subst h1 h2
  cases p
  rfl
def ReadPost (w : World) (r : Nat) (o : Option (Pkt × List Int × List (ByteArray × Int))) (e : Ending) (w' : World) : Prop :=
  Turn (fun k => k = r) w w' ∧ ((∃ p C D vc vs, o = some (p, C, D) ∧ e = .returned (.agg (p.rows vc vs).cells) ∧ OwnInts w' w.heap.size 3 .i64 vc C ∧ w'.ownsRow w.heap.size 76 2 vs D.length (subCells D)) ∨ (o = none ∧ e = badP))

theorem read_results (W : World) (v : Nat) (p : Pkt) (tmps : Array Value) (hv : tmps.getD 4 undef = .pointer (some ⟨v, 0, none⟩)) (h : PkAt W v p) : (results Tryd.f34 tmps).run Tryd.prog W = .ok (.agg p.cells) W := by
  have hl := load_pkt W v p h
  unfold Instr.loadAt at hl
  simp only [Instr.sureAddr, Sem.run_bind, Sem.run_pure, Result.andThen_ok] at hl
  simp only [results, Tryd.results34]
  have hv' : tmps[4]?.getD undef = .pointer (some ⟨v, 0, none⟩) := by rw [← hv]; simp
  simp [hv', asAddr, hl]

/-- Where read stands: W1 is the world behind its own two packets; v the result's block, g the packet's. -/
structure RQ (w W1 W : World) (r g v B : Nat) (p : Pkt) (L : List Int) : Prop where
  rs : RS W1 W r g B p L
  gw : g = w.heap.size + 1
  vw : v = w.heap.size
  rw_ : r < w.heap.size
  w1 : Below w.heap.size w W1
  res : PkAt W1 v zeroP
theorem RS.old {w W W' : World} {r g B : Nat} {p : Pkt} {L : List Int} (h : RS w W r g B p L) (b : Below W.heap.size W W') : RS w W' r g B p L :=
  ⟨h.turn.trans (Turn.of_below b), h.rd.keep b, h.pk.keep (Turn.of_below (S := fun _ => False) b) (fun h => h), h.ne, h.bg⟩
theorem RQ.big {w W1 W : World} {r g v B : Nat} {p : Pkt} {L : List Int} (h : RQ w W1 W r g v B p L) : w.heap.size + 2 ≤ W.heap.size := by
  have := h.rs.pk.lt; have := h.gw; omega
theorem RQ.resAt {w W1 W : World} {r g v B : Nat} {p : Pkt} {L : List Int} (h : RQ w W1 W r g v B p L) : PkAt W v zeroP :=
  h.res.keep h.rs.turn (fun e => by have := h.gw; have := h.vw; have := h.rw_; omega)
theorem RQ.next {w W1 W W' : World} {r g v B : Nat} {p p' : Pkt} {L L' : List Int} (h : RQ w W1 W r g v B p L) (hs : RS W1 W' r g B p' L') : RQ w W1 W' r g v B p' L' := ⟨hs, h.gw, h.vw, h.rw_, h.w1, h.res⟩
theorem turn_of {w W1 W : World} {r g : Nat} (h1 : Below w.heap.size w W1) (hg : g = w.heap.size + 1) (t : Turn (fun k => k = r ∨ k = g) W1 W) : Turn (fun k => k = r) w W :=
  (Turn.of_below h1).then t (fun i hi hx => by rcases hx with e | e; exact e; omega)
theorem RQ.turn {w W1 W : World} {r g v B : Nat} {p : Pkt} {L : List Int} (h : RQ w W1 W r g v B p L) : Turn (fun k => k = r) w W := turn_of h.w1 h.gw h.rs.turn
theorem own_nilSub (W : World) (base : Nat) : W.ownsRow base 76 2 (.slice none 0 0) 0 (subCells []) := ⟨by simp [subCells], .inl ⟨rfl, rfl⟩⟩
end Pk
end Go.Proofs.YteigakkghkjakaaDoor

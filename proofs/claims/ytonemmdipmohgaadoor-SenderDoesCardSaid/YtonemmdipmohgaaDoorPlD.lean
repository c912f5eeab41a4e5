/- The reader: take, octet, word, text. The reader: connect. The reader: a packet stored whole; read. The reader: read, the types without loops. -/
import Derived.Test.YtonemmdipmohgaaDoorPkZ
import Derived.Laws.Tables
namespace Go.Proofs.YtonemmdipmohgaaDoor
open Go.RowKit
set_option linter.unusedVariables false
set_option linter.unusedSimpArgs false
namespace Pk
open Utf (nums nums_length nums_bytes IsStr)
open Var (BT)

theorem reads_turn {k : IntKind} {w w' : World} {A : Option Addr} {L : List Int} {S : Nat → Prop} (h : Reads k w A L) (t : Turn S w w') (hs : ∀ x, A = some x → ¬ S x.block) : Reads k w' A L := by
  intro h0
  obtain ⟨x, hx, hc⟩ := h h0
  refine ⟨x, hx, fun i hi => t.cell (hc i hi) ?_⟩
  rw [add_block]; exact hs x hx
theorem reads_drop {k : IntKind} {w : World} {x : Addr} {L : List Int} (n : Nat) (h : Reads k w (some x) L) : Reads k w (some (x.add n)) (L.drop n) := by
  intro h0
  rw [List.length_drop] at h0
  obtain ⟨y, hy, hc⟩ := h (by omega)
  cases hy
  refine ⟨_, rfl, fun i hi => ?_⟩
  rw [List.length_drop] at hi
  rw [add_add, hc (n + i) (by omega)]
  simp [lat, List.getElem?_drop]
theorem reads_take {k : IntKind} {w : World} {A : Option Addr} {L : List Int} (n : Nat) (h : Reads k w A L) : Reads k w A (L.take n) := by
  intro h0
  rw [List.length_take] at h0
  obtain ⟨y, hy, hc⟩ := h (by omega)
  refine ⟨y, hy, fun i hi => ?_⟩
  rw [List.length_take] at hi
  rw [hc i (by omega), lat_take _ _ _ (by omega)]
theorem ne_r {A : Option Addr} {r B : Nat} (h : B ≤ r ∧ ∀ x, A = some x → x.block < B) : ∀ x, A = some x → ¬ (x.block = r) := fun x hx e => by have := h.2 x hx; omega
theorem drop_bytes {L : List Int} (n : Nat) (h : ∀ x ∈ L, 0 ≤ x ∧ x < 256) : ∀ x ∈ L.drop n, 0 ≤ x ∧ x < 256 := fun x hx => h x (List.mem_of_mem_drop hx)

def rdOct : List Int → Option (Int × List Int)
  | x :: L => some (x, L)
  | [] => none
def rdWord : List Int → Option (Int × List Int)
  | a :: b :: L => some (256 * a + b, L)
  | _ => none
def rdText (L : List Int) : Option (ByteArray × List Int) :=
  match rdWord L with
  | some (n, M) => if n.toNat ≤ M.length then some (strOfNums (M.take n.toNat), M.drop n.toNat) else none
  | none => none
abbrev intV (x : Int) : Value := .int .i64 x
abbrev strV (x : ByteArray) : Value := .string x

theorem or_word (a b : Int) (ha0 : 0 ≤ a) (ha1 : a < 256) (hb0 : 0 ≤ b) (hb1 : b < 256) : bits .or .i64 (a * 256) b = 256 * a + b := by
  have hw : ∀ n : Int, 0 ≤ n → n < 2 ^ 28 → IntKind.i64.wrap n = n := fun n h0 h1 => by rw [IntKind.wrap_i64]; omega
  rw [bits_join .i64 28 (by decide) hw 8 (a * 256) b (by omega) (by omega) (by omega) hb0 (by omega) (by omega)]
  omega
theorem rdWord_rest {L M : List Int} {n : Int} (h : rdWord L = some (n, M)) (hb : ∀ x ∈ L, 0 ≤ x ∧ x < 256) : 0 ≤ n ∧ n ≤ 65535 := by
  match L, h with
  | a :: b :: L', h =>
    have ha := hb a (by simp)
    have hb := hb b (by simp)
    simp [rdWord] at h
    omega

end Pk
end Go.Proofs.YtonemmdipmohgaaDoor

namespace Go.Proofs.YtonemmdipmohgaaDoor
open Go.RowKit
set_option linter.unusedVariables false
set_option linter.unusedSimpArgs false
namespace Pk
open Utf (nums nums_length nums_bytes IsStr)
open Var (BT)

def flagB (f m : Int) : Bool := decide (0 < bits .and .i64 f m)
def con9 (p : Pkt) (L : List Int) : Option (Pkt × List Int) := if p.hpass then (rdText L).bind fun x => some ({ p with pass := x.1 }, x.2) else some (p, L)
def con8 (p : Pkt) (L : List Int) : Option (Pkt × List Int) := if p.huser then (rdText L).bind fun x => con9 { p with user := x.1 } x.2 else con9 p L
def con7 (p : Pkt) (L : List Int) : Option (Pkt × List Int) := (rdText L).bind fun x => con8 { p with payload := x.1 } x.2
def con6 (p : Pkt) (L : List Int) : Option (Pkt × List Int) := (rdText L).bind fun x => con7 { p with topic := x.1 } x.2
def con5 (p : Pkt) (f : Int) (L : List Int) : Option (Pkt × List Int) :=
  if p.will then con6 { p with topic := ⟨#[]⟩, payload := ⟨#[]⟩, qos := bits .and .i64 (f / 8) 3, retain := flagB f 32 } L else con8 p L
def con4 (p : Pkt) (f : Int) (L : List Int) : Option (Pkt × List Int) := (rdText L).bind fun x => con5 { p with client := x.1 } f x.2
def con3 (p : Pkt) (f : Int) (L : List Int) : Option (Pkt × List Int) := (rdWord L).bind fun x => con4 { p with alive := x.1 } f x.2
def Pkt.flag (p : Pkt) (f : Int) : Pkt := { p with clean := flagB f 2, will := flagB f 4, hpass := flagB f 64, huser := flagB f 128 }
def con2 (p : Pkt) (L : List Int) : Option (Pkt × List Int) := (rdOct L).bind fun x => con3 (p.flag x.1) x.1 x.2
def con1 (p : Pkt) (L : List Int) : Option (Pkt × List Int) := (rdOct L).bind fun x => if x.1 = 4 then con2 p x.2 else none
def rdCon (p : Pkt) (L : List Int) : Option (Pkt × List Int) := (rdText L).bind fun x => if x.1.toList = [77, 81, 84, 84] then con1 p x.2 else none

theorem str_ne' {s t : ByteArray} (h : ¬ s.toList = t.toList) : (s.toList == t.toList) = false := by simpa using h

end Pk
end Go.Proofs.YtonemmdipmohgaaDoor

namespace Go.Proofs.YtonemmdipmohgaaDoor
open Go.RowKit
set_option linter.unusedVariables false
set_option linter.unusedSimpArgs false
namespace Pk
open Utf (nums nums_length nums_bytes IsStr)
open Var (BT)

def zeroP : Pkt := ⟨0, false, 0, ⟨#[]⟩, ⟨#[]⟩, 0, false, ⟨#[]⟩, false, 0, false, false, false, ⟨#[]⟩, ⟨#[]⟩, false, nilV, nilV⟩
def typeP (t : Int) : Pkt := { zeroP with ty := t }

theorem cells_one (p : Pkt) (hc : p.codes.oneCell' = true) (hs : p.subs.oneCell' = true) : ∀ v ∈ p.cells.toList, v.oneCell' = true := by
  intro v hv
  simp [Pkt.cells] at hv
  rcases hv with h | h | h | h | h | h | h | h | h | h | h | h | h | h | h | h | h | h <;> subst h <;> first | rfl | assumption
theorem store_pkt (W : World) (g : Nat) (p q : Pkt) (h : PkAt W g q) (hc : p.codes.oneCell' = true) (hs : p.subs.oneCell' = true) : ∃ W', (Instr.storeAt PT (.pointer (some ⟨g, 0, none⟩)) (.agg p.cells)).run Tryd.prog W = .ok () W' ∧ PkAt W' g p ∧ Turn (fun k => k = g) W W' := by
  have hl := run_storeCells_from (P := Tryd.prog) g PT p.cells.toList 0 q.cells W h (by simp [Pkt.cells]) (cells_one p hc hs)
  have h2 : (sizeOf PT).run Tryd.prog W = .ok 18 W := by kernel_rfl
  have hsz : (Value.agg p.cells).cells.size = 18 := rfl
  rw [List.take_zero, List.nil_append, Array.toArray_toList] at hl
  refine ⟨W.setRow g p.cells, ?_, ?_, ?_⟩
  · unfold Instr.storeAt storeVar
    simp only [Instr.sureAddr, Sem.run_bind, Sem.run_pure, Result.andThen_ok, h2, hsz]
    exact hl
  · exact setRow_heap W g q.cells p.cells PT (0, 0) h
  · exact ⟨rfl, rfl, rfl, by simp [World.setRow], fun k hk hn => setRow_other W g k _ hn⟩
/-- The whole packet stored, as an operation. -/
theorem wp_store_pkt {ops : Array Oper} {rest : List Oper} {o : Oper} {a : Act} {W : World} {Q : Exit → Act → World → Prop} {x y : Operand} {g : Nat} (p q : Pkt) (hgd : o.guard = none) (ho : o.op = .store PT x y) (hx : a.eval x = .pointer (some ⟨g, 0, none⟩)) (hy : a.eval y = .agg p.cells) (h : PkAt W g q) (hc : p.codes.oneCell' = true) (hs : p.subs.oneCell' = true)
    (hK : ∀ W', Hid (PkAt W' g p) → Turn (fun k => k = g) W W' → wpList Tryd.prog ops Q rest (a.put o.dst undef) W') : wpList Tryd.prog ops Q (o :: rest) a W := by
  refine BigFrame.wpList_want (wanted_free hgd) (fun K hK' => ?_)
  obtain ⟨W', h1, h2, h3⟩ := store_pkt W g p q h hc hs
  unfold Oper.wp
  have he : (execOp a.eval o).run Tryd.prog W = .ok .skip W' := by
    unfold execOp
    rw [ho]
    show ((Instr.storeAt PT (a.eval x) (a.eval y)) >>= fun _ => pure Next.skip).run Tryd.prog W = _
    rw [Sem.run_bind, hx, hy, h1]; rfl
  rw [he, Oper.upon_skip]
  exact hK' _ _ (hK W' h2 h3)

def subCells (D : List (ByteArray × Int)) : List Value := (D.map fun s => [.string s.1, .int .i64 s.2]).flatten
def rdSubs : Nat → Int → List Int → Option (List (ByteArray × Int))
  | 0, _, L => if L = [] then some [] else none
  | k + 1, ty, L => if L = [] then some [] else (rdText L).bind fun s => if ty = 8 then (rdOct s.2).bind fun q => (rdSubs k ty q.2).map fun D => (s.1, q.1) :: D else (rdSubs k ty s.2).map fun D => (s.1, 0) :: D
def pub3 (f : Int) (t : ByteArray) (L : List Int) : Option (Pkt × List Int × List (ByteArray × Int)) :=
  if 0 < bits .and .i64 (f / 2) 3 then (rdWord L).bind fun x => some ({ typeP 3 with dup := flagB f 8, topic := t, qos := bits .and .i64 (f / 2) 3, retain := flagB f 1, id := x.1, payload := strOfNums x.2 }, [], [])
  else some ({ typeP 3 with dup := flagB f 8, topic := t, qos := bits .and .i64 (f / 2) 3, retain := flagB f 1, payload := strOfNums L }, [], [])
def rdPkt (f : Int) (L : List Int) : Option (Pkt × List Int × List (ByteArray × Int)) :=
  if f / 16 = 1 then (rdCon (typeP 1) L).bind fun x => some (x.1, [], [])
  else if f / 16 = 2 then (rdOct L).bind fun a => (rdOct a.2).bind fun b => some ({ typeP 2 with present := a.1 == 1 }, [b.1], [])
  else if f / 16 = 3 then (rdText L).bind fun t => pub3 f t.1 t.2
  else if f / 16 = 12 ∨ f / 16 = 13 ∨ f / 16 = 14 then some (typeP (f / 16), [], [])
  else (rdWord L).bind fun x => if f / 16 = 9 then some ({ typeP 9 with id := x.1 }, x.2, [])
    else if f / 16 = 8 ∨ f / 16 = 10 then (rdSubs x.2.length (f / 16) x.2).bind fun D => some ({ typeP (f / 16) with id := x.1 }, [], D)
    else some ({ typeP (f / 16) with id := x.1 }, [], [])
def Pkt.rows (p : Pkt) (vc vs : Value) : Pkt := { p with codes := vc, subs := vs }
theorem rows_self (p : Pkt) {vc vs : Value} (h1 : p.codes = vc) (h2 : p.subs = vs) : p.rows vc vs = p := by
  subst h1 h2
  cases p
  rfl
def ReadPost (w : World) (r : Nat) (o : Option (Pkt × List Int × List (ByteArray × Int))) (e : Ending) (w' : World) : Prop :=
  Turn (fun k => k = r) w w' ∧ ((∃ p C D vc vs, o = some (p, C, D) ∧ e = .returned (.agg (p.rows vc vs).cells) ∧ OwnInts w' w.heap.size 3 .i64 vc C ∧ w'.ownsRow w.heap.size 114 2 vs D.length (subCells D)) ∨ (o = none ∧ e = badP))

theorem turn_of {w W1 W : World} {r g : Nat} (h1 : Below w.heap.size w W1) (hg : g = w.heap.size + 1) (t : Turn (fun k => k = r ∨ k = g) W1 W) : Turn (fun k => k = r) w W :=
  (Turn.of_below h1).then t (fun i hi hx => by rcases hx with e | e; exact e; omega)
theorem own_nilSub (W : World) (base : Nat) : W.ownsRow base 114 2 (.slice none 0 0) 0 (subCells []) := ⟨by simp [subCells], .inl ⟨rfl, rfl⟩⟩
end Pk
end Go.Proofs.YtonemmdipmohgaaDoor

namespace Go.Proofs.YtonemmdipmohgaaDoor
open Go.RowKit
set_option linter.unusedVariables false
set_option linter.unusedSimpArgs false
namespace Pk
open Utf (nums nums_length nums_bytes IsStr)
open Var (BT)

theorem con9_rows {p q : Pkt} {L M : List Int} (h : con9 p L = some (q, M)) : q.codes = p.codes ∧ q.subs = p.subs ∧ q.ty = p.ty := by
  unfold con9 at h
  split at h
  · cases hr : rdText L with
    | none => rw [hr] at h; cases h
    | some x => rw [hr] at h; cases h; exact ⟨rfl, rfl, rfl⟩
  · cases h; exact ⟨rfl, rfl, rfl⟩
theorem con8_rows {p q : Pkt} {L M : List Int} (h : con8 p L = some (q, M)) : q.codes = p.codes ∧ q.subs = p.subs ∧ q.ty = p.ty := by
  unfold con8 at h
  split at h
  · cases hr : rdText L with
    | none => rw [hr] at h; cases h
    | some x => rw [hr, Option.bind_some] at h; have := con9_rows h; exact this
  · have := con9_rows h; exact this
theorem con6_rows {p q : Pkt} {L M : List Int} (h : con6 p L = some (q, M)) : q.codes = p.codes ∧ q.subs = p.subs ∧ q.ty = p.ty := by
  unfold con6 at h
  cases hr : rdText L with
  | none => rw [hr] at h; cases h
  | some x =>
    rw [hr, Option.bind_some] at h
    unfold con7 at h
    cases hr2 : rdText x.2 with
    | none => rw [hr2] at h; cases h
    | some y => rw [hr2, Option.bind_some] at h; have := con8_rows h; exact this
theorem con5_rows {p q : Pkt} {f : Int} {L M : List Int} (h : con5 p f L = some (q, M)) : q.codes = p.codes ∧ q.subs = p.subs ∧ q.ty = p.ty := by
  unfold con5 at h
  split at h
  · have := con6_rows h; exact this
  · have := con8_rows h; exact this
theorem rdCon_all {p q : Pkt} {L M : List Int} (h : rdCon p L = some (q, M)) : q.codes = p.codes ∧ q.subs = p.subs ∧ q.ty = p.ty := by
  unfold rdCon at h
  cases h1 : rdText L with
  | none => rw [h1] at h; cases h
  | some x =>
    rw [h1, Option.bind_some] at h
    split at h
    · unfold con1 at h
      cases h2 : rdOct x.2 with
      | none => rw [h2] at h; cases h
      | some y =>
        rw [h2, Option.bind_some] at h
        split at h
        · unfold con2 at h
          cases h3 : rdOct y.2 with
          | none => rw [h3] at h; cases h
          | some z =>
            rw [h3, Option.bind_some] at h
            unfold con3 at h
            cases h4 : rdWord z.2 with
            | none => rw [h4] at h; cases h
            | some u =>
              rw [h4, Option.bind_some] at h
              unfold con4 at h
              cases h5 : rdText u.2 with
              | none => rw [h5] at h; cases h
              | some t => rw [h5, Option.bind_some] at h; have := con5_rows h; exact this
        · cases h
    · cases h
theorem rdCon_rows {t : Int} {q : Pkt} {L M : List Int} (h : rdCon (typeP t) L = some (q, M)) : q.codes = nilV ∧ q.subs = nilV := ⟨(rdCon_all h).1, (rdCon_all h).2.1⟩

abbrev zeroC : Array Value := #[.int .i64 0, .bool false, .int .i64 0, .string ⟨#[]⟩, .string ⟨#[]⟩, .int .i64 0, .bool false, .string ⟨#[]⟩, .bool false, .int .i64 0, .bool false, .bool false, .bool false, .string ⟨#[]⟩, .string ⟨#[]⟩, .bool false, .slice none 0 0, .slice none 0 0]
theorem kShr4 {W : World} {x y : Operand} (f : Int) (h0 : 0 ≤ f) (h1 : f ≤ 255) : (do eqGuard .shr 3 x y (.int .i64 f) (.int .u64 4); binOp .shr 3 (.int .i64 f) (.int .u64 4) : Sem Value).run Tryd.prog W = .ok (.int .i64 (f / 16)) W := by
  simp [go_sem, eqGuard]
theorem rBuild1 {P : Program} {ev : Operand → Value} {o : Oper} {W : World} {v : Value} {t : TypeId} {i : Nat} {x : Operand} (ho : o.op = .build t #[(i, x)]) (hk : (Instr.build t #[(i, ev x)]).run P W = .ok v W) : (execOp ev o).run P W = .ok (.value v) W :=
  rBuild ho (by have : (#[(i, x)] : Array (Nat × Operand)).map (fun (i, x) => (i, ev x)) = #[(i, ev x)] := by simp
                rw [this]; exact hk)
theorem kBuildP {W : World} (T : Int) : (Instr.build PT #[(0, .int .i64 T)]).run Tryd.prog W = .ok (.agg (typeP T).cells) W := by kernel_rfl
theorem kAllocP (W : World) : (Instr.alloc PT true (.tuple #[])).run Tryd.prog W = .ok (.pointer (some ⟨W.heap.size, 0, none⟩)) (W.alloc (.cells zeroC PT)) := by kernel_rfl
theorem st_alloc {P : Program} {ops : Array Oper} {Q : Exit → Act → World → Prop} {a : Act} {w w' : World} {rest : List Oper} {o : Oper} {t : TypeId} {v : Value} (hw : Region.wanted o (yielded ops a.tmps) = true) (ho : o.op = .alloc t)
    (hr : (Instr.alloc t true (.tuple #[])).run P w = .ok v w') (h : wpList P ops Q rest (a.put o.dst v) w') : wpList P ops Q (o :: rest) a w := by
  unfold wpList
  rw [if_pos hw]
  left
  unfold Oper.wp
  have he : (execOp a.eval o).run P w = .ok (.value v) w' := by
    unfold execOp
    rw [ho]
    show ((Instr.alloc t true (.tuple #[])) >>= fun v => pure (Next.value v)).run P w = _
    rw [Sem.run_bind, hr]; rfl
  rw [he]
  exact h

end Pk
end Go.Proofs.YtonemmdipmohgaaDoor

/- What the walks of the reference's Parse share. -/
import Derived.Test.YteigakkghkjakaaDoorRfN
import Derived.Test.YteigakkghkjakaaDoorRfJ
namespace Go.Proofs.YteigakkghkjakaaDoor
open Go.RowKit Go.ChangeShapes
set_option linter.unusedVariables false
set_option linter.unusedSimpArgs false
namespace Ref
open Utf (nums nums_length nums_bytes IsStr nums_str)
open Var (BT info_byte GivesBytes digs digs_length tell rat_calls)
open Pk

/-- What the reference's Parse answers: the packet whose bytes they are; or none. -/
def RParsePost (w : World) (L : List Int) (e : Ending) (w' : World) : Prop :=
  Below w.heap.size w w' ∧ ((∃ p C D, IsPkt L p C D ∧ e = .returned (.tuple #[.agg p.cells, .bool true]) ∧ OwnInts w' w.heap.size 3 .i64 p.codes C ∧ w'.ownsRow w.heap.size 76 2 p.subs D.length (subCells D)) ∨
    ((∀ p C D, ¬ IsPkt L p C D) ∧ e = .returned (.tuple #[.agg zeroP.cells, .bool false])))
theorem rparse_results (W : World) (v : Nat) (p : Pkt) (b : Bool) (tmps : Array Value) (hv : tmps.getD 2 undef = .pointer (some ⟨v, 0, none⟩)) (hn : tmps.getD 3 undef = .bool b) (h : PkAt W v p) : (results Tryd.f16 tmps).run Tryd.prog W = .ok (.tuple #[.agg p.cells, .bool b]) W := by
  have hl := load_pkt W v p h
  unfold Instr.loadAt at hl
  simp only [Instr.sureAddr, Sem.run_bind, Sem.run_pure, Result.andThen_ok] at hl
  simp only [results, Tryd.results16]
  have hv' : tmps[2]?.getD undef = .pointer (some ⟨v, 0, none⟩) := by rw [← hv]; simp
  have hn' : tmps[3]?.getD undef = .bool b := by rw [← hn]; simp
  simp [hv', hn', asAddr, hl]
theorem kQuo16 {W : World} {x y : Operand} (f : Int) (h0 : 0 ≤ f) (h1 : f ≤ 255) : (do eqGuard .quo 3 x y (.int .i64 f) (.int .i64 16); binOp .quo 3 (.int .i64 f) (.int .i64 16) : Sem Value).run Tryd.prog W = .ok (.int .i64 (f / 16)) W := by
  have h2 : f.tdiv 16 = f / 16 := Int.tdiv_eq_ediv_of_nonneg h0
  have h3 : IntKind.i64.wrap (f / 16) = f / 16 := by rw [IntKind.wrap_i64]; omega
  simp [go_sem, eqGuard, h2, h3]
theorem kSliceFrom {W : World} (x : Addr) (n c k : Nat) (hk : k ≤ n) (hc : n ≤ c) (hb : (k : Int) ≤ 50000) : (Instr.sliceAt 22 (.slice (some x) n c) (some (.int .i64 (k : Int))) none none).run Tryd.prog W = .ok (.slice (some (if c = k then x else x.add k)) (n - k) (if c = k then 0 else c - k)) W := by
  by_cases h : c = k
  · subst h
    have : n - c = 0 := by omega
    simp [go_sem, this]
    omega
  · simp [go_sem, h]
    omega
theorem kBuildR {W : World} (A : Option Addr) (n c : Nat) : (Instr.build RRT #[(0, .slice A n c)]).run Tryd.prog W = .ok (.agg #[.slice A n c, .bool false]) W := by kernel_rfl
theorem kBoxR (W : World) (A : Option Addr) (n c : Nat) : (Instr.box RRT (.agg #[.slice A n c, .bool false])).run Tryd.prog W = .ok (.pointer (some ⟨W.heap.size, 0, none⟩)) (W.alloc (.cells #[.slice A n c, .bool false] RRT)) := by kernel_rfl
theorem rBox {P : Program} {ev : Operand → Value} {o : Oper} {W W' : World} {v : Value} {t : TypeId} {x : Operand} (ho : o.op = .box t x) (hk : (Instr.box t (ev x)).run P W = .ok v W') : (execOp ev o).run P W = .ok (.value v) W' := by
  unfold execOp
  rw [ho]
  show ((Instr.box t (ev x)) >>= fun v => pure (Next.value v)).run P W = _
  rw [Sem.run_bind, hk]; rfl
theorem rSlice {P : Program} {ev : Operand → Value} {o : Oper} {W : World} {v : Value} {t : TypeId} {x y : Operand} (ho : o.op = .slice t x (some y) none none) (hk : (Instr.sliceAt t (ev x) (some (ev y)) none none).run P W = .ok v W) : (execOp ev o).run P W = .ok (.value v) W := by
  unfold execOp
  rw [ho]
  show ((Instr.sliceAt t (ev x) (some (ev y)) none none) >>= fun v => pure (Next.value v)).run P W = _
  rw [Sem.run_bind, hk]; rfl
/-- Where the reading stands: the answer in block v, the packet in g, the reader in r. -/
structure RP (w W : World) (v g r B : Nat) (p : Pkt) (s : RSt) : Prop where
  below : Below w.heap.size w W
  rd : RrAt W r B s.1 s.2
  pk : PkAt W g p
  res : PkAt W v zeroP
  vw : v = w.heap.size
  gw : g = w.heap.size + 1
  rw_ : w.heap.size + 2 ≤ r
  bw : B = w.heap.size
theorem RP.big {w W : World} {v g r B : Nat} {p : Pkt} {s : RSt} (h : RP w W v g r B p s) : r + 1 ≤ W.heap.size := h.rd.lt
theorem RP.read {w W W' : World} {v g r B : Nat} {p : Pkt} {s s' : RSt} (h : RP w W v g r B p s) (t : Turn (fun k => k = r) W W') (hR : RrAt W' r B s'.1 s'.2) : RP w W' v g r B p s' := by
  have h1 := h.vw
  have h2 := h.gw
  have h3 := h.rw_
  exact ⟨h.below.trans (t.toBelow h.below.size (fun k hk e => by omega)), hR, h.pk.keep t (by omega), h.res.keep t (by omega), h1, h2, h3, h.bw⟩
theorem RP.set {w W : World} {v g r B : Nat} {p : Pkt} {s : RSt} (h : RP w W v g r B p s) (i : Nat) (x : Value) (q : Pkt) (hq : p.cells.setIfInBounds i x = q.cells) : RP w (W.setCell ⟨g, i, none⟩ x) v g r B q s := by
  have t : Turn (fun k => k = g) W (W.setCell ⟨g, i, none⟩ x) := Turn.setCell W x rfl
  have h1 := h.vw
  have h2 := h.gw
  have h3 := h.rw_
  have h4 := h.bw
  exact ⟨h.below.trans (t.toBelow h.below.size (fun k hk e => by omega)), h.rd.other t (fun k e => by omega), h.pk.set i x q hq, h.res.keep t (by omega), h1, h2, h3, h4⟩
/-- New blocks, and writes into blocks from the fourth on. -/
theorem RP.grow {w W W' : World} {v g r B : Nat} {p : Pkt} {s : RSt} {S : Nat → Prop} (h : RP w W v g r B p s) (t : Turn S W W') (hS : ∀ k, S k → r + 1 ≤ k) : RP w W' v g r B p s := by
  have h1 := h.vw
  have h2 := h.gw
  have h3 := h.rw_
  have h4 := h.bw
  exact ⟨h.below.trans (t.toBelow h.below.size (fun k hk e => by have := hS k e; omega)), h.rd.other t (fun k e => by have := hS k e; omega), h.pk.keep t (fun e => by have := hS g e; omega), h.res.keep t (fun e => by have := hS v e; omega), h1, h2, h3, h4⟩
theorem RP.old {w W W' : World} {v g r B : Nat} {p : Pkt} {s : RSt} (h : RP w W v g r B p s) (b : Below W.heap.size W W') : RP w W' v g r B p s := h.grow (Turn.of_below (S := fun _ => False) b) (fun k e => e.elim)
theorem RP.drew {w W : World} {v g r B : Nat} {p : Pkt} {s : RSt} (h : RP w W v g r B p s) : RP w W.drew v g r B p s := h.old ⟨rfl, rfl, rfl, Nat.le_refl _, fun _ _ => rfl⟩
theorem RP.store {w W W' : World} {v g r B : Nat} {p q : Pkt} {s : RSt} (h : RP w W v g r B p s) (t : Turn (fun k => k = g) W W') (hq : PkAt W' g q) : RP w W' v g r B q s := by
  have h1 := h.vw
  have h2 := h.gw
  have h3 := h.rw_
  have h4 := h.bw
  exact ⟨h.below.trans (t.toBelow h.below.size (fun k hk e => by omega)), h.rd.other t (fun k e => by omega), hq, h.res.keep t (by omega), h1, h2, h3, h4⟩
theorem OwnInts.after {w W W' : World} {v g r B : Nat} {p : Pkt} {s : RSt} {x : Value} {C : List Int} (h : RP w W v g r B p s) (hO : OwnInts W (r + 1) 3 .i64 x C) {S : Nat → Prop} (t : Turn S W W') (hS : ∀ k, S k → k < r + 1) : OwnInts W' (r + 1) 3 .i64 x C :=
  hO.turn t (fun j hj e => by have := (own_block_ge hO j hj).1; have := hS j e; omega)
theorem own_subs_after {r : Nat} {W W' : World} {x : Value} {D : List (ByteArray × Int)} (hO : W.ownsRow (r + 1) 76 2 x D.length (subCells D)) {S : Nat → Prop} (t : Turn S W W') (hS : ∀ k, S k → k < r + 1) : W'.ownsRow (r + 1) 76 2 x D.length (subCells D) :=
  own_turn hO t (fun j hj e => by have := (own_block_ge hO j hj).1; have := hS j e; omega)
/-- What stands behind the switch. -/
structure RE (w W : World) (v g r B : Nat) (q : Pkt) (C : List Int) (D : List (ByteArray × Int)) (s : RSt) (vc vs : Value) : Prop where
  rp : RP w W v g r B (q.rows vc vs) s
  oc : OwnInts W (r + 1) 3 .i64 vc C
  os : W.ownsRow (r + 1) 76 2 vs D.length (subCells D)
theorem RE.old {w W W' : World} {v g r B : Nat} {q : Pkt} {C : List Int} {D : List (ByteArray × Int)} {s : RSt} {vc vs : Value} (h : RE w W v g r B q C D s vc vs) (b : Below W.heap.size W W') : RE w W' v g r B q C D s vc vs :=
  ⟨h.rp.old b, h.oc.turn (Turn.of_below (S := fun _ => False) b) (fun _ _ e => e), own_turn h.os (Turn.of_below (S := fun _ => False) b) (fun _ _ e => e)⟩
theorem rows_len {W : World} {base : Nat} {vc : Value} {C : List Int} (h : OwnInts W base 3 .i64 vc C) : Pk.rowLen vc = C.length := by
  obtain ⟨A, c, hv, _⟩ := h.form
  rw [hv]; rfl
theorem subs_len {W : World} {base : Nat} {vs : Value} {D : List (ByteArray × Int)} (h : W.ownsRow base 76 2 vs D.length (subCells D)) : Pk.rowLen vs = D.length := by
  obtain ⟨A, c, hv, _⟩ := own_form h
  rw [hv]; rfl
theorem RE.lies {w W : World} {v g r B : Nat} {q : Pkt} {C : List Int} {D : List (ByteArray × Int)} {s : RSt} {vc vs : Value} (h : RE w W v g r B q C D s vc vs) {K : Nat} (hK : K ≤ 900000) (hq : Sk K q) (hC : C.length ≤ K + 1) (hD : D.length ≤ K) : Lies W (q.rows vc vs) C D := by
  have h1 := hq.client
  have h2 := hq.user
  have h3 := hq.pass
  refine ⟨?_, ?_, by show q.client.size + q.user.size + q.pass.size ≤ _; omega, by omega, by omega⟩
  · have hoc := h.oc
    obtain ⟨A, c, hv, _⟩ := hoc.form
    rw [hv] at hoc
    exact ⟨A, c, hv, (own_reads hoc).2.2.1⟩
  · have hos := h.os
    obtain ⟨A, c, hv, _⟩ := own_form hos
    rw [hv] at hos
    exact ⟨A, c, hv, subs_reads hos⟩
theorem RE.mayIn {w W : World} {v g r B : Nat} {q : Pkt} {C : List Int} {D : List (ByteArray × Int)} {s : RSt} {vc vs : Value} (h : RE w W v g r B q C D s vc vs) {K : Nat} (hK : K ≤ 60000) (hq : Sk K q) (hC : C.length ≤ K + 1) (hD : D.length ≤ K) : MayIn W (q.rows vc vs) C D := by
  have hl := h.lies (by omega) hq hC hD
  have h3 := hq.pass
  have h4 := hq.payload
  exact ⟨hl, by omega, by omega, by show (q.pass.size : Int) ≤ _; omega, by show (q.payload.size : Int) ≤ _; omega, fun hG => good_len hl hG (by omega) (by omega) (fun _ => by show q.payload.size ≤ _; omega)⟩
theorem own_nilC (W : World) (base : Nat) : OwnInts W base 3 .i64 nilV [] := OwnInts.nil _ _ _ _
theorem MayIn.keep {w W : World} {p : Pkt} {C : List Int} {D : List (ByteArray × Int)} (h : MayIn w p C D) (b : Below w.heap.size w W) : MayIn W p C D := ⟨h.lies.keep b, h.c, h.d, h.pass, h.payload, h.len⟩
end Ref
end Go.Proofs.YteigakkghkjakaaDoor

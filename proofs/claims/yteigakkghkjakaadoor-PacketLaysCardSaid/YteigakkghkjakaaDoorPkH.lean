/- check's last region, over any frame: its operations one by one. check's last region, over any frame: its conditions one by one. check's last region: the other conditions; all of it. packet.check: its end. -/
import Derived.Test.YteigakkghkjakaaDoorPkD
import Derived.Shelf.Abstract
namespace Go.Proofs.YteigakkghkjakaaDoor
open Go.RowKit
set_option linter.unusedVariables false
set_option linter.unusedSimpArgs false
namespace Pk

def findRegion (n : Nat) : Code → Option (Array Oper)
  | .region id ops _ => if id = n then some ops else none
  | .seq a b => match findRegion n a with
    | some c => some c
    | none => findRegion n b
  | .cond _ a b => match findRegion n a with
    | some c => some c
    | none => findRegion n b
  | .block _ c => findRegion n c
  | .loop c => findRegion n c
  | .scope c => findRegion n c
  | _ => none
noncomputable def zops : Array Oper := ((Tryd.f45.body).bind (findRegion 50)).getD #[]
theorem zsize : zops.size = 68 := by kernel_rfl
noncomputable def zop (k : Nat) : Oper := zops.getD k ⟨none, .move (.const .nilIface), 0, "", #[], none⟩
theorem zdrop (k : Nat) (h : k < 68) : zops.toList.drop k = zop k :: zops.toList.drop (k + 1) := by
  have hz : k < zops.toList.length := by rw [Array.length_toList, zsize]; exact h
  rw [List.drop_eq_getElem_cons hz]
  congr 1
  rw [zop, Array.getD_eq_getD_getElem?, Array.getElem?_eq_getElem (by rw [zsize]; exact h)]
  simp

/-- The operation number k. -/
def Zis (k : Nat) (op : Op) (g : Option (Nat × Bool)) : Prop := (zop k).op = op ∧ (zop k).dst = some (186 + k) ∧ (zop k).guard = g
theorem wanted_free {o : Oper} {f : Nat → Option Bool} (hg : o.guard = none) : Region.wanted o f = true := by simp [Region.wanted, hg]
theorem wanted_guard {k : Nat} {op : Op} {a : Act} {i : Nat} {b c : Bool} (hk : Zis k op (some (i, b))) {op' : Op} {g' : Option (Nat × Bool)} (hi : Zis i op' g') (hs : i < 68) (ha : a.tmps.size = 254) (hv : a.eval (.tmp (186 + i)) = .bool c) : Region.wanted (zop k) (yielded zops a.tmps) = (c == b) := by
  have h1 : (zops[i]?).bind (·.dst) = some (186 + i) := by
    rw [Array.getElem?_eq_getElem (by rw [zsize]; exact hs)]
    have : zop i = zops[i]'(by rw [zsize]; exact hs) := by
      rw [zop, Array.getD_eq_getD_getElem?, Array.getElem?_eq_getElem (by rw [zsize]; exact hs)]; rfl
    rw [Option.bind_some, ← this]; exact hi.2.1
  have hd : 186 + i < a.tmps.size := by rw [ha]; omega
  have h2 : a.tmps[186 + i]? = some (.bool c) := by
    have : a.tmps.getD (186 + i) undef = .bool c := hv
    rw [Array.getD_eq_getD_getElem?, Array.getElem?_eq_getElem hd] at this
    rw [Array.getElem?_eq_getElem hd]
    simpa using this
  simp [Region.wanted, hk.2.2, yielded, h1, h2]

section
variable {P : Program} {ev : Operand → Value} {o : Oper} {W : World} {v : Value}
theorem rFieldAddr {t : TypeId} {x : Operand} {f : Nat} (ho : o.op = .fieldAddr t x f) (hk : (Instr.fieldAt t (ev x) f).run P W = .ok v W) : (execOp ev o).run P W = .ok (.value v) W := by
  unfold execOp
  rw [ho]
  show ((Instr.fieldAt t (ev x) f) >>= fun v => pure (Next.value v)).run P W = _
  rw [Sem.run_bind, hk]; rfl
theorem rLoad {t : TypeId} {x : Operand} (ho : o.op = .load t x) (hk : (Instr.loadAt t (ev x)).run P W = .ok v W) : (execOp ev o).run P W = .ok (.value v) W := by
  unfold execOp
  rw [ho]
  show ((Instr.loadAt t (ev x)) >>= fun v => pure (Next.value v)).run P W = _
  rw [Sem.run_bind, hk]; rfl
theorem rBuild {t : TypeId} {xs : Array (Nat × Operand)} (ho : o.op = .build t xs) (hk : (Instr.build t (xs.map fun (i, x) => (i, ev x))).run P W = .ok v W) : (execOp ev o).run P W = .ok (.value v) W := by
  unfold execOp
  rw [ho]
  show ((Instr.build t (xs.map fun (i, x) => (i, ev x))) >>= fun v => pure (Next.value v)).run P W = _
  rw [Sem.run_bind, hk]; rfl
theorem rUn {op : UnOp} {t : TypeId} {x : Operand} (ho : o.op = .unOp op t x) (hk : (Op.unary op (ev x)).run P W = .ok v W) : (execOp ev o).run P W = .ok (.value v) W := by
  unfold execOp
  rw [ho]
  show ((Op.unary op (ev x)) >>= fun v => pure (Next.value v)).run P W = _
  rw [Sem.run_bind, hk]; rfl
theorem rBin {op : BinOp} {t t' : TypeId} {x y : Operand} (ho : o.op = .binOp op t x y t') (hk : (do eqGuard op t x y (ev x) (ev y); binOp op t (ev x) (ev y) : Sem Value).run P W = .ok v W) : (execOp ev o).run P W = .ok (.value v) W := by
  unfold execOp
  rw [ho]
  show ((do eqGuard op t x y (ev x) (ev y); binOp op t (ev x) (ev y) : Sem Value) >>= fun v => pure (Next.value v)).run P W = _
  rw [Sem.run_bind, hk]; rfl
theorem rMove {x : Operand} (ho : o.op = .move x) : (execOp ev o).run P W = .ok (.value (ev x)) W := by
  unfold execOp
  rw [ho]
  rfl
theorem rPick {c x y : Operand} {b : Bool} (ho : o.op = .pick c x y) (hc : ev c = .bool b) : (execOp ev o).run P W = .ok (.value (if b then ev x else ev y)) W := by
  unfold execOp
  rw [ho]
  show ((asBool (ev c)) >>= fun b => pure (Next.value (if b then ev x else ev y))).run P W = _
  rw [hc]
  cases b <;> rfl
theorem rLen {x : Operand} {t : TypeId} (ho : o.op = .call { callee := .builtin .len, args := #[x], argTypes := #[t] }) (hk : ∀ ty, (Builtin.len_ #[t] ty #[ev x]).run P W = .ok v W) : (execOp ev o).run P W = .ok (.value v) W := by
  obtain ⟨d, op, ty, pos, af, gu⟩ := o
  cases ho
  rw [BigFrame.execOp_builtin, BigFrame.builtin_len, Sem.run_bind]
  rw [show Array.map ev #[x] = #[ev x] by simp, hk]; rfl
end

section
variable {W : World} {g : Nat}
theorem kField (f k : Nat) (h : ∀ g W, (Instr.fieldAt PT (.pointer (some ⟨g, 0, none⟩)) f).run Tryd.prog W = .ok (.pointer (some ⟨g, k, none⟩)) W) : True := trivial
theorem kId : (Instr.fieldAt PT (.pointer (some ⟨g, 0, none⟩)) 2).run Tryd.prog W = .ok (.pointer (some ⟨g, 2, none⟩)) W := by kernel_rfl
theorem kEq0 (x y : Operand) (n : Int) : (do eqGuard .eql 3 x y (.int .i64 n) (.int .i64 0); binOp .eql 3 (.int .i64 n) (.int .i64 0) : Sem Value).run Tryd.prog W = .ok (.bool (n == 0)) W := by
  simp [go_sem, eqGuard]
theorem kNot (b : Bool) : (Op.unary .not (.bool b)).run Tryd.prog W = .ok (.bool !b) W := by cases b <;> rfl
theorem kLoadB (k : Nat) (b : Bool) (h : W.cell? ⟨g, k, none⟩ = some (.bool b)) : (Instr.loadAt 4 (.pointer (some ⟨g, k, none⟩))).run Tryd.prog W = .ok (.bool b) W := by
  simp [h, go_sem]
theorem kLoadI (k : Nat) (n : Int) (h : W.cell? ⟨g, k, none⟩ = some (.int .i64 n)) : (Instr.loadAt 3 (.pointer (some ⟨g, k, none⟩))).run Tryd.prog W = .ok (.int .i64 n) W := by
  simp [h, go_sem]
theorem kLoadS (k : Nat) (n : ByteArray) (h : W.cell? ⟨g, k, none⟩ = some (.string n)) : (Instr.loadAt 9 (.pointer (some ⟨g, k, none⟩))).run Tryd.prog W = .ok (.string n) W := by
  simp [h, go_sem]
theorem kLoadC (k : Nat) (A : Option Addr) (l c : Nat) (h : W.cell? ⟨g, k, none⟩ = some (.slice A l c)) : (Instr.loadAt 25 (.pointer (some ⟨g, k, none⟩))).run Tryd.prog W = .ok (.slice A l c) W := by
  simp [h, go_sem]
theorem kLoadU (k : Nat) (A : Option Addr) (l c : Nat) (h : W.cell? ⟨g, k, none⟩ = some (.slice A l c)) : (Instr.loadAt 26 (.pointer (some ⟨g, k, none⟩))).run Tryd.prog W = .ok (.slice A l c) W := by
  simp [h, go_sem]
theorem kLenC (ty : TypeId) (A : Option Addr) (l c : Nat) : (Builtin.len_ #[25] ty #[.slice A l c]).run Tryd.prog W = .ok (.int .i64 l) W := by
  simp [go_sem, Builtin.len_]
theorem kLenU (ty : TypeId) (A : Option Addr) (l c : Nat) : (Builtin.len_ #[26] ty #[.slice A l c]).run Tryd.prog W = .ok (.int .i64 l) W := by
  simp [go_sem, Builtin.len_]
theorem kAdd (x y : Operand) (a b : ByteArray) (h : a.size + b.size ≤ 9223372036854775807) : (do eqGuard .add 9 x y (.string a) (.string b); binOp .add 9 (.string a) (.string b) : Sem Value).run Tryd.prog W = .ok (.string (a ++ b)) W := by
  simp [go_sem, eqGuard, h]
theorem kEqS (x y : Operand) (a : ByteArray) : (do eqGuard .eql 9 x y (.string a) (.string ⟨#[]⟩); binOp .eql 9 (.string a) (.string ⟨#[]⟩) : Sem Value).run Tryd.prog W = .ok (.bool (a.toList == [])) W := by
  simp [go_sem, eqGuard]
end
end Pk
end Go.Proofs.YteigakkghkjakaaDoor

namespace Go.Proofs.YteigakkghkjakaaDoor
open Go.RowKit
set_option linter.unusedVariables false
set_option linter.unusedSimpArgs false
namespace Pk
section
variable {Q : Exit → Act → World → Prop} {W : World} {g : Nat} {a : Act}
abbrev ZW (Q : Exit → Act → World → Prop) (k : Nat) (a : Act) (W : World) : Prop := wpList Tryd.prog zops Q (zops.toList.drop k) a W
theorem zstep {k : Nat} {op : Op} {gd : Option (Nat × Bool)} {v : Value} (hk : k < 68) (hz : Zis k op gd) (hw : Region.wanted (zop k) (yielded zops a.tmps) = true) (hr : (execOp a.eval (zop k)).run Tryd.prog W = .ok (.value v) W) (h : ZW Q (k + 1) (a.put (some (186 + k)) v) W) : ZW Q k a W := by
  unfold ZW
  rw [zdrop k hk]
  refine st_val v hw hr ?_
  rw [hz.2.1]; exact h
theorem zskip {k : Nat} {op : Op} {gd : Option (Nat × Bool)} (hk : k < 68) (hz : Zis k op gd) (hw : Region.wanted (zop k) (yielded zops a.tmps) = false) (h : ZW Q (k + 1) (a.put (some (186 + k)) undef) W) : ZW Q k a W := by
  unfold ZW
  rw [zdrop k hk]
  refine st_skip hw ?_
  rw [hz.2.1]; exact h

/-- The frame at a condition's end: slot 1 holds the packet's place, the m-th operation's what holds so far. -/
structure Zi (g m : Nat) (c : Bool) (a : Act) : Prop where
  size : a.tmps.size = 254
  one : a.eval (.tmp 1) = .pointer (some ⟨g, 0, none⟩)
  it : a.eval (.tmp (186 + m)) = .bool c
  defs : a.defers = []

theorem Zi.put {m : Nat} {c : Bool} (h : Zi g m c a) {k : Nat} (v : Value) (hk : k ≠ m) : Zi g m c (a.put (some (186 + k)) v) :=
  ⟨by rw [put_size]; exact h.size, by rw [put_other _ _ _ _ (by omega)]; exact h.one, by rw [put_other _ _ _ _ (by omega)]; exact h.it, h.defs⟩
theorem Zi.new {m : Nat} {c : Bool} (h : Zi g m c a) {k : Nat} (d : Bool) (hk : k < 68) : Zi g k d (a.put (some (186 + k)) (.bool d)) :=
  ⟨by rw [put_size]; exact h.size, by rw [put_other _ _ _ _ (by omega)]; exact h.one, put_same _ _ _ (by rw [h.size]; omega), h.defs⟩
theorem Zi.want {m k : Nat} {c b : Bool} {op op' : Op} {g' : Option (Nat × Bool)} (h : Zi g m c a) (h0 : Zis m op' g') (hm : m < 68) (hz : Zis k op (some (m, b))) : Region.wanted (zop k) (yielded zops a.tmps) = (c == b) :=
  wanted_guard hz h0 hm h.size h.it

theorem zmove {m : Nat} {c : Bool} (h : Zi g m c a) (hm : m + 1 < 68) (hz : Zis (m + 1) (.move (.tmp (186 + m))) none) (hn : ∀ a, Zi g (m + 1) c a → ZW Q (m + 2) a W) : ZW Q (m + 1) a W := by
  refine zstep (v := .bool c) hm hz (wanted_free hz.2.2) ?_ (hn _ (h.new c hm))
  rw [rMove hz.1, h.it]
theorem zpick {m k : Nat} {c b : Bool} (h : Zi g m c a) (hk : k + 1 < 68) (hz : Zis (k + 1) (.pick (.tmp (186 + m)) (.tmp (186 + k)) (.const (.bool false))) none) (hv : c = true → a.eval (.tmp (186 + k)) = .bool b) (hn : ∀ a, Zi g (k + 1) (c && b) a → ZW Q (k + 2) a W) : ZW Q (k + 1) a W := by
  refine zstep (v := .bool (c && b)) hk hz (wanted_free hz.2.2) ?_ (hn _ (h.new _ hk))
  rw [rPick hz.1 h.it]
  cases c
  · rfl
  · rw [if_pos rfl, hv rfl]; rfl
theorem zskips {m n : Nat} (h : Zi g m false a) (k : Nat) (hk : k + n < 68) (hm : m < k) {op' : Op} {g' : Option (Nat × Bool)} (h0 : Zis m op' g') (hz : ∀ i, i < n → ∃ op, Zis (k + i) op (some (m, true))) (hn : ∀ a, Zi g m false a → ZW Q (k + n) a W) : ZW Q k a W := by
  induction n generalizing k a with
  | zero => exact hn a h
  | succ n ih =>
    obtain ⟨op, ho⟩ := hz 0 (by omega)
    refine zskip (by omega) ho (h.want h0 (by omega) ho) ?_
    refine ih (h.put _ (by omega)) (k + 1) (by omega) (by omega) (fun i hi => ?_) (fun a ha => ?_)
    · have := hz (i + 1) (by omega)
      rwa [show k + (i + 1) = k + 1 + i by omega] at this
    · have := hn a ha
      rwa [show k + (n + 1) = k + 1 + n by omega] at this

/-- A condition: a field that must be false. -/
theorem zflag {m : Nat} {c b : Bool} (h : Zi g m c a) (f k : Nat) (hf : ∀ W, (Instr.fieldAt PT (.pointer (some ⟨g, 0, none⟩)) f).run Tryd.prog W = .ok (.pointer (some ⟨g, k, none⟩)) W) (hm : m + 5 < 68) (hc : W.cell? ⟨g, k, none⟩ = some (.bool b)) {op' : Op} {g' : Option (Nat × Bool)} (h0 : Zis m op' g')
    (h1 : Zis (m + 1) (.fieldAddr PT (.tmp 1) f) (some (m, true))) (h2 : Zis (m + 2) (.load 4 (.tmp (186 + (m + 1)))) (some (m, true)))
    (h3 : Zis (m + 3) (.unOp .not 4 (.tmp (186 + (m + 2)))) (some (m, true))) (h4 : Zis (m + 4) (.pick (.tmp (186 + m)) (.tmp (186 + (m + 3))) (.const (.bool false))) none)
    (h5 : Zis (m + 5) (.move (.tmp (186 + (m + 4)))) none) (hn : ∀ a, Zi g (m + 5) (c && !b) a → ZW Q (m + 6) a W) : ZW Q (m + 1) a W := by
  cases c with
  | false =>
    refine zskips (n := 3) h (m + 1) (by omega) (by omega) h0 (fun i hi => ?_) (fun a ha => ?_)
    · match i, hi with
      | 0, _ => exact ⟨_, h1⟩
      | 1, _ => exact ⟨_, h2⟩
      | 2, _ => exact ⟨_, h3⟩
    · refine zpick (k := m + 3) (b := !b) ha (by omega) h4 (fun h => absurd h (by decide)) (fun a ha => ?_)
      exact zmove (m := m + 4) ha (by omega) h5 hn
  | true =>
    have e1 := put_same a (186 + (m + 1)) (.pointer (some ⟨g, k, none⟩)) (by rw [h.size]; omega)
    refine zstep (by omega) h1 (h.want h0 (by omega) h1) (rFieldAddr h1.1 (by rw [h.one]; exact hf W)) ?_
    have H1 := h.put (k := m + 1) (.pointer (some ⟨g, k, none⟩)) (by omega)
    generalize a.put (some (186 + (m + 1))) (.pointer (some ⟨g, k, none⟩)) = a1 at e1 H1 ⊢
    have e2 := put_same a1 (186 + (m + 2)) (.bool b) (by rw [H1.size]; omega)
    refine zstep (by omega) h2 (H1.want h0 (by omega) h2) (rLoad h2.1 (by rw [e1]; exact kLoadB k b hc)) ?_
    have H2 := H1.put (k := m + 2) (.bool b) (by omega)
    generalize a1.put (some (186 + (m + 2))) (.bool b) = a2 at e2 H2 ⊢
    have e3 := put_same a2 (186 + (m + 3)) (.bool !b) (by rw [H2.size]; omega)
    refine zstep (by omega) h3 (H2.want h0 (by omega) h3) (rUn h3.1 (by rw [e2]; exact kNot b)) ?_
    have H3 := H2.put (k := m + 3) (.bool !b) (by omega)
    generalize a2.put (some (186 + (m + 3))) (.bool !b) = a3 at e3 H3 ⊢
    refine zpick (k := m + 3) (b := !b) H3 (by omega) h4 (fun _ => e3) (fun a ha => ?_)
    exact zmove (m := m + 4) ha (by omega) h5 hn
end
end Pk
end Go.Proofs.YteigakkghkjakaaDoor

namespace Go.Proofs.YteigakkghkjakaaDoor
open Go.RowKit
set_option linter.unusedVariables false
set_option linter.unusedSimpArgs false
namespace Pk
section
variable {Q : Exit → Act → World → Prop} {W : World} {g : Nat} {a : Act}

/-- A condition: a number that must be 0; up to its pick. -/
theorem zint {m : Nat} {c : Bool} {n : Int} (h : Zi g m c a) (f k : Nat) (hf : ∀ W, (Instr.fieldAt PT (.pointer (some ⟨g, 0, none⟩)) f).run Tryd.prog W = .ok (.pointer (some ⟨g, k, none⟩)) W) (hm : m + 4 < 68) (hc : W.cell? ⟨g, k, none⟩ = some (.int .i64 n)) {op' : Op} {g' : Option (Nat × Bool)} (h0 : Zis m op' g')
    (h1 : Zis (m + 1) (.fieldAddr PT (.tmp 1) f) (some (m, true))) (h2 : Zis (m + 2) (.load 3 (.tmp (186 + (m + 1)))) (some (m, true)))
    (h3 : Zis (m + 3) (.binOp .eql 3 (.tmp (186 + (m + 2))) (.const (.int .i64 0)) 3) (some (m, true))) (h4 : Zis (m + 4) (.pick (.tmp (186 + m)) (.tmp (186 + (m + 3))) (.const (.bool false))) none)
    (hn : ∀ a, Zi g (m + 4) (c && (n == 0)) a → ZW Q (m + 5) a W) : ZW Q (m + 1) a W := by
  cases c with
  | false =>
    refine zskips (n := 3) h (m + 1) (by omega) (by omega) h0 (fun i hi => ?_) (fun a ha => ?_)
    · match i, hi with
      | 0, _ => exact ⟨_, h1⟩
      | 1, _ => exact ⟨_, h2⟩
      | 2, _ => exact ⟨_, h3⟩
    · exact zpick (k := m + 3) (b := n == 0) ha (by omega) h4 (fun h => absurd h (by decide)) hn
  | true =>
    have e1 := put_same a (186 + (m + 1)) (.pointer (some ⟨g, k, none⟩)) (by rw [h.size]; omega)
    refine zstep (by omega) h1 (h.want h0 (by omega) h1) (rFieldAddr h1.1 (by rw [h.one]; exact hf W)) ?_
    have H1 := h.put (k := m + 1) (.pointer (some ⟨g, k, none⟩)) (by omega)
    generalize a.put (some (186 + (m + 1))) (.pointer (some ⟨g, k, none⟩)) = a1 at e1 H1 ⊢
    have e2 := put_same a1 (186 + (m + 2)) (.int .i64 n) (by rw [H1.size]; omega)
    refine zstep (by omega) h2 (H1.want h0 (by omega) h2) (rLoad h2.1 (by rw [e1]; exact kLoadI k n hc)) ?_
    have H2 := H1.put (k := m + 2) (.int .i64 n) (by omega)
    generalize a1.put (some (186 + (m + 2))) (.int .i64 n) = a2 at e2 H2 ⊢
    have e3 := put_same a2 (186 + (m + 3)) (.bool (n == 0)) (by rw [H2.size]; omega)
    refine zstep (by omega) h3 (H2.want h0 (by omega) h3) (rBin h3.1 (by rw [e2]; exact kEq0 _ _ n)) ?_
    have H3 := H2.put (k := m + 3) (.bool (n == 0)) (by omega)
    generalize a2.put (some (186 + (m + 3))) (.bool (n == 0)) = a3 at e3 H3 ⊢
    exact zpick (k := m + 3) (b := n == 0) H3 (by omega) h4 (fun _ => e3) hn

/-- A condition: a row that must be empty. -/
theorem zlen {m : Nat} {c : Bool} {A : Option Addr} {l cp : Nat} {t : TypeId} (h : Zi g m c a) (f k : Nat) (hf : ∀ W, (Instr.fieldAt PT (.pointer (some ⟨g, 0, none⟩)) f).run Tryd.prog W = .ok (.pointer (some ⟨g, k, none⟩)) W) (hm : m + 6 < 68)
    (hl : (Instr.loadAt t (.pointer (some ⟨g, k, none⟩))).run Tryd.prog W = .ok (.slice A l cp) W) (hL : ∀ ty, (Builtin.len_ #[t] ty #[.slice A l cp]).run Tryd.prog W = .ok (.int .i64 l) W) {op' : Op} {g' : Option (Nat × Bool)} (h0 : Zis m op' g')
    (h1 : Zis (m + 1) (.fieldAddr PT (.tmp 1) f) (some (m, true))) (h2 : Zis (m + 2) (.load t (.tmp (186 + (m + 1)))) (some (m, true)))
    (h3 : Zis (m + 3) (.call { callee := .builtin .len, args := #[.tmp (186 + (m + 2))], argTypes := #[t] }) (some (m, true)))
    (h4 : Zis (m + 4) (.binOp .eql 3 (.tmp (186 + (m + 3))) (.const (.int .i64 0)) 3) (some (m, true))) (h5 : Zis (m + 5) (.pick (.tmp (186 + m)) (.tmp (186 + (m + 4))) (.const (.bool false))) none)
    (h6 : Zis (m + 6) (.move (.tmp (186 + (m + 5)))) none) (hn : ∀ a, Zi g (m + 6) (c && ((l : Int) == 0)) a → ZW Q (m + 7) a W) : ZW Q (m + 1) a W := by
  cases c with
  | false =>
    refine zskips (n := 4) h (m + 1) (by omega) (by omega) h0 (fun i hi => ?_) (fun a ha => ?_)
    · match i, hi with
      | 0, _ => exact ⟨_, h1⟩
      | 1, _ => exact ⟨_, h2⟩
      | 2, _ => exact ⟨_, h3⟩
      | 3, _ => exact ⟨_, h4⟩
    · refine zpick (k := m + 4) (b := (l : Int) == 0) ha (by omega) h5 (fun h => absurd h (by decide)) (fun a ha => ?_)
      exact zmove (m := m + 5) ha (by omega) h6 hn
  | true =>
    have e1 := put_same a (186 + (m + 1)) (.pointer (some ⟨g, k, none⟩)) (by rw [h.size]; omega)
    refine zstep (by omega) h1 (h.want h0 (by omega) h1) (rFieldAddr h1.1 (by rw [h.one]; exact hf W)) ?_
    have H1 := h.put (k := m + 1) (.pointer (some ⟨g, k, none⟩)) (by omega)
    generalize a.put (some (186 + (m + 1))) (.pointer (some ⟨g, k, none⟩)) = a1 at e1 H1 ⊢
    have e2 := put_same a1 (186 + (m + 2)) (.slice A l cp) (by rw [H1.size]; omega)
    refine zstep (by omega) h2 (H1.want h0 (by omega) h2) (rLoad h2.1 (by rw [e1]; exact hl)) ?_
    have H2 := H1.put (k := m + 2) (.slice A l cp) (by omega)
    generalize a1.put (some (186 + (m + 2))) (.slice A l cp) = a2 at e2 H2 ⊢
    have e3 := put_same a2 (186 + (m + 3)) (.int .i64 l) (by rw [H2.size]; omega)
    refine zstep (by omega) h3 (H2.want h0 (by omega) h3) (rLen h3.1 (by intro ty; rw [e2]; exact hL ty)) ?_
    have H3 := H2.put (k := m + 3) (.int .i64 l) (by omega)
    generalize a2.put (some (186 + (m + 3))) (.int .i64 l) = a3 at e3 H3 ⊢
    have e4 := put_same a3 (186 + (m + 4)) (.bool ((l : Int) == 0)) (by rw [H3.size]; omega)
    refine zstep (by omega) h4 (H3.want h0 (by omega) h4) (rBin h4.1 (by rw [e3]; exact kEq0 _ _ _)) ?_
    have H4 := H3.put (k := m + 4) (.bool ((l : Int) == 0)) (by omega)
    generalize a3.put (some (186 + (m + 4))) (.bool ((l : Int) == 0)) = a4 at e4 H4 ⊢
    refine zpick (k := m + 4) (b := (l : Int) == 0) H4 (by omega) h5 (fun _ => e4) (fun a ha => ?_)
    exact zmove (m := m + 5) ha (by omega) h6 hn

/-- The three strings together must be empty. -/
theorem zstr {c : Bool} {s1 s2 s3 : ByteArray} (h : Zi g 26 c a) (hc1 : W.cell? ⟨g, 7, none⟩ = some (.string s1)) (hc2 : W.cell? ⟨g, 13, none⟩ = some (.string s2)) (hc3 : W.cell? ⟨g, 14, none⟩ = some (.string s3))
    (hb : s1.size + s2.size + s3.size ≤ 9223372036854775807) (hn : ∀ a, Zi g 37 (c && ((s1 ++ s2 ++ s3).toList == [])) a → ZW Q 38 a W) : ZW Q 27 a W := by
  have h0 : Zis 26 (.move (.tmp 211)) none := ⟨by kernel_rfl, by kernel_rfl, by kernel_rfl⟩
  have h1 : Zis 27 (.fieldAddr PT (.tmp 1) 4) (some (26, true)) := ⟨by kernel_rfl, by kernel_rfl, by kernel_rfl⟩
  have h2 : Zis 28 (.load 9 (.tmp 213)) (some (26, true)) := ⟨by kernel_rfl, by kernel_rfl, by kernel_rfl⟩
  have h3 : Zis 29 (.fieldAddr PT (.tmp 1) 10) (some (26, true)) := ⟨by kernel_rfl, by kernel_rfl, by kernel_rfl⟩
  have h4 : Zis 30 (.load 9 (.tmp 215)) (some (26, true)) := ⟨by kernel_rfl, by kernel_rfl, by kernel_rfl⟩
  have h5 : Zis 31 (.binOp .add 9 (.tmp 214) (.tmp 216) 9) (some (26, true)) := ⟨by kernel_rfl, by kernel_rfl, by kernel_rfl⟩
  have h6 : Zis 32 (.fieldAddr PT (.tmp 1) 11) (some (26, true)) := ⟨by kernel_rfl, by kernel_rfl, by kernel_rfl⟩
  have h7 : Zis 33 (.load 9 (.tmp 218)) (some (26, true)) := ⟨by kernel_rfl, by kernel_rfl, by kernel_rfl⟩
  have h8 : Zis 34 (.binOp .add 9 (.tmp 217) (.tmp 219) 9) (some (26, true)) := ⟨by kernel_rfl, by kernel_rfl, by kernel_rfl⟩
  have h9 : Zis 35 (.binOp .eql 9 (.tmp 220) (.const (.string ⟨#[]⟩)) 9) (some (26, true)) := ⟨by kernel_rfl, by kernel_rfl, by kernel_rfl⟩
  have h10 : Zis 36 (.pick (.tmp 212) (.tmp 221) (.const (.bool false))) none := ⟨by kernel_rfl, by kernel_rfl, by kernel_rfl⟩
  have h11 : Zis 37 (.move (.tmp 222)) none := ⟨by kernel_rfl, by kernel_rfl, by kernel_rfl⟩
  cases c with
  | false =>
    refine zskips (n := 9) h 27 (by omega) (by omega) h0 (fun i hi => ?_) (fun a ha => ?_)
    · match i, hi with
      | 0, _ => exact ⟨_, h1⟩
      | 1, _ => exact ⟨_, h2⟩
      | 2, _ => exact ⟨_, h3⟩
      | 3, _ => exact ⟨_, h4⟩
      | 4, _ => exact ⟨_, h5⟩
      | 5, _ => exact ⟨_, h6⟩
      | 6, _ => exact ⟨_, h7⟩
      | 7, _ => exact ⟨_, h8⟩
      | 8, _ => exact ⟨_, h9⟩
    · refine zpick (k := 35) (b := (s1 ++ s2 ++ s3).toList == []) ha (by omega) h10 (fun h => absurd h (by decide)) (fun a ha => ?_)
      exact zmove (m := 36) ha (by omega) h11 hn
  | true =>
    have e1 := put_same a 213 (.pointer (some ⟨g, 7, none⟩)) (by rw [h.size]; omega)
    refine zstep (k := 27) (v := .pointer (some ⟨g, 7, none⟩)) (by omega) h1 (h.want h0 (by omega) h1) (rFieldAddr h1.1 (by rw [h.one]; kernel_rfl)) ?_
    have H1 := h.put (k := 27) (.pointer (some ⟨g, 7, none⟩)) (by omega)
    generalize a.put (some 213) (.pointer (some ⟨g, 7, none⟩)) = a1 at e1 H1 ⊢
    have e2 := put_same a1 214 (.string s1) (by rw [H1.size]; omega)
    refine zstep (k := 28) (by omega) h2 (H1.want h0 (by omega) h2) (rLoad h2.1 (by rw [e1]; exact kLoadS 7 _ hc1)) ?_
    have H2 := H1.put (k := 28) (.string s1) (by omega)
    generalize a1.put (some 214) (.string s1) = a2 at e2 H2 ⊢
    have e3 := put_same a2 215 (.pointer (some ⟨g, 13, none⟩)) (by rw [H2.size]; omega)
    have e23 := put_other a2 215 214 (.pointer (some ⟨g, 13, none⟩)) (by decide)
    refine zstep (k := 29) (v := .pointer (some ⟨g, 13, none⟩)) (by omega) h3 (H2.want h0 (by omega) h3) (rFieldAddr h3.1 (by rw [H2.one]; kernel_rfl)) ?_
    have H3 := H2.put (k := 29) (.pointer (some ⟨g, 13, none⟩)) (by omega)
    rw [e2] at e23
    generalize a2.put (some 215) (.pointer (some ⟨g, 13, none⟩)) = a3 at e3 H3 e23 ⊢
    have e4 := put_same a3 216 (.string s2) (by rw [H3.size]; omega)
    have e24 := put_other a3 216 214 (.string s2) (by decide)
    refine zstep (k := 30) (by omega) h4 (H3.want h0 (by omega) h4) (rLoad h4.1 (by rw [e3]; exact kLoadS 13 _ hc2)) ?_
    have H4 := H3.put (k := 30) (.string s2) (by omega)
    rw [e23] at e24
    generalize a3.put (some 216) (.string s2) = a4 at e4 H4 e24 ⊢
    have e5 := put_same a4 217 (.string (s1 ++ s2)) (by rw [H4.size]; omega)
    refine zstep (k := 31) (by omega) h5 (H4.want h0 (by omega) h5) (rBin h5.1 (by rw [e4, e24]; exact kAdd _ _ _ _ (by omega))) ?_
    have H5 := H4.put (k := 31) (.string (s1 ++ s2)) (by omega)
    generalize a4.put (some 217) (.string (s1 ++ s2)) = a5 at e5 H5 ⊢
    have e6 := put_same a5 218 (.pointer (some ⟨g, 14, none⟩)) (by rw [H5.size]; omega)
    have e56 := put_other a5 218 217 (.pointer (some ⟨g, 14, none⟩)) (by decide)
    refine zstep (k := 32) (v := .pointer (some ⟨g, 14, none⟩)) (by omega) h6 (H5.want h0 (by omega) h6) (rFieldAddr h6.1 (by rw [H5.one]; kernel_rfl)) ?_
    have H6 := H5.put (k := 32) (.pointer (some ⟨g, 14, none⟩)) (by omega)
    rw [e5] at e56
    generalize a5.put (some 218) (.pointer (some ⟨g, 14, none⟩)) = a6 at e6 H6 e56 ⊢
    have e7 := put_same a6 219 (.string s3) (by rw [H6.size]; omega)
    have e57 := put_other a6 219 217 (.string s3) (by decide)
    refine zstep (k := 33) (by omega) h7 (H6.want h0 (by omega) h7) (rLoad h7.1 (by rw [e6]; exact kLoadS 14 _ hc3)) ?_
    have H7 := H6.put (k := 33) (.string s3) (by omega)
    rw [e56] at e57
    generalize a6.put (some 219) (.string s3) = a7 at e7 H7 e57 ⊢
    have e8 := put_same a7 220 (.string (s1 ++ s2 ++ s3)) (by rw [H7.size]; omega)
    refine zstep (k := 34) (by omega) h8 (H7.want h0 (by omega) h8) (rBin h8.1 (by rw [e7, e57]; exact kAdd _ _ _ _ (by rw [ByteArray.size_append]; omega))) ?_
    have H8 := H7.put (k := 34) (.string (s1 ++ s2 ++ s3)) (by omega)
    generalize a7.put (some 220) (.string (s1 ++ s2 ++ s3)) = a8 at e8 H8 ⊢
    have e9 := put_same a8 221 (.bool ((s1 ++ s2 ++ s3).toList == [])) (by rw [H8.size]; omega)
    refine zstep (k := 35) (by omega) h9 (H8.want h0 (by omega) h9) (rBin h9.1 (by rw [e8]; exact kEqS _ _ _)) ?_
    have H9 := H8.put (k := 35) (.bool ((s1 ++ s2 ++ s3).toList == [])) (by omega)
    generalize a8.put (some 221) (.bool ((s1 ++ s2 ++ s3).toList == [])) = a9 at e9 H9 ⊢
    refine zpick (k := 35) (b := (s1 ++ s2 ++ s3).toList == []) H9 (by omega) h10 (fun _ => e9) (fun a ha => ?_)
    exact zmove (m := 36) ha (by omega) h11 hn

theorem kLoadM (p : Pkt) (h : PkAt W g p) : (Instr.loadAt 24 (.pointer (some ⟨g, 3, none⟩))).run Tryd.prog W = .ok (.agg #[.string p.topic, .string p.payload, .int .i64 p.qos, .bool p.retain]) W := by
  have h3 : W.cell? ⟨g, 3, none⟩ = some (.string p.topic) := h.cell 3
  have h4 : W.cell? ⟨g, 4, none⟩ = some (.string p.payload) := h.cell 4
  have h5 : W.cell? ⟨g, 5, none⟩ = some (.int .i64 p.qos) := h.cell 5
  have h6 : W.cell? ⟨g, 6, none⟩ = some (.bool p.retain) := h.cell 6
  simp [h3, h4, h5, h6, go_sem]
theorem kEqM (x y : Operand) (s t : ByteArray) (q : Int) (r : Bool) : (do eqGuard .eql 24 x y (.agg #[.string s, .string t, .int .i64 q, .bool r]) (.agg #[.string ⟨#[]⟩, .string ⟨#[]⟩, .int .i64 0, .bool false]); binOp .eql 24 (.agg #[.string s, .string t, .int .i64 q, .bool r]) (.agg #[.string ⟨#[]⟩, .string ⟨#[]⟩, .int .i64 0, .bool false]) : Sem Value).run Tryd.prog W = .ok (.bool ((s.toList == []) && (t.toList == []) && (q == 0) && (r == false))) W := by
  rw [Sem.run_bind, show (eqGuard .eql 24 x y (.agg #[.string s, .string t, .int .i64 q, .bool r]) (.agg #[.string ⟨#[]⟩, .string ⟨#[]⟩, .int .i64 0, .bool false])).run Tryd.prog W = .ok () W from run_eqGuard_agg (P := Tryd.prog) _ _ _ _ _ _ _ (by kernel_rfl), Result.andThen_ok, msg_eq]
theorem kBuildM : (Instr.build 24 #[]).run Tryd.prog W = .ok (.agg #[.string ⟨#[]⟩, .string ⟨#[]⟩, .int .i64 0, .bool false]) W := by kernel_rfl

/-- What must be so at check's end. -/
def Pkt.zero (p : Pkt) (lc ls : Nat) : Bool :=
  (p.topic.toList == []) && (p.payload.toList == []) && (p.qos == 0) && (p.retain == false) && (p.id == 0) && !p.dup && ((lc : Int) == 0) && ((ls : Int) == 0) && ((p.client ++ p.user ++ p.pass).toList == []) && !p.clean && !p.present && !p.will && !p.huser && !p.hpass && (p.alive == 0)

theorem zall (p : Pkt) (lc cc ls cs : Nat) (Ac As : Option Addr) (hc : p.codes = .slice Ac lc cc) (hs : p.subs = .slice As ls cs) (h : PkAt W g p) (hb : p.client.size + p.user.size + p.pass.size ≤ 9223372036854775807)
    (hsz : a.tmps.size = 254) (hdf : a.defers = []) (h1 : a.eval (.tmp 1) = .pointer (some ⟨g, 0, none⟩)) (hn : ∀ a, Zi g 66 (p.zero lc ls) a → ZW Q 67 a W) : ZW Q 0 a W := by
  have o0 : Zis 0 (.fieldAddr PT (.tmp 1) 3) none := ⟨by kernel_rfl, by kernel_rfl, by kernel_rfl⟩
  have o1 : Zis 1 (.load 24 (.tmp 186)) none := ⟨by kernel_rfl, by kernel_rfl, by kernel_rfl⟩
  have o2 : Zis 2 (.build 24 #[]) none := ⟨by kernel_rfl, by kernel_rfl, by kernel_rfl⟩
  have o3 : Zis 3 (.binOp .eql 24 (.tmp 187) (.tmp 188) 24) none := ⟨by kernel_rfl, by kernel_rfl, by kernel_rfl⟩
  have o4 : Zis 4 (.move (.tmp 189)) none := ⟨by kernel_rfl, by kernel_rfl, by kernel_rfl⟩
  have e0 := put_same a 186 (.pointer (some ⟨g, 3, none⟩)) (by omega)
  have s0 := put_size a 186 (.pointer (some ⟨g, 3, none⟩))
  have t0 := put_other a 186 1 (.pointer (some ⟨g, 3, none⟩)) (by decide)
  refine zstep (k := 0) (v := .pointer (some ⟨g, 3, none⟩)) (by omega) o0 (wanted_free o0.2.2) (rFieldAddr o0.1 (by rw [h1]; kernel_rfl)) ?_
  rw [h1] at t0
  rw [hsz] at s0
  have d0 : (a.put (some 186) (.pointer (some ⟨g, 3, none⟩))).defers = [] := hdf
  generalize a.put (some 186) (.pointer (some ⟨g, 3, none⟩)) = a1 at d0 e0 s0 t0 ⊢
  have e1 := put_same a1 187 (.agg #[.string p.topic, .string p.payload, .int .i64 p.qos, .bool p.retain]) (by omega)
  have s1 := put_size a1 187 (.agg #[.string p.topic, .string p.payload, .int .i64 p.qos, .bool p.retain])
  have t1 := put_other a1 187 1 (.agg #[.string p.topic, .string p.payload, .int .i64 p.qos, .bool p.retain]) (by decide)
  refine zstep (k := 1) (by omega) o1 (wanted_free o1.2.2) (rLoad o1.1 (by rw [e0]; exact kLoadM p h)) ?_
  rw [t0] at t1
  rw [s0] at s1
  have d1 : (a1.put (some 187) (.agg #[.string p.topic, .string p.payload, .int .i64 p.qos, .bool p.retain])).defers = [] := d0
  generalize a1.put (some 187) (.agg #[.string p.topic, .string p.payload, .int .i64 p.qos, .bool p.retain]) = a2 at d1 e1 s1 t1 ⊢
  have e2 := put_same a2 188 (.agg #[.string ⟨#[]⟩, .string ⟨#[]⟩, .int .i64 0, .bool false]) (by omega)
  have s2 := put_size a2 188 (.agg #[.string ⟨#[]⟩, .string ⟨#[]⟩, .int .i64 0, .bool false])
  have t2 := put_other a2 188 1 (.agg #[.string ⟨#[]⟩, .string ⟨#[]⟩, .int .i64 0, .bool false]) (by decide)
  have e12 := put_other a2 188 187 (.agg #[.string ⟨#[]⟩, .string ⟨#[]⟩, .int .i64 0, .bool false]) (by decide)
  refine zstep (k := 2) (v := .agg #[.string ⟨#[]⟩, .string ⟨#[]⟩, .int .i64 0, .bool false]) (by omega) o2 (wanted_free o2.2.2) (rBuild (v := .agg #[.string ⟨#[]⟩, .string ⟨#[]⟩, .int .i64 0, .bool false]) o2.1 (by simp only [Array.map_empty]; exact kBuildM)) ?_
  rw [t1] at t2
  rw [s1] at s2
  rw [e1] at e12
  have d2 : (a2.put (some 188) (.agg #[.string ⟨#[]⟩, .string ⟨#[]⟩, .int .i64 0, .bool false])).defers = [] := d1
  generalize a2.put (some 188) (.agg #[.string ⟨#[]⟩, .string ⟨#[]⟩, .int .i64 0, .bool false]) = a3 at d2 e2 s2 t2 e12 ⊢
  have e3 := put_same a3 189 (.bool ((p.topic.toList == []) && (p.payload.toList == []) && (p.qos == 0) && (p.retain == false))) (by omega)
  have s3 := put_size a3 189 (.bool ((p.topic.toList == []) && (p.payload.toList == []) && (p.qos == 0) && (p.retain == false)))
  have t3 := put_other a3 189 1 (.bool ((p.topic.toList == []) && (p.payload.toList == []) && (p.qos == 0) && (p.retain == false))) (by decide)
  refine zstep (k := 3) (by omega) o3 (wanted_free o3.2.2) (rBin o3.1 (by rw [e2, e12]; exact kEqM _ _ _ _ _ _)) ?_
  rw [t2] at t3
  rw [s2] at s3
  have d3 : (a3.put (some 189) (.bool ((p.topic.toList == []) && (p.payload.toList == []) && (p.qos == 0) && (p.retain == false)))).defers = [] := d2
  generalize a3.put (some 189) (.bool ((p.topic.toList == []) && (p.payload.toList == []) && (p.qos == 0) && (p.retain == false))) = a4 at d3 e3 s3 t3 ⊢
  have H : Zi g 3 _ a4 := ⟨s3, t3, e3, d3⟩
  refine zmove (m := 3) H (by omega) o4 (fun a H => ?_)
  clear e0 s0 t0 e1 s1 t1 e2 s2 t2 e12 e3 s3 t3
  refine zint (m := 4) H 2 2 (fun W => by kernel_rfl) (by omega) (h.cell 2) (op' := (zop 4).op) (g' := (zop 4).guard) ⟨rfl, by kernel_rfl, rfl⟩ (by exact ⟨by kernel_rfl, by kernel_rfl, by kernel_rfl⟩) (by exact ⟨by kernel_rfl, by kernel_rfl, by kernel_rfl⟩) (by exact ⟨by kernel_rfl, by kernel_rfl, by kernel_rfl⟩) (by exact ⟨by kernel_rfl, by kernel_rfl, by kernel_rfl⟩) (fun a H => ?_)
  refine zmove (m := 8) H (by omega) ⟨by kernel_rfl, by kernel_rfl, by kernel_rfl⟩ (fun a H => ?_)
  refine zflag (m := 9) H 1 1 (fun W => by kernel_rfl) (by omega) (h.cell 1) (op' := (zop 9).op) (g' := (zop 9).guard) ⟨rfl, by kernel_rfl, rfl⟩ (by exact ⟨by kernel_rfl, by kernel_rfl, by kernel_rfl⟩) (by exact ⟨by kernel_rfl, by kernel_rfl, by kernel_rfl⟩) (by exact ⟨by kernel_rfl, by kernel_rfl, by kernel_rfl⟩) (by exact ⟨by kernel_rfl, by kernel_rfl, by kernel_rfl⟩) (by exact ⟨by kernel_rfl, by kernel_rfl, by kernel_rfl⟩) (fun a H => ?_)
  refine zlen (m := 14) H 13 16 (fun W => by kernel_rfl) (by omega) (kLoadC 16 _ _ _ (by rw [← hc]; exact h.cell 16)) (fun ty => kLenC ty _ _ _) (op' := (zop 14).op) (g' := (zop 14).guard) ⟨rfl, by kernel_rfl, rfl⟩ (by exact ⟨by kernel_rfl, by kernel_rfl, by kernel_rfl⟩) (by exact ⟨by kernel_rfl, by kernel_rfl, by kernel_rfl⟩) (by exact ⟨by kernel_rfl, by kernel_rfl, by kernel_rfl⟩) (by exact ⟨by kernel_rfl, by kernel_rfl, by kernel_rfl⟩) (by exact ⟨by kernel_rfl, by kernel_rfl, by kernel_rfl⟩) (by exact ⟨by kernel_rfl, by kernel_rfl, by kernel_rfl⟩) (fun a H => ?_)
  refine zlen (m := 20) H 14 17 (fun W => by kernel_rfl) (by omega) (kLoadU 17 _ _ _ (by rw [← hs]; exact h.cell 17)) (fun ty => kLenU ty _ _ _) (op' := (zop 20).op) (g' := (zop 20).guard) ⟨rfl, by kernel_rfl, rfl⟩ (by exact ⟨by kernel_rfl, by kernel_rfl, by kernel_rfl⟩) (by exact ⟨by kernel_rfl, by kernel_rfl, by kernel_rfl⟩) (by exact ⟨by kernel_rfl, by kernel_rfl, by kernel_rfl⟩) (by exact ⟨by kernel_rfl, by kernel_rfl, by kernel_rfl⟩) (by exact ⟨by kernel_rfl, by kernel_rfl, by kernel_rfl⟩) (by exact ⟨by kernel_rfl, by kernel_rfl, by kernel_rfl⟩) (fun a H => ?_)
  refine zstr H (h.cell 7) (h.cell 13) (h.cell 14) hb (fun a H => ?_)
  refine zflag (m := 37) H 5 8 (fun W => by kernel_rfl) (by omega) (h.cell 8) (op' := (zop 37).op) (g' := (zop 37).guard) ⟨rfl, by kernel_rfl, rfl⟩ (by exact ⟨by kernel_rfl, by kernel_rfl, by kernel_rfl⟩) (by exact ⟨by kernel_rfl, by kernel_rfl, by kernel_rfl⟩) (by exact ⟨by kernel_rfl, by kernel_rfl, by kernel_rfl⟩) (by exact ⟨by kernel_rfl, by kernel_rfl, by kernel_rfl⟩) (by exact ⟨by kernel_rfl, by kernel_rfl, by kernel_rfl⟩) (fun a H => ?_)
  refine zflag (m := 42) H 12 15 (fun W => by kernel_rfl) (by omega) (h.cell 15) (op' := (zop 42).op) (g' := (zop 42).guard) ⟨rfl, by kernel_rfl, rfl⟩ (by exact ⟨by kernel_rfl, by kernel_rfl, by kernel_rfl⟩) (by exact ⟨by kernel_rfl, by kernel_rfl, by kernel_rfl⟩) (by exact ⟨by kernel_rfl, by kernel_rfl, by kernel_rfl⟩) (by exact ⟨by kernel_rfl, by kernel_rfl, by kernel_rfl⟩) (by exact ⟨by kernel_rfl, by kernel_rfl, by kernel_rfl⟩) (fun a H => ?_)
  refine zflag (m := 47) H 7 10 (fun W => by kernel_rfl) (by omega) (h.cell 10) (op' := (zop 47).op) (g' := (zop 47).guard) ⟨rfl, by kernel_rfl, rfl⟩ (by exact ⟨by kernel_rfl, by kernel_rfl, by kernel_rfl⟩) (by exact ⟨by kernel_rfl, by kernel_rfl, by kernel_rfl⟩) (by exact ⟨by kernel_rfl, by kernel_rfl, by kernel_rfl⟩) (by exact ⟨by kernel_rfl, by kernel_rfl, by kernel_rfl⟩) (by exact ⟨by kernel_rfl, by kernel_rfl, by kernel_rfl⟩) (fun a H => ?_)
  refine zflag (m := 52) H 8 11 (fun W => by kernel_rfl) (by omega) (h.cell 11) (op' := (zop 52).op) (g' := (zop 52).guard) ⟨rfl, by kernel_rfl, rfl⟩ (by exact ⟨by kernel_rfl, by kernel_rfl, by kernel_rfl⟩) (by exact ⟨by kernel_rfl, by kernel_rfl, by kernel_rfl⟩) (by exact ⟨by kernel_rfl, by kernel_rfl, by kernel_rfl⟩) (by exact ⟨by kernel_rfl, by kernel_rfl, by kernel_rfl⟩) (by exact ⟨by kernel_rfl, by kernel_rfl, by kernel_rfl⟩) (fun a H => ?_)
  refine zflag (m := 57) H 9 12 (fun W => by kernel_rfl) (by omega) (h.cell 12) (op' := (zop 57).op) (g' := (zop 57).guard) ⟨rfl, by kernel_rfl, rfl⟩ (by exact ⟨by kernel_rfl, by kernel_rfl, by kernel_rfl⟩) (by exact ⟨by kernel_rfl, by kernel_rfl, by kernel_rfl⟩) (by exact ⟨by kernel_rfl, by kernel_rfl, by kernel_rfl⟩) (by exact ⟨by kernel_rfl, by kernel_rfl, by kernel_rfl⟩) (by exact ⟨by kernel_rfl, by kernel_rfl, by kernel_rfl⟩) (fun a H => ?_)
  refine zint (m := 62) H 6 9 (fun W => by kernel_rfl) (by omega) (h.cell 9) (op' := (zop 62).op) (g' := (zop 62).guard) ⟨rfl, by kernel_rfl, rfl⟩ (by exact ⟨by kernel_rfl, by kernel_rfl, by kernel_rfl⟩) (by exact ⟨by kernel_rfl, by kernel_rfl, by kernel_rfl⟩) (by exact ⟨by kernel_rfl, by kernel_rfl, by kernel_rfl⟩) (by exact ⟨by kernel_rfl, by kernel_rfl, by kernel_rfl⟩) (fun a H => ?_)
  exact hn a H
end
end Pk
end Go.Proofs.YteigakkghkjakaaDoor

namespace Go.Proofs.YteigakkghkjakaaDoor
open Go.RowKit
set_option linter.unusedVariables false
set_option linter.unusedSimpArgs false
namespace Pk
theorem rCall {P : Program} {a : Act} {o : Oper} {W : World} {f : FuncId} {x : Operand} {ts : Array TypeId} (ho : o.op = .call { callee := .value (.func f), args := #[x], argTypes := ts }) (hE : Go.Proofs.Enters P f) : (execOp a.eval o).run P W = .ok (.enter f #[a.eval x]) W := by
  obtain ⟨d, op, ty, pos, af, gu⟩ := o
  cases ho
  rw [execOp_call_go]
  have : #[] ++ Array.map a.eval #[x] ++ #[] = #[a.eval x] := by simp
  rw [this]
  exact hE _ _
theorem need_enters : Go.Proofs.Enters Tryd.prog 35 := Go.Proofs.enters_of Tryd.func35 (by kernel_rfl) rfl

theorem zero_region (W : World) (g : Nat) (p : Pkt) (lc cc ls cs : Nat) (Ac As : Option Addr) (hc : p.codes = .slice Ac lc cc) (hs : p.subs = .slice As ls cs) (h : PkAt W g p) (hb : p.client.size + p.user.size + p.pass.size ≤ 9223372036854775807)
    (R : Ending → World → Prop) (hyes : p.zero lc ls = true → R (.returned (.tuple #[])) W) (hno : p.zero lc ls = false → R badP W) (ops : Array Oper) (hops : ops = zops) (a : Act) (hsz : a.tmps.size = 254) (hdf : a.defers = []) (h1 : a.eval (.tmp 1) = .pointer (some ⟨g, 0, none⟩)) :
    (Code.region 50 ops false).wp Tryd.prog (bodyPost Tryd.prog Tryd.f45 R) a W := by
  subst hops
  refine wp_region_list ?_
  refine zall p lc cc ls cs Ac As hc hs h hb hsz hdf h1 (fun a H => ?_)
  have o67 : Zis 67 (.call { callee := .value (.func 35), args := #[.tmp 252], argTypes := #[4] }) none := ⟨by kernel_rfl, by kernel_rfl, by kernel_rfl⟩
  unfold ZW
  rw [zdrop 67 (by omega)]
  refine (BigFrame.wpList_want (wanted_free o67.2.2) (fun K hK => ?_))
  unfold Oper.wp
  rw [rCall o67.1 need_enters, H.it, Oper.upon_enter]
  have hdrop : zops.toList.drop 68 = [] := by
    apply List.drop_eq_nil_of_le
    rw [Array.length_toList, zsize]
    exact Nat.le_refl _
  cases hz : p.zero lc ls with
  | true =>
    rw [hz] at H
    refine (need_yes W).mono ?_
    rintro e w' ⟨rfl, rfl⟩
    refine hK _ _ ?_
    rw [hdrop]
    refine wpList_nil ⟨?_, .tuple #[], ?_, hyes hz⟩
    · rw [o67.2.1]; exact H.defs
    · simp [results, Tryd.results45]
  | false =>
    rw [hz] at H
    refine (need_no W).mono ?_
    rintro e w' ⟨rfl, rfl⟩
    exact ⟨H.defs, hno hz⟩
end Pk
end Go.Proofs.YteigakkghkjakaaDoor

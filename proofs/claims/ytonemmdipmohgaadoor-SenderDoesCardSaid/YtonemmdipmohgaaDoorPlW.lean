/- Same: two packets. -/
import Derived.Test.YtonemmdipmohgaaDoorPlD
namespace Go.Proofs.YtonemmdipmohgaaDoor
open Go.RowKit Go.ChangeShapes
set_option linter.unusedVariables false
set_option linter.unusedSimpArgs false
namespace Pk
open Utf (nums nums_length nums_bytes IsStr nums_str)
open Var (BT)

/-- The same packet: but for where its rows lie. -/
def SameP (p q : Pkt) (C C' : List Int) (D D' : List (ByteArray × Int)) : Prop := p.rows nilV nilV = q.rows nilV nilV ∧ C = C' ∧ D = D'
noncomputable instance (p q : Pkt) (C C' : List Int) (D D' : List (ByteArray × Int)) : Decidable (SameP p q C C' D D') := Classical.propDecidable _

theorem ba_toList {a b : ByteArray} (h : a.toList = b.toList) : a = b := (Utf.str_beq a b).1 (by simpa using h)
theorem kNeqM {W : World} (x y : Operand) (a b a' b' : ByteArray) (n n' : Int) (c c' : Bool) : (do eqGuard .neq 28 x y (.agg #[.string a, .string b, .int .i64 n, .bool c]) (.agg #[.string a', .string b', .int .i64 n', .bool c']); binOp .neq 28 (.agg #[.string a, .string b, .int .i64 n, .bool c]) (.agg #[.string a', .string b', .int .i64 n', .bool c']) : Sem Value).run Tryd.prog W = .ok (.bool (!decide (a = a' ∧ b = b' ∧ n = n' ∧ c = c'))) W := by
  by_cases h : a = a' ∧ b = b' ∧ n = n' ∧ c = c'
  · obtain ⟨rfl, rfl, rfl, rfl⟩ := h
    simp [go_sem, eqGuard, Tryd.underlying28]
  · rw [decide_eq_false h]
    simp [go_sem, eqGuard, Tryd.underlying28]
    exact fun h1 h2 h3 h4 => h ⟨ba_toList h1, ba_toList h2, h3, h4⟩
theorem kNeqU {W : World} (x y : Operand) (a a' : ByteArray) (n n' : Int) : (do eqGuard .neq 114 x y (.agg #[.string a, .int .i64 n]) (.agg #[.string a', .int .i64 n']); binOp .neq 114 (.agg #[.string a, .int .i64 n]) (.agg #[.string a', .int .i64 n']) : Sem Value).run Tryd.prog W = .ok (.bool (!decide (a = a' ∧ n = n'))) W := by
  by_cases h : a = a' ∧ n = n'
  · obtain ⟨rfl, rfl⟩ := h
    simp [go_sem, eqGuard, Tryd.underlying114]
  · rw [decide_eq_false h]
    simp [go_sem, eqGuard, Tryd.underlying114]
    exact fun h1 h2 => h ⟨ba_toList h1, h2⟩
theorem kNeqS {W : World} (x y : Operand) (a a' : ByteArray) : (do eqGuard .neq 9 x y (.string a) (.string a'); binOp .neq 9 (.string a) (.string a') : Sem Value).run Tryd.prog W = .ok (.bool (!decide (a = a'))) W := by
  by_cases h : a = a'
  · subst h
    simp [go_sem, eqGuard]
  · rw [decide_eq_false h]
    simp [go_sem, eqGuard]
    exact fun e => h (ba_toList e)
theorem kNeqB {W : World} (x y : Operand) (a a' : Bool) : (do eqGuard .neq 4 x y (.bool a) (.bool a'); binOp .neq 4 (.bool a) (.bool a') : Sem Value).run Tryd.prog W = .ok (.bool (!decide (a = a'))) W := by
  cases a <;> cases a' <;> simp [go_sem, eqGuard]
theorem kNeqI {W : World} (x y : Operand) (a a' : Int) : (do eqGuard .neq 3 x y (.int .i64 a) (.int .i64 a'); binOp .neq 3 (.int .i64 a) (.int .i64 a') : Sem Value).run Tryd.prog W = .ok (.bool (!decide (a = a'))) W := by
  by_cases h : a = a' <;> simp [go_sem, eqGuard, h]

/-- A row of cells, loaded at once. -/
theorem load_agg (W : World) (t : TypeId) (a : Addr) (cs : List Value) (h1 : (isAgg t).run Tryd.prog W = .ok true W) (h2 : (sizeOf t).run Tryd.prog W = .ok cs.length W) (h : ∀ j v, cs[j]? = some v → W.cell? (a.add j) = some v) : (Instr.loadAt t (.pointer (some a))).run Tryd.prog W = .ok (.agg cs.toArray) W := by
  have hl := run_loadCells_list (P := Tryd.prog) W a cs h
  unfold Instr.loadAt loadVar
  simp only [Instr.sureAddr, Sem.run_bind, Sem.run_pure, Result.andThen_ok, h1, if_true, h2, hl]
theorem kLoadMs {W : World} {g : Nat} {p : Pkt} (h : PkAt W g p) : (Instr.loadAt 28 (.pointer (some ⟨g, 3, none⟩))).run Tryd.prog W = .ok (.agg #[.string p.topic, .string p.payload, .int .i64 p.qos, .bool p.retain]) W := by
  refine load_agg W _ _ [.string p.topic, .string p.payload, .int .i64 p.qos, .bool p.retain] (by kernel_rfl) (by kernel_rfl) (fun j v hj => ?_)
  match j, hj with
  | 0, hj => rw [← hj]; exact h.cell 3
  | 1, hj => rw [← hj]; exact h.cell 4
  | 2, hj => rw [← hj]; exact h.cell 5
  | 3, hj => rw [← hj]; exact h.cell 6
  | (n + 4), hj => simp at hj
theorem kLoadSub {W : World} {x : Addr} {s : ByteArray} {n : Int} (h0 : W.cell? x = some (.string s)) (h1 : W.cell? (x.add 1) = some (.int .i64 n)) : (Instr.loadAt 114 (.pointer (some x))).run Tryd.prog W = .ok (.agg #[.string s, .int .i64 n]) W := by
  refine load_agg W _ _ [.string s, .int .i64 n] (by kernel_rfl) (by kernel_rfl) (fun j v hj => ?_)
  match j, hj with
  | 0, hj => rw [← hj, show x.add 0 = x by cases x; simp [Addr.add]]; exact h0
  | 1, hj => rw [← hj]; exact h1
  | (n + 2), hj => simp at hj

/-- The first region of Same, over any frame. -/
noncomputable def sops : Array Oper := ((Tryd.f37.body).bind (findRegion 1)).getD #[]
theorem ssize : sops.size = 106 := by kernel_rfl
noncomputable def sop (k : Nat) : Oper := sops.getD k ⟨none, .move (.const .nilIface), 0, "", #[], none⟩
theorem sdrop (k : Nat) (h : k < 106) : sops.toList.drop k = sop k :: sops.toList.drop (k + 1) := by
  have hz : k < sops.toList.length := by rw [Array.length_toList, ssize]; exact h
  rw [List.drop_eq_getElem_cons hz]
  congr 1
  rw [sop, Array.getD_eq_getD_getElem?, Array.getElem?_eq_getElem (by rw [ssize]; exact h)]
  simp
def Sis (k : Nat) (op : Op) (g : Option (Nat × Bool)) : Prop := (sop k).op = op ∧ (sop k).dst = some (6 + k) ∧ (sop k).guard = g
theorem swanted_guard {k : Nat} {op : Op} {a : Act} {i : Nat} {b c : Bool} (hk : Sis k op (some (i, b))) {op' : Op} {g' : Option (Nat × Bool)} (hi : Sis i op' g') (hs : i < 106) (ha : a.tmps.size = 130) (hv : a.eval (.tmp (6 + i)) = .bool c) : Region.wanted (sop k) (yielded sops a.tmps) = (c == b) := by
  have h1 : (sops[i]?).bind (·.dst) = some (6 + i) := by
    rw [Array.getElem?_eq_getElem (by rw [ssize]; exact hs)]
    have : sop i = sops[i]'(by rw [ssize]; exact hs) := by
      rw [sop, Array.getD_eq_getD_getElem?, Array.getElem?_eq_getElem (by rw [ssize]; exact hs)]; rfl
    rw [Option.bind_some, ← this]; exact hi.2.1
  have hd : 6 + i < a.tmps.size := by rw [ha]; omega
  have h2 : a.tmps[6 + i]? = some (.bool c) := by
    have : a.tmps.getD (6 + i) undef = .bool c := hv
    rw [Array.getD_eq_getD_getElem?, Array.getElem?_eq_getElem hd] at this
    rw [Array.getElem?_eq_getElem hd]
    simpa using this
  simp [Region.wanted, hk.2.2, yielded, h1, h2]
section
variable {Q : Exit → Act → World → Prop} {W : World} {g g2 : Nat} {a : Act}
abbrev SW (Q : Exit → Act → World → Prop) (k : Nat) (a : Act) (W : World) : Prop := wpList Tryd.prog sops Q (sops.toList.drop k) a W
theorem sstep {k : Nat} {op : Op} {gd : Option (Nat × Bool)} {v : Value} (hk : k < 106) (hz : Sis k op gd) (hw : Region.wanted (sop k) (yielded sops a.tmps) = true) (hr : (execOp a.eval (sop k)).run Tryd.prog W = .ok (.value v) W) (h : SW Q (k + 1) (a.put (some (6 + k)) v) W) : SW Q k a W := by
  unfold SW
  rw [sdrop k hk]
  refine st_val v hw hr ?_
  rw [hz.2.1]; exact h
theorem sskip {k : Nat} {op : Op} {gd : Option (Nat × Bool)} (hk : k < 106) (hz : Sis k op gd) (hw : Region.wanted (sop k) (yielded sops a.tmps) = false) (h : SW Q (k + 1) (a.put (some (6 + k)) undef) W) : SW Q k a W := by
  unfold SW
  rw [sdrop k hk]
  refine st_skip hw ?_
  rw [hz.2.1]; exact h
/-- The frame at a condition's end: slots 2, 3 hold the packets' places, the m-th operation's whether they differ so far. -/
structure Si (g g2 m : Nat) (c : Bool) (a : Act) : Prop where
  size : a.tmps.size = 130
  two : a.eval (.tmp 2) = .pointer (some ⟨g, 0, none⟩)
  three : a.eval (.tmp 3) = .pointer (some ⟨g2, 0, none⟩)
  it : a.eval (.tmp (6 + m)) = .bool c
  defs : a.defers = []
theorem Si.put {m : Nat} {c : Bool} (h : Si g g2 m c a) {k : Nat} (v : Value) (hk : k ≠ m) : Si g g2 m c (a.put (some (6 + k)) v) :=
  ⟨by rw [put_size]; exact h.size, by rw [put_other _ _ _ _ (by omega)]; exact h.two, by rw [put_other _ _ _ _ (by omega)]; exact h.three, by rw [put_other _ _ _ _ (by omega)]; exact h.it, h.defs⟩
theorem Si.new {m : Nat} {c : Bool} (h : Si g g2 m c a) {k : Nat} (d : Bool) (hk : k < 106) : Si g g2 k d (a.put (some (6 + k)) (.bool d)) :=
  ⟨by rw [put_size]; exact h.size, by rw [put_other _ _ _ _ (by omega)]; exact h.two, by rw [put_other _ _ _ _ (by omega)]; exact h.three, put_same _ _ _ (by rw [h.size]; omega), h.defs⟩
theorem Si.want {m k : Nat} {c b : Bool} {op op' : Op} {g' : Option (Nat × Bool)} (h : Si g g2 m c a) (h0 : Sis m op' g') (hm : m < 106) (hz : Sis k op (some (m, b))) : Region.wanted (sop k) (yielded sops a.tmps) = (c == b) :=
  swanted_guard hz h0 hm h.size h.it
theorem smove {m : Nat} {c : Bool} (h : Si g g2 m c a) (hm : m + 1 < 106) (hz : Sis (m + 1) (.move (.tmp (6 + m))) none) (hn : ∀ a, Si g g2 (m + 1) c a → SW Q (m + 2) a W) : SW Q (m + 1) a W := by
  refine sstep (v := .bool c) hm hz (wanted_free hz.2.2) ?_ (hn _ (h.new c hm))
  rw [rMove hz.1, h.it]
theorem spick {m k : Nat} {c b : Bool} (h : Si g g2 m c a) (hk : k + 1 < 106) (hz : Sis (k + 1) (.pick (.tmp (6 + m)) (.const (.bool true)) (.tmp (6 + k))) none) (hv : c = false → a.eval (.tmp (6 + k)) = .bool b) (hn : ∀ a, Si g g2 (k + 1) (c || b) a → SW Q (k + 2) a W) : SW Q (k + 1) a W := by
  refine sstep (v := .bool (c || b)) hk hz (wanted_free hz.2.2) ?_ (hn _ (h.new _ hk))
  rw [rPick hz.1 h.it]
  cases c
  · rw [if_neg (by decide), hv rfl]; rfl
  · rfl
theorem sskips {m n : Nat} (h : Si g g2 m true a) (k : Nat) (hk : k + n < 106) (hm : m < k) {op' : Op} {g' : Option (Nat × Bool)} (h0 : Sis m op' g') (hz : ∀ i, i < n → ∃ op, Sis (k + i) op (some (m, false))) (hn : ∀ a, Si g g2 m true a → SW Q (k + n) a W) : SW Q k a W := by
  induction n generalizing k a with
  | zero => exact hn a h
  | succ n ih =>
    obtain ⟨op, ho⟩ := hz 0 (by omega)
    refine sskip (by omega) ho (h.want h0 (by omega) ho) ?_
    refine ih (h.put _ (by omega)) (k + 1) (by omega) (by omega) (fun i hi => ?_) (fun a ha => ?_)
    · have := hz (i + 1) (by omega)
      rwa [show k + (i + 1) = k + 1 + i by omega] at this
    · have := hn a ha
      rwa [show k + (n + 1) = k + 1 + n by omega] at this
/-- A field: the flag is raised where it differs. -/
theorem sfield {m : Nat} {c b : Bool} {t : TypeId} {v1 v2 : Value} (h : Si g g2 m c a) (f k : Nat) (hf : ∀ g W, (Instr.fieldAt PT (.pointer (some ⟨g, 0, none⟩)) f).run Tryd.prog W = .ok (.pointer (some ⟨g, k, none⟩)) W) (hm : m + 7 < 106)
    (hl1 : (Instr.loadAt t (.pointer (some ⟨g, k, none⟩))).run Tryd.prog W = .ok v1 W) (hl2 : (Instr.loadAt t (.pointer (some ⟨g2, k, none⟩))).run Tryd.prog W = .ok v2 W)
    (hb : ∀ x y, (do eqGuard .neq t x y v1 v2; binOp .neq t v1 v2 : Sem Value).run Tryd.prog W = .ok (.bool b) W) {op' : Op} {g' : Option (Nat × Bool)} (h0 : Sis m op' g')
    (h1 : Sis (m + 1) (.fieldAddr PT (.tmp 2) f) (some (m, false))) (h2 : Sis (m + 2) (.load t (.tmp (6 + (m + 1)))) (some (m, false)))
    (h3 : Sis (m + 3) (.fieldAddr PT (.tmp 3) f) (some (m, false))) (h4 : Sis (m + 4) (.load t (.tmp (6 + (m + 3)))) (some (m, false)))
    (h5 : Sis (m + 5) (.binOp .neq t (.tmp (6 + (m + 2))) (.tmp (6 + (m + 4))) t) (some (m, false))) (h6 : Sis (m + 6) (.pick (.tmp (6 + m)) (.const (.bool true)) (.tmp (6 + (m + 5)))) none)
    (h7 : Sis (m + 7) (.move (.tmp (6 + (m + 6)))) none) (hn : ∀ a, Si g g2 (m + 7) (c || b) a → SW Q (m + 8) a W) : SW Q (m + 1) a W := by
  cases c with
  | true =>
    refine sskips (n := 5) h (m + 1) (by omega) (by omega) h0 (fun i hi => ?_) (fun a ha => ?_)
    · match i, hi with
      | 0, _ => exact ⟨_, h1⟩
      | 1, _ => exact ⟨_, h2⟩
      | 2, _ => exact ⟨_, h3⟩
      | 3, _ => exact ⟨_, h4⟩
      | 4, _ => exact ⟨_, h5⟩
    · refine spick (k := m + 5) (b := b) ha (by omega) h6 (fun h => absurd h (by decide)) (fun a ha => ?_)
      exact smove (m := m + 6) ha (by omega) h7 hn
  | false =>
    have e1 := put_same a (6 + (m + 1)) (.pointer (some ⟨g, k, none⟩)) (by rw [h.size]; omega)
    refine sstep (by omega) h1 (h.want h0 (by omega) h1) (rFieldAddr h1.1 (by rw [h.two]; exact hf g W)) ?_
    have H1 := h.put (k := m + 1) (.pointer (some ⟨g, k, none⟩)) (by omega)
    generalize a.put (some (6 + (m + 1))) (.pointer (some ⟨g, k, none⟩)) = a1 at e1 H1 ⊢
    have e2 := put_same a1 (6 + (m + 2)) v1 (by rw [H1.size]; omega)
    refine sstep (by omega) h2 (H1.want h0 (by omega) h2) (rLoad h2.1 (by rw [e1]; exact hl1)) ?_
    have H2 := H1.put (k := m + 2) v1 (by omega)
    generalize a1.put (some (6 + (m + 2))) v1 = a2 at e2 H2 ⊢
    have e3 := put_same a2 (6 + (m + 3)) (.pointer (some ⟨g2, k, none⟩)) (by rw [H2.size]; omega)
    have e23 := put_other a2 (6 + (m + 3)) (6 + (m + 2)) (.pointer (some ⟨g2, k, none⟩)) (by omega)
    refine sstep (by omega) h3 (H2.want h0 (by omega) h3) (rFieldAddr h3.1 (by rw [H2.three]; exact hf g2 W)) ?_
    have H3 := H2.put (k := m + 3) (.pointer (some ⟨g2, k, none⟩)) (by omega)
    rw [e2] at e23
    generalize a2.put (some (6 + (m + 3))) (.pointer (some ⟨g2, k, none⟩)) = a3 at e3 H3 e23 ⊢
    have e4 := put_same a3 (6 + (m + 4)) v2 (by rw [H3.size]; omega)
    have e24 := put_other a3 (6 + (m + 4)) (6 + (m + 2)) v2 (by omega)
    refine sstep (by omega) h4 (H3.want h0 (by omega) h4) (rLoad h4.1 (by rw [e3]; exact hl2)) ?_
    have H4 := H3.put (k := m + 4) v2 (by omega)
    rw [e23] at e24
    generalize a3.put (some (6 + (m + 4))) v2 = a4 at e4 H4 e24 ⊢
    have e5 := put_same a4 (6 + (m + 5)) (.bool b) (by rw [H4.size]; omega)
    refine sstep (by omega) h5 (H4.want h0 (by omega) h5) (rBin h5.1 (by rw [e4, e24]; exact hb _ _)) ?_
    have H5 := H4.put (k := m + 5) (.bool b) (by omega)
    generalize a4.put (some (6 + (m + 5))) (.bool b) = a5 at e5 H5 ⊢
    refine spick (k := m + 5) (b := b) H5 (by omega) h6 (fun _ => e5) (fun a ha => ?_)
    exact smove (m := m + 6) ha (by omega) h7 hn

def eqP (p q : Pkt) : Prop := p.ty = q.ty ∧ p.dup = q.dup ∧ p.id = q.id ∧ (p.topic = q.topic ∧ p.payload = q.payload ∧ p.qos = q.qos ∧ p.retain = q.retain) ∧ p.client = q.client ∧ p.clean = q.clean ∧ p.alive = q.alive ∧ p.will = q.will ∧ p.huser = q.huser ∧ p.hpass = q.hpass ∧ p.user = q.user ∧ p.pass = q.pass ∧ p.present = q.present
theorem eqP_iff (p q : Pkt) : eqP p q ↔ p.rows nilV nilV = q.rows nilV nilV := by
  cases p; cases q
  simp [eqP, Pkt.rows, and_assoc]

set_option maxRecDepth 100000 in
theorem sfirst (hsz : a.tmps.size = 130) (hdf : a.defers = []) (h2 : a.eval (.tmp 2) = .pointer (some ⟨g, 0, none⟩)) (h3 : a.eval (.tmp 3) = .pointer (some ⟨g2, 0, none⟩)) {n n' : Int} (hl1 : W.cell? ⟨g, 0, none⟩ = some (.int .i64 n)) (hl2 : W.cell? ⟨g2, 0, none⟩ = some (.int .i64 n'))
    (hn : ∀ a, Si g g2 5 (!decide (n = n')) a → SW Q 6 a W) : SW Q 0 a W := by
  have o0 : Sis 0 (.fieldAddr PT (.tmp 2) 0) none := ⟨by kernel_rfl, by kernel_rfl, by kernel_rfl⟩
  have o1 : Sis 1 (.load 3 (.tmp 6)) none := ⟨by kernel_rfl, by kernel_rfl, by kernel_rfl⟩
  have o2 : Sis 2 (.fieldAddr PT (.tmp 3) 0) none := ⟨by kernel_rfl, by kernel_rfl, by kernel_rfl⟩
  have o3 : Sis 3 (.load 3 (.tmp 8)) none := ⟨by kernel_rfl, by kernel_rfl, by kernel_rfl⟩
  have o4 : Sis 4 (.binOp .neq 3 (.tmp 7) (.tmp 9) 3) none := ⟨by kernel_rfl, by kernel_rfl, by kernel_rfl⟩
  have o5 : Sis 5 (.move (.tmp 10)) none := ⟨by kernel_rfl, by kernel_rfl, by kernel_rfl⟩
  refine sstep (k := 0) (v := .pointer (some ⟨g, 0, none⟩)) (by omega) o0 (wanted_free o0.2.2) (rFieldAddr o0.1 (by rw [h2]; kernel_rfl)) ?_
  have e1 := put_same a 6 (.pointer (some ⟨g, 0, none⟩)) (by rw [hsz]; omega)
  have e1a := put_other a 6 2 (.pointer (some ⟨g, 0, none⟩)) (by decide)
  have e1b := put_other a 6 3 (.pointer (some ⟨g, 0, none⟩)) (by decide)
  have s1 := put_size a 6 (.pointer (some ⟨g, 0, none⟩))
  have d1 : (a.put (some 6) (.pointer (some ⟨g, 0, none⟩))).defers = [] := hdf
  rw [h2] at e1a; rw [h3] at e1b; rw [hsz] at s1
  generalize a.put (some 6) (.pointer (some ⟨g, 0, none⟩)) = a1 at e1 e1a e1b s1 d1 ⊢
  refine sstep (k := 1) (v := .int .i64 n) (by omega) o1 (wanted_free o1.2.2) (rLoad o1.1 (by rw [e1]; exact kLoadI 0 n hl1)) ?_
  have e2 := put_same a1 7 (.int .i64 n) (by rw [s1]; omega)
  have e2a := put_other a1 7 2 (.int .i64 n) (by decide)
  have e2b := put_other a1 7 3 (.int .i64 n) (by decide)
  have s2 := put_size a1 7 (.int .i64 n)
  have d2 : (a1.put (some 7) (.int .i64 n)).defers = [] := d1
  rw [e1a] at e2a; rw [e1b] at e2b; rw [s1] at s2
  generalize a1.put (some 7) (.int .i64 n) = a2 at e2 e2a e2b s2 d2 ⊢
  refine sstep (k := 2) (v := .pointer (some ⟨g2, 0, none⟩)) (by omega) o2 (wanted_free o2.2.2) (rFieldAddr o2.1 (by rw [e2b]; kernel_rfl)) ?_
  have e3 := put_same a2 8 (.pointer (some ⟨g2, 0, none⟩)) (by rw [s2]; omega)
  have e3a := put_other a2 8 2 (.pointer (some ⟨g2, 0, none⟩)) (by decide)
  have e3b := put_other a2 8 3 (.pointer (some ⟨g2, 0, none⟩)) (by decide)
  have e3c := put_other a2 8 7 (.pointer (some ⟨g2, 0, none⟩)) (by decide)
  have s3 := put_size a2 8 (.pointer (some ⟨g2, 0, none⟩))
  have d3 : (a2.put (some 8) (.pointer (some ⟨g2, 0, none⟩))).defers = [] := d2
  rw [e2a] at e3a; rw [e2b] at e3b; rw [e2] at e3c; rw [s2] at s3
  generalize a2.put (some 8) (.pointer (some ⟨g2, 0, none⟩)) = a3 at e3 e3a e3b e3c s3 d3 ⊢
  refine sstep (k := 3) (v := .int .i64 n') (by omega) o3 (wanted_free o3.2.2) (rLoad o3.1 (by rw [e3]; exact kLoadI 0 n' hl2)) ?_
  have e4 := put_same a3 9 (.int .i64 n') (by rw [s3]; omega)
  have e4a := put_other a3 9 2 (.int .i64 n') (by decide)
  have e4b := put_other a3 9 3 (.int .i64 n') (by decide)
  have e4c := put_other a3 9 7 (.int .i64 n') (by decide)
  have s4 := put_size a3 9 (.int .i64 n')
  have d4 : (a3.put (some 9) (.int .i64 n')).defers = [] := d3
  rw [e3a] at e4a; rw [e3b] at e4b; rw [e3c] at e4c; rw [s3] at s4
  generalize a3.put (some 9) (.int .i64 n') = a4 at e4 e4a e4b e4c s4 d4 ⊢
  refine sstep (k := 4) (v := .bool (!decide (n = n'))) (by omega) o4 (wanted_free o4.2.2) (rBin o4.1 (by rw [e4, e4c]; exact kNeqI _ _ _ _)) ?_
  have H : Si g g2 4 (!decide (n = n')) (a4.put (some (6 + 4)) (.bool (!decide (n = n')))) :=
    ⟨by rw [put_size]; exact s4, by rw [put_other _ _ _ _ (by decide)]; exact e4a, by rw [put_other _ _ _ _ (by decide)]; exact e4b, put_same _ _ _ (by rw [s4]; omega), d4⟩
  exact smove (m := 4) H (by omega) o5 hn

set_option maxRecDepth 100000 in
/-- Two packets a field of which differs: the flag is raised at the end. -/
theorem sall (p q : Pkt) (hP : PkAt W g p) (hQ : PkAt W g2 q) (hne : ¬ eqP p q) (hsz : a.tmps.size = 130) (hdf : a.defers = []) (h2 : a.eval (.tmp 2) = .pointer (some ⟨g, 0, none⟩)) (h3 : a.eval (.tmp 3) = .pointer (some ⟨g2, 0, none⟩))
    (hn : ∀ a, Si g g2 105 true a → Q .normal a W) : SW Q 0 a W := by
  have o5 : Sis 5 (.move (.tmp 10)) (none) := ⟨by kernel_rfl, by kernel_rfl, by kernel_rfl⟩
  refine sfirst hsz hdf h2 h3 (hP.cell 0) (hQ.cell 0) (fun a ha => ?_)
  have o6 : Sis 6 (.fieldAddr PT (.tmp 2) 1) (some (5, false)) := ⟨by kernel_rfl, by kernel_rfl, by kernel_rfl⟩
  have o7 : Sis 7 (.load 4 (.tmp 12)) (some (5, false)) := ⟨by kernel_rfl, by kernel_rfl, by kernel_rfl⟩
  have o8 : Sis 8 (.fieldAddr PT (.tmp 3) 1) (some (5, false)) := ⟨by kernel_rfl, by kernel_rfl, by kernel_rfl⟩
  have o9 : Sis 9 (.load 4 (.tmp 14)) (some (5, false)) := ⟨by kernel_rfl, by kernel_rfl, by kernel_rfl⟩
  have o10 : Sis 10 (.binOp .neq 4 (.tmp 13) (.tmp 15) 4) (some (5, false)) := ⟨by kernel_rfl, by kernel_rfl, by kernel_rfl⟩
  have o11 : Sis 11 (.pick (.tmp 11) (.const (.bool true)) (.tmp 16)) (none) := ⟨by kernel_rfl, by kernel_rfl, by kernel_rfl⟩
  have o12 : Sis 12 (.move (.tmp 17)) (none) := ⟨by kernel_rfl, by kernel_rfl, by kernel_rfl⟩
  refine sfield (m := 5) (b := !decide (p.dup = q.dup)) ha 1 1 (fun g W => by kernel_rfl) (by omega) (kLoadB 1 _ (hP.cell 1)) (kLoadB 1 _ (hQ.cell 1)) (fun _ _ => kNeqB _ _ _ _) o5 o6 o7 o8 o9 o10 o11 o12 (fun a ha => ?_)
  have o13 : Sis 13 (.fieldAddr PT (.tmp 2) 2) (some (12, false)) := ⟨by kernel_rfl, by kernel_rfl, by kernel_rfl⟩
  have o14 : Sis 14 (.load 3 (.tmp 19)) (some (12, false)) := ⟨by kernel_rfl, by kernel_rfl, by kernel_rfl⟩
  have o15 : Sis 15 (.fieldAddr PT (.tmp 3) 2) (some (12, false)) := ⟨by kernel_rfl, by kernel_rfl, by kernel_rfl⟩
  have o16 : Sis 16 (.load 3 (.tmp 21)) (some (12, false)) := ⟨by kernel_rfl, by kernel_rfl, by kernel_rfl⟩
  have o17 : Sis 17 (.binOp .neq 3 (.tmp 20) (.tmp 22) 3) (some (12, false)) := ⟨by kernel_rfl, by kernel_rfl, by kernel_rfl⟩
  have o18 : Sis 18 (.pick (.tmp 18) (.const (.bool true)) (.tmp 23)) (none) := ⟨by kernel_rfl, by kernel_rfl, by kernel_rfl⟩
  have o19 : Sis 19 (.move (.tmp 24)) (none) := ⟨by kernel_rfl, by kernel_rfl, by kernel_rfl⟩
  refine sfield (m := 12) (b := !decide (p.id = q.id)) ha 2 2 (fun g W => by kernel_rfl) (by omega) (kLoadI 2 _ (hP.cell 2)) (kLoadI 2 _ (hQ.cell 2)) (fun _ _ => kNeqI _ _ _ _) o12 o13 o14 o15 o16 o17 o18 o19 (fun a ha => ?_)
  have o20 : Sis 20 (.fieldAddr PT (.tmp 2) 3) (some (19, false)) := ⟨by kernel_rfl, by kernel_rfl, by kernel_rfl⟩
  have o21 : Sis 21 (.load 28 (.tmp 26)) (some (19, false)) := ⟨by kernel_rfl, by kernel_rfl, by kernel_rfl⟩
  have o22 : Sis 22 (.fieldAddr PT (.tmp 3) 3) (some (19, false)) := ⟨by kernel_rfl, by kernel_rfl, by kernel_rfl⟩
  have o23 : Sis 23 (.load 28 (.tmp 28)) (some (19, false)) := ⟨by kernel_rfl, by kernel_rfl, by kernel_rfl⟩
  have o24 : Sis 24 (.binOp .neq 28 (.tmp 27) (.tmp 29) 28) (some (19, false)) := ⟨by kernel_rfl, by kernel_rfl, by kernel_rfl⟩
  have o25 : Sis 25 (.pick (.tmp 25) (.const (.bool true)) (.tmp 30)) (none) := ⟨by kernel_rfl, by kernel_rfl, by kernel_rfl⟩
  have o26 : Sis 26 (.move (.tmp 31)) (none) := ⟨by kernel_rfl, by kernel_rfl, by kernel_rfl⟩
  refine sfield (m := 19) (b := !decide ((p.topic = q.topic ∧ p.payload = q.payload ∧ p.qos = q.qos ∧ p.retain = q.retain))) ha 3 3 (fun g W => by kernel_rfl) (by omega) (kLoadMs hP) (kLoadMs hQ) (fun _ _ => kNeqM _ _ _ _ _ _ _ _ _ _) o19 o20 o21 o22 o23 o24 o25 o26 (fun a ha => ?_)
  have o27 : Sis 27 (.fieldAddr PT (.tmp 2) 4) (some (26, false)) := ⟨by kernel_rfl, by kernel_rfl, by kernel_rfl⟩
  have o28 : Sis 28 (.load 9 (.tmp 33)) (some (26, false)) := ⟨by kernel_rfl, by kernel_rfl, by kernel_rfl⟩
  have o29 : Sis 29 (.fieldAddr PT (.tmp 3) 4) (some (26, false)) := ⟨by kernel_rfl, by kernel_rfl, by kernel_rfl⟩
  have o30 : Sis 30 (.load 9 (.tmp 35)) (some (26, false)) := ⟨by kernel_rfl, by kernel_rfl, by kernel_rfl⟩
  have o31 : Sis 31 (.binOp .neq 9 (.tmp 34) (.tmp 36) 9) (some (26, false)) := ⟨by kernel_rfl, by kernel_rfl, by kernel_rfl⟩
  have o32 : Sis 32 (.pick (.tmp 32) (.const (.bool true)) (.tmp 37)) (none) := ⟨by kernel_rfl, by kernel_rfl, by kernel_rfl⟩
  have o33 : Sis 33 (.move (.tmp 38)) (none) := ⟨by kernel_rfl, by kernel_rfl, by kernel_rfl⟩
  refine sfield (m := 26) (b := !decide (p.client = q.client)) ha 4 7 (fun g W => by kernel_rfl) (by omega) (kLoadS 7 _ (hP.cell 7)) (kLoadS 7 _ (hQ.cell 7)) (fun _ _ => kNeqS _ _ _ _) o26 o27 o28 o29 o30 o31 o32 o33 (fun a ha => ?_)
  have o34 : Sis 34 (.fieldAddr PT (.tmp 2) 5) (some (33, false)) := ⟨by kernel_rfl, by kernel_rfl, by kernel_rfl⟩
  have o35 : Sis 35 (.load 4 (.tmp 40)) (some (33, false)) := ⟨by kernel_rfl, by kernel_rfl, by kernel_rfl⟩
  have o36 : Sis 36 (.fieldAddr PT (.tmp 3) 5) (some (33, false)) := ⟨by kernel_rfl, by kernel_rfl, by kernel_rfl⟩
  have o37 : Sis 37 (.load 4 (.tmp 42)) (some (33, false)) := ⟨by kernel_rfl, by kernel_rfl, by kernel_rfl⟩
  have o38 : Sis 38 (.binOp .neq 4 (.tmp 41) (.tmp 43) 4) (some (33, false)) := ⟨by kernel_rfl, by kernel_rfl, by kernel_rfl⟩
  have o39 : Sis 39 (.pick (.tmp 39) (.const (.bool true)) (.tmp 44)) (none) := ⟨by kernel_rfl, by kernel_rfl, by kernel_rfl⟩
  have o40 : Sis 40 (.move (.tmp 45)) (none) := ⟨by kernel_rfl, by kernel_rfl, by kernel_rfl⟩
  refine sfield (m := 33) (b := !decide (p.clean = q.clean)) ha 5 8 (fun g W => by kernel_rfl) (by omega) (kLoadB 8 _ (hP.cell 8)) (kLoadB 8 _ (hQ.cell 8)) (fun _ _ => kNeqB _ _ _ _) o33 o34 o35 o36 o37 o38 o39 o40 (fun a ha => ?_)
  have o41 : Sis 41 (.fieldAddr PT (.tmp 2) 6) (some (40, false)) := ⟨by kernel_rfl, by kernel_rfl, by kernel_rfl⟩
  have o42 : Sis 42 (.load 3 (.tmp 47)) (some (40, false)) := ⟨by kernel_rfl, by kernel_rfl, by kernel_rfl⟩
  have o43 : Sis 43 (.fieldAddr PT (.tmp 3) 6) (some (40, false)) := ⟨by kernel_rfl, by kernel_rfl, by kernel_rfl⟩
  have o44 : Sis 44 (.load 3 (.tmp 49)) (some (40, false)) := ⟨by kernel_rfl, by kernel_rfl, by kernel_rfl⟩
  have o45 : Sis 45 (.binOp .neq 3 (.tmp 48) (.tmp 50) 3) (some (40, false)) := ⟨by kernel_rfl, by kernel_rfl, by kernel_rfl⟩
  have o46 : Sis 46 (.pick (.tmp 46) (.const (.bool true)) (.tmp 51)) (none) := ⟨by kernel_rfl, by kernel_rfl, by kernel_rfl⟩
  have o47 : Sis 47 (.move (.tmp 52)) (none) := ⟨by kernel_rfl, by kernel_rfl, by kernel_rfl⟩
  refine sfield (m := 40) (b := !decide (p.alive = q.alive)) ha 6 9 (fun g W => by kernel_rfl) (by omega) (kLoadI 9 _ (hP.cell 9)) (kLoadI 9 _ (hQ.cell 9)) (fun _ _ => kNeqI _ _ _ _) o40 o41 o42 o43 o44 o45 o46 o47 (fun a ha => ?_)
  have o48 : Sis 48 (.fieldAddr PT (.tmp 2) 7) (some (47, false)) := ⟨by kernel_rfl, by kernel_rfl, by kernel_rfl⟩
  have o49 : Sis 49 (.load 4 (.tmp 54)) (some (47, false)) := ⟨by kernel_rfl, by kernel_rfl, by kernel_rfl⟩
  have o50 : Sis 50 (.fieldAddr PT (.tmp 3) 7) (some (47, false)) := ⟨by kernel_rfl, by kernel_rfl, by kernel_rfl⟩
  have o51 : Sis 51 (.load 4 (.tmp 56)) (some (47, false)) := ⟨by kernel_rfl, by kernel_rfl, by kernel_rfl⟩
  have o52 : Sis 52 (.binOp .neq 4 (.tmp 55) (.tmp 57) 4) (some (47, false)) := ⟨by kernel_rfl, by kernel_rfl, by kernel_rfl⟩
  have o53 : Sis 53 (.pick (.tmp 53) (.const (.bool true)) (.tmp 58)) (none) := ⟨by kernel_rfl, by kernel_rfl, by kernel_rfl⟩
  have o54 : Sis 54 (.move (.tmp 59)) (none) := ⟨by kernel_rfl, by kernel_rfl, by kernel_rfl⟩
  refine sfield (m := 47) (b := !decide (p.will = q.will)) ha 7 10 (fun g W => by kernel_rfl) (by omega) (kLoadB 10 _ (hP.cell 10)) (kLoadB 10 _ (hQ.cell 10)) (fun _ _ => kNeqB _ _ _ _) o47 o48 o49 o50 o51 o52 o53 o54 (fun a ha => ?_)
  have o55 : Sis 55 (.fieldAddr PT (.tmp 2) 8) (some (54, false)) := ⟨by kernel_rfl, by kernel_rfl, by kernel_rfl⟩
  have o56 : Sis 56 (.load 4 (.tmp 61)) (some (54, false)) := ⟨by kernel_rfl, by kernel_rfl, by kernel_rfl⟩
  have o57 : Sis 57 (.fieldAddr PT (.tmp 3) 8) (some (54, false)) := ⟨by kernel_rfl, by kernel_rfl, by kernel_rfl⟩
  have o58 : Sis 58 (.load 4 (.tmp 63)) (some (54, false)) := ⟨by kernel_rfl, by kernel_rfl, by kernel_rfl⟩
  have o59 : Sis 59 (.binOp .neq 4 (.tmp 62) (.tmp 64) 4) (some (54, false)) := ⟨by kernel_rfl, by kernel_rfl, by kernel_rfl⟩
  have o60 : Sis 60 (.pick (.tmp 60) (.const (.bool true)) (.tmp 65)) (none) := ⟨by kernel_rfl, by kernel_rfl, by kernel_rfl⟩
  have o61 : Sis 61 (.move (.tmp 66)) (none) := ⟨by kernel_rfl, by kernel_rfl, by kernel_rfl⟩
  refine sfield (m := 54) (b := !decide (p.huser = q.huser)) ha 8 11 (fun g W => by kernel_rfl) (by omega) (kLoadB 11 _ (hP.cell 11)) (kLoadB 11 _ (hQ.cell 11)) (fun _ _ => kNeqB _ _ _ _) o54 o55 o56 o57 o58 o59 o60 o61 (fun a ha => ?_)
  have o62 : Sis 62 (.fieldAddr PT (.tmp 2) 9) (some (61, false)) := ⟨by kernel_rfl, by kernel_rfl, by kernel_rfl⟩
  have o63 : Sis 63 (.load 4 (.tmp 68)) (some (61, false)) := ⟨by kernel_rfl, by kernel_rfl, by kernel_rfl⟩
  have o64 : Sis 64 (.fieldAddr PT (.tmp 3) 9) (some (61, false)) := ⟨by kernel_rfl, by kernel_rfl, by kernel_rfl⟩
  have o65 : Sis 65 (.load 4 (.tmp 70)) (some (61, false)) := ⟨by kernel_rfl, by kernel_rfl, by kernel_rfl⟩
  have o66 : Sis 66 (.binOp .neq 4 (.tmp 69) (.tmp 71) 4) (some (61, false)) := ⟨by kernel_rfl, by kernel_rfl, by kernel_rfl⟩
  have o67 : Sis 67 (.pick (.tmp 67) (.const (.bool true)) (.tmp 72)) (none) := ⟨by kernel_rfl, by kernel_rfl, by kernel_rfl⟩
  have o68 : Sis 68 (.move (.tmp 73)) (none) := ⟨by kernel_rfl, by kernel_rfl, by kernel_rfl⟩
  refine sfield (m := 61) (b := !decide (p.hpass = q.hpass)) ha 9 12 (fun g W => by kernel_rfl) (by omega) (kLoadB 12 _ (hP.cell 12)) (kLoadB 12 _ (hQ.cell 12)) (fun _ _ => kNeqB _ _ _ _) o61 o62 o63 o64 o65 o66 o67 o68 (fun a ha => ?_)
  have o69 : Sis 69 (.fieldAddr PT (.tmp 2) 10) (some (68, false)) := ⟨by kernel_rfl, by kernel_rfl, by kernel_rfl⟩
  have o70 : Sis 70 (.load 9 (.tmp 75)) (some (68, false)) := ⟨by kernel_rfl, by kernel_rfl, by kernel_rfl⟩
  have o71 : Sis 71 (.fieldAddr PT (.tmp 3) 10) (some (68, false)) := ⟨by kernel_rfl, by kernel_rfl, by kernel_rfl⟩
  have o72 : Sis 72 (.load 9 (.tmp 77)) (some (68, false)) := ⟨by kernel_rfl, by kernel_rfl, by kernel_rfl⟩
  have o73 : Sis 73 (.binOp .neq 9 (.tmp 76) (.tmp 78) 9) (some (68, false)) := ⟨by kernel_rfl, by kernel_rfl, by kernel_rfl⟩
  have o74 : Sis 74 (.pick (.tmp 74) (.const (.bool true)) (.tmp 79)) (none) := ⟨by kernel_rfl, by kernel_rfl, by kernel_rfl⟩
  have o75 : Sis 75 (.move (.tmp 80)) (none) := ⟨by kernel_rfl, by kernel_rfl, by kernel_rfl⟩
  refine sfield (m := 68) (b := !decide (p.user = q.user)) ha 10 13 (fun g W => by kernel_rfl) (by omega) (kLoadS 13 _ (hP.cell 13)) (kLoadS 13 _ (hQ.cell 13)) (fun _ _ => kNeqS _ _ _ _) o68 o69 o70 o71 o72 o73 o74 o75 (fun a ha => ?_)
  have o76 : Sis 76 (.fieldAddr PT (.tmp 2) 11) (some (75, false)) := ⟨by kernel_rfl, by kernel_rfl, by kernel_rfl⟩
  have o77 : Sis 77 (.load 9 (.tmp 82)) (some (75, false)) := ⟨by kernel_rfl, by kernel_rfl, by kernel_rfl⟩
  have o78 : Sis 78 (.fieldAddr PT (.tmp 3) 11) (some (75, false)) := ⟨by kernel_rfl, by kernel_rfl, by kernel_rfl⟩
  have o79 : Sis 79 (.load 9 (.tmp 84)) (some (75, false)) := ⟨by kernel_rfl, by kernel_rfl, by kernel_rfl⟩
  have o80 : Sis 80 (.binOp .neq 9 (.tmp 83) (.tmp 85) 9) (some (75, false)) := ⟨by kernel_rfl, by kernel_rfl, by kernel_rfl⟩
  have o81 : Sis 81 (.pick (.tmp 81) (.const (.bool true)) (.tmp 86)) (none) := ⟨by kernel_rfl, by kernel_rfl, by kernel_rfl⟩
  have o82 : Sis 82 (.move (.tmp 87)) (none) := ⟨by kernel_rfl, by kernel_rfl, by kernel_rfl⟩
  refine sfield (m := 75) (b := !decide (p.pass = q.pass)) ha 11 14 (fun g W => by kernel_rfl) (by omega) (kLoadS 14 _ (hP.cell 14)) (kLoadS 14 _ (hQ.cell 14)) (fun _ _ => kNeqS _ _ _ _) o75 o76 o77 o78 o79 o80 o81 o82 (fun a ha => ?_)
  have o83 : Sis 83 (.fieldAddr PT (.tmp 2) 12) (some (82, false)) := ⟨by kernel_rfl, by kernel_rfl, by kernel_rfl⟩
  have o84 : Sis 84 (.load 4 (.tmp 89)) (some (82, false)) := ⟨by kernel_rfl, by kernel_rfl, by kernel_rfl⟩
  have o85 : Sis 85 (.fieldAddr PT (.tmp 3) 12) (some (82, false)) := ⟨by kernel_rfl, by kernel_rfl, by kernel_rfl⟩
  have o86 : Sis 86 (.load 4 (.tmp 91)) (some (82, false)) := ⟨by kernel_rfl, by kernel_rfl, by kernel_rfl⟩
  have o87 : Sis 87 (.binOp .neq 4 (.tmp 90) (.tmp 92) 4) (some (82, false)) := ⟨by kernel_rfl, by kernel_rfl, by kernel_rfl⟩
  have o88 : Sis 88 (.pick (.tmp 88) (.const (.bool true)) (.tmp 93)) (none) := ⟨by kernel_rfl, by kernel_rfl, by kernel_rfl⟩
  have o89 : Sis 89 (.move (.tmp 94)) (none) := ⟨by kernel_rfl, by kernel_rfl, by kernel_rfl⟩
  refine sfield (m := 82) (b := !decide (p.present = q.present)) ha 12 15 (fun g W => by kernel_rfl) (by omega) (kLoadB 15 _ (hP.cell 15)) (kLoadB 15 _ (hQ.cell 15)) (fun _ _ => kNeqB _ _ _ _) o82 o83 o84 o85 o86 o87 o88 o89 (fun a ha => ?_)
  have hc : ∀ c : Bool, Si g g2 89 c a → c = true → SW Q 90 a W := by
    intro c ha hc
    subst hc
    have x0 : ∃ op, Sis 90 op (some (89, false)) := ⟨(sop 90).op, rfl, by kernel_rfl, by kernel_rfl⟩
    have x1 : ∃ op, Sis 91 op (some (89, false)) := ⟨(sop 91).op, rfl, by kernel_rfl, by kernel_rfl⟩
    have x2 : ∃ op, Sis 92 op (some (89, false)) := ⟨(sop 92).op, rfl, by kernel_rfl, by kernel_rfl⟩
    have x3 : ∃ op, Sis 93 op (some (89, false)) := ⟨(sop 93).op, rfl, by kernel_rfl, by kernel_rfl⟩
    have x4 : ∃ op, Sis 94 op (some (89, false)) := ⟨(sop 94).op, rfl, by kernel_rfl, by kernel_rfl⟩
    have x5 : ∃ op, Sis 95 op (some (89, false)) := ⟨(sop 95).op, rfl, by kernel_rfl, by kernel_rfl⟩
    have o96 : Sis 96 (.pick (.tmp 95) (.const (.bool true)) (.tmp 101)) (none) := ⟨by kernel_rfl, by kernel_rfl, by kernel_rfl⟩
    have o97 : Sis 97 (.move (.tmp 102)) (none) := ⟨by kernel_rfl, by kernel_rfl, by kernel_rfl⟩
    have y0 : ∃ op, Sis 98 op (some (97, false)) := ⟨(sop 98).op, rfl, by kernel_rfl, by kernel_rfl⟩
    have y1 : ∃ op, Sis 99 op (some (97, false)) := ⟨(sop 99).op, rfl, by kernel_rfl, by kernel_rfl⟩
    have y2 : ∃ op, Sis 100 op (some (97, false)) := ⟨(sop 100).op, rfl, by kernel_rfl, by kernel_rfl⟩
    have y3 : ∃ op, Sis 101 op (some (97, false)) := ⟨(sop 101).op, rfl, by kernel_rfl, by kernel_rfl⟩
    have y4 : ∃ op, Sis 102 op (some (97, false)) := ⟨(sop 102).op, rfl, by kernel_rfl, by kernel_rfl⟩
    have y5 : ∃ op, Sis 103 op (some (97, false)) := ⟨(sop 103).op, rfl, by kernel_rfl, by kernel_rfl⟩
    have y6 : ∃ op, Sis 104 op (some (97, false)) := ⟨(sop 104).op, rfl, by kernel_rfl, by kernel_rfl⟩
    have o105 : Sis 105 (.pick (.tmp 103) (.const (.bool true)) (.tmp 110)) (none) := ⟨by kernel_rfl, by kernel_rfl, by kernel_rfl⟩
    refine sskips (n := 6) ha 90 (by omega) (by omega) o89 (fun i hi => ?_) (fun a ha => ?_)
    · match i, hi with
      | 0, _ => exact x0
      | 1, _ => exact x1
      | 2, _ => exact x2
      | 3, _ => exact x3
      | 4, _ => exact x4
      | 5, _ => exact x5
    refine spick (k := 95) (b := false) ha (by omega) o96 (fun h => absurd h (by decide)) (fun a ha => ?_)
    refine smove (m := 96) ha (by omega) o97 (fun a ha => ?_)
    refine sskips (n := 7) ha 98 (by omega) (by omega) o97 (fun i hi => ?_) (fun a ha => ?_)
    · match i, hi with
      | 0, _ => exact y0
      | 1, _ => exact y1
      | 2, _ => exact y2
      | 3, _ => exact y3
      | 4, _ => exact y4
      | 5, _ => exact y5
      | 6, _ => exact y6
    refine spick (k := 104) (b := false) ha (by omega) o105 (fun h => absurd h (by decide)) (fun a ha => ?_)
    have hdrop : sops.toList.drop 106 = [] := by
      apply List.drop_eq_nil_of_le
      rw [Array.length_toList, ssize]
      exact Nat.le_refl _
    unfold SW
    rw [hdrop]
    exact wpList_nil (hn _ ha)
  refine hc _ ha ?_
  unfold eqP at hne
  simp only [Bool.or_eq_true, Bool.not_eq_true', decide_eq_false_iff_not]
  simp only [Classical.not_and_iff_not_or_not] at hne ⊢
  simp only [or_assoc] at hne ⊢
  exact hne
theorem same_ne (p q : Pkt) (hP : PkAt W g p) (hQ : PkAt W g2 q) (hne : ¬ eqP p q) (ops : Array Oper) (hops : ops = sops) (hsz : a.tmps.size = 130) (hdf : a.defers = []) (h2 : a.eval (.tmp 2) = .pointer (some ⟨g, 0, none⟩)) (h3 : a.eval (.tmp 3) = .pointer (some ⟨g2, 0, none⟩))
    (hn : ∀ a, Si g g2 105 true a → Q .normal a W) : (Code.region 1 ops false).wp Tryd.prog Q a W := by
  subst hops
  exact wp_region_list (sall p q hP hQ hne hsz hdf h2 h3 hn)
end

theorem same_results (W : World) (b : Bool) (tmps : Array Value) (hv : tmps.getD 4 undef = .bool b) : (results Tryd.f37 tmps).run Tryd.prog W = .ok (.bool b) W := by
  simp only [results, Tryd.results37]
  have hv' : tmps[4]?.getD undef = .bool b := by rw [← hv]; simp
  simp [hv']

set_option maxHeartbeats 1000000 in
theorem ints_big (w : World) (A B : Option Addr) (L M : List Int) (c d : Nat) (hL : Reads .i64 w A L) (hM : Reads .i64 w B M) (hbd : (L.length : Int) ≤ 2000000) :
    Calls Tryd.prog 17 #[.slice A L.length c, .slice B M.length d] w fun e w' => e = .returned (.bool (decide (L = M))) ∧ Below w.heap.size w w' := by
  have HL := Lib.hid hL
  have HM := Lib.hid hM
  have HBD := Lib.hid hbd
  clear hL hM hbd
  obtain ⟨q, hq⟩ : ∃ q, Hid (decide (L = M) = q) := ⟨_, rfl⟩
  rw [hq.out]
  by_cases hlen : L.length = M.length
  · have hne : ((L.length : Int) != (M.length : Int)) = false := by simp [hlen]
    obtain ⟨k0, hk0⟩ : ∃ k0, Hid (k0 = M.length) := ⟨_, rfl⟩
    go_enter Tryd.func17, Tryd.ntmps17
    go_wp2_with (fail)
    go_loopw [5] (fun x wr => ∃ k : Nat, k ≤ L.length ∧ x = .int .i64 k ∧ Hid (∀ i, i < k → lat L i = lat M i) ∧ Hid (∃ n, wr = w.drewN n)) (fun x _ => L.length - (intOf x).toNat)
    case atStart => exact ⟨0, Nat.zero_le _, rfl, fun i h => absurd h (by omega), ⟨0, rfl⟩⟩
    case round =>
      obtain ⟨k, hk, rfl, hs, hB⟩ := hrel
      obtain ⟨n, hn⟩ := hB.out
      subst hn
      have hkb : (k : Int) ≤ 2000000 := by have := HBD.out; omega
      by_cases hkl : k < L.length
      · have hkm : k < M.length := by omega
        obtain ⟨x, rfl, hcx⟩ := HL.out (by omega)
        obtain ⟨y, rfl, hcy⟩ := HM.out (by omega)
        have hx := hcx k hkl
        have hy := hcy k hkm
        clear hcx hcy
        by_cases he : lat L k = lat M k
        · have hbe : (lat L k != lat M k) = false := by simp [he]
          have HE := Lib.hid he
          clear he
          go_wp2_with (fail)
          go_quiet (fail)
          go_wp2_with (fail)
          go_roundw
          case rel =>
            refine ⟨k + 1, by omega, by go_num, fun i hi => ?_, ⟨_, rfl⟩⟩
            rcases Nat.lt_or_ge i k with h | h
            · exact hs.out i h
            · have : i = k := by omega
              subst this
              exact HE.out
          case measure => simp [intOf]; omega
        · have hbe : (lat L k != lat M k) = true := by simpa using he
          have hqf : Hid (q = false) := by rw [Hid, ← hq.out]; exact decide_eq_false (fun h : L = M => he (by rw [h]))
          clear he
          go_wp2_with (fail)
          go_quiet (fail)
          go_wp2_with (fail)
          go_ret
          exact ⟨by simp [hqf.out], below_drewN (below_drewN (Below.refl _ _) _) _⟩
      · have hke : Hid (L = M) := Utf.lat_ext hlen (fun i hi => hs.out i (by omega))
        have hqt : Hid (q = true) := by rw [Hid, ← hq.out]; exact decide_eq_true hke.out
        go_wp2_with (fail)
        go_ret
        exact ⟨by simp [hqt.out], below_drewN (Below.refl _ _) _⟩
  · have hqf : Hid (q = false) := by rw [Hid, ← hq.out]; exact decide_eq_false (fun h : L = M => hlen (by rw [h]))
    have hne : ((L.length : Int) != (M.length : Int)) = true := by simp; omega
    have hne' : (L.length != M.length) = true := by simp; omega
    clear hlen
    go_enter Tryd.func17, Tryd.ntmps17
    go_wp2_with (fail)
    go_ret
    exact ⟨by simp [hqf.out], Below.refl _ _⟩
set_option maxRecDepth 100000 in
set_option maxHeartbeats 4000000 in
theorem same_calls (w : World) (p q : Pkt) (C C' : List Int) (D D' : List (ByteArray × Int)) (hp : Lies w p C D) (hq : Lies w q C' D') (hc : (C.length : Int) ≤ 2000000) (hd : (D.length : Int) ≤ 2000000) :
    Calls Tryd.prog 37 #[.agg p.cells, .agg q.cells] w fun e w' => e = .returned (.bool (decide (SameP p q C C' D D'))) ∧ Below w.heap.size w w' := by
  obtain ⟨r, hr⟩ : ∃ r, Hid (decide (SameP p q C C' D D') = r) := ⟨decide (SameP p q C C' D D'), by rw [Hid]⟩
  rw [hr.out]
  have hA := at_box w p
  have hA2 := at_box (w.alloc (.cells p.cells PT)) q
  have HP0 := hA.old hA2.below
  obtain ⟨W, hW⟩ : ∃ W, Hid (W = (w.alloc (.cells p.cells PT)).alloc (.cells q.cells PT)) := ⟨_, rfl⟩
  obtain ⟨g, hg⟩ : ∃ g, Hid (g = w.heap.size) := ⟨_, rfl⟩
  obtain ⟨g2, hg2⟩ : ∃ g2, Hid (g2 = w.heap.size + 1) := ⟨_, rfl⟩
  have HB : Hid (Below w.heap.size w W) := by rw [hW.out]; exact HP0.below
  have HP : Hid (PkAt W g p) := by rw [hW.out, hg.out]; exact HP0.at_
  have hA2' : PkAt ((w.alloc (.cells p.cells PT)).alloc (.cells q.cells PT)) (w.heap.size + 1) q := by
    have h1 := hA2.at_
    have h2 : (w.alloc (.cells p.cells PT)).heap.size = w.heap.size + 1 := by simp
    rw [h2] at h1
    exact h1
  have HQ : Hid (PkAt W g2 q) := by rw [hW.out, hg2.out]; exact hA2'
  have HLP := Lib.hid (hp.keep HB.out)
  have HLQ := Lib.hid (hq.keep HB.out)
  clear hA hA2 hA2' HP0 hp hq
  obtain ⟨Ac, cc, hcs, hCr⟩ := HLP.out.codes
  obtain ⟨Bc, cd, hds, hCr'⟩ := HLQ.out.codes
  obtain ⟨As, sc, hss, hDr⟩ := HLP.out.subs
  obtain ⟨Bs, sd, hts, hDr'⟩ := HLQ.out.subs
  have fin : Hid (∀ W', Below w.heap.size w W' → r = false → (Ending.returned (.bool false) = .returned (.bool r) ∧ Below w.heap.size w W')) := fun W' h e => ⟨by rw [e], h⟩
  by_cases hE : eqP p q
  case neg =>
    have HE := Lib.hid hE
    clear hE hcs hds hss hts hCr hCr' hDr hDr' hc hd
    go_enter Tryd.func37, Tryd.ntmps37
    go_upto_region 1 with (fail)
    rename_i hKont
    rw [← hW.out, ← hg2.out, ← hg.out]
    refine same_ne p q HP.out HQ.out HE.out _ (by kernel_rfl) rfl rfl rfl rfl (fun a ha => hKont _ _ ?_)
    refine wp_cond_true ha.it (wp_seq (wp_region_lit (st_val (.bool false) (wanted_free rfl) (by rfl) (wpList_nil (wp_ret ?_)))))
    have e4 : (a.put (some 4) (.bool false)).tmps.getD 4 undef = .bool false := put_same a 4 _ (by rw [ha.size]; omega)
    exact ⟨ha.defs, _, same_results W false _ e4, fin.out _ HB.out (by rw [← hr.out]; exact decide_eq_false (fun h => HE.out ((eqP_iff p q).2 h.1)))⟩
  case pos =>
  have HI := Lib.hid (ints_big W Ac Bc C C' cc cd hCr hCr' hc)
  have HD := Lib.hid hDr
  have HD' := Lib.hid hDr'
  have HE := Lib.hid hE
  obtain ⟨h0, h1, h2, h3, h4, h5, h6, h7, h8, h9, h10, h11, h12⟩ := hE
  have k0 : W.cell? ⟨g, 0, none⟩ = some (.int .i64 q.ty) := by have := HP.out.cell 0; rw [← h0]; exact this
  have m0 : W.cell? ⟨g2, 0, none⟩ = some (.int .i64 q.ty) := HQ.out.cell 0
  have k1 : W.cell? ⟨g, 1, none⟩ = some (.bool q.dup) := by have := HP.out.cell 1; rw [← h1]; exact this
  have m1 : W.cell? ⟨g2, 1, none⟩ = some (.bool q.dup) := HQ.out.cell 1
  have k2 : W.cell? ⟨g, 2, none⟩ = some (.int .i64 q.id) := by have := HP.out.cell 2; rw [← h2]; exact this
  have m2 : W.cell? ⟨g2, 2, none⟩ = some (.int .i64 q.id) := HQ.out.cell 2
  have k3 : W.cell? ⟨g, 3, none⟩ = some (.string q.topic) := by have := HP.out.cell 3; rw [← h3.1]; exact this
  have m3 : W.cell? ⟨g2, 3, none⟩ = some (.string q.topic) := HQ.out.cell 3
  have k4 : W.cell? ⟨g, 4, none⟩ = some (.string q.payload) := by have := HP.out.cell 4; rw [← h3.2.1]; exact this
  have m4 : W.cell? ⟨g2, 4, none⟩ = some (.string q.payload) := HQ.out.cell 4
  have k5 : W.cell? ⟨g, 5, none⟩ = some (.int .i64 q.qos) := by have := HP.out.cell 5; rw [← h3.2.2.1]; exact this
  have m5 : W.cell? ⟨g2, 5, none⟩ = some (.int .i64 q.qos) := HQ.out.cell 5
  have k6 : W.cell? ⟨g, 6, none⟩ = some (.bool q.retain) := by have := HP.out.cell 6; rw [← h3.2.2.2]; exact this
  have m6 : W.cell? ⟨g2, 6, none⟩ = some (.bool q.retain) := HQ.out.cell 6
  have k7 : W.cell? ⟨g, 7, none⟩ = some (.string q.client) := by have := HP.out.cell 7; rw [← h4]; exact this
  have m7 : W.cell? ⟨g2, 7, none⟩ = some (.string q.client) := HQ.out.cell 7
  have k8 : W.cell? ⟨g, 8, none⟩ = some (.bool q.clean) := by have := HP.out.cell 8; rw [← h5]; exact this
  have m8 : W.cell? ⟨g2, 8, none⟩ = some (.bool q.clean) := HQ.out.cell 8
  have k9 : W.cell? ⟨g, 9, none⟩ = some (.int .i64 q.alive) := by have := HP.out.cell 9; rw [← h6]; exact this
  have m9 : W.cell? ⟨g2, 9, none⟩ = some (.int .i64 q.alive) := HQ.out.cell 9
  have k10 : W.cell? ⟨g, 10, none⟩ = some (.bool q.will) := by have := HP.out.cell 10; rw [← h7]; exact this
  have m10 : W.cell? ⟨g2, 10, none⟩ = some (.bool q.will) := HQ.out.cell 10
  have k11 : W.cell? ⟨g, 11, none⟩ = some (.bool q.huser) := by have := HP.out.cell 11; rw [← h8]; exact this
  have m11 : W.cell? ⟨g2, 11, none⟩ = some (.bool q.huser) := HQ.out.cell 11
  have k12 : W.cell? ⟨g, 12, none⟩ = some (.bool q.hpass) := by have := HP.out.cell 12; rw [← h9]; exact this
  have m12 : W.cell? ⟨g2, 12, none⟩ = some (.bool q.hpass) := HQ.out.cell 12
  have k13 : W.cell? ⟨g, 13, none⟩ = some (.string q.user) := by have := HP.out.cell 13; rw [← h10]; exact this
  have m13 : W.cell? ⟨g2, 13, none⟩ = some (.string q.user) := HQ.out.cell 13
  have k14 : W.cell? ⟨g, 14, none⟩ = some (.string q.pass) := by have := HP.out.cell 14; rw [← h11]; exact this
  have m14 : W.cell? ⟨g2, 14, none⟩ = some (.string q.pass) := HQ.out.cell 14
  have k15 : W.cell? ⟨g, 15, none⟩ = some (.bool q.present) := by have := HP.out.cell 15; rw [← h12]; exact this
  have m15 : W.cell? ⟨g2, 15, none⟩ = some (.bool q.present) := HQ.out.cell 15
  have k16 : W.cell? ⟨g, 16, none⟩ = some (.slice Ac C.length cc) := by rw [← hcs]; exact HP.out.cell 16
  have m16 : W.cell? ⟨g2, 16, none⟩ = some (.slice Bc C'.length cd) := by rw [← hds]; exact HQ.out.cell 16
  have k17 : W.cell? ⟨g, 17, none⟩ = some (.slice As D.length sc) := by rw [← hss]; exact HP.out.cell 17
  have m17 : W.cell? ⟨g2, 17, none⟩ = some (.slice Bs D'.length sd) := by rw [← hts]; exact HQ.out.cell 17
  clear hcs hds hss hts hCr hCr' hDr hDr' hc h0 h1 h2 h3 h4 h5 h6 h7 h8 h9 h10 h11 h12
  go_enter Tryd.func37, Tryd.ntmps37
  go_upto_region 1 with (fail)
  rw [← hW.out, ← hg2.out, ← hg.out]
  go_wp2_with (fail)
  refine HI.out.mono ?_
  rintro e w2 ⟨rfl, hb2⟩
  have HB2 : Hid (Below w.heap.size w w2) := HB.out.trans (hb2.mono HB.out.size)
  have HD2 : Hid (ReadsSub w2 As D) := HD.out.keep hb2
  have HD2' : Hid (ReadsSub w2 Bs D') := HD'.out.keep hb2
  have n17 : w2.cell? ⟨g, 17, none⟩ = some (.slice As D.length sc) := (Turn.of_below (S := fun _ => False) hb2).cell k17 (fun h => h)
  have n17' : w2.cell? ⟨g2, 17, none⟩ = some (.slice Bs D'.length sd) := (Turn.of_below (S := fun _ => False) hb2).cell m17 (fun h => h)
  clear hb2 k0 k1 k2 k3 k4 k5 k6 k7 k8 k9 k10 k11 k12 k13 k14 k15 k16 k17 m0 m1 m2 m3 m4 m5 m6 m7 m8 m9 m10 m11 m12 m13 m14 m15 m16 m17 HD HD' HI
  by_cases hC : C = C'
  case neg =>
    have HC := Lib.hid hC
    have hdC : decide (C = C') = false := decide_eq_false hC
    clear hC
    go_wp2_with (fail)
    go_ret
    exact fin.out _ HB2.out (by rw [← hr.out]; exact decide_eq_false (fun h => HC.out h.2.1))
  have HC := Lib.hid hC
  have hdC : decide (C = C') = true := decide_eq_true hC
  clear hC
  by_cases hl : D.length = D'.length
  case neg =>
    have HL := Lib.hid hl
    have hne : ((D.length : Int) != (D'.length : Int)) = true := bne_iff_ne.2 (by omega)
    clear hl
    go_wp2_with (fail)
    go_ret
    exact fin.out _ HB2.out (by rw [← hr.out]; exact decide_eq_false (fun h => HL.out (by rw [h.2.2])))
  have HL := Lib.hid hl
  have hne : ((D.length : Int) != (D'.length : Int)) = false := by rw [hl]; simp
  obtain ⟨k0, hk0⟩ : ∃ k0, Hid (k0 = D'.length) := ⟨_, rfl⟩
  clear hl
  go_wp2_with (fail)
  clear hne hdC
  go_loopw [5] (fun x wr => ∃ k : Nat, k ≤ D.length ∧ x = .int .i64 k ∧ Hid (∀ i (h : i < D.length) (h' : i < D'.length), i < k → D[i] = D'[i]) ∧ Hid (∃ n, wr = w2.drewN n)) (fun x _ => D.length - (intOf x).toNat)
  case atStart => exact ⟨0, Nat.zero_le _, rfl, fun i _ _ h => absurd h (by omega), ⟨0, rfl⟩⟩
  case round =>
    obtain ⟨k, hk, rfl, hs, hB⟩ := hrel
    obtain ⟨n, hn⟩ := hB.out
    subst hn
    have hkb : (k : Int) ≤ 2000000 := by omega
    by_cases hkl : k < D.length
    · have hkm : k < D'.length := by have := HL.out; omega
      obtain ⟨x, rfl, hcx⟩ := HD2.out (by omega)
      obtain ⟨y, rfl, hcy⟩ := HD2'.out (by omega)
      obtain ⟨hx0, hx1⟩ := hcx k hkl
      obtain ⟨hy0, hy1⟩ := hcy k hkm
      rw [Nat.mul_comm] at hx0 hx1 hy0 hy1
      obtain ⟨s, hs1⟩ : ∃ s, Hid (s = D[k].1) := ⟨D[k].1, by rw [Hid]⟩
      obtain ⟨m, hm1⟩ : ∃ m, Hid (m = D[k].2) := ⟨D[k].2, by rw [Hid]⟩
      obtain ⟨s', hs2⟩ : ∃ s, Hid (s = D'[k].1) := ⟨D'[k].1, by rw [Hid]⟩
      obtain ⟨m', hm2⟩ : ∃ m, Hid (m = D'[k].2) := ⟨D'[k].2, by rw [Hid]⟩
      rw [← hs1.out] at hx0
      rw [← hm1.out] at hx1
      rw [← hs2.out] at hy0
      rw [← hm2.out] at hy1
      have hx1' : w2.cell? ((x.add (k * 2)).add 1) = some (.int .i64 m) := by rw [add_add]; exact hx1
      have hy1' : w2.cell? ((y.add (k * 2)).add 1) = some (.int .i64 m') := by rw [add_add]; exact hy1
      clear hcx hcy
      by_cases he : s = s' ∧ m = m'
      · have HE2 : Hid (D[k] = D'[k]) := Prod.ext (by rw [← hs1.out, ← hs2.out]; exact he.1) (by rw [← hm1.out, ← hm2.out]; exact he.2)
        obtain ⟨rfl, rfl⟩ := he
        go_wp2_with (fail)
        have HK : Hid (∀ W', Turn (fun _ => False) w2 W' → (fun W' => W'.cell? ⟨g, 17, none⟩ = some (.slice (some x) D.length sc) ∧ W'.cell? ⟨g2, 17, none⟩ = some (.slice (some y) D'.length sd) ∧ W'.cell? (x.add (k * 2)) = some (.string s) ∧ W'.cell? ((x.add (k * 2)).add 1) = some (.int .i64 m) ∧ W'.cell? (y.add (k * 2)) = some (.string s) ∧ W'.cell? ((y.add (k * 2)).add 1) = some (.int .i64 m)) W') := Lib.hid fun W' t => ⟨t.cell n17 (fun h => h), t.cell n17' (fun h => h), t.cell hx0 (fun h => h), t.cell hx1' (fun h => h), t.cell hy0 (fun h => h), t.cell hy1' (fun h => h)⟩
        refine wp_region_held_drew (S := (fun W' => W'.cell? ⟨g, 17, none⟩ = some (.slice (some x) D.length sc) ∧ W'.cell? ⟨g2, 17, none⟩ = some (.slice (some y) D'.length sd) ∧ W'.cell? (x.add (k * 2)) = some (.string s) ∧ W'.cell? ((x.add (k * 2)).add 1) = some (.int .i64 m) ∧ W'.cell? (y.add (k * 2)) = some (.string s) ∧ W'.cell? ((y.add (k * 2)).add 1) = some (.int .i64 m))) (by kernel_rfl) (by exact HK.out _ (Turn.drew (Turn.drewN (Turn.refl _ _) _))) (fun hHeld => ?_)
        refine wpAnyH_take (i := 0) (oi := ⟨_, _, _, _, _, _⟩) (v := ?_) rfl (by kernel_rfl) (by kernel_rfl) (by kernel_rfl) (fun _ _ _ h => h) (Or.inl ⟨by kernel_rfl, ?_⟩) hHeld ?_
        rotate_left
        · (intro w hSw; obtain ⟨s1, s2, s3, s4, s5, s6⟩ := hSw; go_simp; try with_reducible rfl)
        simp only [Act.put, List.setIfInBounds_toArray, List.set_cons_zero, List.set_cons_succ]
        refine wpAnyH_take (i := 1) (oi := ⟨_, _, _, _, _, _⟩) (v := ?_) rfl (by kernel_rfl) (by kernel_rfl) (by kernel_rfl) (fun _ _ _ h => h) (Or.inl ⟨by kernel_rfl, ?_⟩) hHeld ?_
        rotate_left
        · (intro w hSw; obtain ⟨s1, s2, s3, s4, s5, s6⟩ := hSw; go_simp; try with_reducible rfl)
        simp only [Act.put, List.setIfInBounds_toArray, List.set_cons_zero, List.set_cons_succ]
        refine wpAnyH_take (i := 2) (oi := ⟨_, _, _, _, _, _⟩) (v := ?_) rfl (by kernel_rfl) (by kernel_rfl) (by kernel_rfl) (fun _ _ _ h => h) (Or.inl ⟨by kernel_rfl, ?_⟩) hHeld ?_
        rotate_left
        · (intro w hSw; obtain ⟨s1, s2, s3, s4, s5, s6⟩ := hSw; go_simp; try with_reducible rfl)
        simp only [Act.put, List.setIfInBounds_toArray, List.set_cons_zero, List.set_cons_succ]
        refine wpAnyH_take (i := 3) (oi := ⟨_, _, _, _, _, _⟩) (v := ?_) rfl (by kernel_rfl) (by kernel_rfl) (by kernel_rfl) (fun _ _ _ h => h) (Or.inl ⟨by kernel_rfl, ?_⟩) hHeld ?_
        rotate_left
        · (intro w hSw; obtain ⟨s1, s2, s3, s4, s5, s6⟩ := hSw; go_simp; try with_reducible rfl)
        simp only [Act.put, List.setIfInBounds_toArray, List.set_cons_zero, List.set_cons_succ]
        refine wpAnyH_take (i := 4) (oi := ⟨_, _, _, _, _, _⟩) (v := .agg #[.string s, .int .i64 m]) rfl (by kernel_rfl) (by kernel_rfl) (by kernel_rfl) (fun _ _ _ h => h) (Or.inl ⟨by kernel_rfl, ?_⟩) hHeld ?_
        · (intro w hSw; obtain ⟨s1, s2, s3, s4, s5, s6⟩ := hSw; exact rLoad rfl (by exact kLoadSub s3 s4))
        simp only [Act.put, List.setIfInBounds_toArray, List.set_cons_zero, List.set_cons_succ]
        refine wpAnyH_take (i := 5) (oi := ⟨_, _, _, _, _, _⟩) (v := ?_) rfl (by kernel_rfl) (by kernel_rfl) (by kernel_rfl) (fun _ _ _ h => h) (Or.inl ⟨by kernel_rfl, ?_⟩) hHeld ?_
        rotate_left
        · (intro w hSw; obtain ⟨s1, s2, s3, s4, s5, s6⟩ := hSw; go_simp; try with_reducible rfl)
        simp only [Act.put, List.setIfInBounds_toArray, List.set_cons_zero, List.set_cons_succ]
        refine wpAnyH_take (i := 6) (oi := ⟨_, _, _, _, _, _⟩) (v := ?_) rfl (by kernel_rfl) (by kernel_rfl) (by kernel_rfl) (fun _ _ _ h => h) (Or.inl ⟨by kernel_rfl, ?_⟩) hHeld ?_
        rotate_left
        · (intro w hSw; obtain ⟨s1, s2, s3, s4, s5, s6⟩ := hSw; go_simp; try with_reducible rfl)
        simp only [Act.put, List.setIfInBounds_toArray, List.set_cons_zero, List.set_cons_succ]
        refine wpAnyH_take (i := 7) (oi := ⟨_, _, _, _, _, _⟩) (v := ?_) rfl (by kernel_rfl) (by kernel_rfl) (by kernel_rfl) (fun _ _ _ h => h) (Or.inl ⟨by kernel_rfl, ?_⟩) hHeld ?_
        rotate_left
        · (intro w hSw; obtain ⟨s1, s2, s3, s4, s5, s6⟩ := hSw; go_simp; try with_reducible rfl)
        simp only [Act.put, List.setIfInBounds_toArray, List.set_cons_zero, List.set_cons_succ]
        refine wpAnyH_take (i := 8) (oi := ⟨_, _, _, _, _, _⟩) (v := ?_) rfl (by kernel_rfl) (by kernel_rfl) (by kernel_rfl) (fun _ _ _ h => h) (Or.inl ⟨by kernel_rfl, ?_⟩) hHeld ?_
        rotate_left
        · (intro w hSw; obtain ⟨s1, s2, s3, s4, s5, s6⟩ := hSw; go_simp; try with_reducible rfl)
        simp only [Act.put, List.setIfInBounds_toArray, List.set_cons_zero, List.set_cons_succ]
        refine wpAnyH_take (i := 9) (oi := ⟨_, _, _, _, _, _⟩) (v := .agg #[.string s, .int .i64 m]) rfl (by kernel_rfl) (by kernel_rfl) (by kernel_rfl) (fun _ _ _ h => h) (Or.inl ⟨by kernel_rfl, ?_⟩) hHeld ?_
        · (intro w hSw; obtain ⟨s1, s2, s3, s4, s5, s6⟩ := hSw; exact rLoad rfl (by exact kLoadSub s5 s6))
        simp only [Act.put, List.setIfInBounds_toArray, List.set_cons_zero, List.set_cons_succ]
        refine wpAnyH_take (i := 10) (oi := ⟨_, _, _, _, _, _⟩) (v := .bool false) rfl (by kernel_rfl) (by kernel_rfl) (by kernel_rfl) (fun _ _ _ h => h) (Or.inl ⟨by kernel_rfl, ?_⟩) hHeld ?_
        · (intro w hSw; obtain ⟨s1, s2, s3, s4, s5, s6⟩ := hSw; exact rBin rfl ((kNeqU _ _ _ _ _ _).trans (by first | (rw [hde]; rfl) | simp)))
        simp only [Act.put, List.setIfInBounds_toArray, List.set_cons_zero, List.set_cons_succ]
        refine wpAnyH_done (by kernel_rfl) ?_ _
        go_wp2_with (fail)
        go_roundw
        case rel =>
          refine ⟨k + 1, by omega, by go_num, fun i h h' hi => ?_, ⟨_, rfl⟩⟩
          rcases Nat.lt_or_ge i k with hlt | hge
          · exact hs.out i h h' hlt
          · have : i = k := by omega
            subst this
            exact HE2.out
        case measure => simp [intOf]; omega
      · have HE2 : Hid (¬ D[k] = D'[k]) := fun e => he ⟨by rw [hs1.out, hs2.out, e], by rw [hm1.out, hm2.out, e]⟩
        have hde : decide (s = s' ∧ m = m') = false := decide_eq_false he
        clear he
        go_wp2_with (fail)
        have HK : Hid (∀ W', Turn (fun _ => False) w2 W' → (fun W' => W'.cell? ⟨g, 17, none⟩ = some (.slice (some x) D.length sc) ∧ W'.cell? ⟨g2, 17, none⟩ = some (.slice (some y) D'.length sd) ∧ W'.cell? (x.add (k * 2)) = some (.string s) ∧ W'.cell? ((x.add (k * 2)).add 1) = some (.int .i64 m) ∧ W'.cell? (y.add (k * 2)) = some (.string s') ∧ W'.cell? ((y.add (k * 2)).add 1) = some (.int .i64 m')) W') := Lib.hid fun W' t => ⟨t.cell n17 (fun h => h), t.cell n17' (fun h => h), t.cell hx0 (fun h => h), t.cell hx1' (fun h => h), t.cell hy0 (fun h => h), t.cell hy1' (fun h => h)⟩
        refine wp_region_held_drew (S := (fun W' => W'.cell? ⟨g, 17, none⟩ = some (.slice (some x) D.length sc) ∧ W'.cell? ⟨g2, 17, none⟩ = some (.slice (some y) D'.length sd) ∧ W'.cell? (x.add (k * 2)) = some (.string s) ∧ W'.cell? ((x.add (k * 2)).add 1) = some (.int .i64 m) ∧ W'.cell? (y.add (k * 2)) = some (.string s') ∧ W'.cell? ((y.add (k * 2)).add 1) = some (.int .i64 m'))) (by kernel_rfl) (by exact HK.out _ (Turn.drew (Turn.drewN (Turn.refl _ _) _))) (fun hHeld => ?_)
        refine wpAnyH_take (i := 0) (oi := ⟨_, _, _, _, _, _⟩) (v := ?_) rfl (by kernel_rfl) (by kernel_rfl) (by kernel_rfl) (fun _ _ _ h => h) (Or.inl ⟨by kernel_rfl, ?_⟩) hHeld ?_
        rotate_left
        · (intro w hSw; obtain ⟨s1, s2, s3, s4, s5, s6⟩ := hSw; go_simp; try with_reducible rfl)
        simp only [Act.put, List.setIfInBounds_toArray, List.set_cons_zero, List.set_cons_succ]
        refine wpAnyH_take (i := 1) (oi := ⟨_, _, _, _, _, _⟩) (v := ?_) rfl (by kernel_rfl) (by kernel_rfl) (by kernel_rfl) (fun _ _ _ h => h) (Or.inl ⟨by kernel_rfl, ?_⟩) hHeld ?_
        rotate_left
        · (intro w hSw; obtain ⟨s1, s2, s3, s4, s5, s6⟩ := hSw; go_simp; try with_reducible rfl)
        simp only [Act.put, List.setIfInBounds_toArray, List.set_cons_zero, List.set_cons_succ]
        refine wpAnyH_take (i := 2) (oi := ⟨_, _, _, _, _, _⟩) (v := ?_) rfl (by kernel_rfl) (by kernel_rfl) (by kernel_rfl) (fun _ _ _ h => h) (Or.inl ⟨by kernel_rfl, ?_⟩) hHeld ?_
        rotate_left
        · (intro w hSw; obtain ⟨s1, s2, s3, s4, s5, s6⟩ := hSw; go_simp; try with_reducible rfl)
        simp only [Act.put, List.setIfInBounds_toArray, List.set_cons_zero, List.set_cons_succ]
        refine wpAnyH_take (i := 3) (oi := ⟨_, _, _, _, _, _⟩) (v := ?_) rfl (by kernel_rfl) (by kernel_rfl) (by kernel_rfl) (fun _ _ _ h => h) (Or.inl ⟨by kernel_rfl, ?_⟩) hHeld ?_
        rotate_left
        · (intro w hSw; obtain ⟨s1, s2, s3, s4, s5, s6⟩ := hSw; go_simp; try with_reducible rfl)
        simp only [Act.put, List.setIfInBounds_toArray, List.set_cons_zero, List.set_cons_succ]
        refine wpAnyH_take (i := 4) (oi := ⟨_, _, _, _, _, _⟩) (v := .agg #[.string s, .int .i64 m]) rfl (by kernel_rfl) (by kernel_rfl) (by kernel_rfl) (fun _ _ _ h => h) (Or.inl ⟨by kernel_rfl, ?_⟩) hHeld ?_
        · (intro w hSw; obtain ⟨s1, s2, s3, s4, s5, s6⟩ := hSw; exact rLoad rfl (by exact kLoadSub s3 s4))
        simp only [Act.put, List.setIfInBounds_toArray, List.set_cons_zero, List.set_cons_succ]
        refine wpAnyH_take (i := 5) (oi := ⟨_, _, _, _, _, _⟩) (v := ?_) rfl (by kernel_rfl) (by kernel_rfl) (by kernel_rfl) (fun _ _ _ h => h) (Or.inl ⟨by kernel_rfl, ?_⟩) hHeld ?_
        rotate_left
        · (intro w hSw; obtain ⟨s1, s2, s3, s4, s5, s6⟩ := hSw; go_simp; try with_reducible rfl)
        simp only [Act.put, List.setIfInBounds_toArray, List.set_cons_zero, List.set_cons_succ]
        refine wpAnyH_take (i := 6) (oi := ⟨_, _, _, _, _, _⟩) (v := ?_) rfl (by kernel_rfl) (by kernel_rfl) (by kernel_rfl) (fun _ _ _ h => h) (Or.inl ⟨by kernel_rfl, ?_⟩) hHeld ?_
        rotate_left
        · (intro w hSw; obtain ⟨s1, s2, s3, s4, s5, s6⟩ := hSw; go_simp; try with_reducible rfl)
        simp only [Act.put, List.setIfInBounds_toArray, List.set_cons_zero, List.set_cons_succ]
        refine wpAnyH_take (i := 7) (oi := ⟨_, _, _, _, _, _⟩) (v := ?_) rfl (by kernel_rfl) (by kernel_rfl) (by kernel_rfl) (fun _ _ _ h => h) (Or.inl ⟨by kernel_rfl, ?_⟩) hHeld ?_
        rotate_left
        · (intro w hSw; obtain ⟨s1, s2, s3, s4, s5, s6⟩ := hSw; go_simp; try with_reducible rfl)
        simp only [Act.put, List.setIfInBounds_toArray, List.set_cons_zero, List.set_cons_succ]
        refine wpAnyH_take (i := 8) (oi := ⟨_, _, _, _, _, _⟩) (v := ?_) rfl (by kernel_rfl) (by kernel_rfl) (by kernel_rfl) (fun _ _ _ h => h) (Or.inl ⟨by kernel_rfl, ?_⟩) hHeld ?_
        rotate_left
        · (intro w hSw; obtain ⟨s1, s2, s3, s4, s5, s6⟩ := hSw; go_simp; try with_reducible rfl)
        simp only [Act.put, List.setIfInBounds_toArray, List.set_cons_zero, List.set_cons_succ]
        refine wpAnyH_take (i := 9) (oi := ⟨_, _, _, _, _, _⟩) (v := .agg #[.string s', .int .i64 m']) rfl (by kernel_rfl) (by kernel_rfl) (by kernel_rfl) (fun _ _ _ h => h) (Or.inl ⟨by kernel_rfl, ?_⟩) hHeld ?_
        · (intro w hSw; obtain ⟨s1, s2, s3, s4, s5, s6⟩ := hSw; exact rLoad rfl (by exact kLoadSub s5 s6))
        simp only [Act.put, List.setIfInBounds_toArray, List.set_cons_zero, List.set_cons_succ]
        refine wpAnyH_take (i := 10) (oi := ⟨_, _, _, _, _, _⟩) (v := .bool true) rfl (by kernel_rfl) (by kernel_rfl) (by kernel_rfl) (fun _ _ _ h => h) (Or.inl ⟨by kernel_rfl, ?_⟩) hHeld ?_
        · (intro w hSw; obtain ⟨s1, s2, s3, s4, s5, s6⟩ := hSw; exact rBin rfl ((kNeqU _ _ _ _ _ _).trans (by first | (rw [hde]; rfl) | simp)))
        simp only [Act.put, List.setIfInBounds_toArray, List.set_cons_zero, List.set_cons_succ]
        refine wpAnyH_done (by kernel_rfl) ?_ _
        go_wp2_with (fail)
        go_ret
        exact fin.out _ (below_drewN HB2.out _) (by rw [← hr.out]; exact decide_eq_false (fun h => HE2.out (by simp only [h.2.2])))
    · go_wp2_with (fail)
      go_ret
      refine ⟨?_, below_drewN HB2.out _⟩
      have hS : SameP p q C C' D D' := ⟨(eqP_iff p q).1 HE.out, HC.out, List.ext_getElem HL.out (fun i h h' => hs.out i h h' (by omega))⟩
      rw [← hr.out, decide_eq_true hS]
      rfl
end Pk
end Go.Proofs.YtonemmdipmohgaaDoor

/- The reference: used. -/
import Derived.Test.YtonemmdipmohgaaDoorRfG
import Derived.Deep.MidRow
namespace Go.Proofs.YtonemmdipmohgaaDoor
open Go.RowKit Go.ChangeShapes
set_option linter.unusedVariables false
set_option linter.unusedSimpArgs false
namespace Ref
open Utf (nums nums_length nums_bytes IsStr nums_str)
open Var (BT info_byte GivesBytes digs digs_length)
open Pk

/-- A packet with the fields that its type has a use for, and no others. -/
def usedP (p : Pkt) : Pkt :=
  if p.ty = 1 then { typeP 1 with client := p.client, clean := p.clean, alive := p.alive, will := p.will, topic := if p.will then p.topic else ⟨#[]⟩, payload := if p.will then p.payload else ⟨#[]⟩, qos := if p.will then p.qos else 0, retain := if p.will then p.retain else false, huser := p.huser, user := if p.huser then p.user else ⟨#[]⟩, hpass := p.hpass, pass := if p.hpass then p.pass else ⟨#[]⟩ }
  else if p.ty = 2 then { typeP 2 with present := p.present, codes := p.codes }
  else if p.ty = 3 then { typeP 3 with topic := p.topic, payload := p.payload, qos := p.qos, retain := p.retain, id := p.id, dup := p.dup }
  else if p.ty = 4 ∨ p.ty = 5 ∨ p.ty = 6 ∨ p.ty = 7 ∨ p.ty = 11 then { typeP p.ty with id := p.id }
  else if p.ty = 8 ∨ p.ty = 10 then { typeP p.ty with id := p.id, subs := p.subs }
  else if p.ty = 9 then { typeP 9 with id := p.id, codes := p.codes }
  else typeP p.ty

theorem store_one (W : World) (g k : Nat) (v : Value) (T : TypeId) (q : Pkt) (h : PkAt W g q) (hk : k < 18) (h2 : (sizeOf T).run Tryd.prog W = .ok 1 W) (hv : v.oneCell' = true) : (Instr.storeAt T (.pointer (some ⟨g, k, none⟩)) v).run Tryd.prog W = .ok () (W.setCell ⟨g, k, none⟩ v) := by
  have hf := h.frozen k
  have hc : ∃ c, W.cell? ⟨g, k, none⟩ = some c := by
    rw [h.cell k]
    have : k < q.cells.size := hk
    exact ⟨_, Array.getElem?_eq_getElem this⟩
  obtain ⟨c, hc⟩ := hc
  have hv1 : v.cells = #[v] := by cases v <;> first | rfl | simp [Value.oneCell'] at hv
  simp [Instr.storeAt, Instr.sureAddr, storeVar, Sem.run_bind, h2, hv1, storeCells, run_store _ _ _ v _ hv, hc, hf, Addr.add, Result.andThen]
theorem store_msg (W : World) (g : Nat) (p q : Pkt) (h : PkAt W g q) : (Instr.storeAt 28 (.pointer (some ⟨g, 3, none⟩)) (.agg #[.string p.topic, .string p.payload, .int .i64 p.qos, .bool p.retain])).run Tryd.prog W = .ok () ((((W.setCell ⟨g, 3, none⟩ (.string p.topic)).setCell ⟨g, 4, none⟩ (.string p.payload)).setCell ⟨g, 5, none⟩ (.int .i64 p.qos)).setCell ⟨g, 6, none⟩ (.bool p.retain)) :=
  run_storeAt_mid W g 3 28 #[.string p.topic, .string p.payload, .int .i64 p.qos, .bool p.retain] (fun j hj => by
    have hj' : j < 4 := hj
    refine ⟨?_, h.frozen _⟩
    rw [h.cell]
    have : 3 + j < q.cells.size := by show 3 + j < 18; omega
    rw [Array.getElem?_eq_getElem this]; rfl) (by kernel_rfl) (by simp [Value.oneCell'])
theorem rStore1 {ev : Operand → Value} {o : Oper} {W W' : World} {T : TypeId} {x y : Operand} (ho : o.op = .store T x y) (hk : (Instr.storeAt T (ev x) (ev y)).run Tryd.prog W = .ok () W') : (execOp ev o).run Tryd.prog W = .ok .skip W' := by
  unfold execOp
  rw [ho]
  show ((Instr.storeAt T (ev x) (ev y)) >>= fun _ => pure Next.skip).run Tryd.prog W = _
  rw [Sem.run_bind, hk]; rfl
/-- The packets of used: the given one in block g, the answer in v, what is made up so far in u. -/
structure Us (w W : World) (g v u : Nat) (p q : Pkt) : Prop where
  at_ : PkAt W g p
  res : PkAt W v zeroP
  cur : PkAt W u q
  below : Below w.heap.size w W
  gv : v = g + 1
  gu : u = g + 2
  gw : g = w.heap.size
theorem Us.set {w W : World} {g v u : Nat} {p q : Pkt} (h : Us w W g v u p q) (i : Nat) (x : Value) (q' : Pkt) (hq : q.cells.setIfInBounds i x = q'.cells) : Us w (W.setCell ⟨u, i, none⟩ x) g v u p q' := by
  have t : Turn (fun k => k = u) W (W.setCell ⟨u, i, none⟩ x) := Turn.setCell W x rfl
  have h1 := h.gv
  have h2 := h.gu
  have h3 := h.gw
  have h4 := h.below.size
  exact ⟨h.at_.keep t (by omega), h.res.keep t (by omega), h.cur.set i x q' hq, h.below.trans (t.toBelow h4 (fun k hk e => by omega)), h1, h2, h3⟩
/-- One cell stored. -/
theorem wp_store1 {ops : Array Oper} {rest : List Oper} {o : Oper} {a : Act} {w W : World} {Q : Exit → Act → World → Prop} {x y : Operand} {g v u i : Nat} {T : TypeId} {p q : Pkt} (z : Value) (q' : Pkt) (hgd : o.guard = none) (ho : o.op = .store T x y) (hx : a.eval x = .pointer (some ⟨u, i, none⟩)) (hy : a.eval y = z) (h : Us w W g v u p q) (hi : i < 18) (h2 : ∀ W, (sizeOf T).run Tryd.prog W = .ok 1 W) (hz : z.oneCell' = true) (hq : q.cells.setIfInBounds i z = q'.cells)
    (hK : ∀ W', Hid (Us w W' g v u p q') → wpList Tryd.prog ops Q rest (a.put o.dst undef) W') : wpList Tryd.prog ops Q (o :: rest) a W := by
  refine BigFrame.wpList_want (wanted_free hgd) (fun K hK' => ?_)
  unfold Oper.wp
  rw [rStore1 ho (by rw [hx, hy]; exact store_one W u i z T q h.cur hi (h2 W) hz), Oper.upon_skip]
  exact hK' _ _ (hK _ (h.set i z q' hq))
theorem wp_storeM {ops : Array Oper} {rest : List Oper} {o : Oper} {a : Act} {w W : World} {Q : Exit → Act → World → Prop} {x y : Operand} {g v u : Nat} {p q : Pkt} (q' : Pkt) (hgd : o.guard = none) (ho : o.op = .store 28 x y) (hx : a.eval x = .pointer (some ⟨u, 3, none⟩)) (hy : a.eval y = .agg #[.string p.topic, .string p.payload, .int .i64 p.qos, .bool p.retain]) (h : Us w W g v u p q) (hq : q' = { q with topic := p.topic, payload := p.payload, qos := p.qos, retain := p.retain })
    (hK : ∀ W', Hid (Us w W' g v u p q') → wpList Tryd.prog ops Q rest (a.put o.dst undef) W') : wpList Tryd.prog ops Q (o :: rest) a W := by
  refine BigFrame.wpList_want (wanted_free hgd) (fun K hK' => ?_)
  unfold Oper.wp
  rw [rStore1 ho (by rw [hx, hy]; exact store_msg W u p q h.cur), Oper.upon_skip]
  subst hq
  exact hK' _ _ (hK _ ((((h.set 3 (.string p.topic) { q with topic := p.topic } rfl).set 4 (.string p.payload) { q with topic := p.topic, payload := p.payload } rfl).set 5 (.int .i64 p.qos) { q with topic := p.topic, payload := p.payload, qos := p.qos } rfl).set 6 (.bool p.retain) _ rfl))
theorem used_results (W : World) (v : Nat) (p : Pkt) (tmps : Array Value) (hv : tmps.getD 2 undef = .pointer (some ⟨v, 0, none⟩)) (h : PkAt W v p) : (results Tryd.f38 tmps).run Tryd.prog W = .ok (.agg p.cells) W := by
  have hl := load_pkt W v p h
  unfold Instr.loadAt at hl
  simp only [Instr.sureAddr, Sem.run_bind, Sem.run_pure, Result.andThen_ok] at hl
  simp only [results, Tryd.results38]
  have hv' : tmps[2]?.getD undef = .pointer (some ⟨v, 0, none⟩) := by rw [← hv]; simp
  simp [hv', asAddr, hl]
theorem rowV {A : Option Addr} {n c : Nat} : (Value.slice A n c).cells = #[Value.slice A n c] := rfl
set_option maxRecDepth 100000 in
set_option maxHeartbeats 2000000 in
theorem used_id (w : World) (p : Pkt) (hrows : (∃ A n c, p.codes = .slice A n c) ∧ (∃ A n c, p.subs = .slice A n c)) (h : p.ty = 4 ∨ p.ty = 5 ∨ p.ty = 6 ∨ p.ty = 7 ∨ p.ty = 11) : Calls Tryd.prog 38 #[.agg p.cells] w fun e w' => e = .returned (.agg (usedP p).cells) ∧ Below w.heap.size w w' := by
  obtain ⟨hsc, hss⟩ := hrows
  obtain ⟨g, hg⟩ : ∃ g, Hid (g = w.heap.size) := ⟨_, rfl⟩
  obtain ⟨W0, hW0⟩ : ∃ W, Hid (W = (w.alloc (.cells p.cells PT)).alloc (.cells zeroC PT)) := ⟨_, rfl⟩
  have HG0 : Hid (PkAt W0 g p) := by rw [hW0.out, hg.out]; exact (box_at w p).keep (Turn.alloc (S := fun _ => False) _ _) (fun h => h)
  have HV0 : Hid (PkAt W0 (g + 1) zeroP) := by
    rw [hW0.out, hg.out]
    have : (w.alloc (.cells p.cells PT)).heap.size = w.heap.size + 1 := by simp
    unfold PkAt
    rw [Hid, ← this]; exact heap_new _ _
  have HB0 : Hid (Below w.heap.size w W0) := by rw [hW0.out]; exact Below.alloc (Below.alloc (Below.refl _ _) (Nat.le_refl _) _) (by simp) _
  have hs0 : Hid (W0.heap.size = g + 2) := by rw [hW0.out, hg.out, Hid]; simp
  have k0 : W0.cell? ⟨g, 0, none⟩ = some (.int .i64 p.ty) := HG0.out.cell 0
  obtain ⟨r, hr⟩ : ∃ r, Hid (r = usedP p) := ⟨_, rfl⟩
  rw [← hr.out]
  go_enter Tryd.func38, Tryd.ntmps38
  go_upto_region 1 with (fail)
  rename_i hKont
  rw [show (w.alloc (.cells p.cells PT)).alloc (.cells zeroC PT) = W0 from hW0.out.symm, ← hg.out]
  refine wp_region_lit ?_
  refine st_val (.pointer (some ⟨g, 0, none⟩)) (wanted_free rfl) (by exact rFieldAddr (x := .tmp 1) rfl (by kernel_rfl)) ?_
  refine st_val (.int .i64 p.ty) (wanted_free rfl) (by exact rLoad (x := .tmp 4) rfl (kLoadI 0 _ k0)) ?_
  refine st_val (.agg (typeP p.ty).cells) (wanted_free rfl) (by exact rBuild1 (x := .tmp 5) rfl (kBuildP _)) ?_
  refine st_alloc (wanted_free rfl) rfl (by exact kAllocP _) ?_
  refine wp_store_pkt (g := W0.heap.size) (typeP p.ty) zeroP rfl rfl rfl rfl (by exact heap_new _ _) rfl rfl ?_
  intro W1 HP1 t1
  have HU : Hid (Us w W1 g (g + 1) (g + 2) p (typeP p.ty)) := by
    have hb : Below W0.heap.size W0 W1 := (Below.alloc (Below.refl _ _) (Nat.le_refl _) _).trans (t1.toBelow (by simp) (fun k hk e => by omega))
    refine ⟨HG0.out.keep (Turn.of_below (S := fun _ => False) hb) (fun h => h), HV0.out.keep (Turn.of_below (S := fun _ => False) hb) (fun h => h), ?_, HB0.out.trans (hb.mono HB0.out.size), rfl, rfl, hg.out⟩
    rw [← hs0.out]; exact HP1.out
  rw [show W0.heap.size = g + 2 from hs0.out]
  refine wpList_nil (hKont _ _ ?_)
  clear hKont HP1 t1 HG0 HV0 HB0 k0
  simp only [Act.put, List.setIfInBounds_toArray, List.set_cons_zero, List.set_cons_succ]
  obtain ⟨q0, hq0⟩ : ∃ q, Hid (q = typeP p.ty) := ⟨_, rfl⟩
  rw [← hq0.out] at HU
  have j0 : W1.cell? ⟨g, 0, none⟩ = some (.int .i64 p.ty) := HU.out.at_.cell 0
  have hu : Hid (usedP p = { typeP p.ty with id := p.id }) := by rw [Hid, usedP, if_neg (by omega), if_neg (by omega), if_neg (by omega), if_pos h]
  rcases h with h | h | h | h | h <;> rw [h] at j0
  all_goals
    go_upto_region 28 with (fail)
    rename_i hKont
    refine wp_region_lit ?_
    refine st_val (.pointer (some ⟨g, 2, none⟩)) (wanted_free rfl) (by exact rFieldAddr (x := .tmp 1) rfl (by kernel_rfl)) ?_
    refine st_val (.int .i64 p.id) (wanted_free rfl) (by exact rLoad (x := .tmp 69) rfl (kLoadI 2 _ (HU.out.at_.cell 2))) ?_
    refine st_val (.pointer (some ⟨g + 2, 2, none⟩)) (wanted_free rfl) (by exact rFieldAddr (x := .tmp 3) rfl (by kernel_rfl)) ?_
    refine wp_store1 (w := w) (g := g) (v := g + 1) (u := g + 2) (i := 2) (p := p) (q := q0) (.int .i64 p.id) { typeP p.ty with id := p.id } rfl rfl rfl rfl HU.out (by decide) (fun W => by kernel_rfl) rfl (by rw [hq0.out]; rfl) ?_
    intro W2 HU'
    refine wpList_nil (hKont _ _ ?_)
    clear hKont HU
    obtain ⟨q1, hq1⟩ : ∃ q : Pkt, Hid (q = { typeP p.ty with id := p.id }) := ⟨_, rfl⟩
    rw [← hq1.out] at HU'
    have HU := HU'
    clear HU'
    simp only [Act.put, List.setIfInBounds_toArray, List.set_cons_zero, List.set_cons_succ]
    go_upto_region 36 with (fail)
    rename_i hKont
    refine wp_region_lit (wp_load_pkt (p := q1) rfl rfl (by rfl) HU.out.cur ?_)
    refine wp_store_pkt (g := g + 1) q1 zeroP rfl rfl (by rfl) (by rfl) HU.out.res (by rw [hq1.out]; rfl) (by rw [hq1.out]; rfl) ?_
    intro Wf HPf tf
    refine wpList_nil (hKont _ _ (wp_ret ?_))
    have hrq : r = q1 := by rw [hr.out, hu.out, hq1.out]
    exact ⟨rfl, _, used_results Wf (g + 1) q1 _ rfl HPf.out, by rw [hrq], HU.out.below.trans (tf.toBelow HU.out.below.size (fun k hk e => by have := hg.out; omega))⟩
set_option maxRecDepth 100000 in
set_option maxHeartbeats 2000000 in
theorem used_none (w : World) (p : Pkt) (hrows : (∃ A n c, p.codes = .slice A n c) ∧ (∃ A n c, p.subs = .slice A n c)) (h : p.ty = 12 ∨ p.ty = 13 ∨ p.ty = 14) : Calls Tryd.prog 38 #[.agg p.cells] w fun e w' => e = .returned (.agg (usedP p).cells) ∧ Below w.heap.size w w' := by
  obtain ⟨hsc, hss⟩ := hrows
  obtain ⟨g, hg⟩ : ∃ g, Hid (g = w.heap.size) := ⟨_, rfl⟩
  obtain ⟨W0, hW0⟩ : ∃ W, Hid (W = (w.alloc (.cells p.cells PT)).alloc (.cells zeroC PT)) := ⟨_, rfl⟩
  have HG0 : Hid (PkAt W0 g p) := by rw [hW0.out, hg.out]; exact (box_at w p).keep (Turn.alloc (S := fun _ => False) _ _) (fun h => h)
  have HV0 : Hid (PkAt W0 (g + 1) zeroP) := by
    rw [hW0.out, hg.out]
    have : (w.alloc (.cells p.cells PT)).heap.size = w.heap.size + 1 := by simp
    unfold PkAt
    rw [Hid, ← this]; exact heap_new _ _
  have HB0 : Hid (Below w.heap.size w W0) := by rw [hW0.out]; exact Below.alloc (Below.alloc (Below.refl _ _) (Nat.le_refl _) _) (by simp) _
  have hs0 : Hid (W0.heap.size = g + 2) := by rw [hW0.out, hg.out, Hid]; simp
  have k0 : W0.cell? ⟨g, 0, none⟩ = some (.int .i64 p.ty) := HG0.out.cell 0
  obtain ⟨r, hr⟩ : ∃ r, Hid (r = usedP p) := ⟨_, rfl⟩
  rw [← hr.out]
  go_enter Tryd.func38, Tryd.ntmps38
  go_upto_region 1 with (fail)
  rename_i hKont
  rw [show (w.alloc (.cells p.cells PT)).alloc (.cells zeroC PT) = W0 from hW0.out.symm, ← hg.out]
  refine wp_region_lit ?_
  refine st_val (.pointer (some ⟨g, 0, none⟩)) (wanted_free rfl) (by exact rFieldAddr (x := .tmp 1) rfl (by kernel_rfl)) ?_
  refine st_val (.int .i64 p.ty) (wanted_free rfl) (by exact rLoad (x := .tmp 4) rfl (kLoadI 0 _ k0)) ?_
  refine st_val (.agg (typeP p.ty).cells) (wanted_free rfl) (by exact rBuild1 (x := .tmp 5) rfl (kBuildP _)) ?_
  refine st_alloc (wanted_free rfl) rfl (by exact kAllocP _) ?_
  refine wp_store_pkt (g := W0.heap.size) (typeP p.ty) zeroP rfl rfl rfl rfl (by exact heap_new _ _) rfl rfl ?_
  intro W1 HP1 t1
  have HU : Hid (Us w W1 g (g + 1) (g + 2) p (typeP p.ty)) := by
    have hb : Below W0.heap.size W0 W1 := (Below.alloc (Below.refl _ _) (Nat.le_refl _) _).trans (t1.toBelow (by simp) (fun k hk e => by omega))
    refine ⟨HG0.out.keep (Turn.of_below (S := fun _ => False) hb) (fun h => h), HV0.out.keep (Turn.of_below (S := fun _ => False) hb) (fun h => h), ?_, HB0.out.trans (hb.mono HB0.out.size), rfl, rfl, hg.out⟩
    rw [← hs0.out]; exact HP1.out
  rw [show W0.heap.size = g + 2 from hs0.out]
  refine wpList_nil (hKont _ _ ?_)
  clear hKont HP1 t1 HG0 HV0 HB0 k0
  simp only [Act.put, List.setIfInBounds_toArray, List.set_cons_zero, List.set_cons_succ]
  obtain ⟨q0, hq0⟩ : ∃ q, Hid (q = typeP p.ty) := ⟨_, rfl⟩
  rw [← hq0.out] at HU
  have j0 : W1.cell? ⟨g, 0, none⟩ = some (.int .i64 p.ty) := HU.out.at_.cell 0
  have hu : Hid (usedP p = typeP p.ty) := by rw [Hid, usedP, if_neg (by omega), if_neg (by omega), if_neg (by omega), if_neg (by omega), if_neg (by omega), if_neg (by omega)]
  rcases h with h | h | h <;> rw [h] at j0
  all_goals
    go_upto_region 36 with (fail)
    rename_i hKont
    refine wp_region_lit (wp_load_pkt (p := q0) rfl rfl (by rfl) HU.out.cur ?_)
    refine wp_store_pkt (g := g + 1) q0 zeroP rfl rfl (by rfl) (by rfl) HU.out.res (by rw [hq0.out]; rfl) (by rw [hq0.out]; rfl) ?_
    intro Wf HPf tf
    refine wpList_nil (hKont _ _ (wp_ret ?_))
    have hrq : r = q0 := by rw [hr.out, hu.out, hq0.out]
    exact ⟨rfl, _, used_results Wf (g + 1) q0 _ rfl HPf.out, by rw [hrq], HU.out.below.trans (tf.toBelow HU.out.below.size (fun k hk e => by have := hg.out; omega))⟩
set_option maxRecDepth 100000 in
set_option maxHeartbeats 2000000 in
theorem used_9 (w : World) (p : Pkt) (hrows : (∃ A n c, p.codes = .slice A n c) ∧ (∃ A n c, p.subs = .slice A n c)) (h : p.ty = 9) : Calls Tryd.prog 38 #[.agg p.cells] w fun e w' => e = .returned (.agg (usedP p).cells) ∧ Below w.heap.size w w' := by
  obtain ⟨hsc, hss⟩ := hrows
  obtain ⟨g, hg⟩ : ∃ g, Hid (g = w.heap.size) := ⟨_, rfl⟩
  obtain ⟨W0, hW0⟩ : ∃ W, Hid (W = (w.alloc (.cells p.cells PT)).alloc (.cells zeroC PT)) := ⟨_, rfl⟩
  have HG0 : Hid (PkAt W0 g p) := by rw [hW0.out, hg.out]; exact (box_at w p).keep (Turn.alloc (S := fun _ => False) _ _) (fun h => h)
  have HV0 : Hid (PkAt W0 (g + 1) zeroP) := by
    rw [hW0.out, hg.out]
    have : (w.alloc (.cells p.cells PT)).heap.size = w.heap.size + 1 := by simp
    unfold PkAt
    rw [Hid, ← this]; exact heap_new _ _
  have HB0 : Hid (Below w.heap.size w W0) := by rw [hW0.out]; exact Below.alloc (Below.alloc (Below.refl _ _) (Nat.le_refl _) _) (by simp) _
  have hs0 : Hid (W0.heap.size = g + 2) := by rw [hW0.out, hg.out, Hid]; simp
  have k0 : W0.cell? ⟨g, 0, none⟩ = some (.int .i64 p.ty) := HG0.out.cell 0
  obtain ⟨r, hr⟩ : ∃ r, Hid (r = usedP p) := ⟨_, rfl⟩
  rw [← hr.out]
  go_enter Tryd.func38, Tryd.ntmps38
  go_upto_region 1 with (fail)
  rename_i hKont
  rw [show (w.alloc (.cells p.cells PT)).alloc (.cells zeroC PT) = W0 from hW0.out.symm, ← hg.out]
  refine wp_region_lit ?_
  refine st_val (.pointer (some ⟨g, 0, none⟩)) (wanted_free rfl) (by exact rFieldAddr (x := .tmp 1) rfl (by kernel_rfl)) ?_
  refine st_val (.int .i64 p.ty) (wanted_free rfl) (by exact rLoad (x := .tmp 4) rfl (kLoadI 0 _ k0)) ?_
  refine st_val (.agg (typeP p.ty).cells) (wanted_free rfl) (by exact rBuild1 (x := .tmp 5) rfl (kBuildP _)) ?_
  refine st_alloc (wanted_free rfl) rfl (by exact kAllocP _) ?_
  refine wp_store_pkt (g := W0.heap.size) (typeP p.ty) zeroP rfl rfl rfl rfl (by exact heap_new _ _) rfl rfl ?_
  intro W1 HP1 t1
  have HU : Hid (Us w W1 g (g + 1) (g + 2) p (typeP p.ty)) := by
    have hb : Below W0.heap.size W0 W1 := (Below.alloc (Below.refl _ _) (Nat.le_refl _) _).trans (t1.toBelow (by simp) (fun k hk e => by omega))
    refine ⟨HG0.out.keep (Turn.of_below (S := fun _ => False) hb) (fun h => h), HV0.out.keep (Turn.of_below (S := fun _ => False) hb) (fun h => h), ?_, HB0.out.trans (hb.mono HB0.out.size), rfl, rfl, hg.out⟩
    rw [← hs0.out]; exact HP1.out
  rw [show W0.heap.size = g + 2 from hs0.out]
  refine wpList_nil (hKont _ _ ?_)
  clear hKont HP1 t1 HG0 HV0 HB0 k0
  simp only [Act.put, List.setIfInBounds_toArray, List.set_cons_zero, List.set_cons_succ]
  obtain ⟨q0, hq0⟩ : ∃ q, Hid (q = typeP p.ty) := ⟨_, rfl⟩
  rw [← hq0.out] at HU
  have j0 : W1.cell? ⟨g, 0, none⟩ = some (.int .i64 p.ty) := HU.out.at_.cell 0
  have hu : Hid (usedP p = { typeP 9 with id := p.id, codes := p.codes }) := by rw [Hid, usedP, if_neg (by omega), if_neg (by omega), if_neg (by omega), if_neg (by omega), if_neg (by omega), if_pos h]
  obtain ⟨A, n, c, hrow⟩ := hsc
  rw [h] at j0
  go_upto_region 34 with (fail)
  rename_i hOut hKs hKont
  refine wp_region_lit ?_
  refine st_val (.pointer (some ⟨g, 2, none⟩)) (wanted_free rfl) (by exact rFieldAddr (x := .tmp 1) rfl (by kernel_rfl)) ?_
  refine st_val (.int .i64 p.id) (wanted_free rfl) (by exact rLoad (x := .tmp 83) rfl (kLoadI 2 _ (HU.out.at_.cell 2))) ?_
  refine st_val (.pointer (some ⟨g + 2, 2, none⟩)) (wanted_free rfl) (by exact rFieldAddr (x := .tmp 3) rfl (by kernel_rfl)) ?_
  refine wp_store1 (w := w) (g := g) (v := g + 1) (u := g + 2) (i := 2) (p := p) (q := q0) (.int .i64 p.id) { typeP p.ty with id := p.id } rfl rfl rfl rfl HU.out (by decide) (fun W => by kernel_rfl) rfl (by rw [hq0.out]; rfl) ?_
  intro W2 HU'
  refine wpList_nil (hKont _ _ ?_)
  clear hKont HU
  obtain ⟨q1, hq1⟩ : ∃ q : Pkt, Hid (q = { typeP p.ty with id := p.id }) := ⟨_, rfl⟩
  rw [← hq1.out] at HU'
  have HU := HU'
  clear HU'
  simp only [Act.put, List.setIfInBounds_toArray, List.set_cons_zero, List.set_cons_succ]
  go_upto_region 35 with (fail)
  refine wp_region_lit ?_
  refine st_val (.pointer (some ⟨g, 16, none⟩)) (wanted_free rfl) (by exact rFieldAddr (x := .tmp 1) rfl (by kernel_rfl)) ?_
  refine st_val (.slice A n c) (wanted_free rfl) (by exact rLoad (x := .tmp 86) rfl (kLoadC 16 _ _ _ (by rw [← hrow]; exact HU.out.at_.cell 16))) ?_
  refine st_val (.pointer (some ⟨g + 2, 16, none⟩)) (wanted_free rfl) (by exact rFieldAddr (x := .tmp 3) rfl (by kernel_rfl)) ?_
  refine wp_store1 (w := w) (g := g) (v := g + 1) (u := g + 2) (i := 16) (p := p) (q := q1) (.slice A n c) { typeP p.ty with id := p.id, codes := p.codes } rfl rfl rfl rfl HU.out (by decide) (fun W => by kernel_rfl) rfl (by rw [hq1.out]; rw [← hrow]; rfl) ?_
  intro W3 HU'
  refine wpList_nil (hOut _ _ ?_)
  clear HU
  obtain ⟨q2, hq2⟩ : ∃ q : Pkt, Hid (q = { typeP p.ty with id := p.id, codes := p.codes }) := ⟨_, rfl⟩
  rw [← hq2.out] at HU'
  have HU := HU'
  clear HU'
  simp only [Act.put, List.setIfInBounds_toArray, List.set_cons_zero, List.set_cons_succ]
  go_upto_region 36 with (fail)
  rename_i hKont
  refine wp_region_lit (wp_load_pkt (p := q2) rfl rfl (by rfl) HU.out.cur ?_)
  refine wp_store_pkt (g := g + 1) q2 zeroP rfl rfl (by rfl) (by rfl) HU.out.res (by rw [hq2.out]; show p.codes.oneCell' = true; rw [hrow]; rfl) (by rw [hq2.out]; rfl) ?_
  intro Wf HPf tf
  refine wpList_nil (hKont _ _ (wp_ret ?_))
  have hrq : r = q2 := by rw [hr.out, hu.out, hq2.out, h]
  exact ⟨rfl, _, used_results Wf (g + 1) q2 _ rfl HPf.out, by rw [hrq], HU.out.below.trans (tf.toBelow HU.out.below.size (fun k hk e => by have := hg.out; omega))⟩
set_option maxRecDepth 100000 in
set_option maxHeartbeats 2000000 in
theorem used_2 (w : World) (p : Pkt) (hrows : (∃ A n c, p.codes = .slice A n c) ∧ (∃ A n c, p.subs = .slice A n c)) (h : p.ty = 2) : Calls Tryd.prog 38 #[.agg p.cells] w fun e w' => e = .returned (.agg (usedP p).cells) ∧ Below w.heap.size w w' := by
  obtain ⟨hsc, hss⟩ := hrows
  obtain ⟨g, hg⟩ : ∃ g, Hid (g = w.heap.size) := ⟨_, rfl⟩
  obtain ⟨W0, hW0⟩ : ∃ W, Hid (W = (w.alloc (.cells p.cells PT)).alloc (.cells zeroC PT)) := ⟨_, rfl⟩
  have HG0 : Hid (PkAt W0 g p) := by rw [hW0.out, hg.out]; exact (box_at w p).keep (Turn.alloc (S := fun _ => False) _ _) (fun h => h)
  have HV0 : Hid (PkAt W0 (g + 1) zeroP) := by
    rw [hW0.out, hg.out]
    have : (w.alloc (.cells p.cells PT)).heap.size = w.heap.size + 1 := by simp
    unfold PkAt
    rw [Hid, ← this]; exact heap_new _ _
  have HB0 : Hid (Below w.heap.size w W0) := by rw [hW0.out]; exact Below.alloc (Below.alloc (Below.refl _ _) (Nat.le_refl _) _) (by simp) _
  have hs0 : Hid (W0.heap.size = g + 2) := by rw [hW0.out, hg.out, Hid]; simp
  have k0 : W0.cell? ⟨g, 0, none⟩ = some (.int .i64 p.ty) := HG0.out.cell 0
  obtain ⟨r, hr⟩ : ∃ r, Hid (r = usedP p) := ⟨_, rfl⟩
  rw [← hr.out]
  go_enter Tryd.func38, Tryd.ntmps38
  go_upto_region 1 with (fail)
  rename_i hKont
  rw [show (w.alloc (.cells p.cells PT)).alloc (.cells zeroC PT) = W0 from hW0.out.symm, ← hg.out]
  refine wp_region_lit ?_
  refine st_val (.pointer (some ⟨g, 0, none⟩)) (wanted_free rfl) (by exact rFieldAddr (x := .tmp 1) rfl (by kernel_rfl)) ?_
  refine st_val (.int .i64 p.ty) (wanted_free rfl) (by exact rLoad (x := .tmp 4) rfl (kLoadI 0 _ k0)) ?_
  refine st_val (.agg (typeP p.ty).cells) (wanted_free rfl) (by exact rBuild1 (x := .tmp 5) rfl (kBuildP _)) ?_
  refine st_alloc (wanted_free rfl) rfl (by exact kAllocP _) ?_
  refine wp_store_pkt (g := W0.heap.size) (typeP p.ty) zeroP rfl rfl rfl rfl (by exact heap_new _ _) rfl rfl ?_
  intro W1 HP1 t1
  have HU : Hid (Us w W1 g (g + 1) (g + 2) p (typeP p.ty)) := by
    have hb : Below W0.heap.size W0 W1 := (Below.alloc (Below.refl _ _) (Nat.le_refl _) _).trans (t1.toBelow (by simp) (fun k hk e => by omega))
    refine ⟨HG0.out.keep (Turn.of_below (S := fun _ => False) hb) (fun h => h), HV0.out.keep (Turn.of_below (S := fun _ => False) hb) (fun h => h), ?_, HB0.out.trans (hb.mono HB0.out.size), rfl, rfl, hg.out⟩
    rw [← hs0.out]; exact HP1.out
  rw [show W0.heap.size = g + 2 from hs0.out]
  refine wpList_nil (hKont _ _ ?_)
  clear hKont HP1 t1 HG0 HV0 HB0 k0
  simp only [Act.put, List.setIfInBounds_toArray, List.set_cons_zero, List.set_cons_succ]
  obtain ⟨q0, hq0⟩ : ∃ q, Hid (q = typeP p.ty) := ⟨_, rfl⟩
  rw [← hq0.out] at HU
  have j0 : W1.cell? ⟨g, 0, none⟩ = some (.int .i64 p.ty) := HU.out.at_.cell 0
  have hu : Hid (usedP p = { typeP 2 with present := p.present, codes := p.codes }) := by rw [Hid, usedP, if_neg (by omega), if_pos h]
  obtain ⟨A, n, c, hrow⟩ := hsc
  rw [h] at j0
  go_upto_region 17 with (fail)
  rename_i hOut hKs hKont
  refine wp_region_lit ?_
  refine st_val (.pointer (some ⟨g, 15, none⟩)) (wanted_free rfl) (by exact rFieldAddr (x := .tmp 1) rfl (by kernel_rfl)) ?_
  refine st_val (.bool p.present) (wanted_free rfl) (by exact rLoad (x := .tmp 46) rfl (kLoadB 15 _ (HU.out.at_.cell 15))) ?_
  refine st_val (.pointer (some ⟨g + 2, 15, none⟩)) (wanted_free rfl) (by exact rFieldAddr (x := .tmp 3) rfl (by kernel_rfl)) ?_
  refine wp_store1 (w := w) (g := g) (v := g + 1) (u := g + 2) (i := 15) (p := p) (q := q0) (.bool p.present) { typeP p.ty with present := p.present } rfl rfl rfl rfl HU.out (by decide) (fun W => by kernel_rfl) rfl (by rw [hq0.out]; rfl) ?_
  intro W2 HU'
  refine wpList_nil (hKont _ _ ?_)
  clear hKont HU
  obtain ⟨q1, hq1⟩ : ∃ q : Pkt, Hid (q = { typeP p.ty with present := p.present }) := ⟨_, rfl⟩
  rw [← hq1.out] at HU'
  have HU := HU'
  clear HU'
  simp only [Act.put, List.setIfInBounds_toArray, List.set_cons_zero, List.set_cons_succ]
  go_upto_region 18 with (fail)
  refine wp_region_lit ?_
  refine st_val (.pointer (some ⟨g, 16, none⟩)) (wanted_free rfl) (by exact rFieldAddr (x := .tmp 1) rfl (by kernel_rfl)) ?_
  refine st_val (.slice A n c) (wanted_free rfl) (by exact rLoad (x := .tmp 49) rfl (kLoadC 16 _ _ _ (by rw [← hrow]; exact HU.out.at_.cell 16))) ?_
  refine st_val (.pointer (some ⟨g + 2, 16, none⟩)) (wanted_free rfl) (by exact rFieldAddr (x := .tmp 3) rfl (by kernel_rfl)) ?_
  refine wp_store1 (w := w) (g := g) (v := g + 1) (u := g + 2) (i := 16) (p := p) (q := q1) (.slice A n c) { typeP p.ty with present := p.present, codes := p.codes } rfl rfl rfl rfl HU.out (by decide) (fun W => by kernel_rfl) rfl (by rw [hq1.out]; rw [← hrow]; rfl) ?_
  intro W3 HU'
  refine wpList_nil (hOut _ _ ?_)
  clear HU
  obtain ⟨q2, hq2⟩ : ∃ q : Pkt, Hid (q = { typeP p.ty with present := p.present, codes := p.codes }) := ⟨_, rfl⟩
  rw [← hq2.out] at HU'
  have HU := HU'
  clear HU'
  simp only [Act.put, List.setIfInBounds_toArray, List.set_cons_zero, List.set_cons_succ]
  go_upto_region 36 with (fail)
  rename_i hKont
  refine wp_region_lit (wp_load_pkt (p := q2) rfl rfl (by rfl) HU.out.cur ?_)
  refine wp_store_pkt (g := g + 1) q2 zeroP rfl rfl (by rfl) (by rfl) HU.out.res (by rw [hq2.out]; show p.codes.oneCell' = true; rw [hrow]; rfl) (by rw [hq2.out]; rfl) ?_
  intro Wf HPf tf
  refine wpList_nil (hKont _ _ (wp_ret ?_))
  have hrq : r = q2 := by rw [hr.out, hu.out, hq2.out, h]
  exact ⟨rfl, _, used_results Wf (g + 1) q2 _ rfl HPf.out, by rw [hrq], HU.out.below.trans (tf.toBelow HU.out.below.size (fun k hk e => by have := hg.out; omega))⟩
set_option maxRecDepth 100000 in
set_option maxHeartbeats 2000000 in
theorem used_8 (w : World) (p : Pkt) (hrows : (∃ A n c, p.codes = .slice A n c) ∧ (∃ A n c, p.subs = .slice A n c)) (h : p.ty = 8 ∨ p.ty = 10) : Calls Tryd.prog 38 #[.agg p.cells] w fun e w' => e = .returned (.agg (usedP p).cells) ∧ Below w.heap.size w w' := by
  obtain ⟨hsc, hss⟩ := hrows
  obtain ⟨g, hg⟩ : ∃ g, Hid (g = w.heap.size) := ⟨_, rfl⟩
  obtain ⟨W0, hW0⟩ : ∃ W, Hid (W = (w.alloc (.cells p.cells PT)).alloc (.cells zeroC PT)) := ⟨_, rfl⟩
  have HG0 : Hid (PkAt W0 g p) := by rw [hW0.out, hg.out]; exact (box_at w p).keep (Turn.alloc (S := fun _ => False) _ _) (fun h => h)
  have HV0 : Hid (PkAt W0 (g + 1) zeroP) := by
    rw [hW0.out, hg.out]
    have : (w.alloc (.cells p.cells PT)).heap.size = w.heap.size + 1 := by simp
    unfold PkAt
    rw [Hid, ← this]; exact heap_new _ _
  have HB0 : Hid (Below w.heap.size w W0) := by rw [hW0.out]; exact Below.alloc (Below.alloc (Below.refl _ _) (Nat.le_refl _) _) (by simp) _
  have hs0 : Hid (W0.heap.size = g + 2) := by rw [hW0.out, hg.out, Hid]; simp
  have k0 : W0.cell? ⟨g, 0, none⟩ = some (.int .i64 p.ty) := HG0.out.cell 0
  obtain ⟨r, hr⟩ : ∃ r, Hid (r = usedP p) := ⟨_, rfl⟩
  rw [← hr.out]
  go_enter Tryd.func38, Tryd.ntmps38
  go_upto_region 1 with (fail)
  rename_i hKont
  rw [show (w.alloc (.cells p.cells PT)).alloc (.cells zeroC PT) = W0 from hW0.out.symm, ← hg.out]
  refine wp_region_lit ?_
  refine st_val (.pointer (some ⟨g, 0, none⟩)) (wanted_free rfl) (by exact rFieldAddr (x := .tmp 1) rfl (by kernel_rfl)) ?_
  refine st_val (.int .i64 p.ty) (wanted_free rfl) (by exact rLoad (x := .tmp 4) rfl (kLoadI 0 _ k0)) ?_
  refine st_val (.agg (typeP p.ty).cells) (wanted_free rfl) (by exact rBuild1 (x := .tmp 5) rfl (kBuildP _)) ?_
  refine st_alloc (wanted_free rfl) rfl (by exact kAllocP _) ?_
  refine wp_store_pkt (g := W0.heap.size) (typeP p.ty) zeroP rfl rfl rfl rfl (by exact heap_new _ _) rfl rfl ?_
  intro W1 HP1 t1
  have HU : Hid (Us w W1 g (g + 1) (g + 2) p (typeP p.ty)) := by
    have hb : Below W0.heap.size W0 W1 := (Below.alloc (Below.refl _ _) (Nat.le_refl _) _).trans (t1.toBelow (by simp) (fun k hk e => by omega))
    refine ⟨HG0.out.keep (Turn.of_below (S := fun _ => False) hb) (fun h => h), HV0.out.keep (Turn.of_below (S := fun _ => False) hb) (fun h => h), ?_, HB0.out.trans (hb.mono HB0.out.size), rfl, rfl, hg.out⟩
    rw [← hs0.out]; exact HP1.out
  rw [show W0.heap.size = g + 2 from hs0.out]
  refine wpList_nil (hKont _ _ ?_)
  clear hKont HP1 t1 HG0 HV0 HB0 k0
  simp only [Act.put, List.setIfInBounds_toArray, List.set_cons_zero, List.set_cons_succ]
  obtain ⟨q0, hq0⟩ : ∃ q, Hid (q = typeP p.ty) := ⟨_, rfl⟩
  rw [← hq0.out] at HU
  have j0 : W1.cell? ⟨g, 0, none⟩ = some (.int .i64 p.ty) := HU.out.at_.cell 0
  have hu : Hid (usedP p = { typeP p.ty with id := p.id, subs := p.subs }) := by rw [Hid, usedP, if_neg (by omega), if_neg (by omega), if_neg (by omega), if_neg (by omega), if_pos h]
  obtain ⟨A, n, c, hrow⟩ := hss
  rcases h with h | h <;> rw [h] at j0
  all_goals
    go_upto_region 31 with (fail)
    rename_i hOut hKs hKont
    refine wp_region_lit ?_
    refine st_val (.pointer (some ⟨g, 2, none⟩)) (wanted_free rfl) (by exact rFieldAddr (x := .tmp 1) rfl (by kernel_rfl)) ?_
    refine st_val (.int .i64 p.id) (wanted_free rfl) (by exact rLoad (x := .tmp 75) rfl (kLoadI 2 _ (HU.out.at_.cell 2))) ?_
    refine st_val (.pointer (some ⟨g + 2, 2, none⟩)) (wanted_free rfl) (by exact rFieldAddr (x := .tmp 3) rfl (by kernel_rfl)) ?_
    refine wp_store1 (w := w) (g := g) (v := g + 1) (u := g + 2) (i := 2) (p := p) (q := q0) (.int .i64 p.id) { typeP p.ty with id := p.id } rfl rfl rfl rfl HU.out (by decide) (fun W => by kernel_rfl) rfl (by rw [hq0.out]; rfl) ?_
    intro W2 HU'
    refine wpList_nil (hKont _ _ ?_)
    clear hKont HU
    obtain ⟨q1, hq1⟩ : ∃ q : Pkt, Hid (q = { typeP p.ty with id := p.id }) := ⟨_, rfl⟩
    rw [← hq1.out] at HU'
    have HU := HU'
    clear HU'
    simp only [Act.put, List.setIfInBounds_toArray, List.set_cons_zero, List.set_cons_succ]
    go_upto_region 32 with (fail)
    refine wp_region_lit ?_
    refine st_val (.pointer (some ⟨g, 17, none⟩)) (wanted_free rfl) (by exact rFieldAddr (x := .tmp 1) rfl (by kernel_rfl)) ?_
    refine st_val (.slice A n c) (wanted_free rfl) (by exact rLoad (x := .tmp 78) rfl (kLoadU 17 _ _ _ (by rw [← hrow]; exact HU.out.at_.cell 17))) ?_
    refine st_val (.pointer (some ⟨g + 2, 17, none⟩)) (wanted_free rfl) (by exact rFieldAddr (x := .tmp 3) rfl (by kernel_rfl)) ?_
    refine wp_store1 (w := w) (g := g) (v := g + 1) (u := g + 2) (i := 17) (p := p) (q := q1) (.slice A n c) { typeP p.ty with id := p.id, subs := p.subs } rfl rfl rfl rfl HU.out (by decide) (fun W => by kernel_rfl) rfl (by rw [hq1.out]; rw [← hrow]; rfl) ?_
    intro W3 HU'
    refine wpList_nil (hOut _ _ ?_)
    clear HU
    obtain ⟨q2, hq2⟩ : ∃ q : Pkt, Hid (q = { typeP p.ty with id := p.id, subs := p.subs }) := ⟨_, rfl⟩
    rw [← hq2.out] at HU'
    have HU := HU'
    clear HU'
    simp only [Act.put, List.setIfInBounds_toArray, List.set_cons_zero, List.set_cons_succ]
    go_upto_region 36 with (fail)
    rename_i hKont
    refine wp_region_lit (wp_load_pkt (p := q2) rfl rfl (by rfl) HU.out.cur ?_)
    refine wp_store_pkt (g := g + 1) q2 zeroP rfl rfl (by rfl) (by rfl) HU.out.res (by rw [hq2.out]; rfl) (by rw [hq2.out]; show p.subs.oneCell' = true; rw [hrow]; rfl) ?_
    intro Wf HPf tf
    refine wpList_nil (hKont _ _ (wp_ret ?_))
    have hrq : r = q2 := by rw [hr.out, hu.out, hq2.out]
    exact ⟨rfl, _, used_results Wf (g + 1) q2 _ rfl HPf.out, by rw [hrq], HU.out.below.trans (tf.toBelow HU.out.below.size (fun k hk e => by have := hg.out; omega))⟩
set_option maxRecDepth 100000 in
set_option maxHeartbeats 2000000 in
theorem used_3 (w : World) (p : Pkt) (hrows : (∃ A n c, p.codes = .slice A n c) ∧ (∃ A n c, p.subs = .slice A n c)) (h : p.ty = 3) : Calls Tryd.prog 38 #[.agg p.cells] w fun e w' => e = .returned (.agg (usedP p).cells) ∧ Below w.heap.size w w' := by
  obtain ⟨hsc, hss⟩ := hrows
  obtain ⟨g, hg⟩ : ∃ g, Hid (g = w.heap.size) := ⟨_, rfl⟩
  obtain ⟨W0, hW0⟩ : ∃ W, Hid (W = (w.alloc (.cells p.cells PT)).alloc (.cells zeroC PT)) := ⟨_, rfl⟩
  have HG0 : Hid (PkAt W0 g p) := by rw [hW0.out, hg.out]; exact (box_at w p).keep (Turn.alloc (S := fun _ => False) _ _) (fun h => h)
  have HV0 : Hid (PkAt W0 (g + 1) zeroP) := by
    rw [hW0.out, hg.out]
    have : (w.alloc (.cells p.cells PT)).heap.size = w.heap.size + 1 := by simp
    unfold PkAt
    rw [Hid, ← this]; exact heap_new _ _
  have HB0 : Hid (Below w.heap.size w W0) := by rw [hW0.out]; exact Below.alloc (Below.alloc (Below.refl _ _) (Nat.le_refl _) _) (by simp) _
  have hs0 : Hid (W0.heap.size = g + 2) := by rw [hW0.out, hg.out, Hid]; simp
  have k0 : W0.cell? ⟨g, 0, none⟩ = some (.int .i64 p.ty) := HG0.out.cell 0
  obtain ⟨r, hr⟩ : ∃ r, Hid (r = usedP p) := ⟨_, rfl⟩
  rw [← hr.out]
  go_enter Tryd.func38, Tryd.ntmps38
  go_upto_region 1 with (fail)
  rename_i hKont
  rw [show (w.alloc (.cells p.cells PT)).alloc (.cells zeroC PT) = W0 from hW0.out.symm, ← hg.out]
  refine wp_region_lit ?_
  refine st_val (.pointer (some ⟨g, 0, none⟩)) (wanted_free rfl) (by exact rFieldAddr (x := .tmp 1) rfl (by kernel_rfl)) ?_
  refine st_val (.int .i64 p.ty) (wanted_free rfl) (by exact rLoad (x := .tmp 4) rfl (kLoadI 0 _ k0)) ?_
  refine st_val (.agg (typeP p.ty).cells) (wanted_free rfl) (by exact rBuild1 (x := .tmp 5) rfl (kBuildP _)) ?_
  refine st_alloc (wanted_free rfl) rfl (by exact kAllocP _) ?_
  refine wp_store_pkt (g := W0.heap.size) (typeP p.ty) zeroP rfl rfl rfl rfl (by exact heap_new _ _) rfl rfl ?_
  intro W1 HP1 t1
  have HU : Hid (Us w W1 g (g + 1) (g + 2) p (typeP p.ty)) := by
    have hb : Below W0.heap.size W0 W1 := (Below.alloc (Below.refl _ _) (Nat.le_refl _) _).trans (t1.toBelow (by simp) (fun k hk e => by omega))
    refine ⟨HG0.out.keep (Turn.of_below (S := fun _ => False) hb) (fun h => h), HV0.out.keep (Turn.of_below (S := fun _ => False) hb) (fun h => h), ?_, HB0.out.trans (hb.mono HB0.out.size), rfl, rfl, hg.out⟩
    rw [← hs0.out]; exact HP1.out
  rw [show W0.heap.size = g + 2 from hs0.out]
  refine wpList_nil (hKont _ _ ?_)
  clear hKont HP1 t1 HG0 HV0 HB0 k0
  simp only [Act.put, List.setIfInBounds_toArray, List.set_cons_zero, List.set_cons_succ]
  obtain ⟨q0, hq0⟩ : ∃ q, Hid (q = typeP p.ty) := ⟨_, rfl⟩
  rw [← hq0.out] at HU
  have j0 : W1.cell? ⟨g, 0, none⟩ = some (.int .i64 p.ty) := HU.out.at_.cell 0
  have hu : Hid (usedP p = { typeP 3 with topic := p.topic, payload := p.payload, qos := p.qos, retain := p.retain, id := p.id, dup := p.dup }) := by rw [Hid, usedP, if_neg (by omega), if_neg (by omega), if_pos h]
  rw [h] at j0
  go_upto_region 20 with (fail)
  rename_i hOut hKs hKont
  refine wp_region_lit ?_
  refine st_val (.pointer (some ⟨g, 3, none⟩)) (wanted_free rfl) (by exact rFieldAddr (x := .tmp 1) rfl (by kernel_rfl)) ?_
  refine st_val (.agg #[.string p.topic, .string p.payload, .int .i64 p.qos, .bool p.retain]) (wanted_free rfl) (by exact rLoad (x := .tmp 54) rfl (kLoadMs HU.out.at_)) ?_
  refine st_val (.pointer (some ⟨g + 2, 3, none⟩)) (wanted_free rfl) (by exact rFieldAddr (x := .tmp 3) rfl (by kernel_rfl)) ?_
  refine wp_storeM (w := w) (g := g) (v := g + 1) (u := g + 2) (p := p) (q := q0) { typeP p.ty with topic := p.topic, payload := p.payload, qos := p.qos, retain := p.retain } rfl rfl rfl rfl HU.out (by rw [hq0.out]) ?_
  intro W2 HU'
  refine wpList_nil (hKont _ _ ?_)
  clear hKont HU
  obtain ⟨q1, hq1⟩ : ∃ q : Pkt, Hid (q = { typeP p.ty with topic := p.topic, payload := p.payload, qos := p.qos, retain := p.retain }) := ⟨_, rfl⟩
  rw [← hq1.out] at HU'
  have HU := HU'
  clear HU'
  simp only [Act.put, List.setIfInBounds_toArray, List.set_cons_zero, List.set_cons_succ]
  go_upto_region 21 with (fail)
  rename_i hKont
  refine wp_region_lit ?_
  refine st_val (.pointer (some ⟨g, 2, none⟩)) (wanted_free rfl) (by exact rFieldAddr (x := .tmp 1) rfl (by kernel_rfl)) ?_
  refine st_val (.int .i64 p.id) (wanted_free rfl) (by exact rLoad (x := .tmp 57) rfl (kLoadI 2 _ (HU.out.at_.cell 2))) ?_
  refine st_val (.pointer (some ⟨g + 2, 2, none⟩)) (wanted_free rfl) (by exact rFieldAddr (x := .tmp 3) rfl (by kernel_rfl)) ?_
  refine wp_store1 (w := w) (g := g) (v := g + 1) (u := g + 2) (i := 2) (p := p) (q := q1) (.int .i64 p.id) { typeP p.ty with topic := p.topic, payload := p.payload, qos := p.qos, retain := p.retain, id := p.id } rfl rfl rfl rfl HU.out (by decide) (fun W => by kernel_rfl) rfl (by rw [hq1.out]; rfl) ?_
  intro W3 HU'
  refine wpList_nil (hKont _ _ ?_)
  clear hKont HU
  obtain ⟨q2, hq2⟩ : ∃ q : Pkt, Hid (q = { typeP p.ty with topic := p.topic, payload := p.payload, qos := p.qos, retain := p.retain, id := p.id }) := ⟨_, rfl⟩
  rw [← hq2.out] at HU'
  have HU := HU'
  clear HU'
  simp only [Act.put, List.setIfInBounds_toArray, List.set_cons_zero, List.set_cons_succ]
  go_upto_region 22 with (fail)
  refine wp_region_lit ?_
  refine st_val (.pointer (some ⟨g, 1, none⟩)) (wanted_free rfl) (by exact rFieldAddr (x := .tmp 1) rfl (by kernel_rfl)) ?_
  refine st_val (.bool p.dup) (wanted_free rfl) (by exact rLoad (x := .tmp 60) rfl (kLoadB 1 _ (HU.out.at_.cell 1))) ?_
  refine st_val (.pointer (some ⟨g + 2, 1, none⟩)) (wanted_free rfl) (by exact rFieldAddr (x := .tmp 3) rfl (by kernel_rfl)) ?_
  refine wp_store1 (w := w) (g := g) (v := g + 1) (u := g + 2) (i := 1) (p := p) (q := q2) (.bool p.dup) { typeP p.ty with topic := p.topic, payload := p.payload, qos := p.qos, retain := p.retain, id := p.id, dup := p.dup } rfl rfl rfl rfl HU.out (by decide) (fun W => by kernel_rfl) rfl (by rw [hq2.out]; rfl) ?_
  intro W4 HU'
  refine wpList_nil (hOut _ _ ?_)
  clear HU
  obtain ⟨q3, hq3⟩ : ∃ q : Pkt, Hid (q = { typeP p.ty with topic := p.topic, payload := p.payload, qos := p.qos, retain := p.retain, id := p.id, dup := p.dup }) := ⟨_, rfl⟩
  rw [← hq3.out] at HU'
  have HU := HU'
  clear HU'
  simp only [Act.put, List.setIfInBounds_toArray, List.set_cons_zero, List.set_cons_succ]
  go_upto_region 36 with (fail)
  rename_i hKont
  refine wp_region_lit (wp_load_pkt (p := q3) rfl rfl (by rfl) HU.out.cur ?_)
  refine wp_store_pkt (g := g + 1) q3 zeroP rfl rfl (by rfl) (by rfl) HU.out.res (by rw [hq3.out]; rfl) (by rw [hq3.out]; rfl) ?_
  intro Wf HPf tf
  refine wpList_nil (hKont _ _ (wp_ret ?_))
  have hrq : r = q3 := by rw [hr.out, hu.out, hq3.out, h]
  exact ⟨rfl, _, used_results Wf (g + 1) q3 _ rfl HPf.out, by rw [hrq], HU.out.below.trans (tf.toBelow HU.out.below.size (fun k hk e => by have := hg.out; omega))⟩
set_option maxRecDepth 100000 in
set_option maxHeartbeats 2000000 in
theorem used_1000 (w : World) (p : Pkt) (hrows : (∃ A n c, p.codes = .slice A n c) ∧ (∃ A n c, p.subs = .slice A n c)) (h : p.ty = 1) (hw : p.will = false) (hus : p.huser = false) (hps : p.hpass = false) : Calls Tryd.prog 38 #[.agg p.cells] w fun e w' => e = .returned (.agg (usedP p).cells) ∧ Below w.heap.size w w' := by
  obtain ⟨hsc, hss⟩ := hrows
  obtain ⟨g, hg⟩ : ∃ g, Hid (g = w.heap.size) := ⟨_, rfl⟩
  obtain ⟨W0, hW0⟩ : ∃ W, Hid (W = (w.alloc (.cells p.cells PT)).alloc (.cells zeroC PT)) := ⟨_, rfl⟩
  have HG0 : Hid (PkAt W0 g p) := by rw [hW0.out, hg.out]; exact (box_at w p).keep (Turn.alloc (S := fun _ => False) _ _) (fun h => h)
  have HV0 : Hid (PkAt W0 (g + 1) zeroP) := by
    rw [hW0.out, hg.out]
    have : (w.alloc (.cells p.cells PT)).heap.size = w.heap.size + 1 := by simp
    unfold PkAt
    rw [Hid, ← this]; exact heap_new _ _
  have HB0 : Hid (Below w.heap.size w W0) := by rw [hW0.out]; exact Below.alloc (Below.alloc (Below.refl _ _) (Nat.le_refl _) _) (by simp) _
  have hs0 : Hid (W0.heap.size = g + 2) := by rw [hW0.out, hg.out, Hid]; simp
  have k0 : W0.cell? ⟨g, 0, none⟩ = some (.int .i64 p.ty) := HG0.out.cell 0
  obtain ⟨r, hr⟩ : ∃ r, Hid (r = usedP p) := ⟨_, rfl⟩
  rw [← hr.out]
  go_enter Tryd.func38, Tryd.ntmps38
  go_upto_region 1 with (fail)
  rename_i hKont
  rw [show (w.alloc (.cells p.cells PT)).alloc (.cells zeroC PT) = W0 from hW0.out.symm, ← hg.out]
  refine wp_region_lit ?_
  refine st_val (.pointer (some ⟨g, 0, none⟩)) (wanted_free rfl) (by exact rFieldAddr (x := .tmp 1) rfl (by kernel_rfl)) ?_
  refine st_val (.int .i64 p.ty) (wanted_free rfl) (by exact rLoad (x := .tmp 4) rfl (kLoadI 0 _ k0)) ?_
  refine st_val (.agg (typeP p.ty).cells) (wanted_free rfl) (by exact rBuild1 (x := .tmp 5) rfl (kBuildP _)) ?_
  refine st_alloc (wanted_free rfl) rfl (by exact kAllocP _) ?_
  refine wp_store_pkt (g := W0.heap.size) (typeP p.ty) zeroP rfl rfl rfl rfl (by exact heap_new _ _) rfl rfl ?_
  intro W1 HP1 t1
  have HU : Hid (Us w W1 g (g + 1) (g + 2) p (typeP p.ty)) := by
    have hb : Below W0.heap.size W0 W1 := (Below.alloc (Below.refl _ _) (Nat.le_refl _) _).trans (t1.toBelow (by simp) (fun k hk e => by omega))
    refine ⟨HG0.out.keep (Turn.of_below (S := fun _ => False) hb) (fun h => h), HV0.out.keep (Turn.of_below (S := fun _ => False) hb) (fun h => h), ?_, HB0.out.trans (hb.mono HB0.out.size), rfl, rfl, hg.out⟩
    rw [← hs0.out]; exact HP1.out
  rw [show W0.heap.size = g + 2 from hs0.out]
  refine wpList_nil (hKont _ _ ?_)
  clear hKont HP1 t1 HG0 HV0 HB0 k0
  simp only [Act.put, List.setIfInBounds_toArray, List.set_cons_zero, List.set_cons_succ]
  obtain ⟨q0, hq0⟩ : ∃ q, Hid (q = typeP p.ty) := ⟨_, rfl⟩
  rw [← hq0.out] at HU
  have j0 : W1.cell? ⟨g, 0, none⟩ = some (.int .i64 p.ty) := HU.out.at_.cell 0
  have hu : Hid (usedP p = { typeP 1 with client := p.client, clean := p.clean, alive := p.alive, will := p.will, huser := p.huser, hpass := p.hpass }) := by rw [Hid, usedP, if_pos h, hw, hus, hps]; rfl
  rw [h] at j0
  go_upto_region 4 with (fail)
  rename_i hOut hKs hKont
  refine wp_region_lit ?_
  refine st_val (.pointer (some ⟨g, 7, none⟩)) (wanted_free rfl) (by exact rFieldAddr (x := .tmp 1) rfl (by kernel_rfl)) ?_
  refine st_val (.string p.client) (wanted_free rfl) (by exact rLoad (x := .tmp 11) rfl (kLoadS 7 _ (HU.out.at_.cell 7))) ?_
  refine st_val (.pointer (some ⟨g + 2, 7, none⟩)) (wanted_free rfl) (by exact rFieldAddr (x := .tmp 3) rfl (by kernel_rfl)) ?_
  refine wp_store1 (w := w) (g := g) (v := g + 1) (u := g + 2) (i := 7) (p := p) (q := q0) (.string p.client) { typeP p.ty with client := p.client } rfl rfl rfl rfl HU.out (by decide) (fun W => by kernel_rfl) rfl (by rw [hq0.out]; rfl) ?_
  intro W2 HU'
  refine wpList_nil (hKont _ _ ?_)
  clear hKont HU
  obtain ⟨q1, hq1⟩ : ∃ q : Pkt, Hid (q = { typeP p.ty with client := p.client }) := ⟨_, rfl⟩
  rw [← hq1.out] at HU'
  have HU := HU'
  clear HU'
  simp only [Act.put, List.setIfInBounds_toArray, List.set_cons_zero, List.set_cons_succ]
  go_upto_region 5 with (fail)
  rename_i hKont
  refine wp_region_lit ?_
  refine st_val (.pointer (some ⟨g, 8, none⟩)) (wanted_free rfl) (by exact rFieldAddr (x := .tmp 1) rfl (by kernel_rfl)) ?_
  refine st_val (.bool p.clean) (wanted_free rfl) (by exact rLoad (x := .tmp 14) rfl (kLoadB 8 _ (HU.out.at_.cell 8))) ?_
  refine st_val (.pointer (some ⟨g + 2, 8, none⟩)) (wanted_free rfl) (by exact rFieldAddr (x := .tmp 3) rfl (by kernel_rfl)) ?_
  refine wp_store1 (w := w) (g := g) (v := g + 1) (u := g + 2) (i := 8) (p := p) (q := q1) (.bool p.clean) { typeP p.ty with client := p.client, clean := p.clean } rfl rfl rfl rfl HU.out (by decide) (fun W => by kernel_rfl) rfl (by rw [hq1.out]; rfl) ?_
  intro W3 HU'
  refine wpList_nil (hKont _ _ ?_)
  clear hKont HU
  obtain ⟨q2, hq2⟩ : ∃ q : Pkt, Hid (q = { typeP p.ty with client := p.client, clean := p.clean }) := ⟨_, rfl⟩
  rw [← hq2.out] at HU'
  have HU := HU'
  clear HU'
  simp only [Act.put, List.setIfInBounds_toArray, List.set_cons_zero, List.set_cons_succ]
  go_upto_region 6 with (fail)
  rename_i hKont
  refine wp_region_lit ?_
  refine st_val (.pointer (some ⟨g, 9, none⟩)) (wanted_free rfl) (by exact rFieldAddr (x := .tmp 1) rfl (by kernel_rfl)) ?_
  refine st_val (.int .i64 p.alive) (wanted_free rfl) (by exact rLoad (x := .tmp 17) rfl (kLoadI 9 _ (HU.out.at_.cell 9))) ?_
  refine st_val (.pointer (some ⟨g + 2, 9, none⟩)) (wanted_free rfl) (by exact rFieldAddr (x := .tmp 3) rfl (by kernel_rfl)) ?_
  refine wp_store1 (w := w) (g := g) (v := g + 1) (u := g + 2) (i := 9) (p := p) (q := q2) (.int .i64 p.alive) { typeP p.ty with client := p.client, clean := p.clean, alive := p.alive } rfl rfl rfl rfl HU.out (by decide) (fun W => by kernel_rfl) rfl (by rw [hq2.out]; rfl) ?_
  intro W4 HU'
  refine wpList_nil (hKont _ _ ?_)
  clear hKont HU
  obtain ⟨q3, hq3⟩ : ∃ q : Pkt, Hid (q = { typeP p.ty with client := p.client, clean := p.clean, alive := p.alive }) := ⟨_, rfl⟩
  rw [← hq3.out] at HU'
  have HU := HU'
  clear HU'
  simp only [Act.put, List.setIfInBounds_toArray, List.set_cons_zero, List.set_cons_succ]
  go_upto_region 7 with (fail)
  rename_i hKont
  refine wp_region_lit ?_
  refine st_val (.pointer (some ⟨g, 10, none⟩)) (wanted_free rfl) (by exact rFieldAddr (x := .tmp 1) rfl (by kernel_rfl)) ?_
  refine st_val (.bool p.will) (wanted_free rfl) (by exact rLoad (x := .tmp 20) rfl (kLoadB 10 _ (HU.out.at_.cell 10))) ?_
  refine st_val (.pointer (some ⟨g + 2, 10, none⟩)) (wanted_free rfl) (by exact rFieldAddr (x := .tmp 3) rfl (by kernel_rfl)) ?_
  refine wp_store1 (w := w) (g := g) (v := g + 1) (u := g + 2) (i := 10) (p := p) (q := q3) (.bool p.will) { typeP p.ty with client := p.client, clean := p.clean, alive := p.alive, will := p.will } rfl rfl rfl rfl HU.out (by decide) (fun W => by kernel_rfl) rfl (by rw [hq3.out]; rfl) ?_
  intro W5 HU'
  refine wpList_nil (hKont _ _ ?_)
  clear hKont HU
  obtain ⟨q4, hq4⟩ : ∃ q : Pkt, Hid (q = { typeP p.ty with client := p.client, clean := p.clean, alive := p.alive, will := p.will }) := ⟨_, rfl⟩
  rw [← hq4.out] at HU'
  have HU := HU'
  clear HU'
  simp only [Act.put, List.setIfInBounds_toArray, List.set_cons_zero, List.set_cons_succ]
  have j10 : W5.cell? ⟨g, 10, none⟩ = some (.bool p.will) := HU.out.at_.cell 10
  rw [hw] at j10
  go_upto_region 10 with (fail)
  rename_i hKont
  refine wp_region_lit ?_
  refine st_val (.pointer (some ⟨g, 11, none⟩)) (wanted_free rfl) (by exact rFieldAddr (x := .tmp 1) rfl (by kernel_rfl)) ?_
  refine st_val (.bool p.huser) (wanted_free rfl) (by exact rLoad (x := .tmp 28) rfl (kLoadB 11 _ (HU.out.at_.cell 11))) ?_
  refine st_val (.pointer (some ⟨g + 2, 11, none⟩)) (wanted_free rfl) (by exact rFieldAddr (x := .tmp 3) rfl (by kernel_rfl)) ?_
  refine wp_store1 (w := w) (g := g) (v := g + 1) (u := g + 2) (i := 11) (p := p) (q := q4) (.bool p.huser) { typeP p.ty with client := p.client, clean := p.clean, alive := p.alive, will := p.will, huser := p.huser } rfl rfl rfl rfl HU.out (by decide) (fun W => by kernel_rfl) rfl (by rw [hq4.out]; rfl) ?_
  intro W6 HU'
  refine wpList_nil (hKont _ _ ?_)
  clear hKont HU
  obtain ⟨q5, hq5⟩ : ∃ q : Pkt, Hid (q = { typeP p.ty with client := p.client, clean := p.clean, alive := p.alive, will := p.will, huser := p.huser }) := ⟨_, rfl⟩
  rw [← hq5.out] at HU'
  have HU := HU'
  clear HU'
  simp only [Act.put, List.setIfInBounds_toArray, List.set_cons_zero, List.set_cons_succ]
  have j11 : W6.cell? ⟨g, 11, none⟩ = some (.bool p.huser) := HU.out.at_.cell 11
  rw [hus] at j11
  go_upto_region 13 with (fail)
  rename_i hKont
  refine wp_region_lit ?_
  refine st_val (.pointer (some ⟨g, 12, none⟩)) (wanted_free rfl) (by exact rFieldAddr (x := .tmp 1) rfl (by kernel_rfl)) ?_
  refine st_val (.bool p.hpass) (wanted_free rfl) (by exact rLoad (x := .tmp 36) rfl (kLoadB 12 _ (HU.out.at_.cell 12))) ?_
  refine st_val (.pointer (some ⟨g + 2, 12, none⟩)) (wanted_free rfl) (by exact rFieldAddr (x := .tmp 3) rfl (by kernel_rfl)) ?_
  refine wp_store1 (w := w) (g := g) (v := g + 1) (u := g + 2) (i := 12) (p := p) (q := q5) (.bool p.hpass) { typeP p.ty with client := p.client, clean := p.clean, alive := p.alive, will := p.will, huser := p.huser, hpass := p.hpass } rfl rfl rfl rfl HU.out (by decide) (fun W => by kernel_rfl) rfl (by rw [hq5.out]; rfl) ?_
  intro W7 HU'
  refine wpList_nil (hKont _ _ ?_)
  clear hKont HU
  obtain ⟨q6, hq6⟩ : ∃ q : Pkt, Hid (q = { typeP p.ty with client := p.client, clean := p.clean, alive := p.alive, will := p.will, huser := p.huser, hpass := p.hpass }) := ⟨_, rfl⟩
  rw [← hq6.out] at HU'
  have HU := HU'
  clear HU'
  simp only [Act.put, List.setIfInBounds_toArray, List.set_cons_zero, List.set_cons_succ]
  have j12 : W7.cell? ⟨g, 12, none⟩ = some (.bool p.hpass) := HU.out.at_.cell 12
  rw [hps] at j12
  go_upto_region 36 with (fail)
  rename_i hKont
  refine wp_region_lit (wp_load_pkt (p := q6) rfl rfl (by rfl) HU.out.cur ?_)
  refine wp_store_pkt (g := g + 1) q6 zeroP rfl rfl (by rfl) (by rfl) HU.out.res (by rw [hq6.out]; rfl) (by rw [hq6.out]; rfl) ?_
  intro Wf HPf tf
  refine wpList_nil (hKont _ _ (wp_ret ?_))
  have hrq : r = q6 := by rw [hr.out, hu.out, hq6.out, h]
  exact ⟨rfl, _, used_results Wf (g + 1) q6 _ rfl HPf.out, by rw [hrq], HU.out.below.trans (tf.toBelow HU.out.below.size (fun k hk e => by have := hg.out; omega))⟩
set_option maxRecDepth 100000 in
set_option maxHeartbeats 2000000 in
theorem used_1001 (w : World) (p : Pkt) (hrows : (∃ A n c, p.codes = .slice A n c) ∧ (∃ A n c, p.subs = .slice A n c)) (h : p.ty = 1) (hw : p.will = false) (hus : p.huser = false) (hps : p.hpass = true) : Calls Tryd.prog 38 #[.agg p.cells] w fun e w' => e = .returned (.agg (usedP p).cells) ∧ Below w.heap.size w w' := by
  obtain ⟨hsc, hss⟩ := hrows
  obtain ⟨g, hg⟩ : ∃ g, Hid (g = w.heap.size) := ⟨_, rfl⟩
  obtain ⟨W0, hW0⟩ : ∃ W, Hid (W = (w.alloc (.cells p.cells PT)).alloc (.cells zeroC PT)) := ⟨_, rfl⟩
  have HG0 : Hid (PkAt W0 g p) := by rw [hW0.out, hg.out]; exact (box_at w p).keep (Turn.alloc (S := fun _ => False) _ _) (fun h => h)
  have HV0 : Hid (PkAt W0 (g + 1) zeroP) := by
    rw [hW0.out, hg.out]
    have : (w.alloc (.cells p.cells PT)).heap.size = w.heap.size + 1 := by simp
    unfold PkAt
    rw [Hid, ← this]; exact heap_new _ _
  have HB0 : Hid (Below w.heap.size w W0) := by rw [hW0.out]; exact Below.alloc (Below.alloc (Below.refl _ _) (Nat.le_refl _) _) (by simp) _
  have hs0 : Hid (W0.heap.size = g + 2) := by rw [hW0.out, hg.out, Hid]; simp
  have k0 : W0.cell? ⟨g, 0, none⟩ = some (.int .i64 p.ty) := HG0.out.cell 0
  obtain ⟨r, hr⟩ : ∃ r, Hid (r = usedP p) := ⟨_, rfl⟩
  rw [← hr.out]
  go_enter Tryd.func38, Tryd.ntmps38
  go_upto_region 1 with (fail)
  rename_i hKont
  rw [show (w.alloc (.cells p.cells PT)).alloc (.cells zeroC PT) = W0 from hW0.out.symm, ← hg.out]
  refine wp_region_lit ?_
  refine st_val (.pointer (some ⟨g, 0, none⟩)) (wanted_free rfl) (by exact rFieldAddr (x := .tmp 1) rfl (by kernel_rfl)) ?_
  refine st_val (.int .i64 p.ty) (wanted_free rfl) (by exact rLoad (x := .tmp 4) rfl (kLoadI 0 _ k0)) ?_
  refine st_val (.agg (typeP p.ty).cells) (wanted_free rfl) (by exact rBuild1 (x := .tmp 5) rfl (kBuildP _)) ?_
  refine st_alloc (wanted_free rfl) rfl (by exact kAllocP _) ?_
  refine wp_store_pkt (g := W0.heap.size) (typeP p.ty) zeroP rfl rfl rfl rfl (by exact heap_new _ _) rfl rfl ?_
  intro W1 HP1 t1
  have HU : Hid (Us w W1 g (g + 1) (g + 2) p (typeP p.ty)) := by
    have hb : Below W0.heap.size W0 W1 := (Below.alloc (Below.refl _ _) (Nat.le_refl _) _).trans (t1.toBelow (by simp) (fun k hk e => by omega))
    refine ⟨HG0.out.keep (Turn.of_below (S := fun _ => False) hb) (fun h => h), HV0.out.keep (Turn.of_below (S := fun _ => False) hb) (fun h => h), ?_, HB0.out.trans (hb.mono HB0.out.size), rfl, rfl, hg.out⟩
    rw [← hs0.out]; exact HP1.out
  rw [show W0.heap.size = g + 2 from hs0.out]
  refine wpList_nil (hKont _ _ ?_)
  clear hKont HP1 t1 HG0 HV0 HB0 k0
  simp only [Act.put, List.setIfInBounds_toArray, List.set_cons_zero, List.set_cons_succ]
  obtain ⟨q0, hq0⟩ : ∃ q, Hid (q = typeP p.ty) := ⟨_, rfl⟩
  rw [← hq0.out] at HU
  have j0 : W1.cell? ⟨g, 0, none⟩ = some (.int .i64 p.ty) := HU.out.at_.cell 0
  have hu : Hid (usedP p = { typeP 1 with client := p.client, clean := p.clean, alive := p.alive, will := p.will, huser := p.huser, hpass := p.hpass, pass := p.pass }) := by rw [Hid, usedP, if_pos h, hw, hus, hps]; rfl
  rw [h] at j0
  go_upto_region 4 with (fail)
  rename_i hOut hKs hKont
  refine wp_region_lit ?_
  refine st_val (.pointer (some ⟨g, 7, none⟩)) (wanted_free rfl) (by exact rFieldAddr (x := .tmp 1) rfl (by kernel_rfl)) ?_
  refine st_val (.string p.client) (wanted_free rfl) (by exact rLoad (x := .tmp 11) rfl (kLoadS 7 _ (HU.out.at_.cell 7))) ?_
  refine st_val (.pointer (some ⟨g + 2, 7, none⟩)) (wanted_free rfl) (by exact rFieldAddr (x := .tmp 3) rfl (by kernel_rfl)) ?_
  refine wp_store1 (w := w) (g := g) (v := g + 1) (u := g + 2) (i := 7) (p := p) (q := q0) (.string p.client) { typeP p.ty with client := p.client } rfl rfl rfl rfl HU.out (by decide) (fun W => by kernel_rfl) rfl (by rw [hq0.out]; rfl) ?_
  intro W2 HU'
  refine wpList_nil (hKont _ _ ?_)
  clear hKont HU
  obtain ⟨q1, hq1⟩ : ∃ q : Pkt, Hid (q = { typeP p.ty with client := p.client }) := ⟨_, rfl⟩
  rw [← hq1.out] at HU'
  have HU := HU'
  clear HU'
  simp only [Act.put, List.setIfInBounds_toArray, List.set_cons_zero, List.set_cons_succ]
  go_upto_region 5 with (fail)
  rename_i hKont
  refine wp_region_lit ?_
  refine st_val (.pointer (some ⟨g, 8, none⟩)) (wanted_free rfl) (by exact rFieldAddr (x := .tmp 1) rfl (by kernel_rfl)) ?_
  refine st_val (.bool p.clean) (wanted_free rfl) (by exact rLoad (x := .tmp 14) rfl (kLoadB 8 _ (HU.out.at_.cell 8))) ?_
  refine st_val (.pointer (some ⟨g + 2, 8, none⟩)) (wanted_free rfl) (by exact rFieldAddr (x := .tmp 3) rfl (by kernel_rfl)) ?_
  refine wp_store1 (w := w) (g := g) (v := g + 1) (u := g + 2) (i := 8) (p := p) (q := q1) (.bool p.clean) { typeP p.ty with client := p.client, clean := p.clean } rfl rfl rfl rfl HU.out (by decide) (fun W => by kernel_rfl) rfl (by rw [hq1.out]; rfl) ?_
  intro W3 HU'
  refine wpList_nil (hKont _ _ ?_)
  clear hKont HU
  obtain ⟨q2, hq2⟩ : ∃ q : Pkt, Hid (q = { typeP p.ty with client := p.client, clean := p.clean }) := ⟨_, rfl⟩
  rw [← hq2.out] at HU'
  have HU := HU'
  clear HU'
  simp only [Act.put, List.setIfInBounds_toArray, List.set_cons_zero, List.set_cons_succ]
  go_upto_region 6 with (fail)
  rename_i hKont
  refine wp_region_lit ?_
  refine st_val (.pointer (some ⟨g, 9, none⟩)) (wanted_free rfl) (by exact rFieldAddr (x := .tmp 1) rfl (by kernel_rfl)) ?_
  refine st_val (.int .i64 p.alive) (wanted_free rfl) (by exact rLoad (x := .tmp 17) rfl (kLoadI 9 _ (HU.out.at_.cell 9))) ?_
  refine st_val (.pointer (some ⟨g + 2, 9, none⟩)) (wanted_free rfl) (by exact rFieldAddr (x := .tmp 3) rfl (by kernel_rfl)) ?_
  refine wp_store1 (w := w) (g := g) (v := g + 1) (u := g + 2) (i := 9) (p := p) (q := q2) (.int .i64 p.alive) { typeP p.ty with client := p.client, clean := p.clean, alive := p.alive } rfl rfl rfl rfl HU.out (by decide) (fun W => by kernel_rfl) rfl (by rw [hq2.out]; rfl) ?_
  intro W4 HU'
  refine wpList_nil (hKont _ _ ?_)
  clear hKont HU
  obtain ⟨q3, hq3⟩ : ∃ q : Pkt, Hid (q = { typeP p.ty with client := p.client, clean := p.clean, alive := p.alive }) := ⟨_, rfl⟩
  rw [← hq3.out] at HU'
  have HU := HU'
  clear HU'
  simp only [Act.put, List.setIfInBounds_toArray, List.set_cons_zero, List.set_cons_succ]
  go_upto_region 7 with (fail)
  rename_i hKont
  refine wp_region_lit ?_
  refine st_val (.pointer (some ⟨g, 10, none⟩)) (wanted_free rfl) (by exact rFieldAddr (x := .tmp 1) rfl (by kernel_rfl)) ?_
  refine st_val (.bool p.will) (wanted_free rfl) (by exact rLoad (x := .tmp 20) rfl (kLoadB 10 _ (HU.out.at_.cell 10))) ?_
  refine st_val (.pointer (some ⟨g + 2, 10, none⟩)) (wanted_free rfl) (by exact rFieldAddr (x := .tmp 3) rfl (by kernel_rfl)) ?_
  refine wp_store1 (w := w) (g := g) (v := g + 1) (u := g + 2) (i := 10) (p := p) (q := q3) (.bool p.will) { typeP p.ty with client := p.client, clean := p.clean, alive := p.alive, will := p.will } rfl rfl rfl rfl HU.out (by decide) (fun W => by kernel_rfl) rfl (by rw [hq3.out]; rfl) ?_
  intro W5 HU'
  refine wpList_nil (hKont _ _ ?_)
  clear hKont HU
  obtain ⟨q4, hq4⟩ : ∃ q : Pkt, Hid (q = { typeP p.ty with client := p.client, clean := p.clean, alive := p.alive, will := p.will }) := ⟨_, rfl⟩
  rw [← hq4.out] at HU'
  have HU := HU'
  clear HU'
  simp only [Act.put, List.setIfInBounds_toArray, List.set_cons_zero, List.set_cons_succ]
  have j10 : W5.cell? ⟨g, 10, none⟩ = some (.bool p.will) := HU.out.at_.cell 10
  rw [hw] at j10
  go_upto_region 10 with (fail)
  rename_i hKont
  refine wp_region_lit ?_
  refine st_val (.pointer (some ⟨g, 11, none⟩)) (wanted_free rfl) (by exact rFieldAddr (x := .tmp 1) rfl (by kernel_rfl)) ?_
  refine st_val (.bool p.huser) (wanted_free rfl) (by exact rLoad (x := .tmp 28) rfl (kLoadB 11 _ (HU.out.at_.cell 11))) ?_
  refine st_val (.pointer (some ⟨g + 2, 11, none⟩)) (wanted_free rfl) (by exact rFieldAddr (x := .tmp 3) rfl (by kernel_rfl)) ?_
  refine wp_store1 (w := w) (g := g) (v := g + 1) (u := g + 2) (i := 11) (p := p) (q := q4) (.bool p.huser) { typeP p.ty with client := p.client, clean := p.clean, alive := p.alive, will := p.will, huser := p.huser } rfl rfl rfl rfl HU.out (by decide) (fun W => by kernel_rfl) rfl (by rw [hq4.out]; rfl) ?_
  intro W6 HU'
  refine wpList_nil (hKont _ _ ?_)
  clear hKont HU
  obtain ⟨q5, hq5⟩ : ∃ q : Pkt, Hid (q = { typeP p.ty with client := p.client, clean := p.clean, alive := p.alive, will := p.will, huser := p.huser }) := ⟨_, rfl⟩
  rw [← hq5.out] at HU'
  have HU := HU'
  clear HU'
  simp only [Act.put, List.setIfInBounds_toArray, List.set_cons_zero, List.set_cons_succ]
  have j11 : W6.cell? ⟨g, 11, none⟩ = some (.bool p.huser) := HU.out.at_.cell 11
  rw [hus] at j11
  go_upto_region 13 with (fail)
  rename_i hKont
  refine wp_region_lit ?_
  refine st_val (.pointer (some ⟨g, 12, none⟩)) (wanted_free rfl) (by exact rFieldAddr (x := .tmp 1) rfl (by kernel_rfl)) ?_
  refine st_val (.bool p.hpass) (wanted_free rfl) (by exact rLoad (x := .tmp 36) rfl (kLoadB 12 _ (HU.out.at_.cell 12))) ?_
  refine st_val (.pointer (some ⟨g + 2, 12, none⟩)) (wanted_free rfl) (by exact rFieldAddr (x := .tmp 3) rfl (by kernel_rfl)) ?_
  refine wp_store1 (w := w) (g := g) (v := g + 1) (u := g + 2) (i := 12) (p := p) (q := q5) (.bool p.hpass) { typeP p.ty with client := p.client, clean := p.clean, alive := p.alive, will := p.will, huser := p.huser, hpass := p.hpass } rfl rfl rfl rfl HU.out (by decide) (fun W => by kernel_rfl) rfl (by rw [hq5.out]; rfl) ?_
  intro W7 HU'
  refine wpList_nil (hKont _ _ ?_)
  clear hKont HU
  obtain ⟨q6, hq6⟩ : ∃ q : Pkt, Hid (q = { typeP p.ty with client := p.client, clean := p.clean, alive := p.alive, will := p.will, huser := p.huser, hpass := p.hpass }) := ⟨_, rfl⟩
  rw [← hq6.out] at HU'
  have HU := HU'
  clear HU'
  simp only [Act.put, List.setIfInBounds_toArray, List.set_cons_zero, List.set_cons_succ]
  have j12 : W7.cell? ⟨g, 12, none⟩ = some (.bool p.hpass) := HU.out.at_.cell 12
  rw [hps] at j12
  go_upto_region 15 with (fail)
  refine wp_region_lit ?_
  refine st_val (.pointer (some ⟨g, 14, none⟩)) (wanted_free rfl) (by exact rFieldAddr (x := .tmp 1) rfl (by kernel_rfl)) ?_
  refine st_val (.string p.pass) (wanted_free rfl) (by exact rLoad (x := .tmp 41) rfl (kLoadS 14 _ (HU.out.at_.cell 14))) ?_
  refine st_val (.pointer (some ⟨g + 2, 14, none⟩)) (wanted_free rfl) (by exact rFieldAddr (x := .tmp 3) rfl (by kernel_rfl)) ?_
  refine wp_store1 (w := w) (g := g) (v := g + 1) (u := g + 2) (i := 14) (p := p) (q := q6) (.string p.pass) { typeP p.ty with client := p.client, clean := p.clean, alive := p.alive, will := p.will, huser := p.huser, hpass := p.hpass, pass := p.pass } rfl rfl rfl rfl HU.out (by decide) (fun W => by kernel_rfl) rfl (by rw [hq6.out]; rfl) ?_
  intro W8 HU'
  refine wpList_nil (hOut _ _ ?_)
  clear HU
  obtain ⟨q7, hq7⟩ : ∃ q : Pkt, Hid (q = { typeP p.ty with client := p.client, clean := p.clean, alive := p.alive, will := p.will, huser := p.huser, hpass := p.hpass, pass := p.pass }) := ⟨_, rfl⟩
  rw [← hq7.out] at HU'
  have HU := HU'
  clear HU'
  simp only [Act.put, List.setIfInBounds_toArray, List.set_cons_zero, List.set_cons_succ]
  go_upto_region 36 with (fail)
  rename_i hKont
  refine wp_region_lit (wp_load_pkt (p := q7) rfl rfl (by rfl) HU.out.cur ?_)
  refine wp_store_pkt (g := g + 1) q7 zeroP rfl rfl (by rfl) (by rfl) HU.out.res (by rw [hq7.out]; rfl) (by rw [hq7.out]; rfl) ?_
  intro Wf HPf tf
  refine wpList_nil (hKont _ _ (wp_ret ?_))
  have hrq : r = q7 := by rw [hr.out, hu.out, hq7.out, h]
  exact ⟨rfl, _, used_results Wf (g + 1) q7 _ rfl HPf.out, by rw [hrq], HU.out.below.trans (tf.toBelow HU.out.below.size (fun k hk e => by have := hg.out; omega))⟩
set_option maxRecDepth 100000 in
set_option maxHeartbeats 2000000 in
theorem used_1010 (w : World) (p : Pkt) (hrows : (∃ A n c, p.codes = .slice A n c) ∧ (∃ A n c, p.subs = .slice A n c)) (h : p.ty = 1) (hw : p.will = false) (hus : p.huser = true) (hps : p.hpass = false) : Calls Tryd.prog 38 #[.agg p.cells] w fun e w' => e = .returned (.agg (usedP p).cells) ∧ Below w.heap.size w w' := by
  obtain ⟨hsc, hss⟩ := hrows
  obtain ⟨g, hg⟩ : ∃ g, Hid (g = w.heap.size) := ⟨_, rfl⟩
  obtain ⟨W0, hW0⟩ : ∃ W, Hid (W = (w.alloc (.cells p.cells PT)).alloc (.cells zeroC PT)) := ⟨_, rfl⟩
  have HG0 : Hid (PkAt W0 g p) := by rw [hW0.out, hg.out]; exact (box_at w p).keep (Turn.alloc (S := fun _ => False) _ _) (fun h => h)
  have HV0 : Hid (PkAt W0 (g + 1) zeroP) := by
    rw [hW0.out, hg.out]
    have : (w.alloc (.cells p.cells PT)).heap.size = w.heap.size + 1 := by simp
    unfold PkAt
    rw [Hid, ← this]; exact heap_new _ _
  have HB0 : Hid (Below w.heap.size w W0) := by rw [hW0.out]; exact Below.alloc (Below.alloc (Below.refl _ _) (Nat.le_refl _) _) (by simp) _
  have hs0 : Hid (W0.heap.size = g + 2) := by rw [hW0.out, hg.out, Hid]; simp
  have k0 : W0.cell? ⟨g, 0, none⟩ = some (.int .i64 p.ty) := HG0.out.cell 0
  obtain ⟨r, hr⟩ : ∃ r, Hid (r = usedP p) := ⟨_, rfl⟩
  rw [← hr.out]
  go_enter Tryd.func38, Tryd.ntmps38
  go_upto_region 1 with (fail)
  rename_i hKont
  rw [show (w.alloc (.cells p.cells PT)).alloc (.cells zeroC PT) = W0 from hW0.out.symm, ← hg.out]
  refine wp_region_lit ?_
  refine st_val (.pointer (some ⟨g, 0, none⟩)) (wanted_free rfl) (by exact rFieldAddr (x := .tmp 1) rfl (by kernel_rfl)) ?_
  refine st_val (.int .i64 p.ty) (wanted_free rfl) (by exact rLoad (x := .tmp 4) rfl (kLoadI 0 _ k0)) ?_
  refine st_val (.agg (typeP p.ty).cells) (wanted_free rfl) (by exact rBuild1 (x := .tmp 5) rfl (kBuildP _)) ?_
  refine st_alloc (wanted_free rfl) rfl (by exact kAllocP _) ?_
  refine wp_store_pkt (g := W0.heap.size) (typeP p.ty) zeroP rfl rfl rfl rfl (by exact heap_new _ _) rfl rfl ?_
  intro W1 HP1 t1
  have HU : Hid (Us w W1 g (g + 1) (g + 2) p (typeP p.ty)) := by
    have hb : Below W0.heap.size W0 W1 := (Below.alloc (Below.refl _ _) (Nat.le_refl _) _).trans (t1.toBelow (by simp) (fun k hk e => by omega))
    refine ⟨HG0.out.keep (Turn.of_below (S := fun _ => False) hb) (fun h => h), HV0.out.keep (Turn.of_below (S := fun _ => False) hb) (fun h => h), ?_, HB0.out.trans (hb.mono HB0.out.size), rfl, rfl, hg.out⟩
    rw [← hs0.out]; exact HP1.out
  rw [show W0.heap.size = g + 2 from hs0.out]
  refine wpList_nil (hKont _ _ ?_)
  clear hKont HP1 t1 HG0 HV0 HB0 k0
  simp only [Act.put, List.setIfInBounds_toArray, List.set_cons_zero, List.set_cons_succ]
  obtain ⟨q0, hq0⟩ : ∃ q, Hid (q = typeP p.ty) := ⟨_, rfl⟩
  rw [← hq0.out] at HU
  have j0 : W1.cell? ⟨g, 0, none⟩ = some (.int .i64 p.ty) := HU.out.at_.cell 0
  have hu : Hid (usedP p = { typeP 1 with client := p.client, clean := p.clean, alive := p.alive, will := p.will, huser := p.huser, user := p.user, hpass := p.hpass }) := by rw [Hid, usedP, if_pos h, hw, hus, hps]; rfl
  rw [h] at j0
  go_upto_region 4 with (fail)
  rename_i hOut hKs hKont
  refine wp_region_lit ?_
  refine st_val (.pointer (some ⟨g, 7, none⟩)) (wanted_free rfl) (by exact rFieldAddr (x := .tmp 1) rfl (by kernel_rfl)) ?_
  refine st_val (.string p.client) (wanted_free rfl) (by exact rLoad (x := .tmp 11) rfl (kLoadS 7 _ (HU.out.at_.cell 7))) ?_
  refine st_val (.pointer (some ⟨g + 2, 7, none⟩)) (wanted_free rfl) (by exact rFieldAddr (x := .tmp 3) rfl (by kernel_rfl)) ?_
  refine wp_store1 (w := w) (g := g) (v := g + 1) (u := g + 2) (i := 7) (p := p) (q := q0) (.string p.client) { typeP p.ty with client := p.client } rfl rfl rfl rfl HU.out (by decide) (fun W => by kernel_rfl) rfl (by rw [hq0.out]; rfl) ?_
  intro W2 HU'
  refine wpList_nil (hKont _ _ ?_)
  clear hKont HU
  obtain ⟨q1, hq1⟩ : ∃ q : Pkt, Hid (q = { typeP p.ty with client := p.client }) := ⟨_, rfl⟩
  rw [← hq1.out] at HU'
  have HU := HU'
  clear HU'
  simp only [Act.put, List.setIfInBounds_toArray, List.set_cons_zero, List.set_cons_succ]
  go_upto_region 5 with (fail)
  rename_i hKont
  refine wp_region_lit ?_
  refine st_val (.pointer (some ⟨g, 8, none⟩)) (wanted_free rfl) (by exact rFieldAddr (x := .tmp 1) rfl (by kernel_rfl)) ?_
  refine st_val (.bool p.clean) (wanted_free rfl) (by exact rLoad (x := .tmp 14) rfl (kLoadB 8 _ (HU.out.at_.cell 8))) ?_
  refine st_val (.pointer (some ⟨g + 2, 8, none⟩)) (wanted_free rfl) (by exact rFieldAddr (x := .tmp 3) rfl (by kernel_rfl)) ?_
  refine wp_store1 (w := w) (g := g) (v := g + 1) (u := g + 2) (i := 8) (p := p) (q := q1) (.bool p.clean) { typeP p.ty with client := p.client, clean := p.clean } rfl rfl rfl rfl HU.out (by decide) (fun W => by kernel_rfl) rfl (by rw [hq1.out]; rfl) ?_
  intro W3 HU'
  refine wpList_nil (hKont _ _ ?_)
  clear hKont HU
  obtain ⟨q2, hq2⟩ : ∃ q : Pkt, Hid (q = { typeP p.ty with client := p.client, clean := p.clean }) := ⟨_, rfl⟩
  rw [← hq2.out] at HU'
  have HU := HU'
  clear HU'
  simp only [Act.put, List.setIfInBounds_toArray, List.set_cons_zero, List.set_cons_succ]
  go_upto_region 6 with (fail)
  rename_i hKont
  refine wp_region_lit ?_
  refine st_val (.pointer (some ⟨g, 9, none⟩)) (wanted_free rfl) (by exact rFieldAddr (x := .tmp 1) rfl (by kernel_rfl)) ?_
  refine st_val (.int .i64 p.alive) (wanted_free rfl) (by exact rLoad (x := .tmp 17) rfl (kLoadI 9 _ (HU.out.at_.cell 9))) ?_
  refine st_val (.pointer (some ⟨g + 2, 9, none⟩)) (wanted_free rfl) (by exact rFieldAddr (x := .tmp 3) rfl (by kernel_rfl)) ?_
  refine wp_store1 (w := w) (g := g) (v := g + 1) (u := g + 2) (i := 9) (p := p) (q := q2) (.int .i64 p.alive) { typeP p.ty with client := p.client, clean := p.clean, alive := p.alive } rfl rfl rfl rfl HU.out (by decide) (fun W => by kernel_rfl) rfl (by rw [hq2.out]; rfl) ?_
  intro W4 HU'
  refine wpList_nil (hKont _ _ ?_)
  clear hKont HU
  obtain ⟨q3, hq3⟩ : ∃ q : Pkt, Hid (q = { typeP p.ty with client := p.client, clean := p.clean, alive := p.alive }) := ⟨_, rfl⟩
  rw [← hq3.out] at HU'
  have HU := HU'
  clear HU'
  simp only [Act.put, List.setIfInBounds_toArray, List.set_cons_zero, List.set_cons_succ]
  go_upto_region 7 with (fail)
  rename_i hKont
  refine wp_region_lit ?_
  refine st_val (.pointer (some ⟨g, 10, none⟩)) (wanted_free rfl) (by exact rFieldAddr (x := .tmp 1) rfl (by kernel_rfl)) ?_
  refine st_val (.bool p.will) (wanted_free rfl) (by exact rLoad (x := .tmp 20) rfl (kLoadB 10 _ (HU.out.at_.cell 10))) ?_
  refine st_val (.pointer (some ⟨g + 2, 10, none⟩)) (wanted_free rfl) (by exact rFieldAddr (x := .tmp 3) rfl (by kernel_rfl)) ?_
  refine wp_store1 (w := w) (g := g) (v := g + 1) (u := g + 2) (i := 10) (p := p) (q := q3) (.bool p.will) { typeP p.ty with client := p.client, clean := p.clean, alive := p.alive, will := p.will } rfl rfl rfl rfl HU.out (by decide) (fun W => by kernel_rfl) rfl (by rw [hq3.out]; rfl) ?_
  intro W5 HU'
  refine wpList_nil (hKont _ _ ?_)
  clear hKont HU
  obtain ⟨q4, hq4⟩ : ∃ q : Pkt, Hid (q = { typeP p.ty with client := p.client, clean := p.clean, alive := p.alive, will := p.will }) := ⟨_, rfl⟩
  rw [← hq4.out] at HU'
  have HU := HU'
  clear HU'
  simp only [Act.put, List.setIfInBounds_toArray, List.set_cons_zero, List.set_cons_succ]
  have j10 : W5.cell? ⟨g, 10, none⟩ = some (.bool p.will) := HU.out.at_.cell 10
  rw [hw] at j10
  go_upto_region 10 with (fail)
  rename_i hKont
  refine wp_region_lit ?_
  refine st_val (.pointer (some ⟨g, 11, none⟩)) (wanted_free rfl) (by exact rFieldAddr (x := .tmp 1) rfl (by kernel_rfl)) ?_
  refine st_val (.bool p.huser) (wanted_free rfl) (by exact rLoad (x := .tmp 28) rfl (kLoadB 11 _ (HU.out.at_.cell 11))) ?_
  refine st_val (.pointer (some ⟨g + 2, 11, none⟩)) (wanted_free rfl) (by exact rFieldAddr (x := .tmp 3) rfl (by kernel_rfl)) ?_
  refine wp_store1 (w := w) (g := g) (v := g + 1) (u := g + 2) (i := 11) (p := p) (q := q4) (.bool p.huser) { typeP p.ty with client := p.client, clean := p.clean, alive := p.alive, will := p.will, huser := p.huser } rfl rfl rfl rfl HU.out (by decide) (fun W => by kernel_rfl) rfl (by rw [hq4.out]; rfl) ?_
  intro W6 HU'
  refine wpList_nil (hKont _ _ ?_)
  clear hKont HU
  obtain ⟨q5, hq5⟩ : ∃ q : Pkt, Hid (q = { typeP p.ty with client := p.client, clean := p.clean, alive := p.alive, will := p.will, huser := p.huser }) := ⟨_, rfl⟩
  rw [← hq5.out] at HU'
  have HU := HU'
  clear HU'
  simp only [Act.put, List.setIfInBounds_toArray, List.set_cons_zero, List.set_cons_succ]
  have j11 : W6.cell? ⟨g, 11, none⟩ = some (.bool p.huser) := HU.out.at_.cell 11
  rw [hus] at j11
  go_upto_region 12 with (fail)
  rename_i hKont
  refine wp_region_lit ?_
  refine st_val (.pointer (some ⟨g, 13, none⟩)) (wanted_free rfl) (by exact rFieldAddr (x := .tmp 1) rfl (by kernel_rfl)) ?_
  refine st_val (.string p.user) (wanted_free rfl) (by exact rLoad (x := .tmp 33) rfl (kLoadS 13 _ (HU.out.at_.cell 13))) ?_
  refine st_val (.pointer (some ⟨g + 2, 13, none⟩)) (wanted_free rfl) (by exact rFieldAddr (x := .tmp 3) rfl (by kernel_rfl)) ?_
  refine wp_store1 (w := w) (g := g) (v := g + 1) (u := g + 2) (i := 13) (p := p) (q := q5) (.string p.user) { typeP p.ty with client := p.client, clean := p.clean, alive := p.alive, will := p.will, huser := p.huser, user := p.user } rfl rfl rfl rfl HU.out (by decide) (fun W => by kernel_rfl) rfl (by rw [hq5.out]; rfl) ?_
  intro W7 HU'
  refine wpList_nil (hKont _ _ ?_)
  clear hKont HU
  obtain ⟨q6, hq6⟩ : ∃ q : Pkt, Hid (q = { typeP p.ty with client := p.client, clean := p.clean, alive := p.alive, will := p.will, huser := p.huser, user := p.user }) := ⟨_, rfl⟩
  rw [← hq6.out] at HU'
  have HU := HU'
  clear HU'
  simp only [Act.put, List.setIfInBounds_toArray, List.set_cons_zero, List.set_cons_succ]
  go_upto_region 13 with (fail)
  rename_i hKont
  refine wp_region_lit ?_
  refine st_val (.pointer (some ⟨g, 12, none⟩)) (wanted_free rfl) (by exact rFieldAddr (x := .tmp 1) rfl (by kernel_rfl)) ?_
  refine st_val (.bool p.hpass) (wanted_free rfl) (by exact rLoad (x := .tmp 36) rfl (kLoadB 12 _ (HU.out.at_.cell 12))) ?_
  refine st_val (.pointer (some ⟨g + 2, 12, none⟩)) (wanted_free rfl) (by exact rFieldAddr (x := .tmp 3) rfl (by kernel_rfl)) ?_
  refine wp_store1 (w := w) (g := g) (v := g + 1) (u := g + 2) (i := 12) (p := p) (q := q6) (.bool p.hpass) { typeP p.ty with client := p.client, clean := p.clean, alive := p.alive, will := p.will, huser := p.huser, user := p.user, hpass := p.hpass } rfl rfl rfl rfl HU.out (by decide) (fun W => by kernel_rfl) rfl (by rw [hq6.out]; rfl) ?_
  intro W8 HU'
  refine wpList_nil (hKont _ _ ?_)
  clear hKont HU
  obtain ⟨q7, hq7⟩ : ∃ q : Pkt, Hid (q = { typeP p.ty with client := p.client, clean := p.clean, alive := p.alive, will := p.will, huser := p.huser, user := p.user, hpass := p.hpass }) := ⟨_, rfl⟩
  rw [← hq7.out] at HU'
  have HU := HU'
  clear HU'
  simp only [Act.put, List.setIfInBounds_toArray, List.set_cons_zero, List.set_cons_succ]
  have j12 : W8.cell? ⟨g, 12, none⟩ = some (.bool p.hpass) := HU.out.at_.cell 12
  rw [hps] at j12
  go_upto_region 36 with (fail)
  rename_i hKont
  refine wp_region_lit (wp_load_pkt (p := q7) rfl rfl (by rfl) HU.out.cur ?_)
  refine wp_store_pkt (g := g + 1) q7 zeroP rfl rfl (by rfl) (by rfl) HU.out.res (by rw [hq7.out]; rfl) (by rw [hq7.out]; rfl) ?_
  intro Wf HPf tf
  refine wpList_nil (hKont _ _ (wp_ret ?_))
  have hrq : r = q7 := by rw [hr.out, hu.out, hq7.out, h]
  exact ⟨rfl, _, used_results Wf (g + 1) q7 _ rfl HPf.out, by rw [hrq], HU.out.below.trans (tf.toBelow HU.out.below.size (fun k hk e => by have := hg.out; omega))⟩
set_option maxRecDepth 100000 in
set_option maxHeartbeats 2000000 in
theorem used_1011 (w : World) (p : Pkt) (hrows : (∃ A n c, p.codes = .slice A n c) ∧ (∃ A n c, p.subs = .slice A n c)) (h : p.ty = 1) (hw : p.will = false) (hus : p.huser = true) (hps : p.hpass = true) : Calls Tryd.prog 38 #[.agg p.cells] w fun e w' => e = .returned (.agg (usedP p).cells) ∧ Below w.heap.size w w' := by
  obtain ⟨hsc, hss⟩ := hrows
  obtain ⟨g, hg⟩ : ∃ g, Hid (g = w.heap.size) := ⟨_, rfl⟩
  obtain ⟨W0, hW0⟩ : ∃ W, Hid (W = (w.alloc (.cells p.cells PT)).alloc (.cells zeroC PT)) := ⟨_, rfl⟩
  have HG0 : Hid (PkAt W0 g p) := by rw [hW0.out, hg.out]; exact (box_at w p).keep (Turn.alloc (S := fun _ => False) _ _) (fun h => h)
  have HV0 : Hid (PkAt W0 (g + 1) zeroP) := by
    rw [hW0.out, hg.out]
    have : (w.alloc (.cells p.cells PT)).heap.size = w.heap.size + 1 := by simp
    unfold PkAt
    rw [Hid, ← this]; exact heap_new _ _
  have HB0 : Hid (Below w.heap.size w W0) := by rw [hW0.out]; exact Below.alloc (Below.alloc (Below.refl _ _) (Nat.le_refl _) _) (by simp) _
  have hs0 : Hid (W0.heap.size = g + 2) := by rw [hW0.out, hg.out, Hid]; simp
  have k0 : W0.cell? ⟨g, 0, none⟩ = some (.int .i64 p.ty) := HG0.out.cell 0
  obtain ⟨r, hr⟩ : ∃ r, Hid (r = usedP p) := ⟨_, rfl⟩
  rw [← hr.out]
  go_enter Tryd.func38, Tryd.ntmps38
  go_upto_region 1 with (fail)
  rename_i hKont
  rw [show (w.alloc (.cells p.cells PT)).alloc (.cells zeroC PT) = W0 from hW0.out.symm, ← hg.out]
  refine wp_region_lit ?_
  refine st_val (.pointer (some ⟨g, 0, none⟩)) (wanted_free rfl) (by exact rFieldAddr (x := .tmp 1) rfl (by kernel_rfl)) ?_
  refine st_val (.int .i64 p.ty) (wanted_free rfl) (by exact rLoad (x := .tmp 4) rfl (kLoadI 0 _ k0)) ?_
  refine st_val (.agg (typeP p.ty).cells) (wanted_free rfl) (by exact rBuild1 (x := .tmp 5) rfl (kBuildP _)) ?_
  refine st_alloc (wanted_free rfl) rfl (by exact kAllocP _) ?_
  refine wp_store_pkt (g := W0.heap.size) (typeP p.ty) zeroP rfl rfl rfl rfl (by exact heap_new _ _) rfl rfl ?_
  intro W1 HP1 t1
  have HU : Hid (Us w W1 g (g + 1) (g + 2) p (typeP p.ty)) := by
    have hb : Below W0.heap.size W0 W1 := (Below.alloc (Below.refl _ _) (Nat.le_refl _) _).trans (t1.toBelow (by simp) (fun k hk e => by omega))
    refine ⟨HG0.out.keep (Turn.of_below (S := fun _ => False) hb) (fun h => h), HV0.out.keep (Turn.of_below (S := fun _ => False) hb) (fun h => h), ?_, HB0.out.trans (hb.mono HB0.out.size), rfl, rfl, hg.out⟩
    rw [← hs0.out]; exact HP1.out
  rw [show W0.heap.size = g + 2 from hs0.out]
  refine wpList_nil (hKont _ _ ?_)
  clear hKont HP1 t1 HG0 HV0 HB0 k0
  simp only [Act.put, List.setIfInBounds_toArray, List.set_cons_zero, List.set_cons_succ]
  obtain ⟨q0, hq0⟩ : ∃ q, Hid (q = typeP p.ty) := ⟨_, rfl⟩
  rw [← hq0.out] at HU
  have j0 : W1.cell? ⟨g, 0, none⟩ = some (.int .i64 p.ty) := HU.out.at_.cell 0
  have hu : Hid (usedP p = { typeP 1 with client := p.client, clean := p.clean, alive := p.alive, will := p.will, huser := p.huser, user := p.user, hpass := p.hpass, pass := p.pass }) := by rw [Hid, usedP, if_pos h, hw, hus, hps]; rfl
  rw [h] at j0
  go_upto_region 4 with (fail)
  rename_i hOut hKs hKont
  refine wp_region_lit ?_
  refine st_val (.pointer (some ⟨g, 7, none⟩)) (wanted_free rfl) (by exact rFieldAddr (x := .tmp 1) rfl (by kernel_rfl)) ?_
  refine st_val (.string p.client) (wanted_free rfl) (by exact rLoad (x := .tmp 11) rfl (kLoadS 7 _ (HU.out.at_.cell 7))) ?_
  refine st_val (.pointer (some ⟨g + 2, 7, none⟩)) (wanted_free rfl) (by exact rFieldAddr (x := .tmp 3) rfl (by kernel_rfl)) ?_
  refine wp_store1 (w := w) (g := g) (v := g + 1) (u := g + 2) (i := 7) (p := p) (q := q0) (.string p.client) { typeP p.ty with client := p.client } rfl rfl rfl rfl HU.out (by decide) (fun W => by kernel_rfl) rfl (by rw [hq0.out]; rfl) ?_
  intro W2 HU'
  refine wpList_nil (hKont _ _ ?_)
  clear hKont HU
  obtain ⟨q1, hq1⟩ : ∃ q : Pkt, Hid (q = { typeP p.ty with client := p.client }) := ⟨_, rfl⟩
  rw [← hq1.out] at HU'
  have HU := HU'
  clear HU'
  simp only [Act.put, List.setIfInBounds_toArray, List.set_cons_zero, List.set_cons_succ]
  go_upto_region 5 with (fail)
  rename_i hKont
  refine wp_region_lit ?_
  refine st_val (.pointer (some ⟨g, 8, none⟩)) (wanted_free rfl) (by exact rFieldAddr (x := .tmp 1) rfl (by kernel_rfl)) ?_
  refine st_val (.bool p.clean) (wanted_free rfl) (by exact rLoad (x := .tmp 14) rfl (kLoadB 8 _ (HU.out.at_.cell 8))) ?_
  refine st_val (.pointer (some ⟨g + 2, 8, none⟩)) (wanted_free rfl) (by exact rFieldAddr (x := .tmp 3) rfl (by kernel_rfl)) ?_
  refine wp_store1 (w := w) (g := g) (v := g + 1) (u := g + 2) (i := 8) (p := p) (q := q1) (.bool p.clean) { typeP p.ty with client := p.client, clean := p.clean } rfl rfl rfl rfl HU.out (by decide) (fun W => by kernel_rfl) rfl (by rw [hq1.out]; rfl) ?_
  intro W3 HU'
  refine wpList_nil (hKont _ _ ?_)
  clear hKont HU
  obtain ⟨q2, hq2⟩ : ∃ q : Pkt, Hid (q = { typeP p.ty with client := p.client, clean := p.clean }) := ⟨_, rfl⟩
  rw [← hq2.out] at HU'
  have HU := HU'
  clear HU'
  simp only [Act.put, List.setIfInBounds_toArray, List.set_cons_zero, List.set_cons_succ]
  go_upto_region 6 with (fail)
  rename_i hKont
  refine wp_region_lit ?_
  refine st_val (.pointer (some ⟨g, 9, none⟩)) (wanted_free rfl) (by exact rFieldAddr (x := .tmp 1) rfl (by kernel_rfl)) ?_
  refine st_val (.int .i64 p.alive) (wanted_free rfl) (by exact rLoad (x := .tmp 17) rfl (kLoadI 9 _ (HU.out.at_.cell 9))) ?_
  refine st_val (.pointer (some ⟨g + 2, 9, none⟩)) (wanted_free rfl) (by exact rFieldAddr (x := .tmp 3) rfl (by kernel_rfl)) ?_
  refine wp_store1 (w := w) (g := g) (v := g + 1) (u := g + 2) (i := 9) (p := p) (q := q2) (.int .i64 p.alive) { typeP p.ty with client := p.client, clean := p.clean, alive := p.alive } rfl rfl rfl rfl HU.out (by decide) (fun W => by kernel_rfl) rfl (by rw [hq2.out]; rfl) ?_
  intro W4 HU'
  refine wpList_nil (hKont _ _ ?_)
  clear hKont HU
  obtain ⟨q3, hq3⟩ : ∃ q : Pkt, Hid (q = { typeP p.ty with client := p.client, clean := p.clean, alive := p.alive }) := ⟨_, rfl⟩
  rw [← hq3.out] at HU'
  have HU := HU'
  clear HU'
  simp only [Act.put, List.setIfInBounds_toArray, List.set_cons_zero, List.set_cons_succ]
  go_upto_region 7 with (fail)
  rename_i hKont
  refine wp_region_lit ?_
  refine st_val (.pointer (some ⟨g, 10, none⟩)) (wanted_free rfl) (by exact rFieldAddr (x := .tmp 1) rfl (by kernel_rfl)) ?_
  refine st_val (.bool p.will) (wanted_free rfl) (by exact rLoad (x := .tmp 20) rfl (kLoadB 10 _ (HU.out.at_.cell 10))) ?_
  refine st_val (.pointer (some ⟨g + 2, 10, none⟩)) (wanted_free rfl) (by exact rFieldAddr (x := .tmp 3) rfl (by kernel_rfl)) ?_
  refine wp_store1 (w := w) (g := g) (v := g + 1) (u := g + 2) (i := 10) (p := p) (q := q3) (.bool p.will) { typeP p.ty with client := p.client, clean := p.clean, alive := p.alive, will := p.will } rfl rfl rfl rfl HU.out (by decide) (fun W => by kernel_rfl) rfl (by rw [hq3.out]; rfl) ?_
  intro W5 HU'
  refine wpList_nil (hKont _ _ ?_)
  clear hKont HU
  obtain ⟨q4, hq4⟩ : ∃ q : Pkt, Hid (q = { typeP p.ty with client := p.client, clean := p.clean, alive := p.alive, will := p.will }) := ⟨_, rfl⟩
  rw [← hq4.out] at HU'
  have HU := HU'
  clear HU'
  simp only [Act.put, List.setIfInBounds_toArray, List.set_cons_zero, List.set_cons_succ]
  have j10 : W5.cell? ⟨g, 10, none⟩ = some (.bool p.will) := HU.out.at_.cell 10
  rw [hw] at j10
  go_upto_region 10 with (fail)
  rename_i hKont
  refine wp_region_lit ?_
  refine st_val (.pointer (some ⟨g, 11, none⟩)) (wanted_free rfl) (by exact rFieldAddr (x := .tmp 1) rfl (by kernel_rfl)) ?_
  refine st_val (.bool p.huser) (wanted_free rfl) (by exact rLoad (x := .tmp 28) rfl (kLoadB 11 _ (HU.out.at_.cell 11))) ?_
  refine st_val (.pointer (some ⟨g + 2, 11, none⟩)) (wanted_free rfl) (by exact rFieldAddr (x := .tmp 3) rfl (by kernel_rfl)) ?_
  refine wp_store1 (w := w) (g := g) (v := g + 1) (u := g + 2) (i := 11) (p := p) (q := q4) (.bool p.huser) { typeP p.ty with client := p.client, clean := p.clean, alive := p.alive, will := p.will, huser := p.huser } rfl rfl rfl rfl HU.out (by decide) (fun W => by kernel_rfl) rfl (by rw [hq4.out]; rfl) ?_
  intro W6 HU'
  refine wpList_nil (hKont _ _ ?_)
  clear hKont HU
  obtain ⟨q5, hq5⟩ : ∃ q : Pkt, Hid (q = { typeP p.ty with client := p.client, clean := p.clean, alive := p.alive, will := p.will, huser := p.huser }) := ⟨_, rfl⟩
  rw [← hq5.out] at HU'
  have HU := HU'
  clear HU'
  simp only [Act.put, List.setIfInBounds_toArray, List.set_cons_zero, List.set_cons_succ]
  have j11 : W6.cell? ⟨g, 11, none⟩ = some (.bool p.huser) := HU.out.at_.cell 11
  rw [hus] at j11
  go_upto_region 12 with (fail)
  rename_i hKont
  refine wp_region_lit ?_
  refine st_val (.pointer (some ⟨g, 13, none⟩)) (wanted_free rfl) (by exact rFieldAddr (x := .tmp 1) rfl (by kernel_rfl)) ?_
  refine st_val (.string p.user) (wanted_free rfl) (by exact rLoad (x := .tmp 33) rfl (kLoadS 13 _ (HU.out.at_.cell 13))) ?_
  refine st_val (.pointer (some ⟨g + 2, 13, none⟩)) (wanted_free rfl) (by exact rFieldAddr (x := .tmp 3) rfl (by kernel_rfl)) ?_
  refine wp_store1 (w := w) (g := g) (v := g + 1) (u := g + 2) (i := 13) (p := p) (q := q5) (.string p.user) { typeP p.ty with client := p.client, clean := p.clean, alive := p.alive, will := p.will, huser := p.huser, user := p.user } rfl rfl rfl rfl HU.out (by decide) (fun W => by kernel_rfl) rfl (by rw [hq5.out]; rfl) ?_
  intro W7 HU'
  refine wpList_nil (hKont _ _ ?_)
  clear hKont HU
  obtain ⟨q6, hq6⟩ : ∃ q : Pkt, Hid (q = { typeP p.ty with client := p.client, clean := p.clean, alive := p.alive, will := p.will, huser := p.huser, user := p.user }) := ⟨_, rfl⟩
  rw [← hq6.out] at HU'
  have HU := HU'
  clear HU'
  simp only [Act.put, List.setIfInBounds_toArray, List.set_cons_zero, List.set_cons_succ]
  go_upto_region 13 with (fail)
  rename_i hKont
  refine wp_region_lit ?_
  refine st_val (.pointer (some ⟨g, 12, none⟩)) (wanted_free rfl) (by exact rFieldAddr (x := .tmp 1) rfl (by kernel_rfl)) ?_
  refine st_val (.bool p.hpass) (wanted_free rfl) (by exact rLoad (x := .tmp 36) rfl (kLoadB 12 _ (HU.out.at_.cell 12))) ?_
  refine st_val (.pointer (some ⟨g + 2, 12, none⟩)) (wanted_free rfl) (by exact rFieldAddr (x := .tmp 3) rfl (by kernel_rfl)) ?_
  refine wp_store1 (w := w) (g := g) (v := g + 1) (u := g + 2) (i := 12) (p := p) (q := q6) (.bool p.hpass) { typeP p.ty with client := p.client, clean := p.clean, alive := p.alive, will := p.will, huser := p.huser, user := p.user, hpass := p.hpass } rfl rfl rfl rfl HU.out (by decide) (fun W => by kernel_rfl) rfl (by rw [hq6.out]; rfl) ?_
  intro W8 HU'
  refine wpList_nil (hKont _ _ ?_)
  clear hKont HU
  obtain ⟨q7, hq7⟩ : ∃ q : Pkt, Hid (q = { typeP p.ty with client := p.client, clean := p.clean, alive := p.alive, will := p.will, huser := p.huser, user := p.user, hpass := p.hpass }) := ⟨_, rfl⟩
  rw [← hq7.out] at HU'
  have HU := HU'
  clear HU'
  simp only [Act.put, List.setIfInBounds_toArray, List.set_cons_zero, List.set_cons_succ]
  have j12 : W8.cell? ⟨g, 12, none⟩ = some (.bool p.hpass) := HU.out.at_.cell 12
  rw [hps] at j12
  go_upto_region 15 with (fail)
  refine wp_region_lit ?_
  refine st_val (.pointer (some ⟨g, 14, none⟩)) (wanted_free rfl) (by exact rFieldAddr (x := .tmp 1) rfl (by kernel_rfl)) ?_
  refine st_val (.string p.pass) (wanted_free rfl) (by exact rLoad (x := .tmp 41) rfl (kLoadS 14 _ (HU.out.at_.cell 14))) ?_
  refine st_val (.pointer (some ⟨g + 2, 14, none⟩)) (wanted_free rfl) (by exact rFieldAddr (x := .tmp 3) rfl (by kernel_rfl)) ?_
  refine wp_store1 (w := w) (g := g) (v := g + 1) (u := g + 2) (i := 14) (p := p) (q := q7) (.string p.pass) { typeP p.ty with client := p.client, clean := p.clean, alive := p.alive, will := p.will, huser := p.huser, user := p.user, hpass := p.hpass, pass := p.pass } rfl rfl rfl rfl HU.out (by decide) (fun W => by kernel_rfl) rfl (by rw [hq7.out]; rfl) ?_
  intro W9 HU'
  refine wpList_nil (hOut _ _ ?_)
  clear HU
  obtain ⟨q8, hq8⟩ : ∃ q : Pkt, Hid (q = { typeP p.ty with client := p.client, clean := p.clean, alive := p.alive, will := p.will, huser := p.huser, user := p.user, hpass := p.hpass, pass := p.pass }) := ⟨_, rfl⟩
  rw [← hq8.out] at HU'
  have HU := HU'
  clear HU'
  simp only [Act.put, List.setIfInBounds_toArray, List.set_cons_zero, List.set_cons_succ]
  go_upto_region 36 with (fail)
  rename_i hKont
  refine wp_region_lit (wp_load_pkt (p := q8) rfl rfl (by rfl) HU.out.cur ?_)
  refine wp_store_pkt (g := g + 1) q8 zeroP rfl rfl (by rfl) (by rfl) HU.out.res (by rw [hq8.out]; rfl) (by rw [hq8.out]; rfl) ?_
  intro Wf HPf tf
  refine wpList_nil (hKont _ _ (wp_ret ?_))
  have hrq : r = q8 := by rw [hr.out, hu.out, hq8.out, h]
  exact ⟨rfl, _, used_results Wf (g + 1) q8 _ rfl HPf.out, by rw [hrq], HU.out.below.trans (tf.toBelow HU.out.below.size (fun k hk e => by have := hg.out; omega))⟩
set_option maxRecDepth 100000 in
set_option maxHeartbeats 2000000 in
theorem used_1100 (w : World) (p : Pkt) (hrows : (∃ A n c, p.codes = .slice A n c) ∧ (∃ A n c, p.subs = .slice A n c)) (h : p.ty = 1) (hw : p.will = true) (hus : p.huser = false) (hps : p.hpass = false) : Calls Tryd.prog 38 #[.agg p.cells] w fun e w' => e = .returned (.agg (usedP p).cells) ∧ Below w.heap.size w w' := by
  obtain ⟨hsc, hss⟩ := hrows
  obtain ⟨g, hg⟩ : ∃ g, Hid (g = w.heap.size) := ⟨_, rfl⟩
  obtain ⟨W0, hW0⟩ : ∃ W, Hid (W = (w.alloc (.cells p.cells PT)).alloc (.cells zeroC PT)) := ⟨_, rfl⟩
  have HG0 : Hid (PkAt W0 g p) := by rw [hW0.out, hg.out]; exact (box_at w p).keep (Turn.alloc (S := fun _ => False) _ _) (fun h => h)
  have HV0 : Hid (PkAt W0 (g + 1) zeroP) := by
    rw [hW0.out, hg.out]
    have : (w.alloc (.cells p.cells PT)).heap.size = w.heap.size + 1 := by simp
    unfold PkAt
    rw [Hid, ← this]; exact heap_new _ _
  have HB0 : Hid (Below w.heap.size w W0) := by rw [hW0.out]; exact Below.alloc (Below.alloc (Below.refl _ _) (Nat.le_refl _) _) (by simp) _
  have hs0 : Hid (W0.heap.size = g + 2) := by rw [hW0.out, hg.out, Hid]; simp
  have k0 : W0.cell? ⟨g, 0, none⟩ = some (.int .i64 p.ty) := HG0.out.cell 0
  obtain ⟨r, hr⟩ : ∃ r, Hid (r = usedP p) := ⟨_, rfl⟩
  rw [← hr.out]
  go_enter Tryd.func38, Tryd.ntmps38
  go_upto_region 1 with (fail)
  rename_i hKont
  rw [show (w.alloc (.cells p.cells PT)).alloc (.cells zeroC PT) = W0 from hW0.out.symm, ← hg.out]
  refine wp_region_lit ?_
  refine st_val (.pointer (some ⟨g, 0, none⟩)) (wanted_free rfl) (by exact rFieldAddr (x := .tmp 1) rfl (by kernel_rfl)) ?_
  refine st_val (.int .i64 p.ty) (wanted_free rfl) (by exact rLoad (x := .tmp 4) rfl (kLoadI 0 _ k0)) ?_
  refine st_val (.agg (typeP p.ty).cells) (wanted_free rfl) (by exact rBuild1 (x := .tmp 5) rfl (kBuildP _)) ?_
  refine st_alloc (wanted_free rfl) rfl (by exact kAllocP _) ?_
  refine wp_store_pkt (g := W0.heap.size) (typeP p.ty) zeroP rfl rfl rfl rfl (by exact heap_new _ _) rfl rfl ?_
  intro W1 HP1 t1
  have HU : Hid (Us w W1 g (g + 1) (g + 2) p (typeP p.ty)) := by
    have hb : Below W0.heap.size W0 W1 := (Below.alloc (Below.refl _ _) (Nat.le_refl _) _).trans (t1.toBelow (by simp) (fun k hk e => by omega))
    refine ⟨HG0.out.keep (Turn.of_below (S := fun _ => False) hb) (fun h => h), HV0.out.keep (Turn.of_below (S := fun _ => False) hb) (fun h => h), ?_, HB0.out.trans (hb.mono HB0.out.size), rfl, rfl, hg.out⟩
    rw [← hs0.out]; exact HP1.out
  rw [show W0.heap.size = g + 2 from hs0.out]
  refine wpList_nil (hKont _ _ ?_)
  clear hKont HP1 t1 HG0 HV0 HB0 k0
  simp only [Act.put, List.setIfInBounds_toArray, List.set_cons_zero, List.set_cons_succ]
  obtain ⟨q0, hq0⟩ : ∃ q, Hid (q = typeP p.ty) := ⟨_, rfl⟩
  rw [← hq0.out] at HU
  have j0 : W1.cell? ⟨g, 0, none⟩ = some (.int .i64 p.ty) := HU.out.at_.cell 0
  have hu : Hid (usedP p = { typeP 1 with client := p.client, clean := p.clean, alive := p.alive, will := p.will, topic := p.topic, payload := p.payload, qos := p.qos, retain := p.retain, huser := p.huser, hpass := p.hpass }) := by rw [Hid, usedP, if_pos h, hw, hus, hps]; rfl
  rw [h] at j0
  go_upto_region 4 with (fail)
  rename_i hOut hKs hKont
  refine wp_region_lit ?_
  refine st_val (.pointer (some ⟨g, 7, none⟩)) (wanted_free rfl) (by exact rFieldAddr (x := .tmp 1) rfl (by kernel_rfl)) ?_
  refine st_val (.string p.client) (wanted_free rfl) (by exact rLoad (x := .tmp 11) rfl (kLoadS 7 _ (HU.out.at_.cell 7))) ?_
  refine st_val (.pointer (some ⟨g + 2, 7, none⟩)) (wanted_free rfl) (by exact rFieldAddr (x := .tmp 3) rfl (by kernel_rfl)) ?_
  refine wp_store1 (w := w) (g := g) (v := g + 1) (u := g + 2) (i := 7) (p := p) (q := q0) (.string p.client) { typeP p.ty with client := p.client } rfl rfl rfl rfl HU.out (by decide) (fun W => by kernel_rfl) rfl (by rw [hq0.out]; rfl) ?_
  intro W2 HU'
  refine wpList_nil (hKont _ _ ?_)
  clear hKont HU
  obtain ⟨q1, hq1⟩ : ∃ q : Pkt, Hid (q = { typeP p.ty with client := p.client }) := ⟨_, rfl⟩
  rw [← hq1.out] at HU'
  have HU := HU'
  clear HU'
  simp only [Act.put, List.setIfInBounds_toArray, List.set_cons_zero, List.set_cons_succ]
  go_upto_region 5 with (fail)
  rename_i hKont
  refine wp_region_lit ?_
  refine st_val (.pointer (some ⟨g, 8, none⟩)) (wanted_free rfl) (by exact rFieldAddr (x := .tmp 1) rfl (by kernel_rfl)) ?_
  refine st_val (.bool p.clean) (wanted_free rfl) (by exact rLoad (x := .tmp 14) rfl (kLoadB 8 _ (HU.out.at_.cell 8))) ?_
  refine st_val (.pointer (some ⟨g + 2, 8, none⟩)) (wanted_free rfl) (by exact rFieldAddr (x := .tmp 3) rfl (by kernel_rfl)) ?_
  refine wp_store1 (w := w) (g := g) (v := g + 1) (u := g + 2) (i := 8) (p := p) (q := q1) (.bool p.clean) { typeP p.ty with client := p.client, clean := p.clean } rfl rfl rfl rfl HU.out (by decide) (fun W => by kernel_rfl) rfl (by rw [hq1.out]; rfl) ?_
  intro W3 HU'
  refine wpList_nil (hKont _ _ ?_)
  clear hKont HU
  obtain ⟨q2, hq2⟩ : ∃ q : Pkt, Hid (q = { typeP p.ty with client := p.client, clean := p.clean }) := ⟨_, rfl⟩
  rw [← hq2.out] at HU'
  have HU := HU'
  clear HU'
  simp only [Act.put, List.setIfInBounds_toArray, List.set_cons_zero, List.set_cons_succ]
  go_upto_region 6 with (fail)
  rename_i hKont
  refine wp_region_lit ?_
  refine st_val (.pointer (some ⟨g, 9, none⟩)) (wanted_free rfl) (by exact rFieldAddr (x := .tmp 1) rfl (by kernel_rfl)) ?_
  refine st_val (.int .i64 p.alive) (wanted_free rfl) (by exact rLoad (x := .tmp 17) rfl (kLoadI 9 _ (HU.out.at_.cell 9))) ?_
  refine st_val (.pointer (some ⟨g + 2, 9, none⟩)) (wanted_free rfl) (by exact rFieldAddr (x := .tmp 3) rfl (by kernel_rfl)) ?_
  refine wp_store1 (w := w) (g := g) (v := g + 1) (u := g + 2) (i := 9) (p := p) (q := q2) (.int .i64 p.alive) { typeP p.ty with client := p.client, clean := p.clean, alive := p.alive } rfl rfl rfl rfl HU.out (by decide) (fun W => by kernel_rfl) rfl (by rw [hq2.out]; rfl) ?_
  intro W4 HU'
  refine wpList_nil (hKont _ _ ?_)
  clear hKont HU
  obtain ⟨q3, hq3⟩ : ∃ q : Pkt, Hid (q = { typeP p.ty with client := p.client, clean := p.clean, alive := p.alive }) := ⟨_, rfl⟩
  rw [← hq3.out] at HU'
  have HU := HU'
  clear HU'
  simp only [Act.put, List.setIfInBounds_toArray, List.set_cons_zero, List.set_cons_succ]
  go_upto_region 7 with (fail)
  rename_i hKont
  refine wp_region_lit ?_
  refine st_val (.pointer (some ⟨g, 10, none⟩)) (wanted_free rfl) (by exact rFieldAddr (x := .tmp 1) rfl (by kernel_rfl)) ?_
  refine st_val (.bool p.will) (wanted_free rfl) (by exact rLoad (x := .tmp 20) rfl (kLoadB 10 _ (HU.out.at_.cell 10))) ?_
  refine st_val (.pointer (some ⟨g + 2, 10, none⟩)) (wanted_free rfl) (by exact rFieldAddr (x := .tmp 3) rfl (by kernel_rfl)) ?_
  refine wp_store1 (w := w) (g := g) (v := g + 1) (u := g + 2) (i := 10) (p := p) (q := q3) (.bool p.will) { typeP p.ty with client := p.client, clean := p.clean, alive := p.alive, will := p.will } rfl rfl rfl rfl HU.out (by decide) (fun W => by kernel_rfl) rfl (by rw [hq3.out]; rfl) ?_
  intro W5 HU'
  refine wpList_nil (hKont _ _ ?_)
  clear hKont HU
  obtain ⟨q4, hq4⟩ : ∃ q : Pkt, Hid (q = { typeP p.ty with client := p.client, clean := p.clean, alive := p.alive, will := p.will }) := ⟨_, rfl⟩
  rw [← hq4.out] at HU'
  have HU := HU'
  clear HU'
  simp only [Act.put, List.setIfInBounds_toArray, List.set_cons_zero, List.set_cons_succ]
  have j10 : W5.cell? ⟨g, 10, none⟩ = some (.bool p.will) := HU.out.at_.cell 10
  rw [hw] at j10
  go_upto_region 9 with (fail)
  rename_i hKont
  refine wp_region_lit ?_
  refine st_val (.pointer (some ⟨g, 3, none⟩)) (wanted_free rfl) (by exact rFieldAddr (x := .tmp 1) rfl (by kernel_rfl)) ?_
  refine st_val (.agg #[.string p.topic, .string p.payload, .int .i64 p.qos, .bool p.retain]) (wanted_free rfl) (by exact rLoad (x := .tmp 25) rfl (kLoadMs HU.out.at_)) ?_
  refine st_val (.pointer (some ⟨g + 2, 3, none⟩)) (wanted_free rfl) (by exact rFieldAddr (x := .tmp 3) rfl (by kernel_rfl)) ?_
  refine wp_storeM (w := w) (g := g) (v := g + 1) (u := g + 2) (p := p) (q := q4) { typeP p.ty with client := p.client, clean := p.clean, alive := p.alive, will := p.will, topic := p.topic, payload := p.payload, qos := p.qos, retain := p.retain } rfl rfl rfl rfl HU.out (by rw [hq4.out]) ?_
  intro W6 HU'
  refine wpList_nil (hKont _ _ ?_)
  clear hKont HU
  obtain ⟨q5, hq5⟩ : ∃ q : Pkt, Hid (q = { typeP p.ty with client := p.client, clean := p.clean, alive := p.alive, will := p.will, topic := p.topic, payload := p.payload, qos := p.qos, retain := p.retain }) := ⟨_, rfl⟩
  rw [← hq5.out] at HU'
  have HU := HU'
  clear HU'
  simp only [Act.put, List.setIfInBounds_toArray, List.set_cons_zero, List.set_cons_succ]
  go_upto_region 10 with (fail)
  rename_i hKont
  refine wp_region_lit ?_
  refine st_val (.pointer (some ⟨g, 11, none⟩)) (wanted_free rfl) (by exact rFieldAddr (x := .tmp 1) rfl (by kernel_rfl)) ?_
  refine st_val (.bool p.huser) (wanted_free rfl) (by exact rLoad (x := .tmp 28) rfl (kLoadB 11 _ (HU.out.at_.cell 11))) ?_
  refine st_val (.pointer (some ⟨g + 2, 11, none⟩)) (wanted_free rfl) (by exact rFieldAddr (x := .tmp 3) rfl (by kernel_rfl)) ?_
  refine wp_store1 (w := w) (g := g) (v := g + 1) (u := g + 2) (i := 11) (p := p) (q := q5) (.bool p.huser) { typeP p.ty with client := p.client, clean := p.clean, alive := p.alive, will := p.will, topic := p.topic, payload := p.payload, qos := p.qos, retain := p.retain, huser := p.huser } rfl rfl rfl rfl HU.out (by decide) (fun W => by kernel_rfl) rfl (by rw [hq5.out]; rfl) ?_
  intro W7 HU'
  refine wpList_nil (hKont _ _ ?_)
  clear hKont HU
  obtain ⟨q6, hq6⟩ : ∃ q : Pkt, Hid (q = { typeP p.ty with client := p.client, clean := p.clean, alive := p.alive, will := p.will, topic := p.topic, payload := p.payload, qos := p.qos, retain := p.retain, huser := p.huser }) := ⟨_, rfl⟩
  rw [← hq6.out] at HU'
  have HU := HU'
  clear HU'
  simp only [Act.put, List.setIfInBounds_toArray, List.set_cons_zero, List.set_cons_succ]
  have j11 : W7.cell? ⟨g, 11, none⟩ = some (.bool p.huser) := HU.out.at_.cell 11
  rw [hus] at j11
  go_upto_region 13 with (fail)
  rename_i hKont
  refine wp_region_lit ?_
  refine st_val (.pointer (some ⟨g, 12, none⟩)) (wanted_free rfl) (by exact rFieldAddr (x := .tmp 1) rfl (by kernel_rfl)) ?_
  refine st_val (.bool p.hpass) (wanted_free rfl) (by exact rLoad (x := .tmp 36) rfl (kLoadB 12 _ (HU.out.at_.cell 12))) ?_
  refine st_val (.pointer (some ⟨g + 2, 12, none⟩)) (wanted_free rfl) (by exact rFieldAddr (x := .tmp 3) rfl (by kernel_rfl)) ?_
  refine wp_store1 (w := w) (g := g) (v := g + 1) (u := g + 2) (i := 12) (p := p) (q := q6) (.bool p.hpass) { typeP p.ty with client := p.client, clean := p.clean, alive := p.alive, will := p.will, topic := p.topic, payload := p.payload, qos := p.qos, retain := p.retain, huser := p.huser, hpass := p.hpass } rfl rfl rfl rfl HU.out (by decide) (fun W => by kernel_rfl) rfl (by rw [hq6.out]; rfl) ?_
  intro W8 HU'
  refine wpList_nil (hKont _ _ ?_)
  clear hKont HU
  obtain ⟨q7, hq7⟩ : ∃ q : Pkt, Hid (q = { typeP p.ty with client := p.client, clean := p.clean, alive := p.alive, will := p.will, topic := p.topic, payload := p.payload, qos := p.qos, retain := p.retain, huser := p.huser, hpass := p.hpass }) := ⟨_, rfl⟩
  rw [← hq7.out] at HU'
  have HU := HU'
  clear HU'
  simp only [Act.put, List.setIfInBounds_toArray, List.set_cons_zero, List.set_cons_succ]
  have j12 : W8.cell? ⟨g, 12, none⟩ = some (.bool p.hpass) := HU.out.at_.cell 12
  rw [hps] at j12
  go_upto_region 36 with (fail)
  rename_i hKont
  refine wp_region_lit (wp_load_pkt (p := q7) rfl rfl (by rfl) HU.out.cur ?_)
  refine wp_store_pkt (g := g + 1) q7 zeroP rfl rfl (by rfl) (by rfl) HU.out.res (by rw [hq7.out]; rfl) (by rw [hq7.out]; rfl) ?_
  intro Wf HPf tf
  refine wpList_nil (hKont _ _ (wp_ret ?_))
  have hrq : r = q7 := by rw [hr.out, hu.out, hq7.out, h]
  exact ⟨rfl, _, used_results Wf (g + 1) q7 _ rfl HPf.out, by rw [hrq], HU.out.below.trans (tf.toBelow HU.out.below.size (fun k hk e => by have := hg.out; omega))⟩
set_option maxRecDepth 100000 in
set_option maxHeartbeats 2000000 in
theorem used_1101 (w : World) (p : Pkt) (hrows : (∃ A n c, p.codes = .slice A n c) ∧ (∃ A n c, p.subs = .slice A n c)) (h : p.ty = 1) (hw : p.will = true) (hus : p.huser = false) (hps : p.hpass = true) : Calls Tryd.prog 38 #[.agg p.cells] w fun e w' => e = .returned (.agg (usedP p).cells) ∧ Below w.heap.size w w' := by
  obtain ⟨hsc, hss⟩ := hrows
  obtain ⟨g, hg⟩ : ∃ g, Hid (g = w.heap.size) := ⟨_, rfl⟩
  obtain ⟨W0, hW0⟩ : ∃ W, Hid (W = (w.alloc (.cells p.cells PT)).alloc (.cells zeroC PT)) := ⟨_, rfl⟩
  have HG0 : Hid (PkAt W0 g p) := by rw [hW0.out, hg.out]; exact (box_at w p).keep (Turn.alloc (S := fun _ => False) _ _) (fun h => h)
  have HV0 : Hid (PkAt W0 (g + 1) zeroP) := by
    rw [hW0.out, hg.out]
    have : (w.alloc (.cells p.cells PT)).heap.size = w.heap.size + 1 := by simp
    unfold PkAt
    rw [Hid, ← this]; exact heap_new _ _
  have HB0 : Hid (Below w.heap.size w W0) := by rw [hW0.out]; exact Below.alloc (Below.alloc (Below.refl _ _) (Nat.le_refl _) _) (by simp) _
  have hs0 : Hid (W0.heap.size = g + 2) := by rw [hW0.out, hg.out, Hid]; simp
  have k0 : W0.cell? ⟨g, 0, none⟩ = some (.int .i64 p.ty) := HG0.out.cell 0
  obtain ⟨r, hr⟩ : ∃ r, Hid (r = usedP p) := ⟨_, rfl⟩
  rw [← hr.out]
  go_enter Tryd.func38, Tryd.ntmps38
  go_upto_region 1 with (fail)
  rename_i hKont
  rw [show (w.alloc (.cells p.cells PT)).alloc (.cells zeroC PT) = W0 from hW0.out.symm, ← hg.out]
  refine wp_region_lit ?_
  refine st_val (.pointer (some ⟨g, 0, none⟩)) (wanted_free rfl) (by exact rFieldAddr (x := .tmp 1) rfl (by kernel_rfl)) ?_
  refine st_val (.int .i64 p.ty) (wanted_free rfl) (by exact rLoad (x := .tmp 4) rfl (kLoadI 0 _ k0)) ?_
  refine st_val (.agg (typeP p.ty).cells) (wanted_free rfl) (by exact rBuild1 (x := .tmp 5) rfl (kBuildP _)) ?_
  refine st_alloc (wanted_free rfl) rfl (by exact kAllocP _) ?_
  refine wp_store_pkt (g := W0.heap.size) (typeP p.ty) zeroP rfl rfl rfl rfl (by exact heap_new _ _) rfl rfl ?_
  intro W1 HP1 t1
  have HU : Hid (Us w W1 g (g + 1) (g + 2) p (typeP p.ty)) := by
    have hb : Below W0.heap.size W0 W1 := (Below.alloc (Below.refl _ _) (Nat.le_refl _) _).trans (t1.toBelow (by simp) (fun k hk e => by omega))
    refine ⟨HG0.out.keep (Turn.of_below (S := fun _ => False) hb) (fun h => h), HV0.out.keep (Turn.of_below (S := fun _ => False) hb) (fun h => h), ?_, HB0.out.trans (hb.mono HB0.out.size), rfl, rfl, hg.out⟩
    rw [← hs0.out]; exact HP1.out
  rw [show W0.heap.size = g + 2 from hs0.out]
  refine wpList_nil (hKont _ _ ?_)
  clear hKont HP1 t1 HG0 HV0 HB0 k0
  simp only [Act.put, List.setIfInBounds_toArray, List.set_cons_zero, List.set_cons_succ]
  obtain ⟨q0, hq0⟩ : ∃ q, Hid (q = typeP p.ty) := ⟨_, rfl⟩
  rw [← hq0.out] at HU
  have j0 : W1.cell? ⟨g, 0, none⟩ = some (.int .i64 p.ty) := HU.out.at_.cell 0
  have hu : Hid (usedP p = { typeP 1 with client := p.client, clean := p.clean, alive := p.alive, will := p.will, topic := p.topic, payload := p.payload, qos := p.qos, retain := p.retain, huser := p.huser, hpass := p.hpass, pass := p.pass }) := by rw [Hid, usedP, if_pos h, hw, hus, hps]; rfl
  rw [h] at j0
  go_upto_region 4 with (fail)
  rename_i hOut hKs hKont
  refine wp_region_lit ?_
  refine st_val (.pointer (some ⟨g, 7, none⟩)) (wanted_free rfl) (by exact rFieldAddr (x := .tmp 1) rfl (by kernel_rfl)) ?_
  refine st_val (.string p.client) (wanted_free rfl) (by exact rLoad (x := .tmp 11) rfl (kLoadS 7 _ (HU.out.at_.cell 7))) ?_
  refine st_val (.pointer (some ⟨g + 2, 7, none⟩)) (wanted_free rfl) (by exact rFieldAddr (x := .tmp 3) rfl (by kernel_rfl)) ?_
  refine wp_store1 (w := w) (g := g) (v := g + 1) (u := g + 2) (i := 7) (p := p) (q := q0) (.string p.client) { typeP p.ty with client := p.client } rfl rfl rfl rfl HU.out (by decide) (fun W => by kernel_rfl) rfl (by rw [hq0.out]; rfl) ?_
  intro W2 HU'
  refine wpList_nil (hKont _ _ ?_)
  clear hKont HU
  obtain ⟨q1, hq1⟩ : ∃ q : Pkt, Hid (q = { typeP p.ty with client := p.client }) := ⟨_, rfl⟩
  rw [← hq1.out] at HU'
  have HU := HU'
  clear HU'
  simp only [Act.put, List.setIfInBounds_toArray, List.set_cons_zero, List.set_cons_succ]
  go_upto_region 5 with (fail)
  rename_i hKont
  refine wp_region_lit ?_
  refine st_val (.pointer (some ⟨g, 8, none⟩)) (wanted_free rfl) (by exact rFieldAddr (x := .tmp 1) rfl (by kernel_rfl)) ?_
  refine st_val (.bool p.clean) (wanted_free rfl) (by exact rLoad (x := .tmp 14) rfl (kLoadB 8 _ (HU.out.at_.cell 8))) ?_
  refine st_val (.pointer (some ⟨g + 2, 8, none⟩)) (wanted_free rfl) (by exact rFieldAddr (x := .tmp 3) rfl (by kernel_rfl)) ?_
  refine wp_store1 (w := w) (g := g) (v := g + 1) (u := g + 2) (i := 8) (p := p) (q := q1) (.bool p.clean) { typeP p.ty with client := p.client, clean := p.clean } rfl rfl rfl rfl HU.out (by decide) (fun W => by kernel_rfl) rfl (by rw [hq1.out]; rfl) ?_
  intro W3 HU'
  refine wpList_nil (hKont _ _ ?_)
  clear hKont HU
  obtain ⟨q2, hq2⟩ : ∃ q : Pkt, Hid (q = { typeP p.ty with client := p.client, clean := p.clean }) := ⟨_, rfl⟩
  rw [← hq2.out] at HU'
  have HU := HU'
  clear HU'
  simp only [Act.put, List.setIfInBounds_toArray, List.set_cons_zero, List.set_cons_succ]
  go_upto_region 6 with (fail)
  rename_i hKont
  refine wp_region_lit ?_
  refine st_val (.pointer (some ⟨g, 9, none⟩)) (wanted_free rfl) (by exact rFieldAddr (x := .tmp 1) rfl (by kernel_rfl)) ?_
  refine st_val (.int .i64 p.alive) (wanted_free rfl) (by exact rLoad (x := .tmp 17) rfl (kLoadI 9 _ (HU.out.at_.cell 9))) ?_
  refine st_val (.pointer (some ⟨g + 2, 9, none⟩)) (wanted_free rfl) (by exact rFieldAddr (x := .tmp 3) rfl (by kernel_rfl)) ?_
  refine wp_store1 (w := w) (g := g) (v := g + 1) (u := g + 2) (i := 9) (p := p) (q := q2) (.int .i64 p.alive) { typeP p.ty with client := p.client, clean := p.clean, alive := p.alive } rfl rfl rfl rfl HU.out (by decide) (fun W => by kernel_rfl) rfl (by rw [hq2.out]; rfl) ?_
  intro W4 HU'
  refine wpList_nil (hKont _ _ ?_)
  clear hKont HU
  obtain ⟨q3, hq3⟩ : ∃ q : Pkt, Hid (q = { typeP p.ty with client := p.client, clean := p.clean, alive := p.alive }) := ⟨_, rfl⟩
  rw [← hq3.out] at HU'
  have HU := HU'
  clear HU'
  simp only [Act.put, List.setIfInBounds_toArray, List.set_cons_zero, List.set_cons_succ]
  go_upto_region 7 with (fail)
  rename_i hKont
  refine wp_region_lit ?_
  refine st_val (.pointer (some ⟨g, 10, none⟩)) (wanted_free rfl) (by exact rFieldAddr (x := .tmp 1) rfl (by kernel_rfl)) ?_
  refine st_val (.bool p.will) (wanted_free rfl) (by exact rLoad (x := .tmp 20) rfl (kLoadB 10 _ (HU.out.at_.cell 10))) ?_
  refine st_val (.pointer (some ⟨g + 2, 10, none⟩)) (wanted_free rfl) (by exact rFieldAddr (x := .tmp 3) rfl (by kernel_rfl)) ?_
  refine wp_store1 (w := w) (g := g) (v := g + 1) (u := g + 2) (i := 10) (p := p) (q := q3) (.bool p.will) { typeP p.ty with client := p.client, clean := p.clean, alive := p.alive, will := p.will } rfl rfl rfl rfl HU.out (by decide) (fun W => by kernel_rfl) rfl (by rw [hq3.out]; rfl) ?_
  intro W5 HU'
  refine wpList_nil (hKont _ _ ?_)
  clear hKont HU
  obtain ⟨q4, hq4⟩ : ∃ q : Pkt, Hid (q = { typeP p.ty with client := p.client, clean := p.clean, alive := p.alive, will := p.will }) := ⟨_, rfl⟩
  rw [← hq4.out] at HU'
  have HU := HU'
  clear HU'
  simp only [Act.put, List.setIfInBounds_toArray, List.set_cons_zero, List.set_cons_succ]
  have j10 : W5.cell? ⟨g, 10, none⟩ = some (.bool p.will) := HU.out.at_.cell 10
  rw [hw] at j10
  go_upto_region 9 with (fail)
  rename_i hKont
  refine wp_region_lit ?_
  refine st_val (.pointer (some ⟨g, 3, none⟩)) (wanted_free rfl) (by exact rFieldAddr (x := .tmp 1) rfl (by kernel_rfl)) ?_
  refine st_val (.agg #[.string p.topic, .string p.payload, .int .i64 p.qos, .bool p.retain]) (wanted_free rfl) (by exact rLoad (x := .tmp 25) rfl (kLoadMs HU.out.at_)) ?_
  refine st_val (.pointer (some ⟨g + 2, 3, none⟩)) (wanted_free rfl) (by exact rFieldAddr (x := .tmp 3) rfl (by kernel_rfl)) ?_
  refine wp_storeM (w := w) (g := g) (v := g + 1) (u := g + 2) (p := p) (q := q4) { typeP p.ty with client := p.client, clean := p.clean, alive := p.alive, will := p.will, topic := p.topic, payload := p.payload, qos := p.qos, retain := p.retain } rfl rfl rfl rfl HU.out (by rw [hq4.out]) ?_
  intro W6 HU'
  refine wpList_nil (hKont _ _ ?_)
  clear hKont HU
  obtain ⟨q5, hq5⟩ : ∃ q : Pkt, Hid (q = { typeP p.ty with client := p.client, clean := p.clean, alive := p.alive, will := p.will, topic := p.topic, payload := p.payload, qos := p.qos, retain := p.retain }) := ⟨_, rfl⟩
  rw [← hq5.out] at HU'
  have HU := HU'
  clear HU'
  simp only [Act.put, List.setIfInBounds_toArray, List.set_cons_zero, List.set_cons_succ]
  go_upto_region 10 with (fail)
  rename_i hKont
  refine wp_region_lit ?_
  refine st_val (.pointer (some ⟨g, 11, none⟩)) (wanted_free rfl) (by exact rFieldAddr (x := .tmp 1) rfl (by kernel_rfl)) ?_
  refine st_val (.bool p.huser) (wanted_free rfl) (by exact rLoad (x := .tmp 28) rfl (kLoadB 11 _ (HU.out.at_.cell 11))) ?_
  refine st_val (.pointer (some ⟨g + 2, 11, none⟩)) (wanted_free rfl) (by exact rFieldAddr (x := .tmp 3) rfl (by kernel_rfl)) ?_
  refine wp_store1 (w := w) (g := g) (v := g + 1) (u := g + 2) (i := 11) (p := p) (q := q5) (.bool p.huser) { typeP p.ty with client := p.client, clean := p.clean, alive := p.alive, will := p.will, topic := p.topic, payload := p.payload, qos := p.qos, retain := p.retain, huser := p.huser } rfl rfl rfl rfl HU.out (by decide) (fun W => by kernel_rfl) rfl (by rw [hq5.out]; rfl) ?_
  intro W7 HU'
  refine wpList_nil (hKont _ _ ?_)
  clear hKont HU
  obtain ⟨q6, hq6⟩ : ∃ q : Pkt, Hid (q = { typeP p.ty with client := p.client, clean := p.clean, alive := p.alive, will := p.will, topic := p.topic, payload := p.payload, qos := p.qos, retain := p.retain, huser := p.huser }) := ⟨_, rfl⟩
  rw [← hq6.out] at HU'
  have HU := HU'
  clear HU'
  simp only [Act.put, List.setIfInBounds_toArray, List.set_cons_zero, List.set_cons_succ]
  have j11 : W7.cell? ⟨g, 11, none⟩ = some (.bool p.huser) := HU.out.at_.cell 11
  rw [hus] at j11
  go_upto_region 13 with (fail)
  rename_i hKont
  refine wp_region_lit ?_
  refine st_val (.pointer (some ⟨g, 12, none⟩)) (wanted_free rfl) (by exact rFieldAddr (x := .tmp 1) rfl (by kernel_rfl)) ?_
  refine st_val (.bool p.hpass) (wanted_free rfl) (by exact rLoad (x := .tmp 36) rfl (kLoadB 12 _ (HU.out.at_.cell 12))) ?_
  refine st_val (.pointer (some ⟨g + 2, 12, none⟩)) (wanted_free rfl) (by exact rFieldAddr (x := .tmp 3) rfl (by kernel_rfl)) ?_
  refine wp_store1 (w := w) (g := g) (v := g + 1) (u := g + 2) (i := 12) (p := p) (q := q6) (.bool p.hpass) { typeP p.ty with client := p.client, clean := p.clean, alive := p.alive, will := p.will, topic := p.topic, payload := p.payload, qos := p.qos, retain := p.retain, huser := p.huser, hpass := p.hpass } rfl rfl rfl rfl HU.out (by decide) (fun W => by kernel_rfl) rfl (by rw [hq6.out]; rfl) ?_
  intro W8 HU'
  refine wpList_nil (hKont _ _ ?_)
  clear hKont HU
  obtain ⟨q7, hq7⟩ : ∃ q : Pkt, Hid (q = { typeP p.ty with client := p.client, clean := p.clean, alive := p.alive, will := p.will, topic := p.topic, payload := p.payload, qos := p.qos, retain := p.retain, huser := p.huser, hpass := p.hpass }) := ⟨_, rfl⟩
  rw [← hq7.out] at HU'
  have HU := HU'
  clear HU'
  simp only [Act.put, List.setIfInBounds_toArray, List.set_cons_zero, List.set_cons_succ]
  have j12 : W8.cell? ⟨g, 12, none⟩ = some (.bool p.hpass) := HU.out.at_.cell 12
  rw [hps] at j12
  go_upto_region 15 with (fail)
  refine wp_region_lit ?_
  refine st_val (.pointer (some ⟨g, 14, none⟩)) (wanted_free rfl) (by exact rFieldAddr (x := .tmp 1) rfl (by kernel_rfl)) ?_
  refine st_val (.string p.pass) (wanted_free rfl) (by exact rLoad (x := .tmp 41) rfl (kLoadS 14 _ (HU.out.at_.cell 14))) ?_
  refine st_val (.pointer (some ⟨g + 2, 14, none⟩)) (wanted_free rfl) (by exact rFieldAddr (x := .tmp 3) rfl (by kernel_rfl)) ?_
  refine wp_store1 (w := w) (g := g) (v := g + 1) (u := g + 2) (i := 14) (p := p) (q := q7) (.string p.pass) { typeP p.ty with client := p.client, clean := p.clean, alive := p.alive, will := p.will, topic := p.topic, payload := p.payload, qos := p.qos, retain := p.retain, huser := p.huser, hpass := p.hpass, pass := p.pass } rfl rfl rfl rfl HU.out (by decide) (fun W => by kernel_rfl) rfl (by rw [hq7.out]; rfl) ?_
  intro W9 HU'
  refine wpList_nil (hOut _ _ ?_)
  clear HU
  obtain ⟨q8, hq8⟩ : ∃ q : Pkt, Hid (q = { typeP p.ty with client := p.client, clean := p.clean, alive := p.alive, will := p.will, topic := p.topic, payload := p.payload, qos := p.qos, retain := p.retain, huser := p.huser, hpass := p.hpass, pass := p.pass }) := ⟨_, rfl⟩
  rw [← hq8.out] at HU'
  have HU := HU'
  clear HU'
  simp only [Act.put, List.setIfInBounds_toArray, List.set_cons_zero, List.set_cons_succ]
  go_upto_region 36 with (fail)
  rename_i hKont
  refine wp_region_lit (wp_load_pkt (p := q8) rfl rfl (by rfl) HU.out.cur ?_)
  refine wp_store_pkt (g := g + 1) q8 zeroP rfl rfl (by rfl) (by rfl) HU.out.res (by rw [hq8.out]; rfl) (by rw [hq8.out]; rfl) ?_
  intro Wf HPf tf
  refine wpList_nil (hKont _ _ (wp_ret ?_))
  have hrq : r = q8 := by rw [hr.out, hu.out, hq8.out, h]
  exact ⟨rfl, _, used_results Wf (g + 1) q8 _ rfl HPf.out, by rw [hrq], HU.out.below.trans (tf.toBelow HU.out.below.size (fun k hk e => by have := hg.out; omega))⟩
set_option maxRecDepth 100000 in
set_option maxHeartbeats 2000000 in
theorem used_1110 (w : World) (p : Pkt) (hrows : (∃ A n c, p.codes = .slice A n c) ∧ (∃ A n c, p.subs = .slice A n c)) (h : p.ty = 1) (hw : p.will = true) (hus : p.huser = true) (hps : p.hpass = false) : Calls Tryd.prog 38 #[.agg p.cells] w fun e w' => e = .returned (.agg (usedP p).cells) ∧ Below w.heap.size w w' := by
  obtain ⟨hsc, hss⟩ := hrows
  obtain ⟨g, hg⟩ : ∃ g, Hid (g = w.heap.size) := ⟨_, rfl⟩
  obtain ⟨W0, hW0⟩ : ∃ W, Hid (W = (w.alloc (.cells p.cells PT)).alloc (.cells zeroC PT)) := ⟨_, rfl⟩
  have HG0 : Hid (PkAt W0 g p) := by rw [hW0.out, hg.out]; exact (box_at w p).keep (Turn.alloc (S := fun _ => False) _ _) (fun h => h)
  have HV0 : Hid (PkAt W0 (g + 1) zeroP) := by
    rw [hW0.out, hg.out]
    have : (w.alloc (.cells p.cells PT)).heap.size = w.heap.size + 1 := by simp
    unfold PkAt
    rw [Hid, ← this]; exact heap_new _ _
  have HB0 : Hid (Below w.heap.size w W0) := by rw [hW0.out]; exact Below.alloc (Below.alloc (Below.refl _ _) (Nat.le_refl _) _) (by simp) _
  have hs0 : Hid (W0.heap.size = g + 2) := by rw [hW0.out, hg.out, Hid]; simp
  have k0 : W0.cell? ⟨g, 0, none⟩ = some (.int .i64 p.ty) := HG0.out.cell 0
  obtain ⟨r, hr⟩ : ∃ r, Hid (r = usedP p) := ⟨_, rfl⟩
  rw [← hr.out]
  go_enter Tryd.func38, Tryd.ntmps38
  go_upto_region 1 with (fail)
  rename_i hKont
  rw [show (w.alloc (.cells p.cells PT)).alloc (.cells zeroC PT) = W0 from hW0.out.symm, ← hg.out]
  refine wp_region_lit ?_
  refine st_val (.pointer (some ⟨g, 0, none⟩)) (wanted_free rfl) (by exact rFieldAddr (x := .tmp 1) rfl (by kernel_rfl)) ?_
  refine st_val (.int .i64 p.ty) (wanted_free rfl) (by exact rLoad (x := .tmp 4) rfl (kLoadI 0 _ k0)) ?_
  refine st_val (.agg (typeP p.ty).cells) (wanted_free rfl) (by exact rBuild1 (x := .tmp 5) rfl (kBuildP _)) ?_
  refine st_alloc (wanted_free rfl) rfl (by exact kAllocP _) ?_
  refine wp_store_pkt (g := W0.heap.size) (typeP p.ty) zeroP rfl rfl rfl rfl (by exact heap_new _ _) rfl rfl ?_
  intro W1 HP1 t1
  have HU : Hid (Us w W1 g (g + 1) (g + 2) p (typeP p.ty)) := by
    have hb : Below W0.heap.size W0 W1 := (Below.alloc (Below.refl _ _) (Nat.le_refl _) _).trans (t1.toBelow (by simp) (fun k hk e => by omega))
    refine ⟨HG0.out.keep (Turn.of_below (S := fun _ => False) hb) (fun h => h), HV0.out.keep (Turn.of_below (S := fun _ => False) hb) (fun h => h), ?_, HB0.out.trans (hb.mono HB0.out.size), rfl, rfl, hg.out⟩
    rw [← hs0.out]; exact HP1.out
  rw [show W0.heap.size = g + 2 from hs0.out]
  refine wpList_nil (hKont _ _ ?_)
  clear hKont HP1 t1 HG0 HV0 HB0 k0
  simp only [Act.put, List.setIfInBounds_toArray, List.set_cons_zero, List.set_cons_succ]
  obtain ⟨q0, hq0⟩ : ∃ q, Hid (q = typeP p.ty) := ⟨_, rfl⟩
  rw [← hq0.out] at HU
  have j0 : W1.cell? ⟨g, 0, none⟩ = some (.int .i64 p.ty) := HU.out.at_.cell 0
  have hu : Hid (usedP p = { typeP 1 with client := p.client, clean := p.clean, alive := p.alive, will := p.will, topic := p.topic, payload := p.payload, qos := p.qos, retain := p.retain, huser := p.huser, user := p.user, hpass := p.hpass }) := by rw [Hid, usedP, if_pos h, hw, hus, hps]; rfl
  rw [h] at j0
  go_upto_region 4 with (fail)
  rename_i hOut hKs hKont
  refine wp_region_lit ?_
  refine st_val (.pointer (some ⟨g, 7, none⟩)) (wanted_free rfl) (by exact rFieldAddr (x := .tmp 1) rfl (by kernel_rfl)) ?_
  refine st_val (.string p.client) (wanted_free rfl) (by exact rLoad (x := .tmp 11) rfl (kLoadS 7 _ (HU.out.at_.cell 7))) ?_
  refine st_val (.pointer (some ⟨g + 2, 7, none⟩)) (wanted_free rfl) (by exact rFieldAddr (x := .tmp 3) rfl (by kernel_rfl)) ?_
  refine wp_store1 (w := w) (g := g) (v := g + 1) (u := g + 2) (i := 7) (p := p) (q := q0) (.string p.client) { typeP p.ty with client := p.client } rfl rfl rfl rfl HU.out (by decide) (fun W => by kernel_rfl) rfl (by rw [hq0.out]; rfl) ?_
  intro W2 HU'
  refine wpList_nil (hKont _ _ ?_)
  clear hKont HU
  obtain ⟨q1, hq1⟩ : ∃ q : Pkt, Hid (q = { typeP p.ty with client := p.client }) := ⟨_, rfl⟩
  rw [← hq1.out] at HU'
  have HU := HU'
  clear HU'
  simp only [Act.put, List.setIfInBounds_toArray, List.set_cons_zero, List.set_cons_succ]
  go_upto_region 5 with (fail)
  rename_i hKont
  refine wp_region_lit ?_
  refine st_val (.pointer (some ⟨g, 8, none⟩)) (wanted_free rfl) (by exact rFieldAddr (x := .tmp 1) rfl (by kernel_rfl)) ?_
  refine st_val (.bool p.clean) (wanted_free rfl) (by exact rLoad (x := .tmp 14) rfl (kLoadB 8 _ (HU.out.at_.cell 8))) ?_
  refine st_val (.pointer (some ⟨g + 2, 8, none⟩)) (wanted_free rfl) (by exact rFieldAddr (x := .tmp 3) rfl (by kernel_rfl)) ?_
  refine wp_store1 (w := w) (g := g) (v := g + 1) (u := g + 2) (i := 8) (p := p) (q := q1) (.bool p.clean) { typeP p.ty with client := p.client, clean := p.clean } rfl rfl rfl rfl HU.out (by decide) (fun W => by kernel_rfl) rfl (by rw [hq1.out]; rfl) ?_
  intro W3 HU'
  refine wpList_nil (hKont _ _ ?_)
  clear hKont HU
  obtain ⟨q2, hq2⟩ : ∃ q : Pkt, Hid (q = { typeP p.ty with client := p.client, clean := p.clean }) := ⟨_, rfl⟩
  rw [← hq2.out] at HU'
  have HU := HU'
  clear HU'
  simp only [Act.put, List.setIfInBounds_toArray, List.set_cons_zero, List.set_cons_succ]
  go_upto_region 6 with (fail)
  rename_i hKont
  refine wp_region_lit ?_
  refine st_val (.pointer (some ⟨g, 9, none⟩)) (wanted_free rfl) (by exact rFieldAddr (x := .tmp 1) rfl (by kernel_rfl)) ?_
  refine st_val (.int .i64 p.alive) (wanted_free rfl) (by exact rLoad (x := .tmp 17) rfl (kLoadI 9 _ (HU.out.at_.cell 9))) ?_
  refine st_val (.pointer (some ⟨g + 2, 9, none⟩)) (wanted_free rfl) (by exact rFieldAddr (x := .tmp 3) rfl (by kernel_rfl)) ?_
  refine wp_store1 (w := w) (g := g) (v := g + 1) (u := g + 2) (i := 9) (p := p) (q := q2) (.int .i64 p.alive) { typeP p.ty with client := p.client, clean := p.clean, alive := p.alive } rfl rfl rfl rfl HU.out (by decide) (fun W => by kernel_rfl) rfl (by rw [hq2.out]; rfl) ?_
  intro W4 HU'
  refine wpList_nil (hKont _ _ ?_)
  clear hKont HU
  obtain ⟨q3, hq3⟩ : ∃ q : Pkt, Hid (q = { typeP p.ty with client := p.client, clean := p.clean, alive := p.alive }) := ⟨_, rfl⟩
  rw [← hq3.out] at HU'
  have HU := HU'
  clear HU'
  simp only [Act.put, List.setIfInBounds_toArray, List.set_cons_zero, List.set_cons_succ]
  go_upto_region 7 with (fail)
  rename_i hKont
  refine wp_region_lit ?_
  refine st_val (.pointer (some ⟨g, 10, none⟩)) (wanted_free rfl) (by exact rFieldAddr (x := .tmp 1) rfl (by kernel_rfl)) ?_
  refine st_val (.bool p.will) (wanted_free rfl) (by exact rLoad (x := .tmp 20) rfl (kLoadB 10 _ (HU.out.at_.cell 10))) ?_
  refine st_val (.pointer (some ⟨g + 2, 10, none⟩)) (wanted_free rfl) (by exact rFieldAddr (x := .tmp 3) rfl (by kernel_rfl)) ?_
  refine wp_store1 (w := w) (g := g) (v := g + 1) (u := g + 2) (i := 10) (p := p) (q := q3) (.bool p.will) { typeP p.ty with client := p.client, clean := p.clean, alive := p.alive, will := p.will } rfl rfl rfl rfl HU.out (by decide) (fun W => by kernel_rfl) rfl (by rw [hq3.out]; rfl) ?_
  intro W5 HU'
  refine wpList_nil (hKont _ _ ?_)
  clear hKont HU
  obtain ⟨q4, hq4⟩ : ∃ q : Pkt, Hid (q = { typeP p.ty with client := p.client, clean := p.clean, alive := p.alive, will := p.will }) := ⟨_, rfl⟩
  rw [← hq4.out] at HU'
  have HU := HU'
  clear HU'
  simp only [Act.put, List.setIfInBounds_toArray, List.set_cons_zero, List.set_cons_succ]
  have j10 : W5.cell? ⟨g, 10, none⟩ = some (.bool p.will) := HU.out.at_.cell 10
  rw [hw] at j10
  go_upto_region 9 with (fail)
  rename_i hKont
  refine wp_region_lit ?_
  refine st_val (.pointer (some ⟨g, 3, none⟩)) (wanted_free rfl) (by exact rFieldAddr (x := .tmp 1) rfl (by kernel_rfl)) ?_
  refine st_val (.agg #[.string p.topic, .string p.payload, .int .i64 p.qos, .bool p.retain]) (wanted_free rfl) (by exact rLoad (x := .tmp 25) rfl (kLoadMs HU.out.at_)) ?_
  refine st_val (.pointer (some ⟨g + 2, 3, none⟩)) (wanted_free rfl) (by exact rFieldAddr (x := .tmp 3) rfl (by kernel_rfl)) ?_
  refine wp_storeM (w := w) (g := g) (v := g + 1) (u := g + 2) (p := p) (q := q4) { typeP p.ty with client := p.client, clean := p.clean, alive := p.alive, will := p.will, topic := p.topic, payload := p.payload, qos := p.qos, retain := p.retain } rfl rfl rfl rfl HU.out (by rw [hq4.out]) ?_
  intro W6 HU'
  refine wpList_nil (hKont _ _ ?_)
  clear hKont HU
  obtain ⟨q5, hq5⟩ : ∃ q : Pkt, Hid (q = { typeP p.ty with client := p.client, clean := p.clean, alive := p.alive, will := p.will, topic := p.topic, payload := p.payload, qos := p.qos, retain := p.retain }) := ⟨_, rfl⟩
  rw [← hq5.out] at HU'
  have HU := HU'
  clear HU'
  simp only [Act.put, List.setIfInBounds_toArray, List.set_cons_zero, List.set_cons_succ]
  go_upto_region 10 with (fail)
  rename_i hKont
  refine wp_region_lit ?_
  refine st_val (.pointer (some ⟨g, 11, none⟩)) (wanted_free rfl) (by exact rFieldAddr (x := .tmp 1) rfl (by kernel_rfl)) ?_
  refine st_val (.bool p.huser) (wanted_free rfl) (by exact rLoad (x := .tmp 28) rfl (kLoadB 11 _ (HU.out.at_.cell 11))) ?_
  refine st_val (.pointer (some ⟨g + 2, 11, none⟩)) (wanted_free rfl) (by exact rFieldAddr (x := .tmp 3) rfl (by kernel_rfl)) ?_
  refine wp_store1 (w := w) (g := g) (v := g + 1) (u := g + 2) (i := 11) (p := p) (q := q5) (.bool p.huser) { typeP p.ty with client := p.client, clean := p.clean, alive := p.alive, will := p.will, topic := p.topic, payload := p.payload, qos := p.qos, retain := p.retain, huser := p.huser } rfl rfl rfl rfl HU.out (by decide) (fun W => by kernel_rfl) rfl (by rw [hq5.out]; rfl) ?_
  intro W7 HU'
  refine wpList_nil (hKont _ _ ?_)
  clear hKont HU
  obtain ⟨q6, hq6⟩ : ∃ q : Pkt, Hid (q = { typeP p.ty with client := p.client, clean := p.clean, alive := p.alive, will := p.will, topic := p.topic, payload := p.payload, qos := p.qos, retain := p.retain, huser := p.huser }) := ⟨_, rfl⟩
  rw [← hq6.out] at HU'
  have HU := HU'
  clear HU'
  simp only [Act.put, List.setIfInBounds_toArray, List.set_cons_zero, List.set_cons_succ]
  have j11 : W7.cell? ⟨g, 11, none⟩ = some (.bool p.huser) := HU.out.at_.cell 11
  rw [hus] at j11
  go_upto_region 12 with (fail)
  rename_i hKont
  refine wp_region_lit ?_
  refine st_val (.pointer (some ⟨g, 13, none⟩)) (wanted_free rfl) (by exact rFieldAddr (x := .tmp 1) rfl (by kernel_rfl)) ?_
  refine st_val (.string p.user) (wanted_free rfl) (by exact rLoad (x := .tmp 33) rfl (kLoadS 13 _ (HU.out.at_.cell 13))) ?_
  refine st_val (.pointer (some ⟨g + 2, 13, none⟩)) (wanted_free rfl) (by exact rFieldAddr (x := .tmp 3) rfl (by kernel_rfl)) ?_
  refine wp_store1 (w := w) (g := g) (v := g + 1) (u := g + 2) (i := 13) (p := p) (q := q6) (.string p.user) { typeP p.ty with client := p.client, clean := p.clean, alive := p.alive, will := p.will, topic := p.topic, payload := p.payload, qos := p.qos, retain := p.retain, huser := p.huser, user := p.user } rfl rfl rfl rfl HU.out (by decide) (fun W => by kernel_rfl) rfl (by rw [hq6.out]; rfl) ?_
  intro W8 HU'
  refine wpList_nil (hKont _ _ ?_)
  clear hKont HU
  obtain ⟨q7, hq7⟩ : ∃ q : Pkt, Hid (q = { typeP p.ty with client := p.client, clean := p.clean, alive := p.alive, will := p.will, topic := p.topic, payload := p.payload, qos := p.qos, retain := p.retain, huser := p.huser, user := p.user }) := ⟨_, rfl⟩
  rw [← hq7.out] at HU'
  have HU := HU'
  clear HU'
  simp only [Act.put, List.setIfInBounds_toArray, List.set_cons_zero, List.set_cons_succ]
  go_upto_region 13 with (fail)
  rename_i hKont
  refine wp_region_lit ?_
  refine st_val (.pointer (some ⟨g, 12, none⟩)) (wanted_free rfl) (by exact rFieldAddr (x := .tmp 1) rfl (by kernel_rfl)) ?_
  refine st_val (.bool p.hpass) (wanted_free rfl) (by exact rLoad (x := .tmp 36) rfl (kLoadB 12 _ (HU.out.at_.cell 12))) ?_
  refine st_val (.pointer (some ⟨g + 2, 12, none⟩)) (wanted_free rfl) (by exact rFieldAddr (x := .tmp 3) rfl (by kernel_rfl)) ?_
  refine wp_store1 (w := w) (g := g) (v := g + 1) (u := g + 2) (i := 12) (p := p) (q := q7) (.bool p.hpass) { typeP p.ty with client := p.client, clean := p.clean, alive := p.alive, will := p.will, topic := p.topic, payload := p.payload, qos := p.qos, retain := p.retain, huser := p.huser, user := p.user, hpass := p.hpass } rfl rfl rfl rfl HU.out (by decide) (fun W => by kernel_rfl) rfl (by rw [hq7.out]; rfl) ?_
  intro W9 HU'
  refine wpList_nil (hKont _ _ ?_)
  clear hKont HU
  obtain ⟨q8, hq8⟩ : ∃ q : Pkt, Hid (q = { typeP p.ty with client := p.client, clean := p.clean, alive := p.alive, will := p.will, topic := p.topic, payload := p.payload, qos := p.qos, retain := p.retain, huser := p.huser, user := p.user, hpass := p.hpass }) := ⟨_, rfl⟩
  rw [← hq8.out] at HU'
  have HU := HU'
  clear HU'
  simp only [Act.put, List.setIfInBounds_toArray, List.set_cons_zero, List.set_cons_succ]
  have j12 : W9.cell? ⟨g, 12, none⟩ = some (.bool p.hpass) := HU.out.at_.cell 12
  rw [hps] at j12
  go_upto_region 36 with (fail)
  rename_i hKont
  refine wp_region_lit (wp_load_pkt (p := q8) rfl rfl (by rfl) HU.out.cur ?_)
  refine wp_store_pkt (g := g + 1) q8 zeroP rfl rfl (by rfl) (by rfl) HU.out.res (by rw [hq8.out]; rfl) (by rw [hq8.out]; rfl) ?_
  intro Wf HPf tf
  refine wpList_nil (hKont _ _ (wp_ret ?_))
  have hrq : r = q8 := by rw [hr.out, hu.out, hq8.out, h]
  exact ⟨rfl, _, used_results Wf (g + 1) q8 _ rfl HPf.out, by rw [hrq], HU.out.below.trans (tf.toBelow HU.out.below.size (fun k hk e => by have := hg.out; omega))⟩
set_option maxRecDepth 100000 in
set_option maxHeartbeats 2000000 in
theorem used_1111 (w : World) (p : Pkt) (hrows : (∃ A n c, p.codes = .slice A n c) ∧ (∃ A n c, p.subs = .slice A n c)) (h : p.ty = 1) (hw : p.will = true) (hus : p.huser = true) (hps : p.hpass = true) : Calls Tryd.prog 38 #[.agg p.cells] w fun e w' => e = .returned (.agg (usedP p).cells) ∧ Below w.heap.size w w' := by
  obtain ⟨hsc, hss⟩ := hrows
  obtain ⟨g, hg⟩ : ∃ g, Hid (g = w.heap.size) := ⟨_, rfl⟩
  obtain ⟨W0, hW0⟩ : ∃ W, Hid (W = (w.alloc (.cells p.cells PT)).alloc (.cells zeroC PT)) := ⟨_, rfl⟩
  have HG0 : Hid (PkAt W0 g p) := by rw [hW0.out, hg.out]; exact (box_at w p).keep (Turn.alloc (S := fun _ => False) _ _) (fun h => h)
  have HV0 : Hid (PkAt W0 (g + 1) zeroP) := by
    rw [hW0.out, hg.out]
    have : (w.alloc (.cells p.cells PT)).heap.size = w.heap.size + 1 := by simp
    unfold PkAt
    rw [Hid, ← this]; exact heap_new _ _
  have HB0 : Hid (Below w.heap.size w W0) := by rw [hW0.out]; exact Below.alloc (Below.alloc (Below.refl _ _) (Nat.le_refl _) _) (by simp) _
  have hs0 : Hid (W0.heap.size = g + 2) := by rw [hW0.out, hg.out, Hid]; simp
  have k0 : W0.cell? ⟨g, 0, none⟩ = some (.int .i64 p.ty) := HG0.out.cell 0
  obtain ⟨r, hr⟩ : ∃ r, Hid (r = usedP p) := ⟨_, rfl⟩
  rw [← hr.out]
  go_enter Tryd.func38, Tryd.ntmps38
  go_upto_region 1 with (fail)
  rename_i hKont
  rw [show (w.alloc (.cells p.cells PT)).alloc (.cells zeroC PT) = W0 from hW0.out.symm, ← hg.out]
  refine wp_region_lit ?_
  refine st_val (.pointer (some ⟨g, 0, none⟩)) (wanted_free rfl) (by exact rFieldAddr (x := .tmp 1) rfl (by kernel_rfl)) ?_
  refine st_val (.int .i64 p.ty) (wanted_free rfl) (by exact rLoad (x := .tmp 4) rfl (kLoadI 0 _ k0)) ?_
  refine st_val (.agg (typeP p.ty).cells) (wanted_free rfl) (by exact rBuild1 (x := .tmp 5) rfl (kBuildP _)) ?_
  refine st_alloc (wanted_free rfl) rfl (by exact kAllocP _) ?_
  refine wp_store_pkt (g := W0.heap.size) (typeP p.ty) zeroP rfl rfl rfl rfl (by exact heap_new _ _) rfl rfl ?_
  intro W1 HP1 t1
  have HU : Hid (Us w W1 g (g + 1) (g + 2) p (typeP p.ty)) := by
    have hb : Below W0.heap.size W0 W1 := (Below.alloc (Below.refl _ _) (Nat.le_refl _) _).trans (t1.toBelow (by simp) (fun k hk e => by omega))
    refine ⟨HG0.out.keep (Turn.of_below (S := fun _ => False) hb) (fun h => h), HV0.out.keep (Turn.of_below (S := fun _ => False) hb) (fun h => h), ?_, HB0.out.trans (hb.mono HB0.out.size), rfl, rfl, hg.out⟩
    rw [← hs0.out]; exact HP1.out
  rw [show W0.heap.size = g + 2 from hs0.out]
  refine wpList_nil (hKont _ _ ?_)
  clear hKont HP1 t1 HG0 HV0 HB0 k0
  simp only [Act.put, List.setIfInBounds_toArray, List.set_cons_zero, List.set_cons_succ]
  obtain ⟨q0, hq0⟩ : ∃ q, Hid (q = typeP p.ty) := ⟨_, rfl⟩
  rw [← hq0.out] at HU
  have j0 : W1.cell? ⟨g, 0, none⟩ = some (.int .i64 p.ty) := HU.out.at_.cell 0
  have hu : Hid (usedP p = { typeP 1 with client := p.client, clean := p.clean, alive := p.alive, will := p.will, topic := p.topic, payload := p.payload, qos := p.qos, retain := p.retain, huser := p.huser, user := p.user, hpass := p.hpass, pass := p.pass }) := by rw [Hid, usedP, if_pos h, hw, hus, hps]; rfl
  rw [h] at j0
  go_upto_region 4 with (fail)
  rename_i hOut hKs hKont
  refine wp_region_lit ?_
  refine st_val (.pointer (some ⟨g, 7, none⟩)) (wanted_free rfl) (by exact rFieldAddr (x := .tmp 1) rfl (by kernel_rfl)) ?_
  refine st_val (.string p.client) (wanted_free rfl) (by exact rLoad (x := .tmp 11) rfl (kLoadS 7 _ (HU.out.at_.cell 7))) ?_
  refine st_val (.pointer (some ⟨g + 2, 7, none⟩)) (wanted_free rfl) (by exact rFieldAddr (x := .tmp 3) rfl (by kernel_rfl)) ?_
  refine wp_store1 (w := w) (g := g) (v := g + 1) (u := g + 2) (i := 7) (p := p) (q := q0) (.string p.client) { typeP p.ty with client := p.client } rfl rfl rfl rfl HU.out (by decide) (fun W => by kernel_rfl) rfl (by rw [hq0.out]; rfl) ?_
  intro W2 HU'
  refine wpList_nil (hKont _ _ ?_)
  clear hKont HU
  obtain ⟨q1, hq1⟩ : ∃ q : Pkt, Hid (q = { typeP p.ty with client := p.client }) := ⟨_, rfl⟩
  rw [← hq1.out] at HU'
  have HU := HU'
  clear HU'
  simp only [Act.put, List.setIfInBounds_toArray, List.set_cons_zero, List.set_cons_succ]
  go_upto_region 5 with (fail)
  rename_i hKont
  refine wp_region_lit ?_
  refine st_val (.pointer (some ⟨g, 8, none⟩)) (wanted_free rfl) (by exact rFieldAddr (x := .tmp 1) rfl (by kernel_rfl)) ?_
  refine st_val (.bool p.clean) (wanted_free rfl) (by exact rLoad (x := .tmp 14) rfl (kLoadB 8 _ (HU.out.at_.cell 8))) ?_
  refine st_val (.pointer (some ⟨g + 2, 8, none⟩)) (wanted_free rfl) (by exact rFieldAddr (x := .tmp 3) rfl (by kernel_rfl)) ?_
  refine wp_store1 (w := w) (g := g) (v := g + 1) (u := g + 2) (i := 8) (p := p) (q := q1) (.bool p.clean) { typeP p.ty with client := p.client, clean := p.clean } rfl rfl rfl rfl HU.out (by decide) (fun W => by kernel_rfl) rfl (by rw [hq1.out]; rfl) ?_
  intro W3 HU'
  refine wpList_nil (hKont _ _ ?_)
  clear hKont HU
  obtain ⟨q2, hq2⟩ : ∃ q : Pkt, Hid (q = { typeP p.ty with client := p.client, clean := p.clean }) := ⟨_, rfl⟩
  rw [← hq2.out] at HU'
  have HU := HU'
  clear HU'
  simp only [Act.put, List.setIfInBounds_toArray, List.set_cons_zero, List.set_cons_succ]
  go_upto_region 6 with (fail)
  rename_i hKont
  refine wp_region_lit ?_
  refine st_val (.pointer (some ⟨g, 9, none⟩)) (wanted_free rfl) (by exact rFieldAddr (x := .tmp 1) rfl (by kernel_rfl)) ?_
  refine st_val (.int .i64 p.alive) (wanted_free rfl) (by exact rLoad (x := .tmp 17) rfl (kLoadI 9 _ (HU.out.at_.cell 9))) ?_
  refine st_val (.pointer (some ⟨g + 2, 9, none⟩)) (wanted_free rfl) (by exact rFieldAddr (x := .tmp 3) rfl (by kernel_rfl)) ?_
  refine wp_store1 (w := w) (g := g) (v := g + 1) (u := g + 2) (i := 9) (p := p) (q := q2) (.int .i64 p.alive) { typeP p.ty with client := p.client, clean := p.clean, alive := p.alive } rfl rfl rfl rfl HU.out (by decide) (fun W => by kernel_rfl) rfl (by rw [hq2.out]; rfl) ?_
  intro W4 HU'
  refine wpList_nil (hKont _ _ ?_)
  clear hKont HU
  obtain ⟨q3, hq3⟩ : ∃ q : Pkt, Hid (q = { typeP p.ty with client := p.client, clean := p.clean, alive := p.alive }) := ⟨_, rfl⟩
  rw [← hq3.out] at HU'
  have HU := HU'
  clear HU'
  simp only [Act.put, List.setIfInBounds_toArray, List.set_cons_zero, List.set_cons_succ]
  go_upto_region 7 with (fail)
  rename_i hKont
  refine wp_region_lit ?_
  refine st_val (.pointer (some ⟨g, 10, none⟩)) (wanted_free rfl) (by exact rFieldAddr (x := .tmp 1) rfl (by kernel_rfl)) ?_
  refine st_val (.bool p.will) (wanted_free rfl) (by exact rLoad (x := .tmp 20) rfl (kLoadB 10 _ (HU.out.at_.cell 10))) ?_
  refine st_val (.pointer (some ⟨g + 2, 10, none⟩)) (wanted_free rfl) (by exact rFieldAddr (x := .tmp 3) rfl (by kernel_rfl)) ?_
  refine wp_store1 (w := w) (g := g) (v := g + 1) (u := g + 2) (i := 10) (p := p) (q := q3) (.bool p.will) { typeP p.ty with client := p.client, clean := p.clean, alive := p.alive, will := p.will } rfl rfl rfl rfl HU.out (by decide) (fun W => by kernel_rfl) rfl (by rw [hq3.out]; rfl) ?_
  intro W5 HU'
  refine wpList_nil (hKont _ _ ?_)
  clear hKont HU
  obtain ⟨q4, hq4⟩ : ∃ q : Pkt, Hid (q = { typeP p.ty with client := p.client, clean := p.clean, alive := p.alive, will := p.will }) := ⟨_, rfl⟩
  rw [← hq4.out] at HU'
  have HU := HU'
  clear HU'
  simp only [Act.put, List.setIfInBounds_toArray, List.set_cons_zero, List.set_cons_succ]
  have j10 : W5.cell? ⟨g, 10, none⟩ = some (.bool p.will) := HU.out.at_.cell 10
  rw [hw] at j10
  go_upto_region 9 with (fail)
  rename_i hKont
  refine wp_region_lit ?_
  refine st_val (.pointer (some ⟨g, 3, none⟩)) (wanted_free rfl) (by exact rFieldAddr (x := .tmp 1) rfl (by kernel_rfl)) ?_
  refine st_val (.agg #[.string p.topic, .string p.payload, .int .i64 p.qos, .bool p.retain]) (wanted_free rfl) (by exact rLoad (x := .tmp 25) rfl (kLoadMs HU.out.at_)) ?_
  refine st_val (.pointer (some ⟨g + 2, 3, none⟩)) (wanted_free rfl) (by exact rFieldAddr (x := .tmp 3) rfl (by kernel_rfl)) ?_
  refine wp_storeM (w := w) (g := g) (v := g + 1) (u := g + 2) (p := p) (q := q4) { typeP p.ty with client := p.client, clean := p.clean, alive := p.alive, will := p.will, topic := p.topic, payload := p.payload, qos := p.qos, retain := p.retain } rfl rfl rfl rfl HU.out (by rw [hq4.out]) ?_
  intro W6 HU'
  refine wpList_nil (hKont _ _ ?_)
  clear hKont HU
  obtain ⟨q5, hq5⟩ : ∃ q : Pkt, Hid (q = { typeP p.ty with client := p.client, clean := p.clean, alive := p.alive, will := p.will, topic := p.topic, payload := p.payload, qos := p.qos, retain := p.retain }) := ⟨_, rfl⟩
  rw [← hq5.out] at HU'
  have HU := HU'
  clear HU'
  simp only [Act.put, List.setIfInBounds_toArray, List.set_cons_zero, List.set_cons_succ]
  go_upto_region 10 with (fail)
  rename_i hKont
  refine wp_region_lit ?_
  refine st_val (.pointer (some ⟨g, 11, none⟩)) (wanted_free rfl) (by exact rFieldAddr (x := .tmp 1) rfl (by kernel_rfl)) ?_
  refine st_val (.bool p.huser) (wanted_free rfl) (by exact rLoad (x := .tmp 28) rfl (kLoadB 11 _ (HU.out.at_.cell 11))) ?_
  refine st_val (.pointer (some ⟨g + 2, 11, none⟩)) (wanted_free rfl) (by exact rFieldAddr (x := .tmp 3) rfl (by kernel_rfl)) ?_
  refine wp_store1 (w := w) (g := g) (v := g + 1) (u := g + 2) (i := 11) (p := p) (q := q5) (.bool p.huser) { typeP p.ty with client := p.client, clean := p.clean, alive := p.alive, will := p.will, topic := p.topic, payload := p.payload, qos := p.qos, retain := p.retain, huser := p.huser } rfl rfl rfl rfl HU.out (by decide) (fun W => by kernel_rfl) rfl (by rw [hq5.out]; rfl) ?_
  intro W7 HU'
  refine wpList_nil (hKont _ _ ?_)
  clear hKont HU
  obtain ⟨q6, hq6⟩ : ∃ q : Pkt, Hid (q = { typeP p.ty with client := p.client, clean := p.clean, alive := p.alive, will := p.will, topic := p.topic, payload := p.payload, qos := p.qos, retain := p.retain, huser := p.huser }) := ⟨_, rfl⟩
  rw [← hq6.out] at HU'
  have HU := HU'
  clear HU'
  simp only [Act.put, List.setIfInBounds_toArray, List.set_cons_zero, List.set_cons_succ]
  have j11 : W7.cell? ⟨g, 11, none⟩ = some (.bool p.huser) := HU.out.at_.cell 11
  rw [hus] at j11
  go_upto_region 12 with (fail)
  rename_i hKont
  refine wp_region_lit ?_
  refine st_val (.pointer (some ⟨g, 13, none⟩)) (wanted_free rfl) (by exact rFieldAddr (x := .tmp 1) rfl (by kernel_rfl)) ?_
  refine st_val (.string p.user) (wanted_free rfl) (by exact rLoad (x := .tmp 33) rfl (kLoadS 13 _ (HU.out.at_.cell 13))) ?_
  refine st_val (.pointer (some ⟨g + 2, 13, none⟩)) (wanted_free rfl) (by exact rFieldAddr (x := .tmp 3) rfl (by kernel_rfl)) ?_
  refine wp_store1 (w := w) (g := g) (v := g + 1) (u := g + 2) (i := 13) (p := p) (q := q6) (.string p.user) { typeP p.ty with client := p.client, clean := p.clean, alive := p.alive, will := p.will, topic := p.topic, payload := p.payload, qos := p.qos, retain := p.retain, huser := p.huser, user := p.user } rfl rfl rfl rfl HU.out (by decide) (fun W => by kernel_rfl) rfl (by rw [hq6.out]; rfl) ?_
  intro W8 HU'
  refine wpList_nil (hKont _ _ ?_)
  clear hKont HU
  obtain ⟨q7, hq7⟩ : ∃ q : Pkt, Hid (q = { typeP p.ty with client := p.client, clean := p.clean, alive := p.alive, will := p.will, topic := p.topic, payload := p.payload, qos := p.qos, retain := p.retain, huser := p.huser, user := p.user }) := ⟨_, rfl⟩
  rw [← hq7.out] at HU'
  have HU := HU'
  clear HU'
  simp only [Act.put, List.setIfInBounds_toArray, List.set_cons_zero, List.set_cons_succ]
  go_upto_region 13 with (fail)
  rename_i hKont
  refine wp_region_lit ?_
  refine st_val (.pointer (some ⟨g, 12, none⟩)) (wanted_free rfl) (by exact rFieldAddr (x := .tmp 1) rfl (by kernel_rfl)) ?_
  refine st_val (.bool p.hpass) (wanted_free rfl) (by exact rLoad (x := .tmp 36) rfl (kLoadB 12 _ (HU.out.at_.cell 12))) ?_
  refine st_val (.pointer (some ⟨g + 2, 12, none⟩)) (wanted_free rfl) (by exact rFieldAddr (x := .tmp 3) rfl (by kernel_rfl)) ?_
  refine wp_store1 (w := w) (g := g) (v := g + 1) (u := g + 2) (i := 12) (p := p) (q := q7) (.bool p.hpass) { typeP p.ty with client := p.client, clean := p.clean, alive := p.alive, will := p.will, topic := p.topic, payload := p.payload, qos := p.qos, retain := p.retain, huser := p.huser, user := p.user, hpass := p.hpass } rfl rfl rfl rfl HU.out (by decide) (fun W => by kernel_rfl) rfl (by rw [hq7.out]; rfl) ?_
  intro W9 HU'
  refine wpList_nil (hKont _ _ ?_)
  clear hKont HU
  obtain ⟨q8, hq8⟩ : ∃ q : Pkt, Hid (q = { typeP p.ty with client := p.client, clean := p.clean, alive := p.alive, will := p.will, topic := p.topic, payload := p.payload, qos := p.qos, retain := p.retain, huser := p.huser, user := p.user, hpass := p.hpass }) := ⟨_, rfl⟩
  rw [← hq8.out] at HU'
  have HU := HU'
  clear HU'
  simp only [Act.put, List.setIfInBounds_toArray, List.set_cons_zero, List.set_cons_succ]
  have j12 : W9.cell? ⟨g, 12, none⟩ = some (.bool p.hpass) := HU.out.at_.cell 12
  rw [hps] at j12
  go_upto_region 15 with (fail)
  refine wp_region_lit ?_
  refine st_val (.pointer (some ⟨g, 14, none⟩)) (wanted_free rfl) (by exact rFieldAddr (x := .tmp 1) rfl (by kernel_rfl)) ?_
  refine st_val (.string p.pass) (wanted_free rfl) (by exact rLoad (x := .tmp 41) rfl (kLoadS 14 _ (HU.out.at_.cell 14))) ?_
  refine st_val (.pointer (some ⟨g + 2, 14, none⟩)) (wanted_free rfl) (by exact rFieldAddr (x := .tmp 3) rfl (by kernel_rfl)) ?_
  refine wp_store1 (w := w) (g := g) (v := g + 1) (u := g + 2) (i := 14) (p := p) (q := q8) (.string p.pass) { typeP p.ty with client := p.client, clean := p.clean, alive := p.alive, will := p.will, topic := p.topic, payload := p.payload, qos := p.qos, retain := p.retain, huser := p.huser, user := p.user, hpass := p.hpass, pass := p.pass } rfl rfl rfl rfl HU.out (by decide) (fun W => by kernel_rfl) rfl (by rw [hq8.out]; rfl) ?_
  intro W10 HU'
  refine wpList_nil (hOut _ _ ?_)
  clear HU
  obtain ⟨q9, hq9⟩ : ∃ q : Pkt, Hid (q = { typeP p.ty with client := p.client, clean := p.clean, alive := p.alive, will := p.will, topic := p.topic, payload := p.payload, qos := p.qos, retain := p.retain, huser := p.huser, user := p.user, hpass := p.hpass, pass := p.pass }) := ⟨_, rfl⟩
  rw [← hq9.out] at HU'
  have HU := HU'
  clear HU'
  simp only [Act.put, List.setIfInBounds_toArray, List.set_cons_zero, List.set_cons_succ]
  go_upto_region 36 with (fail)
  rename_i hKont
  refine wp_region_lit (wp_load_pkt (p := q9) rfl rfl (by rfl) HU.out.cur ?_)
  refine wp_store_pkt (g := g + 1) q9 zeroP rfl rfl (by rfl) (by rfl) HU.out.res (by rw [hq9.out]; rfl) (by rw [hq9.out]; rfl) ?_
  intro Wf HPf tf
  refine wpList_nil (hKont _ _ (wp_ret ?_))
  have hrq : r = q9 := by rw [hr.out, hu.out, hq9.out, h]
  exact ⟨rfl, _, used_results Wf (g + 1) q9 _ rfl HPf.out, by rw [hrq], HU.out.below.trans (tf.toBelow HU.out.below.size (fun k hk e => by have := hg.out; omega))⟩
theorem used_calls (w : World) (p : Pkt) (hrows : (∃ A n c, p.codes = .slice A n c) ∧ (∃ A n c, p.subs = .slice A n c)) (ht : 1 ≤ p.ty ∧ p.ty ≤ 14) : Calls Tryd.prog 38 #[.agg p.cells] w fun e w' => e = .returned (.agg (usedP p).cells) ∧ Below w.heap.size w w' := by
  obtain ⟨h1, h2⟩ := ht
  have hb : ∀ b : Bool, b = false ∨ b = true := fun b => by cases b <;> simp
  by_cases e1 : p.ty = 1
  · rcases hb p.will with hw | hw <;> rcases hb p.huser with hu | hu <;> rcases hb p.hpass with hp | hp
    · exact used_1000 w p hrows e1 hw hu hp
    · exact used_1001 w p hrows e1 hw hu hp
    · exact used_1010 w p hrows e1 hw hu hp
    · exact used_1011 w p hrows e1 hw hu hp
    · exact used_1100 w p hrows e1 hw hu hp
    · exact used_1101 w p hrows e1 hw hu hp
    · exact used_1110 w p hrows e1 hw hu hp
    · exact used_1111 w p hrows e1 hw hu hp
  by_cases e2 : p.ty = 2
  · exact used_2 w p hrows e2
  by_cases e3 : p.ty = 3
  · exact used_3 w p hrows e3
  by_cases e9 : p.ty = 9
  · exact used_9 w p hrows e9
  by_cases e8 : p.ty = 8 ∨ p.ty = 10
  · exact used_8 w p hrows e8
  by_cases e4 : p.ty = 4 ∨ p.ty = 5 ∨ p.ty = 6 ∨ p.ty = 7 ∨ p.ty = 11
  · exact used_id w p hrows e4
  · exact used_none w p hrows (by omega)
end Ref
end Go.Proofs.YtonemmdipmohgaaDoor

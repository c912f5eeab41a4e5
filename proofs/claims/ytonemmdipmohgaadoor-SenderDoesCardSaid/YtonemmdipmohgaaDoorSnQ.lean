/- Calls of a script, read; few. -/
import Derived.Test.YtonemmdipmohgaaDoorSnP
import Derived.Test.YtonemmdipmohgaaDoorPlD
import Derived.Deep.Cut
import Derived.Deep.CutRange
namespace Go.Proofs.YtonemmdipmohgaaDoor
open Go.RowKit Go.ChangeShapes
set_option linter.unusedVariables false
set_option linter.unusedSimpArgs false
namespace Snd
open Pk Str

theorem store_agg (W : World) (g : Nat) (T : TypeId) (cs : List Value) (q : Array Value) (k : Nat) (h : W.heap[g]? = some (.cells q T (0, 0))) (hq : q.size = k) (hl : cs.length = k) (h2 : (sizeOf T).run Tryd.prog W = .ok k W) (h1 : ∀ u ∈ cs, u.oneCell' = true) :
    ∃ W', (Instr.storeAt T (.pointer (some ⟨g, 0, none⟩)) (.agg cs.toArray)).run Tryd.prog W = .ok () W' ∧ W'.heap[g]? = some (.cells cs.toArray T (0, 0)) ∧ Turn (fun k => k = g) W W' := by
  have hl' := run_storeCells_from (P := Tryd.prog) g T cs 0 q W h (by rw [hq, hl]; simp) h1
  have hsz : (Value.agg cs.toArray).cells.size = k := by show cs.toArray.size = k; simpa using hl
  rw [List.take_zero, List.nil_append] at hl'
  refine ⟨W.setRow g cs.toArray, ?_, ?_, ?_⟩
  · unfold Instr.storeAt storeVar
    simp only [Instr.sureAddr, Sem.run_bind, Sem.run_pure, Result.andThen_ok, h2, hsz, ne_eq, not_true_eq_false, if_false]
    exact hl'
  · exact setRow_heap W g q cs.toArray T (0, 0) h
  · exact ⟨rfl, rfl, rfl, by simp [World.setRow], fun k hk hn => setRow_other W g k _ hn⟩
/-- 'v := row[i]': the element loaded, a variable made, the element stored. -/
theorem wp_var {ops : Array Oper} {rest : List Oper} {o1 o2 o3 : Oper} {a : Act} {W : World} {Q : Exit → Act → World → Prop} {x y1 y2 : Operand} {x0 : Addr} (T : TypeId) (k : Nat) (cs : List Value) (z : Array Value)
    (g1 : o1.guard = none) (h1 : o1.op = .load T x) (hx : a.eval x = .pointer (some x0)) (g2 : o2.guard = none) (h2 : o2.op = .alloc T) (g3 : o3.guard = none) (h3 : o3.op = .store T y2 y1)
    (e1 : ((a.put o1.dst (.agg cs.toArray)).put o2.dst (.pointer (some ⟨W.heap.size, 0, none⟩))).eval y1 = .agg cs.toArray) (e2 : ((a.put o1.dst (.agg cs.toArray)).put o2.dst (.pointer (some ⟨W.heap.size, 0, none⟩))).eval y2 = .pointer (some ⟨W.heap.size, 0, none⟩))
    (hA : ∀ W, (isAgg T).run Tryd.prog W = .ok true W) (hS : ∀ W, (sizeOf T).run Tryd.prog W = .ok k W) (hl : cs.length = k) (hz : z.size = k) (h1c : ∀ u ∈ cs, u.oneCell' = true)
    (hal : (Instr.alloc T true (.tuple #[])).run Tryd.prog W = .ok (.pointer (some ⟨W.heap.size, 0, none⟩)) (W.alloc (.cells z T)))
    (hc : ∀ j v, cs[j]? = some v → W.cell? (x0.add j) = some v)
    (K : ∀ W', Hid (W'.heap[W.heap.size]? = some (.cells cs.toArray T (0, 0))) → Hid (Below W.heap.size W W') → wpList Tryd.prog ops Q rest (((a.put o1.dst (.agg cs.toArray)).put o2.dst (.pointer (some ⟨W.heap.size, 0, none⟩))).put o3.dst undef) W') :
    wpList Tryd.prog ops Q (o1 :: o2 :: o3 :: rest) a W := by
  refine st_val _ (wanted_free g1) (rLoad h1 (by rw [hx]; exact load_agg W T x0 cs (hA W) (by rw [hl]; exact hS W) hc)) ?_
  refine st_alloc (wanted_free g2) h2 hal ?_
  refine BigFrame.wpList_want (wanted_free g3) (fun K' hK' => ?_)
  obtain ⟨W', r1, r2, r3⟩ := store_agg (W.alloc (.cells z T)) W.heap.size T cs z k (heap_new _ _) hz hl (hS _) h1c
  unfold Oper.wp
  have he : (execOp ((a.put o1.dst (.agg cs.toArray)).put o2.dst (.pointer (some ⟨W.heap.size, 0, none⟩))).eval o3).run Tryd.prog (W.alloc (.cells z T)) = .ok .skip W' := by
    unfold execOp
    rw [h3]
    show ((Instr.storeAt T (((a.put o1.dst (.agg cs.toArray)).put o2.dst (.pointer (some ⟨W.heap.size, 0, none⟩))).eval y2) (((a.put o1.dst (.agg cs.toArray)).put o2.dst (.pointer (some ⟨W.heap.size, 0, none⟩))).eval y1)) >>= fun _ => pure Next.skip).run Tryd.prog (W.alloc (.cells z T)) = _
    rw [Sem.run_bind, e2, e1, r1]; rfl
  rw [he, Oper.upon_skip]
  exact hK' _ _ (K W' r2 (((Below.refl W.heap.size W).alloc (Nat.le_refl _) _).trans (r3.toBelow (by simp) (fun k hk e => by omega))))
/-- A whole value loaded from anywhere. -/
theorem wp_load_at {ops : Array Oper} {rest : List Oper} {o : Oper} {a : Act} {W : World} {Q : Exit → Act → World → Prop} {x : Operand} {x0 : Addr} (T : TypeId) (k : Nat) (cs : List Value) (hgd : o.guard = none) (ho : o.op = .load T x) (hx : a.eval x = .pointer (some x0))
    (hA : ∀ W, (isAgg T).run Tryd.prog W = .ok true W) (hS : ∀ W, (sizeOf T).run Tryd.prog W = .ok k W) (hl : cs.length = k) (hc : ∀ j v, cs[j]? = some v → W.cell? (x0.add j) = some v)
    (hK : wpList Tryd.prog ops Q rest (a.put o.dst (.agg cs.toArray)) W) : wpList Tryd.prog ops Q (o :: rest) a W :=
  st_val _ (wanted_free hgd) (rLoad ho (by rw [hx]; exact load_agg W T x0 cs (hA W) (by rw [hl]; exact hS W) hc)) hK

def zeroO : Array Value := (OpX.vals ⟨0, ⟨⟨#[]⟩, ⟨#[]⟩, 0, false⟩, zeroP, [], []⟩).toArray
theorem kAllocO (W : World) : (Instr.alloc OT true (.tuple #[])).run Tryd.prog W = .ok (.pointer (some ⟨W.heap.size, 0, none⟩)) (W.alloc (.cells zeroO OT)) := by kernel_rfl
theorem isAggO (W : World) : (isAgg OT).run Tryd.prog W = .ok true W := by kernel_rfl
theorem sizeO (W : World) : (sizeOf OT).run Tryd.prog W = .ok 23 W := by kernel_rfl
theorem isAggP (W : World) : (isAgg PT).run Tryd.prog W = .ok true W := by kernel_rfl
theorem sizeP (W : World) : (sizeOf PT).run Tryd.prog W = .ok 18 W := by kernel_rfl
theorem Lies.one {w : World} {p : Pkt} {C : List Int} {D : List (ByteArray × Int)} (h : Lies w p C D) : ∀ u ∈ p.cells.toList, u.oneCell' = true := by
  obtain ⟨A1, c1, h1, _⟩ := h.codes
  obtain ⟨A2, c2, h2, _⟩ := h.subs
  exact cells_one p (by rw [h1]; rfl) (by rw [h2]; rfl)
theorem OpFit.one {w : World} {o : OpX} (h : OpFit w o) : ∀ u ∈ o.vals, u.oneCell' = true := by
  intro u hu
  rcases List.mem_cons.1 hu with rfl | hu
  · rfl
  · rcases List.mem_append.1 hu with hu | hu
    · simp [Msg.vals] at hu
      rcases hu with rfl | rfl | rfl | rfl <;> rfl
    · exact Lies.one h.2.1 u hu
theorem OpX.len (o : OpX) : o.vals.length = 23 := by simp [OpX.vals, Msg.vals, Pkt.cells]
theorem OpFit.keep {w w' : World} {o : OpX} (h : OpFit w o) (b : Below w.heap.size w w') : OpFit w' o := ⟨h.1, h.2.1.keep b, h.2.2⟩
theorem OpReads.keep {w w' : World} {a : Option Addr} {os : List OpX} (h : OpReads w a os) (b : Below w.heap.size w w') : OpReads w' a os := by
  intro i hi
  obtain ⟨x0, e, hc⟩ := h i hi
  exact ⟨x0, e, fun j v hj => by rw [b.cell (World.block_lt_of_cell? w _ (hc j v hj))]; exact hc j v hj⟩

def Small (o : OpX) : Prop := o.msg.topic.size + o.msg.pay.size ≤ 300 ∧ o.codes.length + o.subs.length ≤ 20
instance (o : OpX) : Decidable (Small o) := by unfold Small; exact inferInstance
def Few (os : List OpX) : Prop := os.length ≤ 200 ∧ ∀ o ∈ os, Small o
set_option maxRecDepth 100000 in
set_option maxHeartbeats 4000000 in
theorem few_calls (w : World) (a : Option Addr) (cap : Nat) (os : List OpX) (hc : os.length ≤ cap) (hR : OpReads w a os) (hF : ∀ o ∈ os, OpFit w o) :
    Calls Tryd.prog 24 #[.slice a os.length cap] w fun e w' => ((Few os ∧ e = .returned (.bool true)) ∨ (¬ Few os ∧ e = .returned (.bool false))) ∧ Turn (fun _ => False) w w' := by
  have HR := Lib.hid hR
  have HF := Lib.hid hF
  clear hR hF
  by_cases hbig : (200 : Int) < (os.length : Int)
  · have d1 : decide ((200 : Int) < (os.length : Int)) = true := decide_eq_true hbig
    have HN : Hid (¬ Few os) := fun h => by have := h.1; omega
    clear hbig
    go_enter Tryd.func24, Tryd.ntmps24
    go_wp2_with (fail)
    go_ret
    exact ⟨.inr ⟨HN.out, rfl⟩, Turn.refl _ _⟩
  have d1 : decide ((200 : Int) < (os.length : Int)) = false := decide_eq_false hbig
  have HB : Hid (os.length ≤ 200) := by rw [Hid]; omega
  clear hbig
  go_enter Tryd.func24, Tryd.ntmps24
  go_wp2_with (fail)
  go_loopw [3] (fun iv wr => ∃ k : Nat, k ≤ os.length ∧ iv = .int .i64 k ∧ Hid ((∀ j (hj : j < os.length), j < k → Small os[j]) ∧ Turn (fun _ => False) w wr)) (fun iv _ => os.length - (intOf iv).toNat)
  case atStart => exact ⟨0, Nat.zero_le _, rfl, fun j _ hj => absurd hj (by omega), Turn.refl _ _⟩
  case round =>
    obtain ⟨k, hk, rfl, hS⟩ := hrel
    have hk200 : (k : Int) ≤ 200 := by have := HB.out; omega
    by_cases hlt : k < os.length
    · have hbl : Below w.heap.size w wr := hS.out.2.toBelow (Nat.le_refl _) (fun _ _ h => h)
      obtain ⟨x0, rfl, hc⟩ := (HR.out.keep hbl) k hlt
      obtain ⟨o, ho⟩ : ∃ o, Hid (o = os[k]'hlt) := ⟨os[k]'hlt, rfl⟩
      rw [← ho.out] at hc
      have HO : Hid (OpFit wr o) := by rw [ho.out]; exact (HF.out _ (List.getElem_mem hlt)).keep hbl
      obtain ⟨A1, c1, h1, _⟩ := HO.out.2.1.codes
      obtain ⟨A2, c2, h2, _⟩ := HO.out.2.1.subs
      have v1 : o.vals[21]? = some o.pk.codes := rfl
      have v2 : o.vals[22]? = some o.pk.subs := rfl
      have e1 : wr.cell? ⟨(x0.add (k * 23)).block, (x0.add (k * 23)).off + 1, none⟩ = some (.string o.msg.topic) := hc 1 _ rfl
      have e2 : wr.cell? ⟨(x0.add (k * 23)).block, (x0.add (k * 23)).off + 1 + 1, none⟩ = some (.string o.msg.pay) := hc 2 _ rfl
      have e3 : wr.cell? ⟨(x0.add (k * 23)).block, (x0.add (k * 23)).off + 5 + 16, none⟩ = some (.slice A1 o.codes.length c1) := hc 21 _ (by rw [v1, h1])
      have e4 : wr.cell? ⟨(x0.add (k * 23)).block, (x0.add (k * 23)).off + 5 + 17, none⟩ = some (.slice A2 o.subs.length c2) := hc 22 _ (by rw [v2, h2])
      have s1 : (o.msg.topic.size : Int) ≤ 140737488351232 := by have := HO.out.1.1; omega
      have s2 : (o.msg.pay.size : Int) ≤ 140737488351232 := by have := HO.out.1.2; omega
      have s3 : ((o.msg.topic.size : Int) + o.msg.pay.size) ≤ 281474976702464 := by omega
      have s4 : (o.codes.length : Int) ≤ 140737488351232 := by have := HO.out.2.2.1; omega
      have s5 : (o.subs.length : Int) ≤ 140737488351232 := by have := HO.out.2.2.2; omega
      have s6 : ((o.codes.length : Int) + o.subs.length) ≤ 281474976702464 := by omega
      have HK : Hid (k < os.length) := hlt
      have HNS : Hid (¬ Small o → ¬ Few os) := fun h hf => h (by rw [ho.out]; exact hf.2 _ (List.getElem_mem hlt))
      have HYS : Hid (Small o → ∀ j (hj : j < os.length), j < k + 1 → Small os[j]) := fun h j hj hjk => by
        rcases Nat.lt_succ_iff_lt_or_eq.1 hjk with h3 | h3
        · exact hS.out.1 j hj h3
        · subst h3; rw [← ho.out]; exact h
      have HTW : Hid (Turn (fun _ => False) w wr) := hS.out.2
      clear hc v1 v2 h1 h2 hbl hS ho
      by_cases h300 : (300 : Int) < (o.msg.topic.size : Int) + (o.msg.pay.size : Int)
      · have d2 : decide ((300 : Int) < (o.msg.topic.size : Int) + (o.msg.pay.size : Int)) = true := decide_eq_true h300
        have HN : Hid (¬ Few os) := HNS.out (fun h => by have := h.1; omega)
        clear h300
        go_wp2_with (fail)
        go_quiet (fail)
        go_wp2_with (fail)
        go_ret
        exact ⟨.inr ⟨HN.out, rfl⟩, HTW.out.drewN _⟩
      have d2 : decide ((300 : Int) < (o.msg.topic.size : Int) + (o.msg.pay.size : Int)) = false := decide_eq_false h300
      by_cases h20 : (20 : Int) < (o.codes.length : Int) + (o.subs.length : Int)
      · have d3 : decide ((20 : Int) < (o.codes.length : Int) + (o.subs.length : Int)) = true := decide_eq_true h20
        have HN : Hid (¬ Few os) := HNS.out (fun h => by have := h.2; omega)
        clear h300 h20
        go_wp2_with (fail)
        go_quiet (fail)
        go_wp2_with (fail)
        go_ret
        exact ⟨.inr ⟨HN.out, rfl⟩, HTW.out.drewN _⟩
      have d3 : decide ((20 : Int) < (o.codes.length : Int) + (o.subs.length : Int)) = false := decide_eq_false h20
      have HY := Lib.hid (HYS.out ⟨by omega, by omega⟩)
      clear h300 h20
      go_wp2_with (fail)
      go_quiet (fail)
      go_wp2_with (fail)
      go_roundw
      case rel => exact ⟨k + 1, HK.out, by go_num, HY.out, HTW.out.drewN _⟩
      case measure => have := HK.out; simp [intOf]; omega
    · have HY : Hid (Few os) := ⟨HB.out, fun o ho => by
        obtain ⟨j, hj, rfl⟩ := List.getElem_of_mem ho
        exact hS.out.1 j hj (by omega)⟩
      go_wp2_with (fail)
      go_ret
      exact ⟨.inl ⟨HY.out, rfl⟩, hS.out.2⟩

/-- A packet of a row. -/
theorem PRow.at {w : World} {A : Option Addr} {n c : Nat} {ps : List Pkt} (h : PRow w (.slice A n c) ps) {k : Nat} (hk : k < ps.length) : ∃ g off, A = some ⟨g, off, none⟩ ∧ ∀ j u, (ps[k]'hk).cells.toList[j]? = some u → w.cell? ⟨g, off + k * 18 + j, none⟩ = some u := by
  obtain ⟨A', c', hv, _, _, hcell⟩ := h.1.form
  injection hv with e1 e2 e3
  subst e1
  obtain ⟨g, off, rfl, _, _, hc⟩ := hcell (by omega)
  exact ⟨g, off, rfl, fun j u hu => by
    have := hc (k * 18 + j) u (pcells_at ps k hk j u hu)
    rwa [← Nat.add_assoc] at this⟩
end Snd
end Go.Proofs.YtonemmdipmohgaaDoor

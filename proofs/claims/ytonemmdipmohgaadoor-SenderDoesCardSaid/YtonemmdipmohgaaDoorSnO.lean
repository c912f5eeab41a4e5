/- What comes in, opened: messages, calls, packets, slices of them. -/
import Derived.Test.YtonemmdipmohgaaDoorPlS
import Derived.Test.YtonemmdipmohgaaDoorSnRw
import Derived.Test.YtonemmdipmohgaaDoorRows
import Derived.Deep.Slices
import Derived.Test.YtonemmdipmohgaaDoorSnC
namespace Go.Proofs.YtonemmdipmohgaaDoor
open Go.RowKit Go.ChangeShapes
set_option linter.unusedVariables false
set_option linter.unusedSimpArgs false
namespace Snd
open Pk Str

theorem open_msg {H : Type} {enc : TypeId × Value → H} {W : World} {v : Value} {d : DataW H} {ps : List MemPlace} (hv : ∃ cs, v = .agg cs ∧ cs.size = 4) (h : DataW.Trod enc Tryd.prog W 0 (fun _ => true) true MsT v d ps) (hz : ∀ n ∈ d.weights Tryd.prog MsT, n ≤ 140737488351232) :
    ∃ m : Msg, v = .agg m.vals.toArray ∧ m.topic.size ≤ 140737488351232 ∧ m.pay.size ≤ 140737488351232 := by
  obtain ⟨⟨l⟩, rfl, hcs⟩ := hv
  obtain ⟨fuel, hf⟩ := h
  match l, hcs with
  | [c3, c4, c5, c6], _ =>
    have hf : DataW.trod enc Tryd.prog W 0 (fun _ => true) true fuel MsT [c3, c4, c5, c6] = some (d, ps) := hf
    obtain ⟨zs, n', _, hd3, _, hzl, hg3⟩ := DataW.trod_struct Tryd.underlying28 hf
    match zs, hzl with
    | [z0, z1, z2, z3], _ =>
    have m0 := field_at hg3 0 rfl 9 0 1 rfl rfl cellsS (c := [c3]) rfl (y := z0) rfl
    have m1 := field_at hg3 1 rfl 9 1 1 rfl rfl cellsS (c := [c4]) rfl (y := z1) rfl
    have m2 := field_at hg3 2 rfl 3 2 1 rfl rfl cellsI (c := [c5]) rfl (y := z2) rfl
    have m3 := field_at hg3 3 rfl 4 3 1 rfl rfl cellsB (c := [c6]) rfl (y := z3) rfl
    clear hg3
    obtain ⟨topic', f0, r0, l0⟩ := DataW.trod_string Tryd.underlying9 m0
    simp only [List.cons.injEq, and_true] at f0
    subst f0 r0
    obtain ⟨payload', f1, r1, l1⟩ := DataW.trod_string Tryd.underlying9 m1
    simp only [List.cons.injEq, and_true] at f1
    subst f1 r1
    obtain ⟨qos', f2, r2, l2⟩ := DataW.trod_int Tryd.underlying3 m2
    simp only [List.cons.injEq, and_true] at f2
    subst f2 r2
    obtain ⟨retain', f3, r3⟩ := DataW.trod_bool Tryd.underlying4 m3
    simp only [List.cons.injEq, and_true] at f3
    subst f3 r3
    simp only [Prod.mk.injEq] at hd3
    obtain ⟨rfl, _⟩ := hd3
    have hw3 : ∀ (j : Nat) t d, [9, 9, 3, 4][j]? = some t → [(DataW.lit (.string topic'.data.toList) : DataW H), .lit (.string payload'.data.toList), .lit (.int .i64 qos'), .lit (.bool retain')][j]? = some d → ∀ n ∈ d.weights Tryd.prog t, n ≤ 140737488351232 := by
      intro j t d ht hd n hn
      refine hz n ?_
      rw [weights_agg Tryd.underlying28]
      exact DataW.weights_mem_each (j := j) (t := t) (d := d) (by simpa using ht) (by simpa using hd) n hn
    have s0 : topic'.size ≤ 140737488351232 := hw3 0 _ _ rfl rfl topic'.size (by rw [weights_str]; exact List.mem_singleton.2 rfl)
    have s1 : payload'.size ≤ 140737488351232 := hw3 1 _ _ rfl rfl payload'.size (by rw [weights_str]; exact List.mem_singleton.2 rfl)
    exact ⟨⟨topic', payload', qos', retain'⟩, rfl, s0, s1⟩

theorem agg_toArray {cs l : List Value} (h : Value.agg cs.toArray = .agg l.toArray) : cs = l := by
  injection h with h
  exact congrArg Array.toList h
/-- A slice of elements of many cells each. -/
theorem open_elems {H : Type} {enc : TypeId × Value → H} {W : World} {fuel : Nat} {a : Option Addr} {len cap : Nat} {x : DataW H × List MemPlace} {ts te : TypeId} (k N : Nat) (ck : Tryd.prog.cellsOf te = k) (hu : Tryd.prog.underlying ts = some (.slice te))
    (h : DataW.trod enc Tryd.prog W 0 (fun _ => true) true fuel ts [.slice a len cap] = some x) (hz : ∀ m ∈ x.1.weights Tryd.prog ts, m ≤ N) {α : Type} [Inhabited α] (cells : α → List Value) (Q : α → Prop)
    (one : ∀ (v : Value) (d : DataW H) (pl : List MemPlace), (∃ cs, v = .agg cs ∧ cs.size = k) → DataW.Trod enc Tryd.prog W 0 (fun _ => true) true te v d pl → (∀ n ∈ d.weights Tryd.prog te, n ≤ N) → ∃ y : α, v = .agg (cells y).toArray ∧ Q y) :
    ∃ ys : List α, (len = ys.length ∧ ys.length ≤ cap) ∧ (∀ i (hi : i < ys.length), ∃ x0, a = some x0 ∧ ∀ j v, (cells ys[i])[j]? = some v → W.cell? ((x0.add (i * k)).add j) = some v) ∧ (∀ y ∈ ys, Q y) := by
  rcases Go.Deep.open_slice hu h with ⟨h1, _⟩ | ⟨x0, l, c, m, n, D, Pl, h1, _, hl, _, hmm, hx, hall⟩
  · simp only [List.cons.injEq, and_true] at h1
    injection h1 with e1 e2 e3
    subst e1 e2 e3
    exact ⟨[], ⟨rfl, Nat.le_refl _⟩, fun i hi => absurd hi (by simp), by simp⟩
  · simp only [List.cons.injEq, and_true] at h1
    injection h1 with e1 e2 e3
    subst e1 e2 e3
    have hmc : m = cap := by simpa using hmm
    rw [ck] at hall
    have each : ∀ i, i < len → ∃ y : α, (∀ j v, (cells y)[j]? = some v → W.cell? ((x0.add (i * k)).add j) = some v) ∧ Q y := by
      intro i hi
      obtain ⟨cs, hc1, hc2⟩ := hall i (by omega)
      obtain ⟨_, hlen, hcell⟩ := World.cells?_some hc1
      have hmem : D i ∈ (List.range len).map D := List.mem_map.2 ⟨i, by simpa using hi, rfl⟩
      obtain ⟨y, hv, hQ⟩ := one (.agg cs.toArray) (D i) (Pl i) ⟨cs.toArray, rfl, by simpa using hlen⟩ ⟨n, by simpa [Value.cells] using hc2⟩ (fun q hq => by
        refine hz q ?_
        rw [hx, weights_slice hu]
        exact List.mem_cons_of_mem _ (List.mem_append_left _ (weightsAll_mem hmem q hq)))
      have hcs : cs = cells y := agg_toArray hv
      exact ⟨y, fun j v hj => by
        rw [← hcs] at hj
        have hjl : j < k := by
          have := (List.getElem?_eq_some_iff.1 hj).1
          omega
        rw [hcell j hjl]; exact hj, hQ⟩
    obtain ⟨Y, hY⟩ := Go.Deep.choose_lt (α := α) each
    have hget : ∀ i (hi : i < ((List.range len).map Y).length), ((List.range len).map Y)[i] = Y i := by intro i hi; simp
    refine ⟨(List.range len).map Y, ⟨by simp, by simpa using hl⟩, fun i hi => ?_, fun y hy => ?_⟩
    · have hi' : i < len := by simpa using hi
      rw [hget i hi]
      exact ⟨x0, rfl, (hY i hi').1⟩
    · obtain ⟨i, hi, rfl⟩ := List.mem_map.1 hy
      exact (hY i (by simpa using hi)).2

def MsgFit (m : Msg) : Prop := m.topic.size ≤ 140737488351232 ∧ m.pay.size ≤ 140737488351232
def MsReads (W : World) (a : Option Addr) (ms : List Msg) : Prop := ∀ i (hi : i < ms.length), ∃ x0, a = some x0 ∧ ∀ j v, ms[i].vals[j]? = some v → W.cell? ((x0.add (i * 4)).add j) = some v
theorem open_msgs {H : Type} {enc : TypeId × Value → H} {W : World} {fuel : Nat} {a : Option Addr} {len cap : Nat} {x : DataW H × List MemPlace} (h : DataW.trod enc Tryd.prog W 0 (fun _ => true) true fuel 40 [.slice a len cap] = some x) (hz : ∀ m ∈ x.1.weights Tryd.prog 40, m ≤ 140737488351232) :
    ∃ ms : List Msg, (len = ms.length ∧ ms.length ≤ cap) ∧ MsReads W a ms ∧ (∀ y ∈ ms, MsgFit y) := by
  haveI : Inhabited Msg := ⟨⟨⟨#[]⟩, ⟨#[]⟩, 0, false⟩⟩
  exact open_elems 4 140737488351232 cellsM Tryd.underlying40 h hz Msg.vals MsgFit (fun v d pl hv hd hn => by
    obtain ⟨m, h1, h2, h3⟩ := open_msg hv hd hn
    exact ⟨m, h1, h2, h3⟩)

/-- A call: its number, its message, its packet. -/
structure OpX where
  call : Int
  msg : Msg
  pk : Pkt
  codes : List Int
  subs : List (ByteArray × Int)
def OpX.vals (o : OpX) : List Value := .int .i64 o.call :: (o.msg.vals ++ o.pk.cells.toList)
def OpFit (W : World) (o : OpX) : Prop := MsgFit o.msg ∧ Lies W o.pk o.codes o.subs ∧ o.codes.length ≤ 140737488351232 ∧ o.subs.length ≤ 140737488351232
def OpReads (W : World) (a : Option Addr) (os : List OpX) : Prop := ∀ i (hi : i < os.length), ∃ x0, a = some x0 ∧ ∀ j v, os[i].vals[j]? = some v → W.cell? ((x0.add (i * 23)).add j) = some v
abbrev OT : TypeId := 60
theorem cellsO : Tryd.prog.cellsOf OT = 23 := by kernel_rfl
theorem cellsP : Tryd.prog.cellsOf PT = 18 := by kernel_rfl
set_option maxRecDepth 100000 in
set_option maxHeartbeats 1000000 in
theorem open_op {H : Type} {enc : TypeId × Value → H} {W : World} {v : Value} {d : DataW H} {ps : List MemPlace} (hv : ∃ cs, v = .agg cs ∧ cs.size = 23) (h : DataW.Trod enc Tryd.prog W 0 (fun _ => true) true OT v d ps) (hz : ∀ n ∈ d.weights Tryd.prog OT, n ≤ 140737488351232) :
    ∃ o : OpX, v = .agg o.vals.toArray ∧ OpFit W o := by
  obtain ⟨⟨l⟩, rfl, hcs⟩ := hv
  obtain ⟨fuel, hf⟩ := h
  match l, hcs with
  | [q, m0, m1, m2, m3, c0, c1, c2, c3, c4, c5, c6, c7, c8, c9, c10, c11, c12, c13, c14, c15, c16, c17], _ =>
    have hf : DataW.trod enc Tryd.prog W 0 (fun _ => true) true fuel OT [q, m0, m1, m2, m3, c0, c1, c2, c3, c4, c5, c6, c7, c8, c9, c10, c11, c12, c13, c14, c15, c16, c17] = some (d, ps) := hf
    obtain ⟨zs, n', _, hd3, _, hzl, hg⟩ := DataW.trod_struct Tryd.underlying60 hf
    match zs, hzl with
    | [z0, z1, z2], _ =>
    simp only [Prod.mk.injEq] at hd3
    obtain ⟨rfl, _⟩ := hd3
    have g0 := field_at hg 0 rfl 3 0 1 rfl rfl cellsI (c := [q]) rfl (y := z0) rfl
    have g1 := field_at hg 1 rfl 28 1 4 rfl rfl cellsM (c := [m0, m1, m2, m3]) rfl (y := z1) rfl
    have g2 := field_at hg 2 rfl PT 5 18 rfl rfl cellsP (c := [c0, c1, c2, c3, c4, c5, c6, c7, c8, c9, c10, c11, c12, c13, c14, c15, c16, c17]) rfl (y := z2) rfl
    obtain ⟨call, f2, r2, l2⟩ := DataW.trod_int Tryd.underlying3 g0
    simp only [List.cons.injEq, and_true] at f2
    subst f2
    have hw : ∀ (j : Nat) t d, [3, 28, PT][j]? = some t → [z0.1, z1.1, z2.1][j]? = some d → ∀ n ∈ d.weights Tryd.prog t, n ≤ 140737488351232 := by
      intro j t d ht hd n hn
      refine hz n ?_
      rw [weights_agg Tryd.underlying60]
      exact DataW.weights_mem_each (j := j) (t := t) (d := d) (by simpa using ht) (by simpa using hd) n hn
    obtain ⟨m, e1, s1, s2⟩ := open_msg (v := .agg #[m0, m1, m2, m3]) ⟨_, rfl, rfl⟩ ⟨_, g1⟩ (hw 1 _ _ rfl rfl)
    obtain ⟨p, C, E, e2, hL, hS⟩ := open_packet (v := .agg #[c0, c1, c2, c3, c4, c5, c6, c7, c8, c9, c10, c11, c12, c13, c14, c15, c16, c17]) ⟨_, rfl, rfl⟩ ⟨_, g2⟩ (hw 2 _ _ rfl rfl)
    refine ⟨⟨call, m, p, C, E⟩, ?_, ⟨s1, s2⟩, hL, hS.codes, hS.subs⟩
    injection e1 with e1
    injection e2 with e2
    unfold OpX.vals
    simp only
    rw [← e2, show m.vals = [m0, m1, m2, m3] from (congrArg Array.toList e1).symm]
    rfl
theorem open_ops {H : Type} {enc : TypeId × Value → H} {W : World} {fuel : Nat} {a : Option Addr} {len cap : Nat} {x : DataW H × List MemPlace} (h : DataW.trod enc Tryd.prog W 0 (fun _ => true) true fuel 50 [.slice a len cap] = some x) (hz : ∀ m ∈ x.1.weights Tryd.prog 50, m ≤ 140737488351232) :
    ∃ os : List OpX, (len = os.length ∧ os.length ≤ cap) ∧ OpReads W a os ∧ (∀ y ∈ os, OpFit W y) := by
  haveI : Inhabited OpX := ⟨⟨0, ⟨⟨#[]⟩, ⟨#[]⟩, 0, false⟩, zeroP, [], []⟩⟩
  exact open_elems 23 140737488351232 cellsO Tryd.underlying50 h hz OpX.vals (OpFit W) (fun v d pl hv hd hn => open_op hv hd hn)

/-- Packets without a bound on their bulk. -/
def PkFit0 (x : PkX) : Prop := x.2.1.length ≤ 140737488351232 ∧ x.2.2.length ≤ 140737488351232 ∧ Pk.Sized x.1 x.2.1 x.2.2
theorem open_packets0 {H : Type} {enc : TypeId × Value → H} {W : World} {fuel : Nat} {a : Option Addr} {len cap : Nat} {x : DataW H × List MemPlace} (h : DataW.trod enc Tryd.prog W 0 (fun _ => true) true fuel 22 [.slice a len cap] = some x) (hz : ∀ m ∈ x.1.weights Tryd.prog 22, m ≤ 140737488351232) :
    ∃ ps : List PkX, (len = ps.length ∧ ps.length ≤ cap) ∧ PkReadsA W a ps ∧ (∀ y ∈ ps, PkFit0 y) := by
  haveI : Inhabited PkX := ⟨(zeroP, [], [])⟩
  obtain ⟨ps, h1, h2, h3⟩ := open_elems 18 140737488351232 cellsP Tryd.underlying22 h hz (fun y : PkX => y.1.cells.toList) (fun y => PkFit0 y ∧ Lies W y.1 y.2.1 y.2.2) (fun v d pl hv hd hn => by
    obtain ⟨p, C, E, e2, hL, hS⟩ := open_packet hv hd hn
    exact ⟨(p, C, E), by rw [e2], ⟨hS.codes, hS.subs, hS⟩, hL⟩)
  refine ⟨ps, h1, fun i hi => ?_, fun y hy => (h3 y hy).1⟩
  obtain ⟨x0, e, hc⟩ := h2 i hi
  exact ⟨x0, e, hc, (h3 _ (List.getElem_mem hi)).2⟩
end Snd
end Go.Proofs.YtonemmdipmohgaaDoor

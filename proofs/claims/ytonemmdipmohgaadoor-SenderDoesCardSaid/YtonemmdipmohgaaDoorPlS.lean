/- A packet that came in as an argument. -/
import Derived.Test.YtonemmdipmohgaaDoorStJ
import Derived.Deep.SlicePairs
import Derived.SizedLaws
import Derived.WideShapes
namespace Go.Proofs.YtonemmdipmohgaaDoor
open Go.RowKit Go.ChangeShapes Go.WideShapes Go.Deep
set_option linter.unusedVariables false
set_option linter.unusedSimpArgs false
namespace Pk
open Var (BT)

/-- What the form says of the sizes of a packet that came in. -/
structure Sized (p : Pkt) (C : List Int) (D : List (ByteArray × Int)) : Prop where
  topic : p.topic.size ≤ 140737488351232
  payload : p.payload.size ≤ 140737488351232
  client : p.client.size ≤ 140737488351232
  user : p.user.size ≤ 140737488351232
  pass : p.pass.size ≤ 140737488351232
  codes : C.length ≤ 140737488351232
  subs : D.length ≤ 140737488351232
  names : ∀ s ∈ D, s.1.size ≤ 140737488351232
  ty : (Lit.int .i64 p.ty).wf = true
  id : (Lit.int .i64 p.id).wf = true
  qos : (Lit.int .i64 p.qos).wf = true
  alive : (Lit.int .i64 p.alive).wf = true
  code : ∀ c ∈ C, (Lit.int .i64 c).wf = true
  sub : ∀ s ∈ D, (Lit.int .i64 s.2).wf = true

theorem cellsI : Tryd.prog.cellsOf 3 = 1 := by kernel_rfl
theorem cellsB : Tryd.prog.cellsOf 4 = 1 := by kernel_rfl
theorem cellsS : Tryd.prog.cellsOf 9 = 1 := by kernel_rfl
theorem cellsM : Tryd.prog.cellsOf 28 = 4 := by kernel_rfl
theorem cellsC : Tryd.prog.cellsOf 29 = 1 := by kernel_rfl
theorem cellsU : Tryd.prog.cellsOf 30 = 1 := by kernel_rfl
theorem cellsE : Tryd.prog.cellsOf 114 = 2 := by kernel_rfl
def valStr : Value → ByteArray
  | .string s => s
  | _ => ⟨#[]⟩
def valNum : Value → Int
  | .int _ n => n
  | _ => 0

theorem weightsAll_mem {H : Type} {P : Program} {e : TypeId} : ∀ {l : List (DataW H)} {d : DataW H}, d ∈ l → ∀ n ∈ d.weights P e, n ∈ DataW.weightsAll P e l
  | [], _, h, _, _ => by simp at h
  | d0 :: l, d, h, n, hn => by
    simp only [DataW.weightsAll, List.mem_append]
    rcases List.mem_cons.1 h with rfl | h
    · exact .inl hn
    · exact .inr (weightsAll_mem h n hn)

theorem field_at {H : Type} {enc : TypeId × Value → H} {P : Program} {W : World} {n : Nat} {fs : Array Field} {cs : List Value} {xs : List (DataW H × List MemPlace)}
    (hg : ∀ (i : Nat) (f : Field), fs[i]? = some f → DataW.trod enc P W 0 (fun _ => true) true n f.type ((cs.drop f.offset).take (P.cellsOf f.type)) = xs[i]?) (i : Nat) {f : Field} (hf : fs[i]? = some f) (t : TypeId) (o k : Nat) (ht : f.type = t) (ho : f.offset = o) (hk : P.cellsOf t = k) {c : List Value} (hc : (cs.drop o).take k = c) {y : DataW H × List MemPlace} (hy : xs[i]? = some y) :
    DataW.trod enc P W 0 (fun _ => true) true n t c = some y := by
  subst ht ho hk hc; exact (hg i f hf).trans hy
theorem weights_str {H : Type} {P : Program} {t : TypeId} (s : ByteArray) : DataW.weights P t (.lit (.string s.data.toList) : DataW H) = [s.size] := by
  unfold DataW.weights
  rw [Array.length_toList]; rfl
theorem weights_slice {H : Type} {P : Program} {t e : TypeId} {l r : List (DataW H)} (h : P.underlying t = some (.slice e)) : DataW.weights P t (.slice l r) = (l.length + r.length) * P.bytesOf e :: (DataW.weightsAll P e l ++ DataW.weightsAll P e r) := by
  unfold DataW.weights; rw [h]
theorem weights_agg {H : Type} {P : Program} {t : TypeId} {fs : Array Field} {l : List (DataW H)} (h : P.underlying t = some (.struct fs)) : DataW.weights P t (.agg l) = DataW.weightsEach P (fs.toList.map (·.type)) l := by
  unfold DataW.weights; rw [h]

set_option maxRecDepth 100000 in
theorem open_codes {H : Type} {enc : TypeId × Value → H} {W : World} {n : Nat} {c : Value} {x : DataW H × List MemPlace} (h : DataW.trod enc Tryd.prog W 0 (fun _ => true) true n 29 [c] = some x) (hz : ∀ m ∈ x.1.weights Tryd.prog 29, m ≤ 140737488351232) :
    ∃ A cap C, c = .slice A (List.length C) cap ∧ Reads .i64 W A C ∧ C.length ≤ 140737488351232 ∧ ∀ y ∈ C, (Lit.int .i64 y).wf = true := by
  rcases open_ints Tryd.underlying29 Tryd.underlying3 cellsI h with ⟨hc, _⟩ | ⟨a, len, cap, zs, hc, _, hl, hm, hzl, hx, hcell, hwz⟩
  · simp only [List.cons.injEq, and_true] at hc
    exact ⟨none, 0, [], hc, fun h => absurd h (by simp), by simp, by simp⟩
  · simp only [List.cons.injEq, and_true] at hc
    have hzl' : zs.length = cap := by simpa using hzl
    have hr : IsRow .i64 W (some a) len cap zs := .inr ⟨_, rfl, hl, hm, hzl', hcell, hwz⟩
    obtain ⟨h1, h2⟩ := row_reads hr
    refine ⟨some a, cap, zs.take len, by rw [h1]; exact hc, h2, ?_, fun y hy => hwz y (List.mem_of_mem_take hy)⟩
    subst hx
    have := hz ((lits IntKind.i64 (zs.take len) : List (DataW H)).length * Tryd.prog.bytesOf 3 + (lits IntKind.i64 (zs.drop len) : List (DataW H)).length * Tryd.prog.bytesOf 3) (by simp [DataW.weights, Tryd.underlying29, Nat.add_mul])
    rw [show Tryd.prog.bytesOf 3 = 8 by kernel_rfl] at this
    simp only [lits, List.length_map] at this
    omega

set_option maxRecDepth 100000 in
theorem open_subs {H : Type} {enc : TypeId × Value → H} {W : World} {n : Nat} {c : Value} {x : DataW H × List MemPlace} (h : DataW.trod enc Tryd.prog W 0 (fun _ => true) true n 30 [c] = some x) (hz : ∀ m ∈ x.1.weights Tryd.prog 30, m ≤ 140737488351232) :
    ∃ A cap D, c = .slice A (List.length D) cap ∧ ReadsSub W A D ∧ D.length ≤ 140737488351232 ∧ (∀ s ∈ D, s.1.size ≤ 140737488351232) ∧ ∀ s ∈ D, (Lit.int .i64 s.2).wf = true := by
  rcases open_slice_pairs Tryd.underlying30 Tryd.underlying114 cellsE rfl rfl cellsS cellsI h with ⟨hc, _⟩ | ⟨a, len, cap, m, k, V0, V1, D0, D1, P0, P1, hc, _, hl, hm, hmm, hx, hall⟩
  · simp only [List.cons.injEq, and_true] at hc
    exact ⟨none, 0, [], hc, fun h => absurd h (by simp), by simp, by simp, by simp⟩
  · simp only [List.cons.injEq, and_true] at hc
    have hmm' : m = cap := by simpa using hmm
    subst hx
    have each : ∀ i, i < m → W.cell? (a.add (i * 2)) = some (.string (valStr (V0 i))) ∧ W.cell? (a.add (i * 2 + 1)) = some (.int .i64 (valNum (V1 i))) ∧ D0 i = .lit (.string (valStr (V0 i)).data.toList) ∧ (Lit.int .i64 (valNum (V1 i))).wf = true := by
      intro i hi
      obtain ⟨h1, h2, h3, h4⟩ := hall i hi
      obtain ⟨s, e0, d0, _⟩ := DataW.trod_string Tryd.underlying9 h3
      obtain ⟨q, e1, d1, w1⟩ := DataW.trod_int Tryd.underlying3 h4
      simp only [List.cons.injEq, and_true] at e0 e1
      rw [e0] at h1 ⊢
      rw [e1] at h2 ⊢
      exact ⟨h1, h2, congrArg Prod.fst d0, w1⟩
    refine ⟨some a, cap, (List.range len).map fun i => (valStr (V0 i), valNum (V1 i)), by simpa using hc, ?_, ?_, ?_, ?_⟩
    · intro _
      refine ⟨a, rfl, fun i hi => ?_⟩
      have hi' : i < len := by simpa using hi
      obtain ⟨h1, h2, _⟩ := each i (by omega)
      rw [Nat.mul_comm 2 i]
      simpa using And.intro h1 h2
    · have := hz ((len + (m - len)) * Tryd.prog.bytesOf 114) (by simp [DataW.weights, Tryd.underlying30])
      rw [show Tryd.prog.bytesOf 114 = 24 by kernel_rfl] at this
      simp only [List.length_map, List.length_range]
      omega
    · intro s hs
      obtain ⟨i, hi, rfl⟩ := List.mem_map.1 hs
      have hi' : i < len := by simpa using hi
      obtain ⟨_, _, h3, _⟩ := each i (by omega)
      refine hz _ ?_
      rw [weights_slice Tryd.underlying30]
      refine List.mem_cons_of_mem _ (List.mem_append_left _ (weightsAll_mem (d := .agg [D0 i, D1 i]) (List.mem_map.2 ⟨i, hi, rfl⟩) _ ?_))
      rw [weights_agg Tryd.underlying114]
      refine DataW.weights_mem_each (j := 0) (t := 9) (d := D0 i) rfl rfl _ ?_
      rw [h3]
      rw [weights_str]; exact List.mem_singleton.2 rfl
    · intro s hs
      obtain ⟨i, hi, rfl⟩ := List.mem_map.1 hs
      have hi' : i < len := by simpa using hi
      exact (each i (by omega)).2.2.2

set_option maxRecDepth 100000 in
set_option maxHeartbeats 2000000 in
theorem open_packet {H : Type} {enc : TypeId × Value → H} {W : World} {v : Value} {d : DataW H} {ps : List MemPlace} (hv : ∃ cs, v = .agg cs ∧ cs.size = 18) (h : DataW.Trod enc Tryd.prog W 0 (fun _ => true) true PT v d ps) (hz : ∀ n ∈ d.weights Tryd.prog PT, n ≤ 140737488351232) :
    ∃ p C D, v = .agg (Pkt.cells p) ∧ Lies W p C D ∧ Sized p C D := by
  obtain ⟨⟨l⟩, rfl, hcs⟩ := hv
  obtain ⟨fuel, hf⟩ := h
  match l, hcs with
  | [c0, c1, c2, c3, c4, c5, c6, c7, c8, c9, c10, c11, c12, c13, c14, c15, c16, c17], _ =>
    have hf : DataW.trod enc Tryd.prog W 0 (fun _ => true) true fuel PT [c0, c1, c2, c3, c4, c5, c6, c7, c8, c9, c10, c11, c12, c13, c14, c15, c16, c17] = some (d, ps) := hf
    obtain ⟨xs, n, rfl, hd, _, hxl, hg⟩ := DataW.trod_struct Tryd.underlying32 hf
    match xs, hxl with
    | [y0, y1, y2, y3, y4, y5, y6, y7, y8, y9, y10, y11, y12, y13, y14], _ =>
      simp only [Prod.mk.injEq] at hd
      obtain ⟨rfl, _⟩ := hd
      have hw : ∀ (j : Nat) t d, [3, 4, 3, 28, 9, 4, 3, 4, 4, 4, 9, 9, 4, 29, 30][j]? = some t → [y0.1, y1.1, y2.1, y3.1, y4.1, y5.1, y6.1, y7.1, y8.1, y9.1, y10.1, y11.1, y12.1, y13.1, y14.1][j]? = some d → ∀ n ∈ d.weights Tryd.prog t, n ≤ 140737488351232 := by
        intro j t d ht hd n hn
        refine hz n ?_
        rw [weights_agg Tryd.underlying32]
        exact DataW.weights_mem_each (j := j) (t := t) (d := d) (by simpa using ht) (by simpa using hd) n hn
      have g0 := field_at hg 0 rfl 3 0 1 rfl rfl cellsI (c := [c0]) rfl (y := y0) rfl
      have g1 := field_at hg 1 rfl 4 1 1 rfl rfl cellsB (c := [c1]) rfl (y := y1) rfl
      have g2 := field_at hg 2 rfl 3 2 1 rfl rfl cellsI (c := [c2]) rfl (y := y2) rfl
      have g3 := field_at hg 3 rfl 28 3 4 rfl rfl cellsM (c := [c3, c4, c5, c6]) rfl (y := y3) rfl
      have g4 := field_at hg 4 rfl 9 7 1 rfl rfl cellsS (c := [c7]) rfl (y := y4) rfl
      have g5 := field_at hg 5 rfl 4 8 1 rfl rfl cellsB (c := [c8]) rfl (y := y5) rfl
      have g6 := field_at hg 6 rfl 3 9 1 rfl rfl cellsI (c := [c9]) rfl (y := y6) rfl
      have g7 := field_at hg 7 rfl 4 10 1 rfl rfl cellsB (c := [c10]) rfl (y := y7) rfl
      have g8 := field_at hg 8 rfl 4 11 1 rfl rfl cellsB (c := [c11]) rfl (y := y8) rfl
      have g9 := field_at hg 9 rfl 4 12 1 rfl rfl cellsB (c := [c12]) rfl (y := y9) rfl
      have g10 := field_at hg 10 rfl 9 13 1 rfl rfl cellsS (c := [c13]) rfl (y := y10) rfl
      have g11 := field_at hg 11 rfl 9 14 1 rfl rfl cellsS (c := [c14]) rfl (y := y11) rfl
      have g12 := field_at hg 12 rfl 4 15 1 rfl rfl cellsB (c := [c15]) rfl (y := y12) rfl
      have g13 := field_at hg 13 rfl 29 16 1 rfl rfl cellsC (c := [c16]) rfl (y := y13) rfl
      have g14 := field_at hg 14 rfl 30 17 1 rfl rfl cellsU (c := [c17]) rfl (y := y14) rfl
      clear hg hf hz
      obtain ⟨ty', e0, q0, k0⟩ := DataW.trod_int Tryd.underlying3 g0
      simp only [List.cons.injEq, and_true] at e0
      subst e0 q0
      obtain ⟨dup', e1, q1⟩ := DataW.trod_bool Tryd.underlying4 g1
      simp only [List.cons.injEq, and_true] at e1
      subst e1 q1
      obtain ⟨id', e2, q2, k2⟩ := DataW.trod_int Tryd.underlying3 g2
      simp only [List.cons.injEq, and_true] at e2
      subst e2 q2
      obtain ⟨zs, n', _, hd3, _, hzl, hg3⟩ := DataW.trod_struct Tryd.underlying28 g3
      match zs, hzl with
      | [z0, z1, z2, z3], _ =>
      have m0 := field_at hg3 0 rfl 9 0 1 rfl rfl cellsS (c := [c3]) rfl (y := z0) rfl
      have m1 := field_at hg3 1 rfl 9 1 1 rfl rfl cellsS (c := [c4]) rfl (y := z1) rfl
      have m2 := field_at hg3 2 rfl 3 2 1 rfl rfl cellsI (c := [c5]) rfl (y := z2) rfl
      have m3 := field_at hg3 3 rfl 4 3 1 rfl rfl cellsB (c := [c6]) rfl (y := z3) rfl
      clear hg3
      obtain ⟨topic', f0, r0, l0⟩ := DataW.trod_string Tryd.underlying9 m0
      simp only [List.cons.injEq, and_true] at f0
      subst f0 r0
      obtain ⟨payload', f1, r1, l1⟩ := DataW.trod_string Tryd.underlying9 m1
      simp only [List.cons.injEq, and_true] at f1
      subst f1 r1
      obtain ⟨qos', f2, r2, l2⟩ := DataW.trod_int Tryd.underlying3 m2
      simp only [List.cons.injEq, and_true] at f2
      subst f2 r2
      obtain ⟨retain', f3, r3⟩ := DataW.trod_bool Tryd.underlying4 m3
      simp only [List.cons.injEq, and_true] at f3
      subst f3 r3
      subst hd3
      have hw3 : ∀ (j : Nat) t d, [9, 9, 3, 4][j]? = some t → [(DataW.lit (.string topic'.data.toList) : DataW H), .lit (.string payload'.data.toList), .lit (.int .i64 qos'), .lit (.bool retain')][j]? = some d → ∀ n ∈ d.weights Tryd.prog t, n ≤ 140737488351232 := by
        intro j t d ht hd n hn
        refine hw 3 28 _ rfl rfl n ?_
        rw [weights_agg Tryd.underlying28]
        exact DataW.weights_mem_each (j := j) (t := t) (d := d) (by simpa using ht) (by simpa using hd) n hn
      have s0 : topic'.size ≤ 140737488351232 := hw3 0 _ _ rfl rfl topic'.size (by rw [weights_str]; exact List.mem_singleton.2 rfl)
      have s1 : payload'.size ≤ 140737488351232 := hw3 1 _ _ rfl rfl payload'.size (by rw [weights_str]; exact List.mem_singleton.2 rfl)
      obtain ⟨client', e4, q4, k4⟩ := DataW.trod_string Tryd.underlying9 g4
      simp only [List.cons.injEq, and_true] at e4
      subst e4 q4
      obtain ⟨clean', e5, q5⟩ := DataW.trod_bool Tryd.underlying4 g5
      simp only [List.cons.injEq, and_true] at e5
      subst e5 q5
      obtain ⟨alive', e6, q6, k6⟩ := DataW.trod_int Tryd.underlying3 g6
      simp only [List.cons.injEq, and_true] at e6
      subst e6 q6
      obtain ⟨will', e7, q7⟩ := DataW.trod_bool Tryd.underlying4 g7
      simp only [List.cons.injEq, and_true] at e7
      subst e7 q7
      obtain ⟨huser', e8, q8⟩ := DataW.trod_bool Tryd.underlying4 g8
      simp only [List.cons.injEq, and_true] at e8
      subst e8 q8
      obtain ⟨hpass', e9, q9⟩ := DataW.trod_bool Tryd.underlying4 g9
      simp only [List.cons.injEq, and_true] at e9
      subst e9 q9
      obtain ⟨user', e10, q10, k10⟩ := DataW.trod_string Tryd.underlying9 g10
      simp only [List.cons.injEq, and_true] at e10
      subst e10 q10
      obtain ⟨pass', e11, q11, k11⟩ := DataW.trod_string Tryd.underlying9 g11
      simp only [List.cons.injEq, and_true] at e11
      subst e11 q11
      obtain ⟨present', e12, q12⟩ := DataW.trod_bool Tryd.underlying4 g12
      simp only [List.cons.injEq, and_true] at e12
      subst e12 q12
      have s4 : client'.size ≤ 140737488351232 := hw 4 _ _ rfl rfl client'.size (by rw [weights_str]; exact List.mem_singleton.2 rfl)
      have s10 : user'.size ≤ 140737488351232 := hw 10 _ _ rfl rfl user'.size (by rw [weights_str]; exact List.mem_singleton.2 rfl)
      have s11 : pass'.size ≤ 140737488351232 := hw 11 _ _ rfl rfl pass'.size (by rw [weights_str]; exact List.mem_singleton.2 rfl)
      obtain ⟨Ac, capc, C, ec, hC, hCl, hCw⟩ := open_codes g13 (hw 13 _ _ rfl rfl)
      obtain ⟨As, caps, D, es, hD, hDl, hDs, hDw⟩ := open_subs g14 (hw 14 _ _ rfl rfl)
      refine ⟨⟨ty', dup', id', topic', payload', qos', retain', client', clean', alive', will', huser', hpass', user', pass', present', c16, c17⟩, C, D, rfl, ⟨⟨Ac, capc, ec, hC⟩, ⟨As, caps, es, hD⟩, ?_, ?_, ?_⟩, ⟨s0, s1, s4, s10, s11, hCl, hDl, hDs, k0, k2, l2, k6, hCw, hDw⟩⟩
      · show client'.size + user'.size + pass'.size ≤ _
        omega
      · omega
      · omega
end Pk
end Go.Proofs.YtonemmdipmohgaaDoor

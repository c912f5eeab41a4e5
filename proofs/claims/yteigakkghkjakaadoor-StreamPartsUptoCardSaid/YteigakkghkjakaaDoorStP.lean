/- A slice of packets that came in, opened; its bulk. -/
import Derived.Test.YteigakkghkjakaaDoorStN
import Derived.Test.YteigakkghkjakaaDoorPlS
import Derived.Test.YteigakkghkjakaaDoorRows
import Derived.Deep.Slices
namespace Go.Proofs.YteigakkghkjakaaDoor
open Go.RowKit Go.ChangeShapes
set_option linter.unusedVariables false
set_option linter.unusedSimpArgs false
namespace Str
open Pk

theorem bulk_part {H : Type} {d : DataW H} {l : List (DataW H)} (h : d ∈ l) : Rows.uptoBulk d ≤ Rows.uptoBulkAll l := by
  induction l with
  | nil => cases h
  | cons x r ih =>
    simp only [Rows.uptoBulkAll]
    rcases List.mem_cons.1 h with e | e
    · subst e; omega
    · have := ih e; omega
theorem bulk_one {H : Type} (d : DataW H) : 1 ≤ Rows.uptoBulk d := by
  cases d with
  | lit l => cases l <;> simp [Rows.uptoBulk]
  | nil => simp [Rows.uptoBulk]
  | ptr d => simp [Rows.uptoBulk]
  | slice elems spare => simp [Rows.uptoBulk]
  | agg parts => simp [Rows.uptoBulk]
  | iface t d => simp [Rows.uptoBulk]
  | map entries => simp [Rows.uptoBulk]
  | held h => simp [Rows.uptoBulk]
theorem bulk_len {H : Type} (l : List (DataW H)) : l.length ≤ Rows.uptoBulkAll l := by
  induction l with
  | nil => simp [Rows.uptoBulkAll]
  | cons x r ih => have := bulk_one x; simp only [Rows.uptoBulkAll, List.length_cons]; omega
theorem bulk_slice {H : Type} (l r : List (DataW H)) : l.length ≤ Rows.uptoBulk (.slice l r) := by
  have := bulk_len l
  simp only [Rows.uptoBulk]; omega
theorem bulk_elem {H : Type} {d : DataW H} {l r : List (DataW H)} (h : d ∈ l) : Rows.uptoBulk d ≤ Rows.uptoBulk (.slice l r) := by
  have := bulk_part h
  simp only [Rows.uptoBulk]; omega
theorem bulk_field {H : Type} {d : DataW H} {l : List (DataW H)} (h : d ∈ l) : Rows.uptoBulk d ≤ Rows.uptoBulk (.agg l) := by
  have := bulk_part h
  simp only [Rows.uptoBulk]; omega

set_option maxRecDepth 100000 in
set_option maxHeartbeats 1000000 in
theorem packet_bulk {H : Type} {enc : TypeId × Value → H} {W : World} {fuel : Nat} {d : DataW H} {pl : List MemPlace} (p : Pkt) (h : DataW.trod enc Tryd.prog W 0 (fun _ => true) true fuel PT p.cells.toList = some (d, pl)) {A B : Option Addr} {n c m e : Nat} (hc : p.codes = .slice A n c) (hs : p.subs = .slice B m e) :
    n ≤ Rows.uptoBulk d ∧ m ≤ Rows.uptoBulk d ∧ p.payload.size ≤ Rows.uptoBulk d := by
  have hf : DataW.trod enc Tryd.prog W 0 (fun _ => true) true fuel PT [.int .i64 p.ty, .bool p.dup, .int .i64 p.id, .string p.topic, .string p.payload, .int .i64 p.qos, .bool p.retain, .string p.client, .bool p.clean, .int .i64 p.alive, .bool p.will, .bool p.huser, .bool p.hpass, .string p.user, .string p.pass, .bool p.present, p.codes, p.subs] = some (d, pl) := h
  obtain ⟨xs, k, _, hd, _, hxl, hg⟩ := DataW.trod_struct Tryd.underlying28 hf
  match xs, hxl with
  | [y0, y1, y2, y3, y4, y5, y6, y7, y8, y9, y10, y11, y12, y13, y14], _ =>
    simp only [Prod.mk.injEq] at hd
    obtain ⟨rfl, _⟩ := hd
    have g3 := field_at hg 3 rfl 24 3 4 rfl rfl cellsM (c := [.string p.topic, .string p.payload, .int .i64 p.qos, .bool p.retain]) rfl (y := y3) rfl
    have g13 := field_at hg 13 rfl 25 16 1 rfl rfl cellsC (c := [p.codes]) rfl (y := y13) rfl
    have g14 := field_at hg 14 rfl 26 17 1 rfl rfl cellsU (c := [p.subs]) rfl (y := y14) rfl
    have b3 : Rows.uptoBulk y3.1 ≤ Rows.uptoBulk (.agg ([y0, y1, y2, y3, y4, y5, y6, y7, y8, y9, y10, y11, y12, y13, y14].map (·.1))) := bulk_field (by simp)
    have b13 : Rows.uptoBulk y13.1 ≤ Rows.uptoBulk (.agg ([y0, y1, y2, y3, y4, y5, y6, y7, y8, y9, y10, y11, y12, y13, y14].map (·.1))) := bulk_field (by simp)
    have b14 : Rows.uptoBulk y14.1 ≤ Rows.uptoBulk (.agg ([y0, y1, y2, y3, y4, y5, y6, y7, y8, y9, y10, y11, y12, y13, y14].map (·.1))) := bulk_field (by simp)
    refine ⟨Nat.le_trans ?_ b13, Nat.le_trans ?_ b14, Nat.le_trans ?_ b3⟩
    · rw [hc] at g13
      rcases open_ints Tryd.underlying25 Tryd.underlying3 cellsI g13 with ⟨h1, _⟩ | ⟨a, len, cap, zs, h1, _, hl, _, hzl, hx, _, _⟩
      · simp only [List.cons.injEq, and_true] at h1
        injection h1 with _ e _
        omega
      · simp only [List.cons.injEq, and_true] at h1
        injection h1 with _ e _
        have hzl' : zs.length = cap := by simpa using hzl
        subst hx
        refine Nat.le_trans ?_ (bulk_slice _ _)
        simp only [lits, List.length_map, List.length_take]
        omega
    · rw [hs] at g14
      rcases Go.Deep.open_slice Tryd.underlying26 g14 with ⟨h1, _⟩ | ⟨a, len, cap, m', k', D, Pl, h1, _, hl, _, _, hx, _⟩
      · simp only [List.cons.injEq, and_true] at h1
        injection h1 with _ e _
        omega
      · simp only [List.cons.injEq, and_true] at h1
        injection h1 with _ e _
        subst hx
        refine Nat.le_trans ?_ (bulk_slice _ _)
        simp only [List.length_map, List.length_range]
        omega
    · obtain ⟨zs, n', _, hd3, _, hzl, hg3⟩ := DataW.trod_struct Tryd.underlying24 g3
      match zs, hzl with
      | [z0, z1, z2, z3], _ =>
      have m1 := field_at hg3 1 rfl 9 1 1 rfl rfl cellsS (c := [.string p.payload]) rfl (y := z1) rfl
      obtain ⟨s, f1, r1, _⟩ := DataW.trod_string Tryd.underlying9 m1
      simp only [List.cons.injEq, and_true] at f1
      injection f1 with f1
      have hz1 : Rows.uptoBulk z1.1 ≤ Rows.uptoBulk y3.1 := by
        rw [hd3]
        exact bulk_field (by simp)
      refine Nat.le_trans ?_ hz1
      rw [r1, ← f1]
      simp only [Rows.uptoBulk, Array.length_toList]
      exact Nat.le_succ _

set_option maxRecDepth 100000 in
set_option maxHeartbeats 1000000 in
theorem open_packets {H : Type} {enc : TypeId × Value → H} {W : World} {fuel : Nat} {a : Option Addr} {len cap : Nat} {x : DataW H × List MemPlace} (h : DataW.trod enc Tryd.prog W 0 (fun _ => true) true fuel 50 [.slice a len cap] = some x) (hz : ∀ m ∈ x.1.weights Tryd.prog 50, m ≤ 140737488351232) (hb : Rows.uptoBulk x.1 ≤ 1048576) :
    ∃ ps : List PkX, (len = ps.length ∧ ps.length ≤ cap) ∧ PkReadsA W a ps ∧ (∀ y ∈ ps, PkFit y) ∧ (ps.length : Int) ≤ 140737488351232 := by
  have c18 : Tryd.prog.cellsOf PT = 18 := by kernel_rfl
  rcases Go.Deep.open_slice Tryd.underlying50 h with ⟨h1, _⟩ | ⟨x0, l, c, m, n, D, Pl, h1, _, hl, _, hmm, hx, hall⟩
  · simp only [List.cons.injEq, and_true] at h1
    injection h1 with e1 e2 e3
    subst e1 e2 e3
    exact ⟨[], ⟨rfl, Nat.le_refl _⟩, fun i hi => absurd hi (by simp), by simp, by simp⟩
  · simp only [List.cons.injEq, and_true] at h1
    injection h1 with e1 e2 e3
    subst e1 e2 e3
    have hmc : m = cap := by simpa using hmm
    rw [c18] at hall
    have each : ∀ i, i < len → ∃ y : PkX, (∀ j v, y.1.cells.toList[j]? = some v → W.cell? ((x0.add (i * 18)).add j) = some v) ∧ Lies W y.1 y.2.1 y.2.2 ∧ PkFit y := by
      intro i hi
      obtain ⟨cs, hc1, hc2⟩ := hall i (by omega)
      obtain ⟨_, hlen, hcell⟩ := World.cells?_some hc1
      have hmem : D i ∈ (List.range len).map D := List.mem_map.2 ⟨i, by simpa using hi, rfl⟩
      obtain ⟨p, C, E, hv, hL, hS⟩ := open_packet (v := .agg cs.toArray) (d := D i) (ps := Pl i) ⟨cs.toArray, rfl, by simpa using hlen⟩ ⟨n, by simpa [Value.cells] using hc2⟩ (fun q hq => by
        refine hz q ?_
        rw [hx, weights_slice Tryd.underlying50]
        exact List.mem_cons_of_mem _ (List.mem_append_left _ (weightsAll_mem hmem q hq)))
      have hcs : cs = p.cells.toList := by
        injection hv with hv
        rw [← hv]
      subst hcs
      obtain ⟨A1, k1, hcd, _⟩ := hL.codes
      obtain ⟨A2, k2, hsd, _⟩ := hL.subs
      obtain ⟨b1, b2, b3⟩ := packet_bulk p hc2 hcd hsd
      have hbe : Rows.uptoBulk (D i) ≤ Rows.uptoBulk x.1 := by rw [hx]; exact bulk_elem hmem
      exact ⟨(p, C, E), fun j v hj => by
        have hjl : j < 18 := (List.getElem?_eq_some_iff.1 hj).1
        rw [hcell j hjl]; exact hj, hL, ⟨by simp only; omega, by simp only; omega, by simp only; omega, hS.pass⟩⟩
    haveI : Inhabited PkX := ⟨(zeroP, [], [])⟩
    obtain ⟨Y, hY⟩ := Go.Deep.choose_lt (α := PkX) each
    have hget : ∀ i (hi : i < ((List.range len).map Y).length), ((List.range len).map Y)[i] = Y i := by intro i hi; simp
    refine ⟨(List.range len).map Y, ⟨by simp, by simpa using hl⟩, fun i hi => ?_, fun y hy => ?_, ?_⟩
    · have hi' : i < len := by simpa using hi
      obtain ⟨h1, h2, _⟩ := hY i hi'
      rw [hget i hi]
      exact ⟨x0, rfl, h1, h2⟩
    · obtain ⟨i, hi, rfl⟩ := List.mem_map.1 hy
      exact (hY i (by simpa using hi)).2.2
    · have h1 : ((List.range len).map D).length ≤ Rows.uptoBulk x.1 := by rw [hx]; exact bulk_slice _ _
      simp only [List.length_map, List.length_range] at h1 ⊢
      omega
end Str
end Go.Proofs.YteigakkghkjakaaDoor

/- sender: Take. -/
import Derived.Test.YtonemmdipmohgaaDoorSnI
import Derived.Test.YtonemmdipmohgaaDoorSnF
import Derived.Laws.StructEq
import Derived.BigQuiet
namespace Go.Proofs.YtonemmdipmohgaaDoor
open Go.RowKit Go.ChangeShapes
set_option linter.unusedVariables false
set_option linter.unusedSimpArgs false
namespace Snd
open Pk Str

theorem build3 (a b c : Int) (w : World) : (Instr.build 103 #[(0, .int .i64 a), (1, .int .i64 b), (2, .int .i64 c)]).run Tryd.prog w = .ok (.agg #[.int .i64 a, .int .i64 b, .int .i64 c]) w := run_build w 103 _ _ (by kernel_rfl)
theorem eq3 (a b c d e f : Int) (w : World) : (Op.equalIn 10000 103 (.agg #[.int .i64 a, .int .i64 b, .int .i64 c]) (.agg #[.int .i64 d, .int .i64 e, .int .i64 f])).run Tryd.prog w = .ok (decide (a = d ∧ b = e ∧ c = f)) w := by
  have u3 := Tryd.underlying3
  have a3 := Tryd.isAgg3
  have z3 := Tryd.sizeOf3
  rw [show (10000 : Nat) = 9999 + 1 from rfl, Op.equalIn]
  simp only [Sem.run_bind, run_underlying Tryd.underlying103, Result.andThen_ok]
  simp only [Std.Legacy.Range.forIn_eq_forIn_range', Std.Legacy.Range.size, Nat.sub_zero, Nat.add_sub_cancel, Nat.div_one, List.range'_succ, List.range'_zero, List.forIn_cons, List.forIn_nil]
  go_simp
  by_cases h1 : a = d <;> by_cases h2 : b = e <;> by_cases h3 : c = f <;> simp [h1, h2, h3]

theorem eq3_yes {a b c d e f : Int} (h : a = d ∧ b = e ∧ c = f) : ∀ w : World, (Op.equalIn 10000 103 (.agg #[.int .i64 a, .int .i64 b, .int .i64 c]) (.agg #[.int .i64 d, .int .i64 e, .int .i64 f])).run Tryd.prog w = .ok true w := fun w => by rw [eq3, decide_eq_true h]
theorem eq3_no {a b c d e f : Int} (h : ¬ (a = d ∧ b = e ∧ c = f)) : ∀ w : World, (Op.equalIn 10000 103 (.agg #[.int .i64 a, .int .i64 b, .int .i64 c]) (.agg #[.int .i64 d, .int .i64 e, .int .i64 f])).run Tryd.prog w = .ok false w := fun w => by rw [eq3, decide_eq_false h]
theorem ids_free (w : World) (T : Nat → Prop) (s B b : Nat) (vw vy : Value) (y : St) (h : SAt w T s B b vw vy y) (id : Int) (hid : 1 ≤ id ∧ id ≤ 65535) :
    Calls Tryd.prog 54 #[.pointer (some ⟨B, 0, none⟩), .int .i64 id] w fun e w' => (∃ r, e = .returned (.tuple #[.bool r, .int .i64 0])) ∧ SAt w' T s B b vw vy { y with ids := y.ids.filter (· ≠ id) } ∧ Moved T T w w' := by
  refine (Ids.free_calls w B b y.ids y.last h.ids id (Ids.wf_i64 (by omega) (by omega))).mono ?_
  rintro e w' ⟨rfl, h2, h3⟩
  exact ⟨⟨_, rfl⟩, h.setIds h3 h2⟩
theorem SAt.c4 {w : World} {T : Nat → Prop} {s B b : Nat} {vw vy : Value} {x : St} (h : SAt w T s B b vw vy x) : w.cell? ⟨s, 4, none⟩ = some (.pointer (some ⟨B, 0, none⟩)) := cell_heap h.obj
theorem SAt.c3 {w : World} {T : Nat → Prop} {s B b : Nat} {vw vy : Value} {x : St} (h : SAt w T s B b vw vy x) : w.cell? ⟨s, 3, none⟩ = some vy := cell_heap h.obj
theorem SAt.way {w : World} {T : Nat → Prop} {s B b g off c i : Nat} {vw : Value} {x : St} {y : Way} (h : SAt w T s B b vw (.slice (some ⟨g, off, none⟩) x.ways.length c) x) (hy : x.ways[i]? = some y) (j : Nat) (u : Value) (hj : j < 6) (hu : y.vals[j]? = some u) : w.cell? ⟨g, off + i * 6 + j, none⟩ = some u := by
  obtain ⟨h1, h2⟩ := List.getElem?_eq_some_iff.1 hy
  have hu' : (ycells x.ways)[i * 6 + j]? = some u := by rw [Nat.mul_comm, way_at h1 j hj, h2]; exact hu
  rcases h.ways.2 with ⟨h3, _⟩ | ⟨g', off', cap', hv, hh⟩
  · cases h3
  · injection hv with e1 e2 e3
    injection e1 with e1
    injection e1 with e1 e4 _
    subst e1 e3 e4
    have := hh.cell _ u hu'
    rwa [← Nat.add_assoc] at this
theorem ids_free2 (w : World) (T : Nat → Prop) (s B b g off c i : Nat) (vw : Value) (x : St) (h : SAt w T s B b vw (.slice (some ⟨g, off, none⟩) x.ways.length c) x) (y : Way) (hy : x.ways[i]? = some y) (hid : 1 ≤ y.id ∧ y.id ≤ 65535) :
    Calls Tryd.prog 54 #[.pointer (some ⟨B, 0, none⟩), .int .i64 y.id] w fun e w' => (∃ r, e = .returned (.tuple #[.bool r, .int .i64 0])) ∧ Hid (SAt w' T s B b vw (.slice (some ⟨g, off, none⟩) x.ways.length c) { x with ids := x.ids.filter (· ≠ y.id) }) ∧ Hid (Moved T T w w') ∧ Hid (w'.cell? ⟨s, 4, none⟩ = some (.pointer (some ⟨B, 0, none⟩)) ∧ w'.cell? ⟨g, off + i * 6, none⟩ = some (.int .i64 y.id)) := by
  refine (ids_free w T s B b vw _ x h y.id hid).mono ?_
  rintro e w' ⟨h1, h2, h3⟩
  have h2' : SAt w' T s B b vw (.slice (some ⟨g, off, none⟩) ({ x with ids := x.ids.filter (· ≠ y.id) } : St).ways.length c) { x with ids := x.ids.filter (· ≠ y.id) } := h2
  exact ⟨h1, h2, h3, h2.c4, h2'.way (i := i) hy 0 _ (by decide) rfl⟩
theorem prow_one (W : World) (p : Pkt) (hp : p.codes = nilV ∧ p.subs = nilV) : PRow (W.alloc (.cells p.cells PT)) (.slice (some ⟨W.heap.size, 0, none⟩) 1 1) [p] := by
  refine ⟨⟨by simp [pcells, Pkt.cells], .inr ⟨_, 0, 1, rfl, Nat.zero_le _, ⟨_, heap_new _ _, by simp [Pkt.cells]⟩, Nat.le_refl _, by decide, fun j u hu => ?_⟩⟩, fun q hq => by rw [List.mem_singleton.1 hq]; exact hp⟩
  have hu' : p.cells.toList[j]? = some u := by
    have h1 := hu
    simp only [pcells, List.map_cons, List.map_nil, List.flatten_cons, List.flatten_nil, List.append_nil] at h1
    exact h1
  have h2 := lit_cells W PT p.cells.toList p.cells (by simp) j u hu'
  rw [add_plain0] at h2
  rw [Nat.zero_add]
  exact h2
theorem take_same {w w' : World} {T : Nat → Prop} {s : Nat} {x : St} {ty id : Int} (h : SObj w T s x) (e : x.take ty id = (x, [], 5)) (t : Turn (fun _ => False) w w') : TakePost w T s x ty id (.returned (.tuple #[.slice none 0 0, .int .i64 5])) w' := by
  unfold TakePost
  rw [e]
  exact ⟨_, T, rfl, PRow.nil _, (fun k hk => by cases hk), h.turn t (fun _ _ h => h), Moved.still t⟩
theorem mid_set {w : World} {base : Nat} {e : TypeId} {size n : Nat} {g off cap o : Nat} {xs : List Value} {u : Value} (h : Mid w base e size (.slice (some ⟨g, off, none⟩) n cap) n xs) (ho : o < xs.length) :
    Mid (w.setCell ⟨g, off + o, none⟩ u) base e size (.slice (some ⟨g, off, none⟩) n cap) n (xs.set o u) := by
  refine ⟨by rw [List.length_set]; exact h.1, ?_⟩
  rcases h.2 with ⟨h2, _⟩ | ⟨g', off', cap', hv, hh⟩
  · cases h2
  · injection hv with e1 e2 e3
    injection e1 with e1
    injection e1 with e1 e4 _
    subst e1 e3 e4
    obtain ⟨cur, hb, hs⟩ := hh.blk
    have hl : o < n * size := by rw [← h.1]; exact ho
    have hcn : n * size ≤ cap * size := Nat.mul_le_mul_right _ hh.le
    have hb' := heap_set_same w g (off + o) u hb
    refine .inr ⟨_, _, _, rfl, hh.ge, ⟨_, hb', by simpa using hs⟩, hh.le, hh.cm, fun j v hv => ?_⟩
    by_cases hj : j = o
    · subst hj
      rw [List.getElem?_set_self (by omega)] at hv
      rw [cell_heap hb']
      have : off + j < cur.size := by omega
      simp [this]
      exact Option.some.inj hv
    · rw [List.getElem?_set_ne (by omega)] at hv
      have := hh.cell j v hv
      rw [cell_heap hb] at this
      rw [cell_heap hb']
      simp only [Array.set!_eq_setIfInBounds, Array.getElem?_setIfInBounds]
      rw [if_neg (by omega)]
      exact this
/-- A way's mark. -/
theorem SAt.mark {w : World} {T : Nat → Prop} {s B b g off c : Nat} {vw : Value} {x : St} {id : Int} {y : Way} (h : SAt w T s B b vw (.slice (some ⟨g, off, none⟩) x.ways.length c) x) (hy : x.ways[x.at id]? = some y) :
    SAt (w.setCell ⟨g, off + (x.at id * 6 + 5), none⟩ (.int .i64 1)) T s B b vw (.slice (some ⟨g, off, none⟩) x.ways.length c) (x.got id y) := by
  have hT : T g := h.ty g rfl
  have hne := h.y_ne g rfl
  have t : Turn (· = g) w (w.setCell ⟨g, off + (x.at id * 6 + 5), none⟩ (.int .i64 1)) := Turn.setCell w _ rfl
  obtain ⟨h1, h2⟩ := List.getElem?_eq_some_iff.1 hy
  have hl : x.at id * 6 + 5 < (ycells x.ways).length := by rw [ycells_length]; omega
  have hw := mid_set (u := .int .i64 1) h.ways hl
  rw [← ycells_set x.ways (x.at id) h1 { y with got := true } 5 (by omega) (.int .i64 1) (by rw [h2]; rfl)] at hw
  refine ⟨(t.block s (heap_lt h.obj) (fun e => hne.1 e.symm)).trans h.obj, h.wait.turn t (fun k hk e => by subst e; exact hne.2.2.2 hk), ?_, h.ids.turn t (fun e => hne.2.1 e.symm) (fun e => hne.2.2.1 e.symm), h.ts, h.tB, h.tb, h.tw, h.ty, fun k hk => Nat.lt_of_lt_of_le (h.lt k hk) t.size, ?_⟩
  · show Mid _ 0 WT 6 _ (x.ways.set (x.at id) { y with got := true }).length _
    rw [List.length_set]
    exact hw
  · intro k hk cur hc
    by_cases e : k = g
    · subst e
      obtain ⟨cur', hc'⟩ := hw.typ k rfl
      exact obj_ne hc' hc (cells_ne (by decide)) rfl
    · rw [t.block k (h.lt k hk) e] at hc
      exact h.other k hk cur hc

set_option maxRecDepth 100000 in
set_option maxHeartbeats 4000000 in
theorem take_calls (w : World) (T : Nat → Prop) (s : Nat) (x : St) (h : SObj w T s x) (hI : Inv x) (p : Pkt) :
    Calls Tryd.prog 23 #[.pointer (some ⟨s, 0, none⟩), .agg p.cells] w fun e w' => TakePost w T s x p.ty p.id e w' := by
  have HS := Lib.hid h
  obtain ⟨B, b, vw, vy, hA0⟩ := h
  obtain ⟨pb, hpb⟩ : ∃ pb, Hid (pb = w.heap.size) := ⟨_, rfl⟩
  obtain ⟨W0, hW0⟩ : ∃ W0, Hid (W0 = w.alloc (.cells p.cells PT)) := ⟨_, rfl⟩
  have ht0 : Hid (Turn (fun _ => False) w W0) := by rw [hW0.out]; exact Turn.alloc _ _
  have hP0 : Hid (W0.heap[pb]? = some (.cells p.cells PT)) := by rw [hW0.out, hpb.out]; exact heap_new _ _
  have hA := hA0.turn ht0.out (fun _ _ h => h)
  obtain ⟨A2, c2, hvy, hc2, hcm2, hcell2⟩ := hA.ways.form
  subst hvy
  have k3 : W0.cell? ⟨s, 3, none⟩ = some (.slice A2 x.ways.length c2) := cell_heap hA.obj
  have hwl : Hid (x.ways.length ≤ 16) := by rw [Hid]; have h1 := hI.ways; have h2 := hI.win; omega
  have HA := Lib.hid hA
  have HI := Lib.hid hI
  have HCE := Lib.hid hcell2
  have HC2 := Lib.hid hc2
  clear hA0 hA hI hcell2 hc2 hcm2
  go_enter Tryd.func23, Tryd.ntmps23
  go_upto_region 1 with (fail)
  rw [← hW0.out, ← hpb.out]
  go_wp2_with (fail)
  refine (index_calls W0 x.ways hwl.out A2 c2 HCE.out HC2.out pb p hP0.out).mono ?_
  rintro e w1 ⟨rfl, hB1⟩
  have ht1 : Hid (Turn (fun _ => False) w w1) := ht0.out.trans (Turn.of_below hB1)
  have HB1 := Lib.hid hB1
  clear hB1
  cases hy : x.ways[x.at p.id]? with
  | none =>
    have hi : idx x.ways p.id = -1 := idx_miss fun j hj => at_none hy _ (List.getElem_mem hj)
    rw [hi]
    have HF := Lib.hid (take_same (ty := p.ty) HS.out (take_none hy) ht1.out)
    clear hi hy
    go_wp2_with (fail)
    go_ret2
    exact HF.out
  | some y =>
    obtain ⟨hlt, hyid⟩ := at_some hy
    obtain ⟨i, hi⟩ : ∃ i, Hid (i = x.at p.id) := ⟨_, rfl⟩
    have hidx : idx x.ways p.id = (i : Int) := by
      rw [hi.out]
      exact idx_hit hlt (by obtain ⟨h1, h2⟩ := List.getElem?_eq_some_iff.1 hy; rw [h2]; exact hyid) (fun j hj hjl => by
        have := List.not_of_lt_findIdx (p := fun y : Way => y.id == p.id) (xs := x.ways) (i := j) hjl
        simpa using this)
    rw [hidx]
    rw [← hi.out] at hlt
    have hi16 : (i : Int) ≤ 16 := by have := hwl.out; omega
    obtain ⟨g, off, rfl, _, hgl, hcc⟩ := HCE.out (by omega)
    have HA1 := Lib.hid (HA.out.turn (Turn.of_below (S := fun _ => False) HB1.out) (fun _ _ h => h))
    have hcy : ∀ j u, j < 6 → y.vals[j]? = some u → w1.cell? ⟨g, off + i * 6 + j, none⟩ = some u := by
      intro j u hj hu
      have h1 := hcc (6 * i + j) u (by rw [way_at hlt j hj]; obtain ⟨h1, h2⟩ := List.getElem?_eq_some_iff.1 hy; rw [show x.ways[i] = y by rw [← h2]; congr 1]; exact hu)
      rw [show off + i * 6 + j = off + (6 * i + j) by omega]
      exact (HB1.out.cell (p := ⟨g, off + (6 * i + j), none⟩) hgl).trans h1
    have y0 : w1.cell? ⟨g, off + i * 6, none⟩ = some (.int .i64 y.id) := hcy 0 _ (by decide) rfl
    have y3 := hcy 3 _ (by decide) rfl
    have y5 := hcy 5 _ (by decide) rfl
    obtain ⟨gv, hgv⟩ : ∃ gv : Int, Hid (gv = if y.got = true then 1 else 0) := ⟨_, rfl⟩
    rw [← hgv.out] at y5
    have y3a : ∀ o, (w1.alloc o).cell? ⟨g, off + i * 6 + 3, none⟩ = some (.int .i64 y.msg.qos) := fun o => (Turn.alloc (S := fun _ => False) w1 o).cell y3 (fun h => h)
    have y5a : ∀ o, (w1.alloc o).cell? ⟨g, off + i * 6 + 5, none⟩ = some (.int .i64 gv) := fun o => (Turn.alloc (S := fun _ => False) w1 o).cell y5 (fun h => h)
    have j3 : w1.cell? ⟨s, 3, none⟩ = some (.slice (some ⟨g, off, none⟩) x.ways.length c2) := cell_heap HA1.out.obj
    have HP1 : Hid (w1.heap[pb]? = some (.cells p.cells PT)) := (HB1.out.block pb (heap_lt hP0.out)).trans hP0.out
    have q0 : w1.cell? ⟨pb, 0, none⟩ = some (.int .i64 p.ty) := cell_heap HP1.out
    have q0a : ∀ o, (w1.alloc o).cell? ⟨pb, 0, none⟩ = some (.int .i64 p.ty) := fun o => (Turn.alloc (S := fun _ => False) w1 o).cell q0 (fun h => h)
    have HY := Lib.hid hy
    have HK : Hid (i < x.ways.length) := hlt
    have HYI := Lib.hid hyid
    clear hcc hcy hidx hy k3 hyid
    go_upto_region 7 with (fail)
    go_region
    obtain ⟨W7, hW7⟩ : ∃ W7, Hid (W7 = (w1.alloc (.cells #[.int .i64 p.ty, .int .i64 y.msg.qos, .int .i64 gv] 103)).drew) := ⟨_, rfl⟩
    obtain ⟨a7, ha7⟩ : ∃ a7, Hid (a7 = w1.heap.size) := ⟨_, rfl⟩
    rw [show (w1.alloc (.cells #[.int .i64 p.ty, .int .i64 y.msg.qos, .int .i64 gv] 103)).drew = W7 from hW7.out.symm, ← ha7.out]
    have t7 : Hid (Turn (fun _ => False) w1 W7) := by rw [hW7.out]; exact (Turn.alloc _ _).drew
    have HA7 := Lib.hid (HA1.out.turn t7.out (fun _ _ h => h))
    have hat : Hid (W7.heap[a7]? = some (.cells #[.int .i64 p.ty, .int .i64 y.msg.qos, .int .i64 gv] 103)) := by rw [hW7.out, ha7.out]; exact heap_new _ _
    have r0 : W7.cell? ⟨a7, 0, none⟩ = some (.int .i64 p.ty) := cell_heap hat.out
    have r1 : W7.cell? ⟨a7, 1, none⟩ = some (.int .i64 y.msg.qos) := cell_heap hat.out
    have r2 : W7.cell? ⟨a7, 2, none⟩ = some (.int .i64 gv) := cell_heap hat.out
    clear y0 y3 y5 y3a y5a j3 q0 q0a
    have hyi : x.ways[i]? = some y := by rw [hi.out]; exact HY.out
    have HYV := Lib.hid hyi
    have j3 : W7.cell? ⟨s, 3, none⟩ = some (.slice (some ⟨g, off, none⟩) x.ways.length c2) := HA7.out.c3
    have j4 : W7.cell? ⟨s, 4, none⟩ = some (.pointer (some ⟨B, 0, none⟩)) := HA7.out.c4
    have y0 : W7.cell? ⟨g, off + i * 6, none⟩ = some (.int .i64 y.id) := HA7.out.way hyi 0 _ (by decide) rfl
    have y5 : W7.cell? ⟨g, off + i * 6 + 5, none⟩ = some (.int .i64 gv) := HA7.out.way hyi 5 _ (by decide) (by rw [hgv.out]; rfl)
    have f5 : W7.frozen? ⟨g, off + i * 6 + 5, none⟩ = false := by
      obtain ⟨cur, hc⟩ := HA7.out.ways.typ g rfl
      exact frozen_heap hc
    have b1 := build3 4 1 0
    have b2 := build3 7 2 1
    have b3 := build3 5 2 0
    have b4 := build3 5 2 1
    have hgv01 : gv = if y.got = true then 1 else 0 := hgv.out
    have HEND : Hid (Ends p.ty y ↔ (p.ty = 4 ∧ y.msg.qos = 1 ∧ gv = 0) ∨ (p.ty = 7 ∧ y.msg.qos = 2 ∧ gv = 1)) := by
      rw [Hid, hgv01]
      unfold Ends
      cases y.got <;> simp
    have HGO : Hid (Goes p.ty y ↔ (p.ty = 5 ∧ y.msg.qos = 2 ∧ gv = 0) ∨ (p.ty = 5 ∧ y.msg.qos = 2 ∧ gv = 1)) := by
      rw [Hid, hgv01]
      unfold Goes
      cases y.got <;> simp
    have HTS : Hid (∀ W', Turn (fun _ => False) W7 W' → ¬ Ends p.ty y → ¬ Goes p.ty y → TakePost w T s x p.ty p.id (.returned (.tuple #[.slice none 0 0, .int .i64 5])) W') := fun W' t h1 h2 => take_same HS.out (take_not HY.out h1 h2) ((ht1.out.trans t7.out).trans t)
    have hidr : Hid (1 ≤ y.id ∧ y.id ≤ 65535) := by
      refine HS.out.nodup.2 _ ?_
      rw [HI.out.ids]
      exact List.mem_map.2 ⟨y, List.mem_of_getElem? hyi, rfl⟩
    clear hgv01 hyi hlt
    by_cases hE : Ends p.ty y
    · have HE := Lib.hid hE
      have hE2 := HEND.out.1 hE
      clear hE
      have hcase : (∀ w : World, (Op.equalIn 10000 103 (.agg #[.int .i64 p.ty, .int .i64 y.msg.qos, .int .i64 gv]) (.agg #[.int .i64 4, .int .i64 1, .int .i64 0])).run Tryd.prog w = .ok true w) ∨
          ((∀ w : World, (Op.equalIn 10000 103 (.agg #[.int .i64 p.ty, .int .i64 y.msg.qos, .int .i64 gv]) (.agg #[.int .i64 4, .int .i64 1, .int .i64 0])).run Tryd.prog w = .ok false w) ∧
           (∀ w : World, (Op.equalIn 10000 103 (.agg #[.int .i64 p.ty, .int .i64 y.msg.qos, .int .i64 gv]) (.agg #[.int .i64 7, .int .i64 2, .int .i64 1])).run Tryd.prog w = .ok true w)) := by
        rcases hE2 with h | h
        · exact .inl (eq3_yes h)
        · exact .inr ⟨eq3_no (by omega), eq3_yes h⟩
      clear hE2
      have HTD : Hid (Turn (fun _ => False) W7 W7.drew) := Turn.drew (Turn.refl _ _)
      have HK1 : Hid (W7.drew.cell? ⟨s, 4, none⟩ = some (.pointer (some ⟨B, 0, none⟩)) ∧ W7.drew.cell? ⟨g, off + i * 6, none⟩ = some (.int .i64 y.id)) := ⟨j4, y0⟩
      have HHE := Lib.hid hcase
      clear hcase
      rcases HHE.out with e1 | ⟨e1, e2⟩
      all_goals
        go_wp2_with (fail)
        go_region_held (fun W' => W'.cell? ⟨s, 4, none⟩ = some (.pointer (some ⟨B, 0, none⟩)) ∧ W'.cell? ⟨g, off + i * 6, none⟩ = some (.int .i64 y.id)) (first | exact HK1.out | exact HK8.out) ((go_at_call 54; refine (ids_free2 W7.drew T s B b g off c2 i _ x (HA7.out.turn HTD.out (fun _ _ h => h)) y HYV.out hidr.out).mono ?_; rintro e w8 ⟨⟨r8, rfl⟩, HA8, HM8, HK8⟩))
        clear j3 j4 y0 y5 f5 r0 r1 r2 e1
        have j3 : w8.cell? ⟨s, 3, none⟩ = some (.slice (some ⟨g, off, none⟩) x.ways.length c2) := HA8.out.c3
        go_wp2_with (fail)
        refine (delete_calls w8 x.ways hwl.out g off c2 i HA8.out.ways HK.out).mono ?_
        rintro e w9 ⟨rfl, hM9, ht9⟩
        have H9 := HA8.out.atY rfl (Turn.refl _ _) (ht9.mono (fun k _ e => by rw [e]; rfl))
        have k9 : w9.cell? ⟨s, 3, none⟩ = some (.slice (some ⟨g, off, none⟩) x.ways.length c2) := cell_heap H9.2
        have f9 : w9.frozen? ⟨s, 3, none⟩ = false := frozen_heap H9.2
        have hs9 := HA8.out.setWays (l := x.ways.eraseIdx i) H9.1 (v' := .slice (some ⟨g, off, none⟩) (x.ways.length - 1) c2) (by rw [List.length_eraseIdx_of_lt HK.out]; exact hM9) (fun g' hg' => .inl hg')
        have HF : Hid (TakePost w T s x p.ty p.id (.returned (.tuple #[.slice none 0 0, .int .i64 0])) (w9.setCell ⟨s, 3, none⟩ (.slice (some ⟨g, off, none⟩) (x.ways.length - 1) c2))) := by
          unfold Hid TakePost
          rw [take_ends HY.out HE.out]
          refine ⟨_, _, rfl, PRow.nil _, (fun k hk => by cases hk), ⟨B, b, vw, .slice (some ⟨g, off, none⟩) (x.ways.length - 1) c2, ?_⟩, ((Moved.still (ht1.out.trans (t7.out.trans HTD.out))).trans HM8.out).trans hs9.2⟩
          have h1 := hs9.1
          unfold St.done
          rw [← HYI.out, ← show i = x.at y.id by rw [HYI.out]; exact hi.out]
          exact h1
        clear hM9 ht9 H9 hs9 j3
        go_wp2_with (fail)
        go_ret2
        exact HF.out
    · have HNE := Lib.hid hE
      have e12 : ¬ (p.ty = 4 ∧ y.msg.qos = 1 ∧ gv = 0) ∧ ¬ (p.ty = 7 ∧ y.msg.qos = 2 ∧ gv = 1) := ⟨fun h => hE (HEND.out.2 (.inl h)), fun h => hE (HEND.out.2 (.inr h))⟩
      have e1 := eq3_no e12.1
      have e2 := eq3_no e12.2
      clear hE e12
      by_cases hG : Goes p.ty y
      · have HG := Lib.hid hG
        have hG2 := HGO.out.1 hG
        clear hG
        have hcase : (∀ w : World, (Op.equalIn 10000 103 (.agg #[.int .i64 p.ty, .int .i64 y.msg.qos, .int .i64 gv]) (.agg #[.int .i64 5, .int .i64 2, .int .i64 0])).run Tryd.prog w = .ok true w) ∨
            ((∀ w : World, (Op.equalIn 10000 103 (.agg #[.int .i64 p.ty, .int .i64 y.msg.qos, .int .i64 gv]) (.agg #[.int .i64 5, .int .i64 2, .int .i64 0])).run Tryd.prog w = .ok false w) ∧
             (∀ w : World, (Op.equalIn 10000 103 (.agg #[.int .i64 p.ty, .int .i64 y.msg.qos, .int .i64 gv]) (.agg #[.int .i64 5, .int .i64 2, .int .i64 1])).run Tryd.prog w = .ok true w)) := by
          rcases hG2 with h | h
          · exact .inl (eq3_yes h)
          · exact .inr ⟨eq3_no (by omega), eq3_yes h⟩
        clear hG2
        have HHE := Lib.hid hcase
        clear hcase
        obtain ⟨W8, hW8⟩ : ∃ W8, Hid (W8 = W7.setCell ⟨g, off + i * 6 + 5, none⟩ (.int .i64 1)) := ⟨_, rfl⟩
        have HA8 : Hid (SAt W8 T s B b vw (.slice (some ⟨g, off, none⟩) x.ways.length c2) (x.got p.id y)) := by
          have h1 := HA7.out.mark HY.out
          rw [← hi.out] at h1
          rw [hW8.out, Nat.add_assoc]
          exact h1
        have z0 : W8.cell? ⟨g, off + i * 6, none⟩ = some (.int .i64 y.id) := by
          have h1 : SAt W8 T s B b vw (.slice (some ⟨g, off, none⟩) (x.got p.id y).ways.length c2) (x.got p.id y) := by
            show SAt W8 T s B b vw (.slice (some ⟨g, off, none⟩) (x.ways.set (x.at p.id) _).length c2) (x.got p.id y)
            rw [List.length_set]; exact HA8.out
          exact h1.way (i := i) (y := { y with got := true }) (by
            show (x.ways.set (x.at p.id) _)[i]? = _
            rw [← hi.out, List.getElem?_set_self HK.out]) 0 _ (by decide) rfl
        have tW8 : Hid (Moved T T w W8) := by
          refine (Moved.still (ht1.out.trans t7.out)).trans ⟨?_, fun k hk => .inl hk⟩
          rw [hW8.out]
          exact Turn.setCell W7 _ (HA7.out.ty g rfl)
        rcases HHE.out with e3 | ⟨e3, e4⟩
        all_goals
          go_upto_region 14 with (fail)
          rw [← hW8.out]
          have HF : Hid (TakePost w T s x p.ty p.id (.returned (.tuple #[.slice (some ⟨W8.heap.size, 0, none⟩) 1 1, .int .i64 0])) (W8.alloc (.cells (ackP 6 y.id).cells PT))) := by
            unfold Hid TakePost
            rw [take_goes HY.out HNE.out HG.out, ← HYI.out]
            have ta : Turn (fun _ => False) W8 (W8.alloc (.cells (ackP 6 y.id).cells PT)) := Turn.alloc _ _
            refine ⟨_, T, rfl, prow_one W8 (ackP 6 y.id) ⟨rfl, rfl⟩, (fun k hk => by cases hk; exact tW8.out.1.size), ⟨B, b, vw, .slice (some ⟨g, off, none⟩) x.ways.length c2, ?_⟩, tW8.out.trans (Moved.still ta)⟩
            have h1 := HA8.out.turn ta (fun _ _ h => h)
            rw [← HYI.out] at h1
            exact h1
          go_wp2_with (fail)
          go_ret2
          exact HF.out
      · have HNG := Lib.hid hG
        have e34 : ¬ (p.ty = 5 ∧ y.msg.qos = 2 ∧ gv = 0) ∧ ¬ (p.ty = 5 ∧ y.msg.qos = 2 ∧ gv = 1) := ⟨fun h => hG (HGO.out.2 (.inl h)), fun h => hG (HGO.out.2 (.inr h))⟩
        have e3 := eq3_no e34.1
        have e4 := eq3_no e34.2
        clear hG e34
        go_wp2_with (fail)
        go_ret2
        exact HTS.out _ (Turn.refl _ _) HNE.out HNG.out
end Snd
end Go.Proofs.YtonemmdipmohgaaDoor

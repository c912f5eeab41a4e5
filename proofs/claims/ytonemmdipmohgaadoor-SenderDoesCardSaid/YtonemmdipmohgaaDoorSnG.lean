/- sender: Again. -/
import Derived.Test.YtonemmdipmohgaaDoorSnE
import Derived.Deep.LoopGhost
namespace Go.Proofs.YtonemmdipmohgaaDoor
open Go.RowKit Go.ChangeShapes
set_option linter.unusedVariables false
set_option linter.unusedSimpArgs false
namespace Snd
open Pk Str

theorem again_nil (w : World) : Calls Tryd.prog 22 #[.pointer none] w fun e w' => e = .returned (.tuple #[.slice none 0 0, .int .i64 3]) ∧ w' = w := by
  go_enter Tryd.func22, Tryd.ntmps22
  go_wp2
  go_ret2
  exact ⟨rfl, rfl⟩
theorem push_nil (w : World) (m : Msg) : Calls Tryd.prog 20 #[.pointer none, .agg m.vals.toArray] w fun e w' => e = .returned (.tuple #[.bool false, .int .i64 3]) ∧ Below w.heap.size w w' := by
  go_enter Tryd.func20, Tryd.ntmps20
  go_wp2
  go_ret2
  exact ⟨rfl, (Below.refl _ _).alloc (Nat.le_refl _) _⟩
theorem take_nil (w : World) (p : Pkt) : Calls Tryd.prog 23 #[.pointer none, .agg p.cells] w fun e w' => e = .returned (.tuple #[.slice none 0 0, .int .i64 3]) ∧ Below w.heap.size w w' := by
  go_enter Tryd.func23, Tryd.ntmps23
  go_wp2
  go_ret2
  exact ⟨rfl, (Below.refl _ _).alloc (Nat.le_refl _) _⟩

def Way.pkt (y : Way) : Pkt := if y.got then ackP 6 y.id else pubP y.id y.msg true
def St.again (x : St) : List Pkt := x.ways.map Way.pkt
def AgainPost (w : World) (x : St) (e : Ending) (w' : World) : Prop :=
  ∃ v, e = .returned (.tuple #[v, .int .i64 0]) ∧ PRow w' v x.again ∧ (∀ k, v.ownBlock = some k → w.heap.size ≤ k) ∧ Below w.heap.size w w'
theorem way_at {l : List Way} {k : Nat} (h : k < l.length) (j : Nat) (hj : j < 6) : (ycells l)[6 * k + j]? = l[k].vals[j]? := by
  induction l generalizing k with
  | nil => simp at h
  | cons y l ih =>
    have e : ycells (y :: l) = y.vals ++ ycells l := by simp [ycells]
    have hl : y.vals.length = 6 := rfl
    rw [e]
    cases k with
    | zero => rw [List.getElem?_append_left (by omega)]; simp
    | succ k =>
      rw [List.getElem?_append_right (by omega), hl, show 6 * (k + 1) + j - 6 = 6 * k + j by omega]
      have := ih (k := k) (by simpa using h)
      simpa using this

set_option maxRecDepth 100000 in
set_option maxHeartbeats 4000000 in
theorem again_calls (w : World) (T : Nat → Prop) (s : Nat) (x : St) (h : SObj w T s x) (hI : Inv x) :
    Calls Tryd.prog 22 #[.pointer (some ⟨s, 0, none⟩)] w fun e w' => AgainPost w x e w' := by
  obtain ⟨B, b, vw, vy, hA⟩ := h
  obtain ⟨A2, c2, hvy, hc2, hcm2, hcell2⟩ := hA.ways.form
  subst hvy
  have k3 : w.cell? ⟨s, 3, none⟩ = some (.slice A2 x.ways.length c2) := cell_heap hA.obj
  have HCE := Lib.hid hcell2
  have HI := Lib.hid hI
  have hwl : Hid (x.ways.length ≤ 16) := by rw [Hid]; have h1 := hI.ways; have h2 := hI.win; omega
  clear hA hcell2 hI hc2 hcm2
  go_enter Tryd.func22, Tryd.ntmps22
  go_wp2_with (fail)
  go_loopw [4, 14] (fun o i wr => ∃ A n c, o = .slice A n c ∧ ∃ k : Nat, k ≤ x.ways.length ∧ i = .int .i64 k ∧ Hid (PRow wr (.slice A n c) ((x.ways.take k).map Way.pkt) ∧ (∀ j, (Value.slice A n c).ownBlock = some j → w.heap.size ≤ j) ∧ Below w.heap.size w wr)) (fun _ i _ => x.ways.length - (intOf i).toNat)
  case atStart =>
    exact ⟨none, 0, 0, rfl, 0, Nat.zero_le _, rfl, PRow.nil _, (fun k hk => by cases hk), Below.refl _ _⟩
  case round =>
    obtain ⟨A, n, c, rfl, k, hk, rfl, hR⟩ := hrel
    have hk16 : (k : Int) ≤ 16 := by have := hwl.out; omega
    by_cases hlt : k < x.ways.length
    · obtain ⟨g, off, rfl, _, hgl, hcc⟩ := HCE.out (by omega)
      obtain ⟨y, hy⟩ : ∃ y, Hid (y = x.ways[k]'hlt) := ⟨x.ways[k]'hlt, rfl⟩
      have hcy : ∀ j u, j < 6 → y.vals[j]? = some u → wr.cell? ⟨g, off + k * 6 + j, none⟩ = some u := by
        intro j u hj hu
        have h1 := hcc (6 * k + j) u (by rw [way_at hlt j hj, ← hy.out]; exact hu)
        rw [show off + k * 6 + j = off + (6 * k + j) by omega]
        exact (hR.out.2.2.cell (p := ⟨g, off + (6 * k + j), none⟩) hgl).trans h1
      have y0 : wr.cell? ⟨g, off + k * 6, none⟩ = some (.int .i64 y.id) := hcy 0 _ (by decide) rfl
      have y1 := hcy 1 _ (by decide) rfl
      have y2 := hcy 2 _ (by decide) rfl
      have y3 := hcy 3 _ (by decide) rfl
      have y4 := hcy 4 _ (by decide) rfl
      have y5 := hcy 5 _ (by decide) rfl
      clear hcc hcy
      go_upto_region 7 with (fail)
      obtain ⟨W, hW⟩ : ∃ W, Hid (W = wr.alloc (.cells y.vals.toArray WT)) := ⟨_, rfl⟩
      obtain ⟨q, hq⟩ : ∃ q, Hid (q = wr.heap.size) := ⟨_, rfl⟩
      have hW' : wr.alloc (.cells #[.int .i64 y.id, .string y.msg.topic, .string y.msg.pay, .int .i64 y.msg.qos, .bool y.msg.retain, .int .i64 (if y.got = true then 1 else 0)] WT) = W := hW.out.symm
      rw [hW', ← hq.out]
      have hQ : W.heap[q]? = some (.cells y.vals.toArray WT) := by rw [hW.out, hq.out]; exact heap_new _ _
      have z0 : W.cell? ⟨q, 0, none⟩ = some (.int .i64 y.id) := cell_heap hQ
      have z1 : W.cell? ⟨q, 1, none⟩ = some (.string y.msg.topic) := cell_heap hQ
      have z2 : W.cell? ⟨q, 2, none⟩ = some (.string y.msg.pay) := cell_heap hQ
      have z3 : W.cell? ⟨q, 3, none⟩ = some (.int .i64 y.msg.qos) := cell_heap hQ
      have z4 : W.cell? ⟨q, 4, none⟩ = some (.bool y.msg.retain) := cell_heap hQ
      have z5 : W.cell? ⟨q, 5, none⟩ = some (.int .i64 (if y.got = true then 1 else 0)) := cell_heap hQ
      have tW : Turn (fun _ => False) wr W := by rw [hW.out]; exact Turn.alloc _ _
      have HTW := Lib.hid tW
      have hn : n = ((x.ways.take k).map Way.pkt).length := by
        obtain ⟨A', c', hv, _⟩ := hR.out.1.1.form
        injection hv
      have hlk : ((x.ways.take k).map Way.pkt).length = k := by simp; omega
      have hb : Hid (n + 1 ≤ maxLen ∧ (n + 1) * 200 ≤ 140737488355328) := by
        rw [Hid, hn, hlk]; have h1 := hwl.out; simp only [maxLen]; omega
      have HN := Lib.hid hn
      have htk : Hid ((x.ways.take (k + 1)).map Way.pkt = (x.ways.take k).map Way.pkt ++ [y.pkt]) := by
        rw [Hid, hy.out, List.take_add_one, List.map_append, List.getElem?_eq_getElem hlt]; rfl
      have HFIN : Hid (∀ (W8 w9 : World) (g9 off9 c9 : Nat), Turn (fun _ => False) W W8 → Mid w9 0 PT 18 (.slice (some ⟨g9, off9, none⟩) (n + 1) c9) (n + 1) (pcells ((x.ways.take k).map Way.pkt) ++ y.pkt.cells.toList) → Turn (fun j => (Value.slice A n c).ownBlock = some j) W8 w9 → ((Value.slice A n c).ownBlock = some g9 ∨ W8.heap.size ≤ g9) →
          (PRow w9 (.slice (some ⟨g9, off9, none⟩) (n + 1) c9) ((x.ways.take (k + 1)).map Way.pkt) ∧ (∀ j, (Value.slice (some ⟨g9, off9, none⟩) (n + 1) c9).ownBlock = some j → w.heap.size ≤ j) ∧ Below w.heap.size w w9)) := by
        intro W8 w9 g9 off9 c9 t8 hM t9 hl
        have hwr := hR.out.2.2.size
        refine ⟨⟨?_, ?_⟩, ?_, ?_⟩
        · rw [htk.out, pcells_snoc, List.length_append, ← HN.out]; exact hM
        · intro p hp
          rw [htk.out] at hp
          rcases List.mem_append.1 hp with hp | hp
          · exact hR.out.1.2 p hp
          · rw [List.mem_singleton.1 hp]; unfold Way.pkt; split <;> exact ⟨rfl, rfl⟩
        · intro j hj
          have hj' : g9 = j := Option.some.inj hj
          subst hj'
          rcases hl with h | h
          · exact hR.out.2.1 _ h
          · have := HTW.out.size; have := t8.size; omega
        · exact t9.belowTrans ((HTW.out.trans t8).belowTrans hR.out.2.2 hwr (fun _ _ h => h)) (by have := HTW.out.size; have := t8.size; omega) (fun j hj e => by have := hR.out.2.1 j e; omega)
      clear hQ tW hn hlk y0 y1 y2 y3 y4 y5 hW'
      have HK : Hid (k < x.ways.length) := hlt
      have HRM : Hid (Mid wr 0 PT 18 (.slice A n c) n (pcells ((x.ways.take k).map Way.pkt))) := by have h1 := hR.out.1.1; rw [← HN.out] at h1; exact h1
      clear htk
      clear hy hlt
      by_cases hg : y.got = true
      · have hpk : Hid (y.pkt = ackP 6 y.id) := by rw [Hid]; unfold Way.pkt; rw [if_pos hg]
        rw [if_pos hg] at z5
        have h1c : ∀ u ∈ (ackP 6 y.id).cells.toList, u.oneCell' = true := cells_one _ rfl rfl
        clear hg
        go_upto_region 8 with (fail)
        refine wp_region_lit ?_
        refine st_val (.slice A n c) (wanted_free rfl) (by exact rMove (x := .tmp 4) rfl) ?_
        refine st_val (.pointer (some ⟨q, 0, none⟩)) (wanted_free rfl) (by kernel_rfl) ?_
        refine st_val (.int .i64 y.id) (wanted_free rfl) (by simp [execOp, go_sem, z0, Act.put, Act.eval]) ?_
        refine st_val (.agg (ackP 6 y.id).cells) (wanted_free rfl) (by kernel_rfl) ?_
        refine st_any (.slice (some ⟨W.heap.size, 0, none⟩) 1 1) (wanted_free rfl) (by exact rBuildS rfl (by exact kBuildS (ackP 6 y.id))) ?_
        refine wp_append_mid (W := W.alloc (.cells (ackP 6 y.id).cells PT)) 0 rfl (.tmp 21) (.tmp 25) 22 PT _ 18 200 rfl Tryd.underlying22 info_pkt rfl (by decide) (.slice A n c) n (pcells ((x.ways.take k).map Way.pkt)) rfl (HRM.out.turn (HTW.out.trans (Turn.alloc _ _)) (fun _ _ h => h)) ⟨W.heap.size, 0, none⟩ 1 1 (ackP 6 y.id).cells.toList rfl (by decide) rfl (fun j u hu => lit_cells W PT _ _ (by simp) j u hu) h1c (Nat.zero_le _) hb.out.1 hb.out.2 ?_
        intro g9 off9 c9 w9 hM9 ht9 hl9
        have HE := Lib.hid (HFIN.out _ w9 g9 off9 c9 (Turn.alloc _ _) (by rw [hpk.out]; exact hM9) ht9 hl9)
        clear hM9 ht9 hl9
        go_wp2_with (fail)
        go_roundw
        case rel => exact ⟨_, _, _, rfl, k + 1, HK.out, by go_num, HE.out⟩
        case measure => have := HK.out; simp [intOf]; omega
      · have hpk : Hid (y.pkt = pubP y.id y.msg true) := by rw [Hid]; unfold Way.pkt; rw [if_neg hg]
        rw [if_neg hg] at z5
        have h1c : ∀ u ∈ (pubP y.id y.msg true).cells.toList, u.oneCell' = true := cells_one _ rfl rfl
        clear hg
        go_wp2_with (fail)
        all_goals
          rename_i hK4
          refine (publish_calls W y.id y.msg true).mono ?_
          rintro e w8 ⟨rfl, hB8⟩
          have HB8 := Lib.hid hB8
          clear hB8
          refine hK4 _ _ ?_
          have t8 : Turn (fun _ => False) W (w8.alloc (.cells (pubP y.id y.msg true).cells PT)) := Turn.of_below (HB8.out.alloc HB8.out.size _)
          refine st_any (.slice (some ⟨w8.heap.size, 0, none⟩) 1 1) (wanted_free rfl) (by exact rBuildS rfl (by exact kBuildS (pubP y.id y.msg true))) ?_
          refine wp_append_mid (W := w8.alloc (.cells (pubP y.id y.msg true).cells PT)) 0 rfl (.tmp 27) (.tmp 33) 22 PT _ 18 200 rfl Tryd.underlying22 info_pkt rfl (by decide) (.slice A n c) n (pcells ((x.ways.take k).map Way.pkt)) rfl (HRM.out.turn (HTW.out.trans t8) (fun _ _ h => h)) ⟨w8.heap.size, 0, none⟩ 1 1 (pubP y.id y.msg true).cells.toList rfl (by decide) rfl (fun j u hu => lit_cells w8 PT _ _ (by simp) j u hu) h1c (Nat.zero_le _) hb.out.1 hb.out.2 ?_
          intro g9 off9 c9 w9 hM9 ht9 hl9
          have HE := Lib.hid (HFIN.out _ w9 g9 off9 c9 t8 (by rw [hpk.out]; exact hM9) ht9 hl9)
          clear hM9 ht9 hl9 t8
          refine st_val (.slice (some ⟨g9, off9, none⟩) (n + 1) c9) (wanted_free rfl) (by exact rAssign (x := .tmp 34) rfl) ?_
          refine wpList_nil ?_
          simp only [Act.put, List.setIfInBounds_toArray, List.set_cons_zero, List.set_cons_succ]
          go_wp2_with (fail)
          go_roundw
          case rel => exact ⟨_, _, _, rfl, k + 1, HK.out, by go_num, HE.out⟩
          case measure => have := HK.out; simp [intOf]; omega
    · have hk' : x.ways.take k = x.ways := List.take_of_length_le (by omega)
      have HF : Hid (AgainPost w x (.returned (.tuple #[.slice A n c, .int .i64 0])) wr) := by
        have h1 := hR.out
        rw [hk'] at h1
        exact ⟨_, rfl, h1.1, h1.2.1, h1.2.2⟩
      go_wp2_with (fail)
      go_ret2
      exact HF.out
end Snd
end Go.Proofs.YtonemmdipmohgaaDoor

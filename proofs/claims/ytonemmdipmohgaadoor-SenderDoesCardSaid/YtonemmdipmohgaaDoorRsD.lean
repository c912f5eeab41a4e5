/- The reference's sender: Next. -/
import Derived.Test.YtonemmdipmohgaaDoorRsC
import Derived.Deep.Cut
import Derived.Deep.CutRange
namespace Go.Proofs.YtonemmdipmohgaaDoor
open Go.RowKit Go.ChangeShapes
set_option linter.unusedVariables false
set_option linter.unusedSimpArgs false
namespace Snd
open Pk Str

def RCut8 (T : Nat → Prop) (R : Nat) (vy vi : Value) (z : St) (p : Nat) (y : Way) (wr wx : World) : Prop :=
  ∃ vw, RSt wx R vw vy vi z ∧ Moved T (TT R vw vy vi) wr wx ∧ wx.heap[p]? = some (.cells y.rvals.toArray RWT) ∧ p ≠ R ∧ vy.ownBlock ≠ some p
def RCut9 (T : Nat → Prop) (R : Nat) (z : St) (p : Nat) (y : Way) (wr wx : World) : Prop :=
  ∃ vw vy vi, RSt wx R vw vy vi z ∧ Moved T (TT R vw vy vi) wr wx ∧ wx.heap[p]? = some (.cells y.rvals.toArray RWT)
def RNextRel (w : World) (T : Nat → Prop) (R : Nat) (x : St) (gk : Nat) (o : Value) (wr : World) : Prop :=
  ∃ (y : St) (ps : List Pkt) (vw vy vi : Value), y.wait.length = gk ∧ Inv y ∧ x.next = ((y.nextN gk).1, ps ++ (y.nextN gk).2) ∧ RSt wr R vw vy vi y ∧ Moved T (TT R vw vy vi) w wr ∧ PRow wr o ps ∧ ps.length + gk ≤ 64 ∧ ∀ k, o.ownBlock = some k → w.heap.size ≤ k
def RNextPost (w : World) (T : Nat → Prop) (R : Nat) (x : St) (e : Ending) (w' : World) : Prop :=
  ∃ v vw vy vi, e = .returned v ∧ PRow w' v x.next.2 ∧ (∀ k, v.ownBlock = some k → w.heap.size ≤ k) ∧ RSt w' R vw vy vi x.next.1 ∧ Moved T (TT R vw vy vi) w w'

set_option maxRecDepth 100000 in
set_option maxHeartbeats 4000000 in
theorem rnext_calls (w : World) (R : Nat) (vw0 vy0 vi0 : Value) (x : St) (h : RSt w R vw0 vy0 vi0 x) (hI : Inv x) :
    Calls Tryd.prog 29 #[.pointer (some ⟨R, 0, none⟩)] w fun e w' => RNextPost w (TT R vw0 vy0 vi0) R x e w' := by
  have H := Lib.hid h
  have HI := Lib.hid hI
  obtain ⟨N, hN⟩ : ∃ N, Hid (N = x.wait.length) := ⟨_, rfl⟩
  clear h hI
  go_enter Tryd.func29, Tryd.ntmps29
  go_wp2_with (fail)
  go_loopg [3] N (fun gk o wr => ∃ A n c, o = .slice A n c ∧ Hid (RNextRel w (TT R vw0 vy0 vi0) R x gk (.slice A n c) wr))
  case atStart =>
    refine ⟨none, 0, 0, rfl, x, [], vw0, vy0, vi0, hN.out.symm, HI.out, ?_, H.out, Moved.still (Turn.refl _ _), PRow.nil _, ?_, fun k hk => by cases hk⟩
    · rw [hN.out]; rfl
    · have h1 := HI.out.wait; have h2 := HI.out.que; rw [hN.out]; simp; omega
  case round =>
    obtain ⟨A, n, c, rfl, hR⟩ := hrel
    obtain ⟨y, ps, vw, vy, vi, hgk, hIy, hnx, hA, hMv, hPR, hps, hob⟩ := hR.out
    obtain ⟨A1, c1, hvw, hc1, hcm1, hcell1⟩ := hA.wait.form
    obtain ⟨A2, c2, hvy, hc2, hcm2, hcell2⟩ := hA.ways.form
    subst hvw hvy
    have k0 : wr.cell? ⟨R, 0, none⟩ = some (.int .i64 y.win) := cell_heap hA.obj
    have k2 : wr.cell? ⟨R, 2, none⟩ = some (.slice A1 y.wait.length c1) := cell_heap hA.obj
    have k3 : wr.cell? ⟨R, 3, none⟩ = some (.slice A2 y.ways.length c2) := cell_heap hA.obj
    have HA := Lib.hid hA
    have HIY := Lib.hid hIy
    have HNX := Lib.hid hnx
    have HMV := Lib.hid hMv
    have HPR := Lib.hid hPR
    have HPS := Lib.hid hps
    have HOB := Lib.hid hob
    have HGK := Lib.hid hgk
    have HC1 := Lib.hid hcell1
    clear hR hA hIy hnx hMv hPR hps hob hgk hcell1 hcell2 hc1 hc2 hcm1 hcm2
    by_cases hstop : (y.ways.length : Int) < y.win ∧ 0 < y.wait.length
    · obtain ⟨hs1, hs2⟩ := hstop
      have d1 : decide ((y.ways.length : Int) < y.win) = true := decide_eq_true hs1
      have d2 : decide (0 < y.wait.length) = true := decide_eq_true hs2
      have HS1 := Lib.hid hs1
      have HS2 := Lib.hid hs2
      clear hs1 hs2
      go_wp2_with (fail)
      go_quiet (fail)
      go_wp2_with (fail)
      have hil : y.ids.length < 65535 := by rw [HIY.out.ids, List.length_map]; have := HIY.out.ways; have := HIY.out.win; omega
      refine (rids_take (wr.drewN nq) R _ _ vi y (HA.out.still (Turn.drewN (Turn.refl (fun _ => False) _) _)) hil).mono ?_
      rintro e w2 ⟨rfl, vi2, hA2, hM2⟩
      obtain ⟨m, r, hmr⟩ : ∃ m r, y.wait = m :: r := by
        cases hw : y.wait with
        | nil => have := HS2.out; rw [hw] at this; simp at this
        | cons m r => exact ⟨m, r, rfl⟩
      obtain ⟨g, off, hA1, _, _, hcell⟩ := HC1.out HS2.out
      subst hA1
      obtain ⟨id, hid⟩ : ∃ id, Hid (id = ff y.ids y.last) := ⟨_, rfl⟩
      rw [← hid.out] at hA2 ⊢
      have HMR := Lib.hid hmr
      have HA2 := Lib.hid hA2
      have HM2 := Lib.hid ((Moved.still (Turn.drewN (Turn.refl (fun _ => False) wr) nq)).trans hM2)
      have hwl : y.wait.length = r.length + 1 := by rw [hmr]; rfl
      have j2 : w2.cell? ⟨R, 2, none⟩ = some (.slice (some ⟨g, off, none⟩) y.wait.length c1) := cell_heap hA2.obj
      have hc2 : ∀ i u, (wcells y.wait)[i]? = some u → w2.cell? ⟨g, off + i, none⟩ = some u := by
        intro i u hu
        obtain ⟨A3, c3, hv3, _, _, hcc⟩ := hA2.wait.form
        obtain ⟨g3, off3, hA3, _, _, hcc⟩ := hcc HS2.out
        injection hv3 with h1 _ _
        rw [hA3] at h1
        injection h1 with h1
        injection h1 with h1 h2 _
        subst h1 h2
        exact hcc i u hu
      have e0 : w2.cell? ⟨g, off, none⟩ = some (.string m.topic) := hc2 0 _ (by rw [hmr]; rfl)
      have e1 : w2.cell? ⟨g, off + 1, none⟩ = some (.string m.pay) := hc2 1 _ (by rw [hmr]; rfl)
      have e2 : w2.cell? ⟨g, off + 2, none⟩ = some (.int .i64 m.qos) := hc2 2 _ (by rw [hmr]; rfl)
      have e3 : w2.cell? ⟨g, off + 3, none⟩ = some (.bool m.retain) := hc2 3 _ (by rw [hmr]; rfl)
      clear hil hA2 hM2 hmr hcell hc2
      go_upto_region 5 with (fail)
      obtain ⟨w3, hw3⟩ : ∃ w3, Hid (w3 = w2.alloc (.cells (Way.rvals ⟨id, m, false⟩).toArray RWT)) := ⟨_, rfl⟩
      obtain ⟨p, hp⟩ : ∃ p, Hid (p = w2.heap.size) := ⟨_, rfl⟩
      have hw3' : w2.alloc (.cells #[.int .i64 id, .string m.topic, .string m.pay, .int .i64 m.qos, .bool m.retain, .bool false] RWT) = w3 := hw3.out.symm
      rw [hw3', ← hp.out]
      have t3 : Turn (fun _ => False) w2 w3 := by rw [hw3.out]; exact Turn.alloc _ _
      have hA3 := HA2.out.still t3
      have hP3 : w3.heap[p]? = some (.cells (Way.rvals ⟨id, m, false⟩).toArray RWT) := by rw [hw3.out, hp.out]; exact heap_new _ _
      have HPR3 : Hid (p ≠ R) := obj_ne hP3 hA3.obj (cells_ne (by decide))
      have HPN : Hid ((Value.slice A2 y.ways.length c2).ownBlock ≠ some p) := fun e => by
        have h1 := (HA2.out.ways.lt p e).2
        have h2 := hp.out
        omega
      have HT3 := Lib.hid t3
      have HA3 := Lib.hid hA3
      have HP3 := Lib.hid hP3
      have j2 : w3.cell? ⟨R, 2, none⟩ = some (.slice (some ⟨g, off, none⟩) (r.length + 1) c1) := by
        have := cell_heap (off := 2) hA3.obj
        rw [← hwl]; exact this
      have hcle : r.length + 1 ≤ c1 := by
        rcases hA3.wait.2 with ⟨h1, _⟩ | ⟨g', off', cap, hv, hh⟩
        · cases h1
        · injection hv with _ _ h3; have := hh.le; simp only at this; omega
      have HW3 : Hid (Mid w3 0 MsT 4 (.slice (some ⟨g, off, none⟩) (r.length + 1) c1) (r.length + 1) (wcells (m :: r))) := by
        have := hA3.wait
        rw [Hid, ← HMR.out, ← hwl]
        exact this
      have hfro : w3.frozen? ⟨R, 2, none⟩ = false := frozen_heap hA3.obj
      clear t3 hA3 hP3 hw3' e0 e1 e2 e3
      go_cut [5] from 7 to 64 (fun v wx => v = .int .i64 0 ∧ RCut8 (TT R (.slice (some ⟨g, off, none⟩) y.wait.length c1) (.slice A2 y.ways.length c2) vi) R (.slice A2 y.ways.length c2) vi2 { win := y.win, que := y.que, wait := r, ways := y.ways, ids := y.ids ++ [id], last := id } p ⟨id, m, false⟩ wr wx)
      case first =>
       by_cases hc1 : c1 = 1
       · have hr0 : r = [] := List.eq_nil_of_length_eq_zero (by omega)
         subst hr0 hc1
         have HT1 := Lib.hid (mid_tail1 HW3.out)
         go_wp2_with (fail)
         go_meet
         case rel => exact ⟨rfl, _, (HA3.out.setWait (l := []) (Turn.refl _ _) HT1.out (fun g hg => .inl hg)).1, (HM2.out.trans (Moved.still HT3.out)).trans (HA3.out.setWait (l := []) (Turn.refl _ _) HT1.out (fun g hg => .inl hg)).2, ((Turn.setCell (S := (· = R)) w3 _ rfl).block p (heap_lt HP3.out) HPR3.out).trans HP3.out, HPR3.out, HPN.out⟩
       · have HT1 := Lib.hid (mid_tail HW3.out)
         have hcb : (c1 == 1) = false := by simpa using hc1
         go_wp2_with (fail)
         go_meet
         case rel => exact ⟨rfl, _, (HA3.out.setWait (l := r) (Turn.refl _ _) HT1.out (fun g hg => .inl hg)).1, (HM2.out.trans (Moved.still HT3.out)).trans (HA3.out.setWait (l := r) (Turn.refl _ _) HT1.out (fun g hg => .inl hg)).2, ((Turn.setCell (S := (· = R)) w3 _ rfl).block p (heap_lt HP3.out) HPR3.out).trans HP3.out, HPR3.out, HPN.out⟩
      case rest =>
        obtain ⟨rfl, hcut⟩ := hcut
        obtain ⟨vw5, h5a, h5m, hp5, hpr5, hpn5⟩ := hcut
        have H5A := Lib.hid h5a
        have H5M := Lib.hid h5m
        have HP5 := Lib.hid hp5
        clear h5a h5m hp5 hpr5 hpn5 HP3 HA3
        go_upto_region 6 with (fail)
        go_cut [5] from 7 to 64 (fun v wx => v = .int .i64 0 ∧ RCut9 (TT R (.slice (some ⟨g, off, none⟩) y.wait.length c1) (.slice A2 y.ways.length c2) vi) R { win := y.win, que := y.que, wait := r, ways := y.ways ++ [⟨id, m, false⟩], ids := y.ids ++ [id], last := id } p ⟨id, m, false⟩ wr wx)
        case first =>
          have k3 : wc.cell? ⟨R, 3, none⟩ = some (.slice A2 y.ways.length c2) := cell_heap H5A.out.obj
          have k3a : ∀ (n : Nat) (o : Obj), ((wc.drewN n).alloc o).cell? ⟨R, 3, none⟩ = some (.slice A2 y.ways.length c2) := fun n o => cell_heap (H5A.out.still (turn_da wc n o)).obj
          have k3b : ∀ (o : Obj), (wc.drew.alloc o).cell? ⟨R, 3, none⟩ = some (.slice A2 y.ways.length c2) := fun o => k3a 1 o
          have k3c : ∀ (o : Obj), (wc.alloc o).cell? ⟨R, 3, none⟩ = some (.slice A2 y.ways.length c2) := fun o => k3a 0 o
          have l0 : wc.cell? ⟨p, 0, none⟩ = some (.int .i64 id) := cell_heap HP5.out
          have l1 : wc.cell? ⟨p, 1, none⟩ = some (.string m.topic) := cell_heap HP5.out
          have l2 : wc.cell? ⟨p, 2, none⟩ = some (.string m.pay) := cell_heap HP5.out
          have l3 : wc.cell? ⟨p, 3, none⟩ = some (.int .i64 m.qos) := cell_heap HP5.out
          have l4 : wc.cell? ⟨p, 4, none⟩ = some (.bool m.retain) := cell_heap HP5.out
          have l5 : wc.cell? ⟨p, 5, none⟩ = some (.bool false) := cell_heap HP5.out
          have hlen : Hid (y.ways.length + 1 ≤ maxLen ∧ (y.ways.length + 1) * 64 ≤ 140737488355328) := by
            rw [Hid]; have h1 := HIY.out.ways; have h2 := HIY.out.win; simp only [maxLen]; omega
          go_region_law (first
            | (refine step_append_mid 0 rfl _ _ 54 RWT _ 6 64 rfl Tryd.underlying54 info_rway rfl (by decide) (.slice A2 y.ways.length c2) y.ways.length (rcells y.ways) rfl
                    (H5A.out.ways.turn (S := fun _ => False) (by first | exact turn_da _ _ _ | exact (turn_da _ _ _).drew | exact (turn_da _ _ _).drewN _ | exact Turn.alloc _ _ | exact (Turn.alloc _ _).drew) (fun _ _ h => h))
                    ⟨_, 0, none⟩ 1 1 (Way.rvals ⟨id, m, false⟩) rfl (by decide) rfl (fun j u hu => by exact lit_cells (wc.drewN 0) RWT (Way.rvals ⟨id, m, false⟩) _ rfl j u hu) (by simp [Way.rvals, Value.oneCell']) (Nat.zero_le _) hlen.out.1 hlen.out.2 ?_
               intro g6 off6 c6 w6 hM6 ht6 hloc6
               have H6 := H5A.out.atY rfl (by first | exact turn_da _ _ _ | exact (turn_da _ _ _).drew | exact (turn_da _ _ _).drewN _ | exact Turn.alloc _ _ | exact (Turn.alloc _ _).drew) ht6
               have k6 : w6.cell? ⟨R, 3, none⟩ = some (.slice A2 y.ways.length c2) := cell_heap H6.2
               have f6 : w6.frozen? ⟨R, 3, none⟩ = false := frozen_heap H6.2
               have hl6 : Hid (∀ g, (Value.slice (some ⟨g6, off6, none⟩) (y.ways.length + 1) c6).ownBlock = some g → (Value.slice A2 y.ways.length c2).ownBlock = some g ∨ wc.heap.size ≤ g) := by
                 intro g hg
                 cases hg
                 rcases hloc6 with h | h
                 · left; exact h
                 · right; refine Nat.le_trans ?_ h; exact Nat.le_trans (by exact (turn_da wc 0 (.cells #[] RWT)).size) (by simp [World.drewN, World.drew])
               have hP6 : w6.heap[p]? = some (.cells (Way.rvals ⟨id, m, false⟩).toArray RWT) := (H6.1.block p (heap_lt HP5.out) (fun e => HPN.out e)).trans HP5.out
               have HP6 := Lib.hid hP6
               have H6' := Lib.hid H6
               have HM6 := Lib.hid hM6
               clear H6 hM6 ht6 hloc6 hP6))
          all_goals
            have hs7 := H5A.out.setWays (l := y.ways ++ [⟨id, m, false⟩]) H6'.out.1 (by rw [List.length_append, rcells_snoc]; exact HM6.out) hl6.out
            have hP7 := ((Turn.setCell (S := (· = R)) w6 (p := ⟨R, 3, none⟩) (.slice (some ⟨g6, off6, none⟩) (y.ways.length + 1) c6) rfl).block p (heap_lt HP6.out) HPR3.out).trans HP6.out
            have HF : Hid (RCut9 (TT R (.slice (some ⟨g, off, none⟩) y.wait.length c1) (.slice A2 y.ways.length c2) vi) R { win := y.win, que := y.que, wait := r, ways := y.ways ++ [⟨id, m, false⟩], ids := y.ids ++ [id], last := id } p ⟨id, m, false⟩ wr (w6.setCell ⟨R, 3, none⟩ (.slice (some ⟨g6, off6, none⟩) (y.ways.length + 1) c6))) := ⟨_, _, _, hs7.1, H5M.out.trans hs7.2, hP7⟩
            clear hs7 hP7 HM6 H6' HP6 hl6
            go_wp2_with (fail)
            go_meet
            case rel => exact ⟨rfl, HF.out⟩
        case rest =>
          obtain ⟨rfl, hcut⟩ := hcut
          obtain ⟨vw7, vy7, vi7, h7a, h7m, hP7⟩ := hcut
          have H7A := Lib.hid h7a
          have H7M := Lib.hid h7m
          have HP7 := Lib.hid hP7
          have HPR7 := Lib.hid (HPR.out.turn h7m.1 HA.out.other)
          clear h7a h7m hP7 H5A H5M HP5 HT3
          have hn : n = ps.length := by
            obtain ⟨A', c', hv, _⟩ := HPR.out.1.form
            injection hv
          subst hn
          have hb : Hid (ps.length + 1 ≤ maxLen ∧ (ps.length + 1) * 200 ≤ 140737488355328) := by
            rw [Hid]; have h1 := HPS.out; simp only [maxLen]; omega
          have h1c : ∀ u ∈ (pubP id m false).cells.toList, u.oneCell' = true := cells_one _ rfl rfl
          have HMC : Hid (∀ j v, m.vals[j]? = some v → wc.cell? ((⟨p, 1, none⟩ : Addr).add j) = some v) := fun j v hj => by
            rw [Addr.add_mid]
            have hj4 : j < 4 := (List.getElem?_eq_some_iff.1 hj).1
            match j, hj4, hj with
            | 0, _, hj => cases hj; exact cell_heap HP7.out
            | 1, _, hj => cases hj; exact cell_heap HP7.out
            | 2, _, hj => cases hj; exact cell_heap HP7.out
            | 3, _, hj => cases hj; exact cell_heap HP7.out
          go_upto_region 7 with (fail)
          refine wp_region_lit ?_
          refine st_val (.slice A ps.length c) (wanted_free rfl) (by exact rMove (x := .tmp 3) rfl) ?_
          refine st_val (.int .i64 id) (wanted_free rfl) (by exact rMove (x := .tmp 4) rfl) ?_
          refine st_val (.pointer (some ⟨p, 1, none⟩)) (wanted_free rfl) (by kernel_rfl) ?_
          refine wp_load_at MsT 4 m.vals rfl rfl rfl isAggM sizeM rfl HMC.out ?_
          refine st_val (.agg (pubP id m false).cells) (wanted_free rfl) (by kernel_rfl) ?_
          refine st_any (.slice (some ⟨wc.heap.size, 0, none⟩) 1 1) (wanted_free rfl) (by exact rBuildS rfl (by exact kBuildS (pubP id m false))) ?_
          simp only [Act.put, List.setIfInBounds_toArray, List.set_cons_zero, List.set_cons_succ]
          refine wp_append_mid (W := wc.alloc (.cells (pubP id m false).cells PT)) 0 rfl (.tmp 58) (.tmp 63) 22 PT _ 18 200 rfl Tryd.underlying22 info_pkt rfl (by decide) (.slice A ps.length c) ps.length (pcells ps) rfl (HPR7.out.1.turn (Turn.alloc (S := fun _ => False) _ _) (fun _ _ h => h)) ⟨wc.heap.size, 0, none⟩ 1 1 (pubP id m false).cells.toList rfl (by decide) rfl (fun j u hu => lit_cells wc PT _ _ (by simp) j u hu) h1c (Nat.zero_le _) hb.out.1 hb.out.2 ?_
          intro g9 off9 c9 w9 hM9 ht9 hl9
          refine st_val (.slice (some ⟨g9, off9, none⟩) (ps.length + 1) c9) (wanted_free rfl) (by exact rAssign (x := .tmp 64) rfl) ?_
          refine wpList_nil ?_
          simp only [Act.put, List.setIfInBounds_toArray, List.set_cons_zero, List.set_cons_succ]
          have t8 : Turn (fun _ => False) wc (wc.alloc (.cells (pubP id m false).cells PT)) := Turn.alloc _ _
          have t9 : Turn (fun j => (Value.slice A ps.length c).ownBlock = some j) wc w9 := (t8.mono (fun _ _ h => h.elim)).trans ht9
          have hgk1 : gk = r.length + 1 := by rw [← HGK.out]; exact hwl
          have HREL : Hid (RNextRel w (TT R vw0 vy0 vi0) R x (gk - 1) (.slice (some ⟨g9, off9, none⟩) (ps.length + 1) c9) w9) := by
            refine ⟨y.take1 m r, ps ++ [pubP id m false], vw7, vy7, vi7, by show r.length = gk - 1; omega, HIY.out.take1 HMR.out HS1.out, ?_, ?_, ?_, ⟨?_, ?_⟩, ?_, ?_⟩
            · rw [HNX.out, hgk1, next_step HMR.out HS1.out, hid.out]
              simp
            · have h1 := H7A.out.turn t9 (fun k hk e => by obtain ⟨cur, hc⟩ := HPR7.out.1.typ k e; exact H7A.out.other k hk cur hc)
              rw [hid.out] at h1
              exact h1
            · have h1 := HMV.out.trans H7M.out
              exact ⟨h1.1.then t9 (fun i hi e => by have := HOB.out i e; omega), h1.2⟩
            · rw [pcells_snoc, List.length_append]; exact hM9
            · intro q hq
              rcases List.mem_append.1 hq with hq | hq
              · exact HPR.out.2 q hq
              · rw [List.mem_singleton.1 hq]; exact ⟨rfl, rfl⟩
            · have := HPS.out; rw [List.length_append, List.length_singleton]; omega
            · intro k hk
              have hk' : g9 = k := Option.some.inj hk
              subst hk'
              rcases hl9 with h | h
              · exact HOB.out _ h
              · have h1 := HMV.out.1.size; have h2 := H7M.out.1.size; have h3 := t8.size; omega
          clear t8 t9 hM9 ht9 hl9 hgk1
          go_wp2_with (fail)
          go_roundg (gk - 1)
          case rel => exact ⟨_, _, _, rfl, HREL.out⟩
          case measure => have := HGK.out; have := HS2.out; omega
    · have HST := Lib.hid hstop
      have HF : Hid (∀ wf, Turn (fun _ => False) wr wf → RNextPost w (TT R vw0 vy0 vi0) R x (.returned (.slice A n c)) wf) := by
        intro wf t
        have h1 := HNX.out
        rw [next_stop HST.out, List.append_nil] at h1
        refine ⟨_, _, _, vi, rfl, ?_, HOB.out, ?_, HMV.out.trans (Moved.still t)⟩
        · rw [h1]; exact HPR.out.still t
        · rw [h1]; exact HA.out.still t
      by_cases hs1 : (y.ways.length : Int) < y.win
      · have d1 : decide ((y.ways.length : Int) < y.win) = true := decide_eq_true hs1
        have d2 : decide (0 < y.wait.length) = false := decide_eq_false (fun h => hstop ⟨hs1, h⟩)
        clear hs1 hstop
        go_wp2_with (fail)
        go_quiet (fail)
        go_wp2_with (fail)
        go_ret
        exact HF.out _ (Turn.drewN (Turn.refl _ _) _)
      · have d1 : decide ((y.ways.length : Int) < y.win) = false := decide_eq_false hs1
        clear hs1 hstop
        go_wp2_with (fail)
        go_quiet (fail)
        go_wp2_with (fail)
        go_ret
        exact HF.out _ (Turn.drewN (Turn.refl _ _) _)
end Snd
end Go.Proofs.YtonemmdipmohgaaDoor

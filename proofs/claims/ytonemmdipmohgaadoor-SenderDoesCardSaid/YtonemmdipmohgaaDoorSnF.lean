/- sender: Next. -/
import Derived.Test.YtonemmdipmohgaaDoorSnE
import Derived.Deep.LoopGhost
import Derived.Deep.Cut
import Derived.Deep.CutRange
namespace Go.Proofs.YtonemmdipmohgaaDoor
open Go.RowKit Go.ChangeShapes
set_option linter.unusedVariables false
set_option linter.unusedSimpArgs false
namespace Snd
open Pk Str

theorem next_nil (w : World) : Calls Tryd.prog 21 #[.pointer none] w fun e w' => e = .returned (.tuple #[.slice none 0 0, .int .i64 3]) ∧ w' = w := by
  go_enter Tryd.func21, Tryd.ntmps21
  go_wp2
  go_ret2
  exact ⟨rfl, rfl⟩

theorem ids_take (w : World) (T : Nat → Prop) (s B b : Nat) (vw vy : Value) (y : St) (h : SAt w T s B b vw vy y) (hl : y.ids.length < 65535) :
    Calls Tryd.prog 50 #[.pointer (some ⟨B, 0, none⟩)] w fun e w' => e = .returned (.tuple #[.int .i64 (ff y.ids y.last), .int .i64 0]) ∧ SAt w' T s B b vw vy { y with ids := y.ids ++ [ff y.ids y.last], last := ff y.ids y.last } ∧ Moved T T w w' := by
  refine (Ids.take_calls w B b y.ids y.last h.ids).mono ?_
  rintro e w' (⟨j, h1, h2, h3, rfl, h5, h6⟩ | ⟨h1, rfl, _⟩)
  · rw [ff_is h1 h3 h2]
    exact ⟨rfl, h.setIds h6 h5⟩
  · exact (Ids.some_free y.ids y.last h.ids.lo h.ids.hi hl h1).elim

theorem mid_tail {w : World} {g off c : Nat} {m : Msg} {r : List Msg} (h : Mid w 0 MsT 4 (.slice (some ⟨g, off, none⟩) (r.length + 1) c) (r.length + 1) (wcells (m :: r))) : Mid w 0 MsT 4 (.slice (some ⟨g, off + 4, none⟩) r.length (c - 1)) r.length (wcells r) := by
  have := h.drop (m := 1) (by omega)
  exact this
theorem mid_tail1 {w : World} {g off : Nat} {m : Msg} (h : Mid w 0 MsT 4 (.slice (some ⟨g, off, none⟩) 1 1) 1 (wcells [m])) : Mid w 0 MsT 4 (.slice (some ⟨g, off, none⟩) 0 0) 0 (wcells []) := h.empty

theorem info_way : (Tryd.prog.info? WT).map (fun i => (i.zero, i.size, i.bytes)) = some (some (.agg #[.int .i64 0, .string ⟨#[]⟩, .string ⟨#[]⟩, .int .i64 0, .bool false, .int .i64 0]), 6, 64) := by kernel_rfl
theorem ycells_snoc (l : List Way) (y : Way) : ycells (l ++ [y]) = ycells l ++ y.vals := by simp [ycells]

def Cut8 (T' : Nat → Prop) (s B b : Nat) (vy : Value) (z : St) (p : Nat) (m : Msg) (wr wx : World) : Prop :=
  ∃ T5 vw, SAt wx T5 s B b vw vy z ∧ Moved T' T5 wr wx ∧ wx.heap[p]? = some (.cells m.vals.toArray MsT)
def Cut9 (T' : Nat → Prop) (s B b : Nat) (z : St) (p : Nat) (m : Msg) (wr wx : World) : Prop :=
  ∃ T5 vw vy, SAt wx T5 s B b vw vy z ∧ Moved T' T5 wr wx ∧ wx.heap[p]? = some (.cells m.vals.toArray MsT)
def NextRel (w : World) (T : Nat → Prop) (s : Nat) (x : St) (gk : Nat) (o : Value) (wr : World) : Prop :=
  ∃ (y : St) (ps : List Pkt) (T' : Nat → Prop), y.wait.length = gk ∧ Inv y ∧ x.next = ((y.nextN gk).1, ps ++ (y.nextN gk).2) ∧ SObj wr T' s y ∧ Moved T T' w wr ∧ PRow wr o ps ∧ ps.length + gk ≤ 64 ∧ ∀ k, o.ownBlock = some k → w.heap.size ≤ k

set_option maxRecDepth 100000 in
set_option maxHeartbeats 4000000 in
theorem next_calls (w : World) (T : Nat → Prop) (s : Nat) (x : St) (h : SObj w T s x) (hI : Inv x) :
    Calls Tryd.prog 21 #[.pointer (some ⟨s, 0, none⟩)] w fun e w' => NextPost w T s x e w' := by
  have H := Lib.hid h
  have HI := Lib.hid hI
  obtain ⟨N, hN⟩ : ∃ N, Hid (N = x.wait.length) := ⟨_, rfl⟩
  clear h hI
  go_enter Tryd.func21, Tryd.ntmps21
  go_wp2_with (fail)
  go_loopg [4] N (fun gk o wr => ∃ A n c, o = .slice A n c ∧ Hid (NextRel w T s x gk (.slice A n c) wr))
  case atStart =>
    refine ⟨none, 0, 0, rfl, x, [], T, hN.out.symm, HI.out, ?_, H.out, Moved.still (Turn.refl _ _), PRow.nil _, ?_, fun k hk => by cases hk⟩
    · rw [hN.out]; rfl
    · have h1 := HI.out.wait; have h2 := HI.out.que; rw [hN.out]; simp; omega
  case round =>
    obtain ⟨A, n, c, rfl, hR⟩ := hrel
    obtain ⟨y, ps, T', hgk, hIy, hnx, hSO, hMv, hPR, hps, hob⟩ := hR.out
    obtain ⟨B, b, vw, vy, hA⟩ := hSO
    obtain ⟨A1, c1, hvw, hc1, hcm1, hcell1⟩ := hA.wait.form
    obtain ⟨A2, c2, hvy, hc2, hcm2, hcell2⟩ := hA.ways.form
    subst hvw hvy
    have hsl := heap_lt hA.obj
    have k0 : wr.cell? ⟨s, 0, none⟩ = some (.int .i64 y.win) := cell_heap hA.obj
    have k2 : wr.cell? ⟨s, 2, none⟩ = some (.slice A1 y.wait.length c1) := cell_heap hA.obj
    have k3 : wr.cell? ⟨s, 3, none⟩ = some (.slice A2 y.ways.length c2) := cell_heap hA.obj
    have k4 : wr.cell? ⟨s, 4, none⟩ = some (.pointer (some ⟨B, 0, none⟩)) := cell_heap hA.obj
    have HR := hR
    have HA := Lib.hid hA
    have HIY := Lib.hid hIy
    have HNX := Lib.hid hnx
    have HMV := Lib.hid hMv
    have HPR := Lib.hid hPR
    have HPS := Lib.hid hps
    have HOB := Lib.hid hob
    have HGK := Lib.hid hgk
    have HC1 := Lib.hid hcell1
    clear hR hA hIy hnx hMv hPR hps hob hgk hcell1 hcell2 hc1 hc2 hcm1 hcm2 hsl
    by_cases hstop : (y.ways.length : Int) < y.win ∧ 0 < y.wait.length
    · obtain ⟨hs1, hs2⟩ := hstop
      have d1 : decide ((y.ways.length : Int) < y.win) = true := decide_eq_true hs1
      have d2 : decide (0 < y.wait.length) = true := decide_eq_true hs2
      have HS1 := Lib.hid hs1
      have HS2 := Lib.hid hs2
      clear hs1 hs2
      go_wp2_with (fail)
      go_quiet (fail)
      go_wp2_with (fail)
      have hil : y.ids.length < 65535 := by rw [HIY.out.ids, List.length_map]; have := HIY.out.ways; have := HIY.out.win; omega
      refine (ids_take (wr.drewN nq) T' s B b _ _ y (HA.out.turn (Turn.drewN (Turn.refl (fun _ => False) _) _) (fun _ _ h => h)) hil).mono ?_
      rintro e w2 ⟨rfl, hA2, hM2⟩
      obtain ⟨m, r, hmr⟩ : ∃ m r, y.wait = m :: r := by
        cases hw : y.wait with
        | nil => have := HS2.out; rw [hw] at this; simp at this
        | cons m r => exact ⟨m, r, rfl⟩
      obtain ⟨g, off, hA1, _, _, hcell⟩ := HC1.out HS2.out
      subst hA1
      obtain ⟨id, hid⟩ : ∃ id, Hid (id = ff y.ids y.last) := ⟨_, rfl⟩
      rw [← hid.out] at hA2 ⊢
      have HMR := Lib.hid hmr
      have HA2 := Lib.hid hA2
      have HM2 := Lib.hid ((Moved.still (T := T') (Turn.drewN (Turn.refl (fun _ => False) wr) nq)).trans hM2)
      have hwl : y.wait.length = r.length + 1 := by rw [hmr]; rfl
      have j2 : w2.cell? ⟨s, 2, none⟩ = some (.slice (some ⟨g, off, none⟩) y.wait.length c1) := cell_heap hA2.obj
      have hc2 : ∀ i u, (wcells y.wait)[i]? = some u → w2.cell? ⟨g, off + i, none⟩ = some u := by
        intro i u hu
        obtain ⟨A3, c3, hv3, _, _, hcc⟩ := hA2.wait.form
        obtain ⟨g3, off3, hA3, _, _, hcc⟩ := hcc HS2.out
        injection hv3 with h1 _ _
        rw [hA3] at h1
        injection h1 with h1
        injection h1 with h1 h2 _
        subst h1 h2
        exact hcc i u hu
      have e0 : w2.cell? ⟨g, off, none⟩ = some (.string m.topic) := hc2 0 _ (by rw [hmr]; rfl)
      have e1 : w2.cell? ⟨g, off + 1, none⟩ = some (.string m.pay) := hc2 1 _ (by rw [hmr]; rfl)
      have e2 : w2.cell? ⟨g, off + 2, none⟩ = some (.int .i64 m.qos) := hc2 2 _ (by rw [hmr]; rfl)
      have e3 : w2.cell? ⟨g, off + 3, none⟩ = some (.bool m.retain) := hc2 3 _ (by rw [hmr]; rfl)
      clear hil hA2 hM2 hmr hcell hc2 HR
      go_upto_region 8 with (fail)
      obtain ⟨w3, hw3⟩ : ∃ w3, Hid (w3 = w2.alloc (.cells m.vals.toArray MsT)) := ⟨_, rfl⟩
      obtain ⟨p, hp⟩ : ∃ p, Hid (p = w2.heap.size) := ⟨_, rfl⟩
      have hw3' : w2.alloc (.cells #[.string m.topic, .string m.pay, .int .i64 m.qos, .bool m.retain] 28) = w3 := hw3.out.symm
      rw [hw3', ← hp.out]
      have t3 : Turn (fun _ => False) w2 w3 := by rw [hw3.out]; exact Turn.alloc _ _
      have hA3 := HA2.out.turn t3 (fun _ _ h => h)
      have hP3 : w3.heap[p]? = some (.cells m.vals.toArray MsT) := by rw [hw3.out, hp.out]; exact heap_new _ _
      have HT3 := Lib.hid t3
      have HA3 := Lib.hid hA3
      have HP3 := Lib.hid hP3
      have j2 : w3.cell? ⟨s, 2, none⟩ = some (.slice (some ⟨g, off, none⟩) (r.length + 1) c1) := by
        have := cell_heap (off := 2) hA3.obj
        rw [← hwl]; exact this
      have hcle : r.length + 1 ≤ c1 := by
        rcases hA3.wait.2 with ⟨h1, _⟩ | ⟨g', off', cap, hv, hh⟩
        · cases h1
        · injection hv with _ _ h3; have := hh.le; simp only at this; omega
      have HW3 : Hid (Mid w3 0 MsT 4 (.slice (some ⟨g, off, none⟩) (r.length + 1) c1) (r.length + 1) (wcells (m :: r))) := by
        have := hA3.wait
        rw [Hid, ← HMR.out, ← hwl]
        exact this
      have HR64 : Hid (r.length ≤ 64) := by
        have h1 := HIY.out.wait; have h2 := HIY.out.que; rw [Hid]; omega
      have hfro : w3.frozen? ⟨s, 2, none⟩ = false := frozen_heap hA3.obj
      clear t3 hA3 hP3 hw3' e0 e1 e2 e3
      go_cut [5] from 10 to 70 (fun v wx => v = .int .i64 id ∧ Cut8 T' s B b (.slice A2 y.ways.length c2) { win := y.win, que := y.que, wait := r, ways := y.ways, ids := y.ids ++ [id], last := id } p m wr wx)
      case first =>
       by_cases hc1 : c1 = 1
       · have hr0 : r = [] := List.eq_nil_of_length_eq_zero (by omega)
         subst hr0 hc1
         have HT1 := Lib.hid (mid_tail1 HW3.out)
         go_wp2_with (fail)
         refine (clone_calls w3 [] ⟨g, off, none⟩ 0 HT1.out (by simp)).mono ?_
         rintro e w4 ⟨v4, rfl, hM4, hl4, t4⟩
         obtain ⟨A4, c4, hv4, _⟩ := hM4.form
         subst hv4
         have h5 := HA3.out.setWait (t4.mono (fun _ _ h => h.elim)) hM4 (fun g hg => .inr (hl4 g hg))
         have hA4 := HA3.out.turn t4 (fun _ _ h => h)
         have j2 : w4.cell? ⟨s, 2, none⟩ = some (.slice (some ⟨g, off, none⟩) y.wait.length _) := cell_heap hA4.obj
         have f2 : w4.frozen? ⟨s, 2, none⟩ = false := frozen_heap hA4.obj
         have hP4 : w4.heap[p]? = some (.cells m.vals.toArray MsT) := (t4.block p (heap_lt HP3.out) (fun h => h)).trans HP3.out
         have hps' : p ≠ s := obj_ne hP4 hA4.obj (cells_ne (by decide))
         have HF : Hid (Cut8 T' s B b (.slice A2 y.ways.length c2) { win := y.win, que := y.que, wait := [], ways := y.ways, ids := y.ids ++ [id], last := id } p m wr (w4.setCell ⟨s, 2, none⟩ (.slice A4 (([] : List Msg)).length c4))) := ⟨_, _, h5.1, (HM2.out.trans (Moved.still HT3.out)).trans h5.2, ((Turn.setCell (S := (· = s)) w4 _ rfl).block p (heap_lt hP4) hps').trans hP4⟩
         clear h5 hA4 hM4 hl4 t4 hP4
         go_wp2_with (fail)
         go_meet
         case rel => exact ⟨rfl, HF.out⟩
       · have HT1 := Lib.hid (mid_tail HW3.out)
         have hcb : (c1 == 1) = false := by simpa using hc1
         go_wp2_with (fail)
         refine (clone_calls w3 r ⟨g, off + 4, none⟩ (c1 - 1) HT1.out HR64.out).mono ?_
         rintro e w4 ⟨v4, rfl, hM4, hl4, t4⟩
         obtain ⟨A4, c4, hv4, _⟩ := hM4.form
         subst hv4
         have h5 := HA3.out.setWait (t4.mono (fun _ _ h => h.elim)) hM4 (fun g hg => .inr (hl4 g hg))
         have hA4 := HA3.out.turn t4 (fun _ _ h => h)
         have j2 : w4.cell? ⟨s, 2, none⟩ = some (.slice (some ⟨g, off, none⟩) y.wait.length _) := cell_heap hA4.obj
         have f2 : w4.frozen? ⟨s, 2, none⟩ = false := frozen_heap hA4.obj
         have hP4 : w4.heap[p]? = some (.cells m.vals.toArray MsT) := (t4.block p (heap_lt HP3.out) (fun h => h)).trans HP3.out
         have hps' : p ≠ s := obj_ne hP4 hA4.obj (cells_ne (by decide))
         have HF : Hid (Cut8 T' s B b (.slice A2 y.ways.length c2) { win := y.win, que := y.que, wait := r, ways := y.ways, ids := y.ids ++ [id], last := id } p m wr (w4.setCell ⟨s, 2, none⟩ (.slice A4 (r).length c4))) := ⟨_, _, h5.1, (HM2.out.trans (Moved.still HT3.out)).trans h5.2, ((Turn.setCell (S := (· = s)) w4 _ rfl).block p (heap_lt hP4) hps').trans hP4⟩
         clear h5 hA4 hM4 hl4 t4 hP4
         go_wp2_with (fail)
         go_meet
         case rel => exact ⟨rfl, HF.out⟩
      case rest =>
        obtain ⟨rfl, hcut⟩ := hcut
        obtain ⟨T5, vw5, h5a, h5m, hp5⟩ := hcut
        have H5A := Lib.hid h5a
        have H5M := Lib.hid h5m
        have HP5 := Lib.hid hp5
        clear h5a h5m hp5
        go_upto_region 9 with (fail)
        go_cut [5] from 10 to 70 (fun v wx => v = .int .i64 id ∧ Cut9 T' s B b { win := y.win, que := y.que, wait := r, ways := y.ways ++ [⟨id, m, false⟩], ids := y.ids ++ [id], last := id } p m wr wx)
        case first =>
          have k3 : wc.cell? ⟨s, 3, none⟩ = some (.slice A2 y.ways.length c2) := cell_heap H5A.out.obj
          have k3a : ∀ (n : Nat) (o : Obj), ((wc.drewN n).alloc o).cell? ⟨s, 3, none⟩ = some (.slice A2 y.ways.length c2) := fun n o => cell_heap (H5A.out.turn (turn_da wc n o) (fun _ _ h => h)).obj
          have k3b : ∀ (o : Obj), (wc.drew.alloc o).cell? ⟨s, 3, none⟩ = some (.slice A2 y.ways.length c2) := fun o => k3a 1 o
          have k3c : ∀ (o : Obj), (wc.alloc o).cell? ⟨s, 3, none⟩ = some (.slice A2 y.ways.length c2) := fun o => k3a 0 o
          have l0 : wc.cell? ⟨p, 0, none⟩ = some (.string m.topic) := cell_heap HP5.out
          have l1 : wc.cell? ⟨p, 1, none⟩ = some (.string m.pay) := cell_heap HP5.out
          have l2 : wc.cell? ⟨p, 2, none⟩ = some (.int .i64 m.qos) := cell_heap HP5.out
          have l3 : wc.cell? ⟨p, 3, none⟩ = some (.bool m.retain) := cell_heap HP5.out
          have hlen : Hid (y.ways.length + 1 ≤ maxLen ∧ (y.ways.length + 1) * 64 ≤ 140737488355328) := by
            rw [Hid]; have h1 := HIY.out.ways; have h2 := HIY.out.win; simp only [maxLen]; omega
          go_region_law (first
            | (refine step_append_mid 0 rfl _ _ 91 WT _ 6 64 rfl Tryd.underlying91 info_way rfl (by decide) (.slice A2 y.ways.length c2) y.ways.length (ycells y.ways) rfl
                    (H5A.out.ways.turn (S := fun _ => False) (by first | exact turn_da _ _ _ | exact (turn_da _ _ _).drew | exact (turn_da _ _ _).drewN _ | exact Turn.alloc _ _ | exact (Turn.alloc _ _).drew) (fun _ _ h => h))
                    ⟨_, 0, none⟩ 1 1 (Way.vals ⟨id, m, false⟩) rfl (by decide) rfl (fun j u hu => by exact lit_cells (wc.drewN 0) WT (Way.vals ⟨id, m, false⟩) _ rfl j u hu) (by simp [Way.vals, Value.oneCell']) (Nat.zero_le _) hlen.out.1 hlen.out.2 ?_
               intro g6 off6 c6 w6 hM6 ht6 hloc6
               have H6 := H5A.out.atY rfl (by first | exact turn_da _ _ _ | exact (turn_da _ _ _).drew | exact (turn_da _ _ _).drewN _ | exact Turn.alloc _ _ | exact (Turn.alloc _ _).drew) ht6
               have k6 : w6.cell? ⟨s, 3, none⟩ = some (.slice A2 y.ways.length c2) := cell_heap H6.2
               have f6 : w6.frozen? ⟨s, 3, none⟩ = false := frozen_heap H6.2
               have hl6 : Hid (∀ g, (Value.slice (some ⟨g6, off6, none⟩) (y.ways.length + 1) c6).ownBlock = some g → (Value.slice A2 y.ways.length c2).ownBlock = some g ∨ wc.heap.size ≤ g) := by
                 intro g hg
                 cases hg
                 rcases hloc6 with h | h
                 · left; exact h
                 · right; refine Nat.le_trans ?_ h; exact Nat.le_trans (by exact (turn_da wc 0 (.cells #[] WT)).size) (by simp [World.drewN, World.drew])
               have hP6 : w6.heap[p]? = some (.cells m.vals.toArray MsT) := (H6.1.block p (heap_lt HP5.out) (fun e => by obtain ⟨cur, hc⟩ := H5A.out.ways.typ p e; exact obj_ne HP5.out hc (cells_ne (by decide)) rfl)).trans HP5.out
               have HP6 := Lib.hid hP6
               have H6' := Lib.hid H6
               have HM6 := Lib.hid hM6
               clear H6 hM6 ht6 hloc6 hP6))
          all_goals
            have hs7 := H5A.out.setWays (l := y.ways ++ [⟨id, m, false⟩]) H6'.out.1 (by rw [List.length_append, ycells_snoc]; exact HM6.out) hl6.out
            have hP7 := ((Turn.setCell (S := (· = s)) w6 (p := ⟨s, 3, none⟩) (.slice (some ⟨g6, off6, none⟩) (y.ways.length + 1) c6) rfl).block p (heap_lt HP6.out) (obj_ne HP6.out H6'.out.2 (cells_ne (by decide)))).trans HP6.out
            have HF : Hid (Cut9 T' s B b { win := y.win, que := y.que, wait := r, ways := y.ways ++ [⟨id, m, false⟩], ids := y.ids ++ [id], last := id } p m wr (w6.setCell ⟨s, 3, none⟩ (.slice (some ⟨g6, off6, none⟩) (y.ways.length + 1) c6))) := ⟨_, _, _, hs7.1, H5M.out.trans hs7.2, hP7⟩
            clear hs7 hP7 HM6 H6' HP6 hl6
            go_wp2_with (fail)
            go_meet
            case rel => exact ⟨rfl, HF.out⟩
        case rest =>
          obtain ⟨rfl, hcut⟩ := hcut
          obtain ⟨T7, vw7, vy7, h7a, h7m, hP7⟩ := hcut
          have q0 : wc.cell? ⟨p, 0, none⟩ = some (.string m.topic) := cell_heap hP7
          have q1 : wc.cell? ⟨p, 1, none⟩ = some (.string m.pay) := cell_heap hP7
          have q2 : wc.cell? ⟨p, 2, none⟩ = some (.int .i64 m.qos) := cell_heap hP7
          have q3 : wc.cell? ⟨p, 3, none⟩ = some (.bool m.retain) := cell_heap hP7
          have H7A := Lib.hid h7a
          have H7M := Lib.hid h7m
          have HPR7 := Lib.hid (HPR.out.turn h7m.1 HA.out.other)
          clear h7a h7m hP7 H5A H5M HP5 HP3 HA3 HT3
          go_wp2_with (fail)
          rename_i hK4
          refine (publish_calls wc id m false).mono ?_
          rintro e w8 ⟨rfl, hB8⟩
          have HB8 := Lib.hid hB8
          clear hB8
          refine hK4 _ _ ?_
          have hn : n = ps.length := by
            obtain ⟨A', c', hv, _⟩ := HPR.out.1.form
            injection hv
          subst hn
          have hr8 := HPR7.out.1.turn (Turn.of_below (S := fun _ => False) (HB8.out.alloc HB8.out.size (.cells (pubP id m false).cells PT))) (fun _ _ h => h)
          have hb : Hid (ps.length + 1 ≤ maxLen ∧ (ps.length + 1) * 200 ≤ 140737488355328) := by
            rw [Hid]; have h1 := HPS.out; simp only [maxLen]; omega
          have h1c : ∀ u ∈ (pubP id m false).cells.toList, u.oneCell' = true := cells_one _ rfl rfl
          have HR8 := Lib.hid hr8
          clear hr8
          refine st_any (.slice (some ⟨w8.heap.size, 0, none⟩) 1 1) (wanted_free rfl) (by exact rBuildS rfl (by exact kBuildS (pubP id m false))) ?_
          refine wp_append_mid (W := w8.alloc (.cells (pubP id m false).cells PT)) 0 rfl (.tmp 65) (.tmp 69) 22 PT _ 18 200 rfl Tryd.underlying22 info_pkt rfl (by decide) (.slice A ps.length c) ps.length (pcells ps) rfl HR8.out ⟨w8.heap.size, 0, none⟩ 1 1 (pubP id m false).cells.toList rfl (by decide) rfl (fun j u hu => lit_cells w8 PT _ _ (by simp) j u hu) h1c (Nat.zero_le _) hb.out.1 hb.out.2 ?_
          intro g9 off9 c9 w9 hM9 ht9 hl9
          refine st_val (.slice (some ⟨g9, off9, none⟩) (ps.length + 1) c9) (wanted_free rfl) (by exact rAssign (x := .tmp 70) rfl) ?_
          refine wpList_nil ?_
          simp only [Act.put, List.setIfInBounds_toArray, List.set_cons_zero, List.set_cons_succ]
          have t8 : Turn (fun _ => False) wc (w8.alloc (.cells (pubP id m false).cells PT)) := Turn.of_below (HB8.out.alloc HB8.out.size _)
          have t9 : Turn (fun j => (Value.slice A ps.length c).ownBlock = some j) wc w9 := (t8.mono (fun _ _ h => h.elim)).trans ht9
          have hgk1 : gk = r.length + 1 := by rw [← HGK.out]; exact hwl
          have HREL : Hid (NextRel w T s x (gk - 1) (.slice (some ⟨g9, off9, none⟩) (ps.length + 1) c9) w9) := by
            refine ⟨y.take1 m r, ps ++ [pubP id m false], T7, by show r.length = gk - 1; omega, HIY.out.take1 HMR.out HS1.out, ?_, ⟨B, b, vw7, vy7, ?_⟩, ?_, ⟨?_, ?_⟩, ?_, ?_⟩
            · rw [HNX.out, hgk1, next_step HMR.out HS1.out, hid.out]
              simp
            · have h1 := H7A.out.turn t9 (fun k hk e => by obtain ⟨cur, hc⟩ := HPR7.out.1.typ k e; exact H7A.out.other k hk cur hc)
              rw [hid.out] at h1
              exact h1
            · have h1 := HMV.out.trans H7M.out
              exact ⟨h1.1.then t9 (fun i hi e => by have := HOB.out i e; omega), h1.2⟩
            · rw [pcells_snoc, List.length_append]; exact hM9
            · intro q hq
              rcases List.mem_append.1 hq with hq | hq
              · exact HPR.out.2 q hq
              · rw [List.mem_singleton.1 hq]; exact ⟨rfl, rfl⟩
            · have := HPS.out; rw [List.length_append, List.length_singleton]; omega
            · intro k hk
              have hk' : g9 = k := Option.some.inj hk
              subst hk'
              rcases hl9 with h | h
              · exact HOB.out _ h
              · have h1 := HMV.out.1.size; have h2 := H7M.out.1.size; have h3 := t8.size; omega
          clear t8 t9 hM9 ht9 hl9 hgk1
          go_wp2_with (fail)
          go_roundg (gk - 1)
          case rel => exact ⟨_, _, _, rfl, HREL.out⟩
          case measure => have := HGK.out; have := HS2.out; omega
    · have HST := Lib.hid hstop
      have HF : Hid (∀ wf, Turn (fun _ => False) wr wf → NextPost w T s x (.returned (.tuple #[.slice A n c, .int .i64 0])) wf) := by
        intro wf t
        have h1 := HNX.out
        rw [next_stop HST.out, List.append_nil] at h1
        refine ⟨_, T', rfl, ?_, HOB.out, ?_, HMV.out.trans (Moved.still t)⟩
        · rw [h1]; exact HPR.out.still t
        · rw [h1]; exact ⟨B, b, _, _, HA.out.turn t (fun _ _ h => h)⟩
      by_cases hs1 : (y.ways.length : Int) < y.win
      · have d1 : decide ((y.ways.length : Int) < y.win) = true := decide_eq_true hs1
        have d2 : decide (0 < y.wait.length) = false := decide_eq_false (fun h => hstop ⟨hs1, h⟩)
        clear hs1 hstop
        go_wp2_with (fail)
        go_quiet (fail)
        go_wp2_with (fail)
        go_ret2
        exact HF.out _ (Turn.drewN (Turn.refl _ _) _)
      · have d1 : decide ((y.ways.length : Int) < y.win) = false := decide_eq_false hs1
        clear hs1 hstop
        go_wp2_with (fail)
        go_quiet (fail)
        go_wp2_with (fail)
        go_ret2
        exact HF.out _ (Turn.drewN (Turn.refl _ _) _)
end Snd
end Go.Proofs.YtonemmdipmohgaaDoor

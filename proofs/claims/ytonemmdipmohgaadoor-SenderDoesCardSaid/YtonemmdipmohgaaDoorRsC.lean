/- The reference's sender: Push. -/
import Derived.Test.YtonemmdipmohgaaDoorRsB
import Derived.Test.YtonemmdipmohgaaDoorRfJ
namespace Go.Proofs.YtonemmdipmohgaaDoor
open Go.RowKit Go.ChangeShapes
set_option linter.unusedVariables false
set_option linter.unusedSimpArgs false
namespace Snd
open Pk Str
open Ref (MayIn may_calls)

theorem RSt.atW {w Wp w5 : World} {R : Nat} {vw vy vi v : Value} {x : St} (h : RSt w R vw vy vi x) (hv : vw = v) (t0 : Turn (fun _ => False) w Wp) (t : Turn (fun j => v.ownBlock = some j) Wp w5) :
    Turn (fun j => vw.ownBlock = some j) w w5 ∧ w5.heap[R]? = some (.cells #[.int .i64 x.win, .int .i64 x.que, vw, vy, vi, .int .i64 x.last] RST) := by
  subst hv
  have t1 : Turn (fun j => vw.ownBlock = some j) w w5 := (t0.mono (fun _ _ h => h.elim)).trans t
  exact ⟨t1, (t1.block R (heap_lt h.obj) (fun e => (h.w_ne R e).1 rfl)).trans h.obj⟩
theorem RSt.atY {w Wp w5 : World} {R : Nat} {vw vy vi v : Value} {x : St} (h : RSt w R vw vy vi x) (hv : vy = v) (t0 : Turn (fun _ => False) w Wp) (t : Turn (fun j => v.ownBlock = some j) Wp w5) :
    Turn (fun j => vy.ownBlock = some j) w w5 ∧ w5.heap[R]? = some (.cells #[.int .i64 x.win, .int .i64 x.que, vw, vy, vi, .int .i64 x.last] RST) := by
  subst hv
  have t1 : Turn (fun j => vy.ownBlock = some j) w w5 := (t0.mono (fun _ _ h => h.elim)).trans t
  exact ⟨t1, (t1.block R (heap_lt h.obj) (fun e => (h.y_ne R e).1 rfl)).trans h.obj⟩
def RPushPost (w : World) (R : Nat) (vw vy vi : Value) (x : St) (m : Msg) (e : Ending) (w' : World) : Prop :=
  e = .returned (.tuple #[.bool (x.push m).1, .int .i64 (x.push m).2.1]) ∧ ∃ vw', RSt w' R vw' vy vi (x.push m).2.2 ∧ Moved (TT R vw vy vi) (TT R vw' vy vi) w w'
theorem rpush_same {w w' : World} {R : Nat} {vw vy vi : Value} {x : St} {m : Msg} {c : Int} (h : RSt w R vw vy vi x) (e : x.push m = (false, c, x)) (ht : Turn (fun _ => False) w w') : RPushPost w R vw vy vi x m (.returned (.tuple #[.bool false, .int .i64 c])) w' := by
  unfold RPushPost
  rw [e]
  exact ⟨rfl, vw, h.still ht, Moved.still ht⟩
theorem push_bad_eq {x : St} {m : Msg} (h : m.qos < 1 ∨ ¬ m.May) : x.push m = (false, 1, x) := by unfold St.push; rw [if_pos h]
theorem push_full_eq {x : St} {m : Msg} (h1 : ¬ m.qos < 1) (h2 : m.May) (h3 : x.que ≤ x.wait.length) : x.push m = (false, 0, x) := by unfold St.push; rw [if_neg (by rintro (h | h); exact h1 h; exact h h2), if_pos h3]

set_option maxRecDepth 100000 in
set_option maxHeartbeats 4000000 in
theorem rpush_calls (w : World) (R : Nat) (vw vy vi : Value) (x : St) (h : RSt w R vw vy vi x) (hq : x.que ≤ 64) (m : Msg) (hm : m.topic.size + m.pay.size ≤ 300) :
    Calls Tryd.prog 27 #[.pointer (some ⟨R, 0, none⟩), .agg m.vals.toArray] w fun e w' => RPushPost w R vw vy vi x m e w' := by
  have HS := Lib.hid h
  obtain ⟨g, hg⟩ : ∃ g, Hid (g = w.heap.size) := ⟨_, rfl⟩
  obtain ⟨w1, hw1⟩ : ∃ w1, Hid (w1 = w.alloc (.cells m.vals.toArray MsT)) := ⟨_, rfl⟩
  have ht1 : Hid (Turn (fun _ => False) w w1) := by rw [hw1.out]; exact Turn.alloc _ _
  have hm1 : Hid (w1.heap[g]? = some (.cells m.vals.toArray MsT)) := by rw [hw1.out, hg.out]; exact heap_new _ _
  have e0 : w1.cell? ⟨g, 0, none⟩ = some (.string m.topic) := cell_heap hm1.out
  have e1 : w1.cell? ⟨g, 1, none⟩ = some (.string m.pay) := cell_heap hm1.out
  have e2 : w1.cell? ⟨g, 2, none⟩ = some (.int .i64 m.qos) := cell_heap hm1.out
  have e3 : w1.cell? ⟨g, 3, none⟩ = some (.bool m.retain) := cell_heap hm1.out
  have HM : Hid (m.topic.size + m.pay.size ≤ 300) := hm
  clear h hm
  by_cases hq1 : m.qos < 1
  · have d1 : decide (m.qos < 1) = true := decide_eq_true hq1
    have HF := Lib.hid (rpush_same HS.out (push_bad_eq (.inl hq1)) ht1.out)
    clear hq1
    go_enter Tryd.func27, Tryd.ntmps27
    go_upto_region 1 with (fail)
    rw [← hw1.out, ← hg.out]
    go_wp2_with (fail)
    go_ret2
    exact HF.out
  have d1 : decide (m.qos < 1) = false := decide_eq_false hq1
  have HQ := Lib.hid hq1
  clear hq1
  go_enter Tryd.func27, Tryd.ntmps27
  go_upto_region 1 with (fail)
  rw [← hw1.out, ← hg.out]
  go_wp2_with (fail)
  refine (may_calls w1 (pubP 1 m false) [] [] ⟨lies_pub _ _ _ _, by simp, by simp, by show ((0 : Nat) : Int) ≤ _; decide, by have := HM.out; show (m.pay.size : Int) ≤ _; omega, fun hG => good_len (lies_pub w1 _ _ _) hG (by simp) (by simp) (fun _ => by have := HM.out; show m.pay.size ≤ _; omega)⟩).mono ?_
  rintro e w3 ⟨rfl, hB3⟩
  have ht3 : Turn (fun _ => False) w w3 := ht1.out.trans (Turn.of_below hB3)
  by_cases hM : Pk.May (pubP 1 m false) [] []
  case neg =>
    rw [decide_eq_false hM]
    have HF := Lib.hid (rpush_same HS.out (push_bad_eq (.inr hM)) ht3)
    clear hM hB3 ht3
    go_wp2_with (fail)
    go_ret2
    exact HF.out
  rw [decide_eq_true hM]
  have HM3 : Hid m.May := hM
  have HT3 := Lib.hid ht3
  have hA3 := HS.out.still ht3
  have HA3 := Lib.hid hA3
  obtain ⟨A1, c1, hvw, hc1, hcm1, _⟩ := hA3.wait.form
  have HVW := Lib.hid hvw
  have k1 : w3.cell? ⟨R, 1, none⟩ = some (.int .i64 x.que) := cell_heap hA3.obj
  have k2 : w3.cell? ⟨R, 2, none⟩ = some (.slice A1 x.wait.length c1) := by rw [← hvw]; exact cell_heap hA3.obj
  have hm3 : w3.heap[g]? = some (.cells m.vals.toArray MsT) := by
    rw [hB3.block g (heap_lt hm1.out)]; exact hm1.out
  have l0 : w3.cell? ⟨g, 0, none⟩ = some (.string m.topic) := cell_heap hm3
  have l1 : w3.cell? ⟨g, 1, none⟩ = some (.string m.pay) := cell_heap hm3
  have l2 : w3.cell? ⟨g, 2, none⟩ = some (.int .i64 m.qos) := cell_heap hm3
  have l3 : w3.cell? ⟨g, 3, none⟩ = some (.bool m.retain) := cell_heap hm3
  clear hM ht3 hB3 hA3 hvw hm3
  by_cases hfull : x.que ≤ (x.wait.length : Int)
  · have d2 : decide (x.que ≤ (x.wait.length : Int)) = true := decide_eq_true hfull
    have HF := Lib.hid (fun w' (t : Turn (fun _ => False) w3 w') => rpush_same HS.out (push_full_eq (by have := HQ.out; omega) HM3.out hfull) (HT3.out.trans t))
    clear hfull hc1 hcm1
    go_wp2_with (fail)
    go_quiet (fail)
    go_wp2_with (fail)
    go_ret2
    exact HF.out _ (Turn.drewN (Turn.refl _ _) _)
  have d2 : decide (x.que ≤ (x.wait.length : Int)) = false := decide_eq_false hfull
  have HNF := Lib.hid hfull
  have HQ64 := Lib.hid hq
  have hlen : Hid (x.wait.length + 1 ≤ maxLen ∧ (x.wait.length + 1) * 48 ≤ 140737488355328) := by
    rw [Hid]; have := HQ64.out; simp only [maxLen]; omega
  clear hfull hq hcm1 hc1
  go_upto_region 5 with (go_quiet (fail))
  have HWD : Hid (∀ W', Turn (fun _ => False) w3 W' → Mid W' 0 MsT 4 (.slice A1 x.wait.length c1) x.wait.length (wcells x.wait)) := by
    intro W' t
    have := HA3.out.wait.turn t (fun _ _ h => h)
    rwa [HVW.out] at this
  have k2a : ∀ (n : Nat) (o : Obj), ((w3.drewN n).alloc o).cell? ⟨R, 2, none⟩ = some (.slice A1 x.wait.length c1) := by
    intro n o
    rw [← HVW.out]
    exact cell_heap (HA3.out.still (turn_da w3 n o)).obj
  have l0a : ∀ (n : Nat) (o : Obj), ((w3.drewN n).alloc o).cell? ⟨g, 0, none⟩ = some (.string m.topic) := fun n o => (turn_da w3 n o).cell l0 (fun h => h)
  go_region_law (first
    | (refine step_append_mid 0 rfl _ _ 40 MsT _ 4 48 rfl Tryd.underlying40 info_msg rfl (by decide) (.slice A1 x.wait.length c1) x.wait.length (wcells x.wait) rfl
            (HWD.out _ (by first | exact turn_da _ _ _ | exact (turn_da _ _ _).drew | exact (turn_da _ _ _).drewN _))
            ⟨_, 0, none⟩ 1 1 m.vals rfl (by decide) rfl (fun j u hu => by exact lit_cells (w3.drewN 0) MsT m.vals _ rfl j u hu) (by simp [Msg.vals, Value.oneCell']) (Nat.zero_le _) hlen.out.1 hlen.out.2 ?_
       intro g2 off2 c2 w5 hM5 ht5 hloc5
       have H5 := HA3.out.atW HVW.out (by first | exact turn_da _ _ _ | exact (turn_da _ _ _).drew | exact (turn_da _ _ _).drewN _) ht5
       have k5 : w5.cell? ⟨R, 2, none⟩ = some vw := cell_heap H5.2
       have f5 : w5.frozen? ⟨R, 2, none⟩ = false := frozen_heap H5.2
       have hl5 : Hid (∀ g, (Value.slice (some ⟨g2, off2, none⟩) (x.wait.length + 1) c2).ownBlock = some g → vw.ownBlock = some g ∨ w3.heap.size ≤ g) := by
         intro g hg
         cases hg
         rcases hloc5 with h | h
         · left; rw [HVW.out]; exact h
         · right; refine Nat.le_trans ?_ h; exact Nat.le_trans (by exact (turn_da w3 0 (.cells #[] MsT)).size) (by simp [World.drewN, World.drew])
       have H5' := Lib.hid H5.1
       have HM5 := Lib.hid hM5
       clear H5 hM5 ht5 hloc5))
  all_goals
    go_wp2_with (fail)
    go_ret2
    have hfin := HA3.out.setWait (l := x.wait ++ [m]) H5'.out (by rw [List.length_append, wcells_snoc]; exact HM5.out) hl5.out
    unfold RPushPost
    rw [push_ok (x := x) (m := m) (by have := HQ.out; omega) HM3.out (by have := HNF.out; omega)]
    exact ⟨rfl, _, hfin.1, (Moved.still HT3.out).trans hfin.2⟩
end Snd
end Go.Proofs.YtonemmdipmohgaaDoor

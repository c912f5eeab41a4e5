/- sender: publish, Push. sender: Clone, Next. -/
import Derived.Test.YtonemmdipmohgaaDoorSnC
import Derived.Test.YtonemmdipmohgaaDoorPlW
namespace Go.Proofs.YtonemmdipmohgaaDoor
open Go.RowKit Go.ChangeShapes
set_option linter.unusedVariables false
set_option linter.unusedSimpArgs false
namespace Snd
open Pk Str

theorem pub_results (W : World) (v : Nat) (p : Pkt) (tmps : Array Value) (hv : tmps.getD 6 undef = .pointer (some ⟨v, 0, none⟩)) (h : PkAt W v p) : (results Tryd.f49 tmps).run Tryd.prog W = .ok (.agg p.cells) W := by
  have hl := load_pkt W v p h
  unfold Instr.loadAt at hl
  simp only [Instr.sureAddr, Sem.run_bind, Sem.run_pure, Result.andThen_ok] at hl
  simp only [results, Tryd.results49]
  have hv' : tmps[6]?.getD undef = .pointer (some ⟨v, 0, none⟩) := by rw [← hv]; simp
  simp [hv', asAddr, hl]

set_option maxRecDepth 100000 in
set_option maxHeartbeats 2000000 in
theorem publish_calls (w : World) (id : Int) (m : Msg) (dup : Bool) : Calls Tryd.prog 49 #[.int .i64 id, .agg m.vals.toArray, .bool dup] w fun e w' => e = .returned (.agg (pubP id m dup).cells) ∧ Below w.heap.size w w' := by
  obtain ⟨g, hg⟩ : ∃ g, Hid (g = w.heap.size) := ⟨_, rfl⟩
  obtain ⟨w1, hw1⟩ : ∃ w1, Hid (w1 = w.alloc (.cells m.vals.toArray MsT)) := ⟨_, rfl⟩
  obtain ⟨w2, hw2⟩ : ∃ w2, Hid (w2 = w1.alloc (.cells zeroC PT)) := ⟨_, rfl⟩
  have hm : Hid (w1.heap[g]? = some (.cells m.vals.toArray MsT)) := by rw [hw1.out, hg.out]; exact heap_new _ _
  have hm2 : w2.heap[g]? = some (.cells m.vals.toArray MsT) := by rw [hw2.out, heap_old _ _ _ (heap_lt hm.out)]; exact hm.out
  have e0 : w2.cell? ⟨g, 0, none⟩ = some (.string m.topic) := cell_heap hm2
  have e1 : w2.cell? ⟨g, 1, none⟩ = some (.string m.pay) := cell_heap hm2
  have e2 : w2.cell? ⟨g, 2, none⟩ = some (.int .i64 m.qos) := cell_heap hm2
  have e3 : w2.cell? ⟨g, 3, none⟩ = some (.bool m.retain) := cell_heap hm2
  have HV : Hid (PkAt w2 w1.heap.size zeroP) := by rw [hw2.out]; exact heap_new _ _
  obtain ⟨v, hv⟩ : ∃ v, Hid (v = w.heap.size + 1) := ⟨_, rfl⟩
  have hvs : w1.heap.size = v := by rw [hv.out, hw1.out]; simp
  rw [hvs] at HV
  have hB : Hid (Below w.heap.size w w2 ∧ w.heap.size ≤ v) := by
    rw [Hid, hw2.out, hw1.out, hv.out]
    exact ⟨((Below.refl _ _).alloc (Nat.le_refl _) _).alloc (by simp) _, by simp⟩
  clear hvs
  clear hm2 hm
  go_enter Tryd.func49, Tryd.ntmps49
  go_upto_region 1 with (fail)
  have hz : (w1.alloc (.cells #[Value.int IntKind.i64 0, Value.bool false, Value.int IntKind.i64 0, Value.string { data := #[] },
          Value.string { data := #[] }, Value.int IntKind.i64 0, Value.bool false, Value.string { data := #[] },
          Value.bool false, Value.int IntKind.i64 0, Value.bool false, Value.bool false, Value.bool false,
          Value.string { data := #[] }, Value.string { data := #[] }, Value.bool false, Value.slice none 0 0,
          Value.slice none 0 0] PT)) = w2 := hw2.out.symm
  rw [← hw1.out, ← hv.out, ← hg.out]
  rename_i hKont
  refine wp_region_lit (st_val (.int .i64 id) (wanted_free rfl) (by exact rMove (x := .tmp 0) rfl) ?_)
  rw [hz]
  go_wp2_with (refine wp_store_pkt (o := ⟨none, _, _, _, _, _⟩) (pubP id m dup) zeroP rfl rfl (by rfl) (by rfl) HV.out rfl rfl ?_)
  intro W' hP ht
  refine wpList_nil (hKont _ _ (wp_ret ?_))
  exact bodyPost_ret (pub_results W' v (pubP id m dup) _ rfl hP.out) rfl ⟨rfl, ht.belowTrans hB.out.1 hB.out.1.size (fun k hk e => by have := hB.out.2; omega)⟩

theorem lies_ack (w : World) (p : Pkt) (h : p.codes = nilV ∧ p.subs = nilV ∧ p.client = ⟨#[]⟩ ∧ p.user = ⟨#[]⟩ ∧ p.pass = ⟨#[]⟩) : Lies w p [] [] := by
  obtain ⟨h1, h2, h3, h4, h5⟩ := h
  exact ⟨⟨none, 0, h1, fun h => absurd h (by simp)⟩, ⟨none, 0, h2, fun h => absurd h (by simp)⟩, by rw [h3, h4, h5]; decide, by decide, by decide⟩
theorem lies_pub (w : World) (id : Int) (m : Msg) (dup : Bool) : Lies w (pubP id m dup) [] [] := lies_ack w _ ⟨rfl, rfl, rfl, rfl, rfl⟩

/-- May the message be sent? -/
def Msg.May (m : Msg) : Prop := Pk.May (pubP 1 m false) [] []
open Classical in
noncomputable def St.push (x : St) (m : Msg) : Bool × Int × St :=
  if m.qos < 1 ∨ ¬ m.May then (false, 1, x) else if x.que ≤ x.wait.length then (false, 0, x) else (true, 0, { x with wait := x.wait ++ [m] })
def PushPost (w : World) (T : Nat → Prop) (s : Nat) (x : St) (m : Msg) (e : Ending) (w' : World) : Prop :=
  e = .returned (.tuple #[.bool (x.push m).1, .int .i64 (x.push m).2.1]) ∧ ∃ T', SObj w' T' s (x.push m).2.2 ∧ Moved T T' w w'
theorem push_bad {w : World} {T : Nat → Prop} {s : Nat} {x : St} {m : Msg} (h : SObj w T s x) (hb : m.qos < 1 ∨ ¬ m.May) {w' : World} (ht : Turn (fun _ => False) w w') : PushPost w T s x m (.returned (.tuple #[.bool false, .int .i64 1])) w' := by
  have e : x.push m = (false, 1, x) := by unfold St.push; rw [if_pos hb]
  unfold PushPost
  rw [e]
  exact ⟨rfl, T, h.turn ht (fun k _ h => h), ht.mono (fun k _ h => h.elim), fun k h => .inl h⟩
theorem push_full {w : World} {T : Nat → Prop} {s : Nat} {x : St} {m : Msg} (h : SObj w T s x) (h1 : ¬ m.qos < 1) (h2 : m.May) (h3 : x.que ≤ x.wait.length) {w' : World} (ht : Turn (fun _ => False) w w') : PushPost w T s x m (.returned (.tuple #[.bool false, .int .i64 0])) w' := by
  have e : x.push m = (false, 0, x) := by unfold St.push; rw [if_neg (by rintro (h | h); exact h1 h; exact h h2), if_pos h3]
  unfold PushPost
  rw [e]
  exact ⟨rfl, T, h.turn ht (fun k _ h => h), ht.mono (fun k _ h => h.elim), fun k h => .inl h⟩
theorem push_ok {x : St} {m : Msg} (h1 : ¬ m.qos < 1) (h2 : m.May) (h3 : ¬ x.que ≤ x.wait.length) : x.push m = (true, 0, { x with wait := x.wait ++ [m] }) := by
  unfold St.push; rw [if_neg (by rintro (h | h); exact h1 h; exact h h2), if_neg h3]
theorem wcells_snoc (l : List Msg) (m : Msg) : wcells (l ++ [m]) = wcells l ++ m.vals := by simp [wcells]
theorem info_msg : (Tryd.prog.info? MsT).map (fun i => (i.zero, i.size, i.bytes)) = some (some (.agg #[.string ⟨#[]⟩, .string ⟨#[]⟩, .int .i64 0, .bool false]), 4, 48) := by kernel_rfl

set_option maxRecDepth 100000 in
set_option maxHeartbeats 2000000 in
theorem push_calls (w : World) (hT : Lib.Utf8Tabs 0 1 w) (T : Nat → Prop) (s : Nat) (x : St) (h : SObj w T s x) (hq : x.que ≤ 64) (m : Msg) (hm : m.topic.size + m.pay.size ≤ 300) :
    Calls Tryd.prog 20 #[.pointer (some ⟨s, 0, none⟩), .agg m.vals.toArray] w fun e w' => PushPost w T s x m e w' := by
  have HS := Lib.hid h
  obtain ⟨B, b, vw, vy, h⟩ := h
  obtain ⟨g, hg⟩ : ∃ g, Hid (g = w.heap.size) := ⟨_, rfl⟩
  obtain ⟨w1, hw1⟩ : ∃ w1, Hid (w1 = w.alloc (.cells m.vals.toArray MsT)) := ⟨_, rfl⟩
  have ht1 : Hid (Turn (fun _ => False) w w1) := by rw [hw1.out]; exact Turn.alloc _ _
  have hB1 : Hid (Below w.heap.size w w1) := by rw [hw1.out]; exact (Below.refl _ _).alloc (Nat.le_refl _) _
  have hm1 : Hid (w1.heap[g]? = some (.cells m.vals.toArray MsT)) := by rw [hw1.out, hg.out]; exact heap_new _ _
  have e0 : w1.cell? ⟨g, 0, none⟩ = some (.string m.topic) := cell_heap hm1.out
  have e1 : w1.cell? ⟨g, 1, none⟩ = some (.string m.pay) := cell_heap hm1.out
  have e2 : w1.cell? ⟨g, 2, none⟩ = some (.int .i64 m.qos) := cell_heap hm1.out
  have e3 : w1.cell? ⟨g, 3, none⟩ = some (.bool m.retain) := cell_heap hm1.out
  have HT := Lib.hid (Utf.tabs_keep hT hB1.out)
  have HA := Lib.hid (h.turn ht1.out (fun _ _ h => h))
  have hdc : Hid (pubP 1 m false = pubP 1 m false) := rfl
  have HM : Hid (m.topic.size + m.pay.size ≤ 300) := hm
  clear hT h hm hdc
  by_cases hq1 : m.qos < 1
  · have d1 : decide (m.qos < 1) = true := decide_eq_true hq1
    have HF := Lib.hid (push_bad HS.out (.inl hq1) ht1.out)
    clear hq1
    go_enter Tryd.func20, Tryd.ntmps20
    go_upto_region 1 with (fail)
    rw [← hw1.out, ← hg.out]
    go_wp2_with (fail)
    go_ret2
    exact HF.out
  have d1 : decide (m.qos < 1) = false := decide_eq_false hq1
  have HQ := Lib.hid hq1
  clear hq1
  go_enter Tryd.func20, Tryd.ntmps20
  go_upto_region 1 with (fail)
  rw [← hw1.out, ← hg.out]
  go_wp2_with (fail)
  refine (publish_calls w1 1 m false).mono ?_
  rintro e w2 ⟨rfl, hB2⟩
  have HB2 := Lib.hid hB2
  clear hB2
  go_wp2_with (fail)
  refine (pcheck_calls w2 (Utf.tabs_keep HT.out HB2.out) (pubP 1 m false) [] [] (lies_pub _ _ _ _) (fun hG => good_len (lies_pub w2 _ _ _) hG (by simp) (by simp) (fun _ => by have := HM.out; show m.pay.size ≤ _; omega))).mono ?_
  rintro e w3 ⟨hB3, hr⟩
  have ht3 : Turn (fun _ => False) w w3 := (ht1.out.trans (Turn.of_below HB2.out)).trans (Turn.of_below hB3)
  rcases hr with ⟨hM, rfl⟩ | ⟨hM, rfl⟩
  case inr =>
    have HF := Lib.hid (push_bad HS.out (.inr hM) ht3)
    clear hM hB3 ht3
    go_wp2_with (fail)
    go_ret2
    exact HF.out
  have HM3 : Hid m.May := hM
  have HT3 := Lib.hid ht3
  have HB3 := Lib.hid hB3
  have hA3 := HA.out.turn ((Turn.of_below (S := fun _ => False) HB2.out).trans (Turn.of_below hB3)) (fun _ _ h => h)
  have HA3 := Lib.hid hA3
  obtain ⟨A1, c1, hvw, hc1, hcm1, _⟩ := hA3.wait.form
  have HVW := Lib.hid hvw
  have k1 : w3.cell? ⟨s, 1, none⟩ = some (.int .i64 x.que) := cell_heap hA3.obj
  have k2 : w3.cell? ⟨s, 2, none⟩ = some (.slice A1 x.wait.length c1) := by rw [← hvw]; exact cell_heap hA3.obj
  have e3' := HB3.out
  have hm3 : w3.heap[g]? = some (.cells m.vals.toArray MsT) := by
    rw [hB3.block g (Nat.lt_of_lt_of_le (heap_lt hm1.out) HB2.out.size), HB2.out.block g (heap_lt hm1.out)]; exact hm1.out
  have l0 : w3.cell? ⟨g, 0, none⟩ = some (.string m.topic) := cell_heap hm3
  have l1 : w3.cell? ⟨g, 1, none⟩ = some (.string m.pay) := cell_heap hm3
  have l2 : w3.cell? ⟨g, 2, none⟩ = some (.int .i64 m.qos) := cell_heap hm3
  have l3 : w3.cell? ⟨g, 3, none⟩ = some (.bool m.retain) := cell_heap hm3
  have HM3C := Lib.hid hm3
  clear hM ht3 hB3 hA3 hvw e3' hm3
  by_cases hfull : x.que ≤ (x.wait.length : Int)
  · have d2 : decide (x.que ≤ (x.wait.length : Int)) = true := decide_eq_true hfull
    have HF := Lib.hid (fun w' (t : Turn (fun _ => False) w3 w') => push_full HS.out (by have := HQ.out; omega) HM3.out hfull (HT3.out.trans t))
    clear hfull hc1 hcm1
    go_wp2_with (fail)
    go_quiet (fail)
    go_wp2_with (fail)
    go_ret2
    exact HF.out _ (Turn.drewN (Turn.refl _ _) _)
  have d2 : decide (x.que ≤ (x.wait.length : Int)) = false := decide_eq_false hfull
  have HNF := Lib.hid hfull
  have HQ64 := Lib.hid hq
  have hlen : Hid (x.wait.length + 1 ≤ maxLen ∧ (x.wait.length + 1) * 48 ≤ 140737488355328) := by
    rw [Hid]; have := HQ64.out; simp only [maxLen]; omega
  clear hfull hq hcm1 hc1
  go_upto_region 7 with (go_quiet (fail))
  have HWD : Hid (∀ W', Turn (fun _ => False) w3 W' → Mid W' 0 MsT 4 (.slice A1 x.wait.length c1) x.wait.length (wcells x.wait)) := by
    intro W' t
    have := HA3.out.wait.turn t (fun _ _ h => h)
    rwa [HVW.out] at this
  have k2a : ∀ (n : Nat) (o : Obj), ((w3.drewN n).alloc o).cell? ⟨s, 2, none⟩ = some (.slice A1 x.wait.length c1) := by
    intro n o
    rw [← HVW.out]
    exact cell_heap (HA3.out.turn (turn_da w3 n o) (fun _ _ h => h)).obj
  have l0a : ∀ (n : Nat) (o : Obj), ((w3.drewN n).alloc o).cell? ⟨g, 0, none⟩ = some (.string m.topic) := fun n o => (turn_da w3 n o).cell l0 (fun h => h)
  go_region_law (first
    | (refine step_append_mid 0 rfl _ _ 40 MsT _ 4 48 rfl Tryd.underlying40 info_msg rfl (by decide) (.slice A1 x.wait.length c1) x.wait.length (wcells x.wait) rfl
            (HWD.out _ (by first | exact turn_da _ _ _ | exact (turn_da _ _ _).drew | exact (turn_da _ _ _).drewN _))
            ⟨_, 0, none⟩ 1 1 m.vals rfl (by decide) rfl (fun j u hu => by exact lit_cells (w3.drewN 0) MsT m.vals _ rfl j u hu) (by simp [Msg.vals, Value.oneCell']) (Nat.zero_le _) hlen.out.1 hlen.out.2 ?_
       intro g2 off2 c2 w5 hM5 ht5 hloc5
       have H5 := HA3.out.atW HVW.out (by first | exact turn_da _ _ _ | exact (turn_da _ _ _).drew | exact (turn_da _ _ _).drewN _) ht5
       have k5 : w5.cell? ⟨s, 2, none⟩ = some vw := cell_heap H5.2
       have f5 : w5.frozen? ⟨s, 2, none⟩ = false := frozen_heap H5.2
       have hl5 : Hid (∀ g, (Value.slice (some ⟨g2, off2, none⟩) (x.wait.length + 1) c2).ownBlock = some g → vw.ownBlock = some g ∨ w3.heap.size ≤ g) := by
         intro g hg
         cases hg
         rcases hloc5 with h | h
         · left; rw [HVW.out]; exact h
         · right; refine Nat.le_trans ?_ h; exact Nat.le_trans (by exact (turn_da w3 0 (.cells #[] MsT)).size) (by simp [World.drewN, World.drew])
       have H5' := Lib.hid H5.1
       have HM5 := Lib.hid hM5
       clear H5 hM5 ht5 hloc5))
  all_goals
    go_wp2_with (fail)
    go_ret2
    have hfin := HA3.out.setWait (l := x.wait ++ [m]) H5'.out (by rw [List.length_append, wcells_snoc]; exact HM5.out) hl5.out
    unfold PushPost
    rw [push_ok (x := x) (m := m) (by have := HQ.out; omega) HM3.out (by have := HNF.out; omega)]
    exact ⟨rfl, _, ⟨B, b, _, _, hfin.1⟩, (Moved.still HT3.out).trans hfin.2⟩
end Snd
end Go.Proofs.YtonemmdipmohgaaDoor

namespace Go.Proofs.YtonemmdipmohgaaDoor
open Go.RowKit Go.ChangeShapes
set_option linter.unusedVariables false
set_option linter.unusedSimpArgs false
namespace Snd
open Pk Str

theorem vals_one (l : List Msg) : ∀ u ∈ wcells l, u.oneCell' = true := by
  intro u hu
  simp only [wcells, List.mem_flatten, List.mem_map] at hu
  obtain ⟨c, ⟨m, _, rfl⟩, hu⟩ := hu
  simp [Msg.vals] at hu
  rcases hu with rfl | rfl | rfl | rfl <;> rfl
/-- 'append(v, nothing...)'. -/
theorem wp_append_nothing {P : Program} {ops : Array Oper} {rest : List Oper} {o : Oper} {a : Act} {Q : Exit → Act → World → Prop} {W : World} (hgd : o.guard = none) (s x : Operand) (t e : TypeId) (z : Value) (size bytes : Nat)
    (ho : o.op = .call { callee := .builtin .append, args := #[s, x], argTypes := #[t, t] })
    (ht : P.underlying t = some (.slice e)) (hinfo : (P.info? e).map (fun i => (i.zero, i.size, i.bytes)) = some (some z, size, bytes))
    (g off n cap : Nat) (hs : a.eval s = .slice (some ⟨g, off, none⟩) n cap) (hle : n ≤ cap) (ad : Addr) (c : Nat) (hx : a.eval x = .slice (some ad) 0 c)
    (K : wpList P ops Q rest (a.put o.dst (.slice (some ⟨g, off, none⟩) n cap)) W) : wpList P ops Q (o :: rest) a W := by
  refine wpList_plain hgd fun K' hK' => ?_
  obtain ⟨i0, hi, hzz⟩ := Option.map_eq_some_iff.1 hinfo
  have hrun := run_append_room_cells (P := P) W t o.type e i0 ht hi g off n cap ad 0 c [] (by simp) (fun j u hu => by simp at hu) (fun u hu => by cases hu) (by omega) (fun j hj => absurd hj (by simp)) (fun j hj => absurd hj (by simp))
  unfold Oper.wp
  simp [execOp, ho, resolve, invoke, builtin, hs, hx, hrun, Result.andThen]
  exact hK' _ _ K

def ClonePost (w : World) (l : List Msg) (e : Ending) (w' : World) : Prop :=
  ∃ v, e = .returned v ∧ Mid w' 0 MsT 4 v l.length (wcells l) ∧ (∀ g, v.ownBlock = some g → w.heap.size ≤ g) ∧ Turn (fun _ => False) w w'
set_option maxRecDepth 100000 in
set_option maxHeartbeats 2000000 in
theorem clone_calls (w : World) (l : List Msg) (ad : Addr) (c : Nat) (h : Mid w 0 MsT 4 (.slice (some ad) l.length c) l.length (wcells l)) (hl : l.length ≤ 64) :
    Calls Tryd.prog 51 #[.slice (some ad) l.length c] w fun e w' => ClonePost w l e w' := by
  obtain ⟨g, off, cap, hv, hm⟩ : ∃ g off cap, Value.slice (some ad) l.length c = .slice (some ⟨g, off, none⟩) l.length cap ∧ MidAt w 0 MsT 4 g off l.length cap (wcells l) := by
    rcases h.2 with ⟨h1, _⟩ | h1
    · cases h1
    · exact h1
  injection hv with h1 _ h3
  injection h1 with h1
  subst h1 h3
  have hcmp : ∀ W, (binOp .eql 40 (.slice (some ⟨g, off, none⟩) l.length c) (.slice none 0 0)).run Tryd.prog W = .ok (.bool false) W := fun W => by kernel_rfl
  have HM := Lib.hid hm
  have HL := Lib.hid hl
  have H := Lib.hid h
  clear hm hl h
  go_enter Tryd.func51, Tryd.ntmps51
  go_upto_region 3 with (fail)
  obtain ⟨W, hW⟩ : ∃ W, Hid (W = w.alloc (.cells #[] MsT)) := ⟨_, rfl⟩
  have hE : Hid (Mid W 0 MsT 4 (.slice (some ⟨w.heap.size, 0, none⟩) 0 0) 0 []) := by
    rw [hW.out]
    exact ⟨by simp, .inr ⟨_, 0, 0, rfl, Nat.zero_le _, ⟨#[], heap_new _ _, by simp⟩, Nat.le_refl _, by simp, fun j u hu => by simp at hu⟩⟩
  have tW : Hid (Turn (fun _ => False) w W) := by rw [hW.out]; exact Turn.alloc _ _
  have hWs : Hid (w.heap.size < W.heap.size) := by rw [Hid, hW.out]; simp
  by_cases h0 : l.length = 0
  · have hl0 : l = [] := List.eq_nil_of_length_eq_zero h0
    subst hl0
    have HF : Hid (ClonePost w [] (.returned (.slice (some ⟨w.heap.size, 0, none⟩) 0 0)) W) := ⟨_, rfl, hE.out, fun g hg => by cases hg; exact Nat.le_refl _, tW.out⟩
    clear h0
    go_wp2_with (rw [← hW.out]; refine wp_append_nothing (o := ⟨some 7, _, _, _, _, _⟩) rfl (.tmp 5) (.tmp 6) 40 MsT _ 4 48 rfl Tryd.underlying40 info_msg _ 0 0 0 rfl (Nat.le_refl _) _ _ rfl ?_)
    go_wp2_with (fail)
    go_ret
    exact HF.out
  · have hpos : Hid (0 < l.length) := Nat.pos_of_ne_zero h0
    have hb : Hid (0 + l.length ≤ maxLen ∧ (0 + l.length) * 48 ≤ 140737488355328) := by rw [Hid]; have := HL.out; simp only [maxLen]; omega
    have hcl : Hid (∀ j u, (wcells l)[j]? = some u → W.cell? ((⟨g, off, none⟩ : Addr).add j) = some u) := fun j u hu => by
      rw [Addr.add_mid]
      exact tW.out.cell (HM.out.cell j u hu) (fun h => h)
    clear h0
    go_wp2_with (rw [← hW.out]; refine wp_append_mid (o := ⟨some 7, _, _, _, _, _⟩) 0 rfl (.tmp 5) (.tmp 6) 40 MsT _ 4 48 rfl Tryd.underlying40 info_msg rfl (by decide) _ 0 [] rfl hE.out ⟨g, off, none⟩ l.length c (wcells l) rfl hpos.out H.out.1 hcl.out (vals_one l) (Nat.zero_le _) hb.out.1 hb.out.2 ?_)
    intro g2 off2 c2 w1 hM1 ht1 hloc
    have HF : Hid (ClonePost w l (.returned (.slice (some ⟨g2, off2, none⟩) l.length c2)) w1) := by
      refine ⟨_, rfl, ?_, fun g hg => ?_, tW.out.then ht1 (fun i hi e => ?_)⟩
      · exact hM1
      · cases hg
        rcases hloc with h | h
        · cases h; exact Nat.le_refl _
        · exact Nat.le_trans (Nat.le_of_lt hWs.out) h
      · have e' : w.heap.size = i := Option.some.inj e
        omega
    clear hM1 ht1 hloc
    go_wp2_with (fail)
    go_ret
    exact HF.out

/-! What Next does. -/
open Classical in
/-- The first number that is free behind the last. -/
noncomputable def ff (L : List Int) (last : Int) : Int := if h : ∃ j : Nat, j < 65535 ∧ Ids.cand last j ∉ L ∧ ∀ i : Nat, i < j → Ids.cand last i ∈ L then Ids.cand last h.choose else 0
theorem ff_is {L : List Int} {last : Int} {j : Nat} (h1 : j < 65535) (h2 : Ids.cand last j ∉ L) (h3 : ∀ i : Nat, i < j → Ids.cand last i ∈ L) : ff L last = Ids.cand last j := by
  have hex : ∃ j : Nat, j < 65535 ∧ Ids.cand last j ∉ L ∧ ∀ i : Nat, i < j → Ids.cand last i ∈ L := ⟨j, h1, h2, h3⟩
  have e : ff L last = Ids.cand last hex.choose := by unfold ff; rw [dif_pos hex]
  rw [e]
  have hc := hex.choose_spec
  have : hex.choose = j := by
    rcases Nat.lt_trichotomy hex.choose j with h | h | h
    · exact absurd (h3 _ h) hc.2.1
    · exact h
    · exact absurd (hc.2.2 _ h) h2
  rw [this]
noncomputable def St.take1 (x : St) (m : Msg) (r : List Msg) : St := { x with wait := r, ways := x.ways ++ [⟨ff x.ids x.last, m, false⟩], ids := x.ids ++ [ff x.ids x.last], last := ff x.ids x.last }
noncomputable def St.nextN : Nat → St → St × List Pkt
  | 0, x => (x, [])
  | n + 1, x => match x.wait with
    | [] => (x, [])
    | m :: r => if (x.ways.length : Int) < x.win then ((x.take1 m r).nextN n |>.1, pubP (ff x.ids x.last) m false :: ((x.take1 m r).nextN n).2) else (x, [])
noncomputable def St.next (x : St) : St × List Pkt := x.nextN x.wait.length
/-- What holds of a sender all the time. -/
structure Inv (x : St) : Prop where
  win : 1 ≤ x.win ∧ x.win ≤ 16
  que : 0 ≤ x.que ∧ x.que ≤ 64
  wait : (x.wait.length : Int) ≤ x.que
  ways : (x.ways.length : Int) ≤ x.win
  ids : x.ids = x.ways.map Way.id
  wok : ∀ m ∈ x.wait, 1 ≤ m.qos ∧ m.May
  yok : ∀ y ∈ x.ways, 1 ≤ y.msg.qos ∧ y.msg.May ∧ (y.got = true → y.msg.qos = 2)
theorem Inv.take1 {x : St} {m : Msg} {r : List Msg} (h : Inv x) (hw : x.wait = m :: r) (hl : (x.ways.length : Int) < x.win) : Inv (x.take1 m r) := by
  have h3 := h.wait
  rw [hw] at h3
  simp only [List.length_cons] at h3
  refine ⟨h.win, h.que, by show (r.length : Int) ≤ x.que; omega, by simp [St.take1]; omega, by simp [St.take1, h.ids], fun m' hm => h.wok m' (by rw [hw]; exact List.mem_cons_of_mem _ hm), fun y hy => ?_⟩
  rcases List.mem_append.1 hy with hy | hy
  · exact h.yok y hy
  · rw [List.mem_singleton.1 hy]
    have := h.wok m (by rw [hw]; simp)
    exact ⟨this.1, this.2, by simp⟩

/-- A row of packets without rows of their own. -/
def pcells (ps : List Pkt) : List Value := (ps.map fun p => p.cells.toList).flatten
def PRow (w : World) (v : Value) (ps : List Pkt) : Prop := Mid w 0 PT 18 v ps.length (pcells ps) ∧ ∀ p ∈ ps, p.codes = nilV ∧ p.subs = nilV
theorem pcells_snoc (ps : List Pkt) (p : Pkt) : pcells (ps ++ [p]) = pcells ps ++ p.cells.toList := by simp [pcells]
theorem PRow.nil (w : World) : PRow w (.slice none 0 0) [] := ⟨Mid.nil _ _ _ _, by simp⟩
theorem PRow.turn {w w' : World} {T : Nat → Prop} {v : Value} {ps : List Pkt} (h : PRow w v ps) (t : Turn T w w') (hT : ∀ k, T k → ∀ cur, w.heap[k]? ≠ some (.cells cur PT (0, 0))) : PRow w' v ps :=
  ⟨h.1.turn t (fun k hk hTk => by obtain ⟨cur, hc⟩ := h.1.typ k hk; exact hT k hTk cur hc), h.2⟩
theorem PRow.still {w w' : World} {v : Value} {ps : List Pkt} (h : PRow w v ps) (t : Turn (fun _ => False) w w') : PRow w' v ps := h.turn t (fun _ h => h.elim)
def NextPost (w : World) (T : Nat → Prop) (s : Nat) (x : St) (e : Ending) (w' : World) : Prop :=
  ∃ v T', e = .returned (.tuple #[v, .int .i64 0]) ∧ PRow w' v x.next.2 ∧ (∀ k, v.ownBlock = some k → w.heap.size ≤ k) ∧ SObj w' T' s x.next.1 ∧ Moved T T' w w'
theorem next_stop {x : St} (h : ¬ ((x.ways.length : Int) < x.win ∧ 0 < x.wait.length)) (n : Nat) : x.nextN n = (x, []) := by
  cases n with
  | zero => rfl
  | succ n =>
    unfold St.nextN
    cases hw : x.wait with
    | nil => rfl
    | cons m r =>
      simp only
      rw [if_neg (fun h1 => h ⟨h1, by rw [hw]; simp⟩)]
theorem next_step {x : St} {m : Msg} {r : List Msg} (hw : x.wait = m :: r) (h : (x.ways.length : Int) < x.win) (n : Nat) : x.nextN (n + 1) = (((x.take1 m r).nextN n).1, pubP (ff x.ids x.last) m false :: ((x.take1 m r).nextN n).2) := by
  rw [St.nextN, hw]
  simp only
  rw [if_pos h]
end Snd
end Go.Proofs.YtonemmdipmohgaaDoor

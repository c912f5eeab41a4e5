/- sender: the document's example; SenderNil. -/
import Derived.Test.YtonemmdipmohgaaDoorSnL
import Derived.Test.YtonemmdipmohgaaDoorSnG
import Derived.Test.YtonemmdipmohgaaDoorSnO
namespace Go.Proofs.YtonemmdipmohgaaDoor
open Go.RowKit Go.ChangeShapes
set_option linter.unusedVariables false
set_option linter.unusedSimpArgs false
namespace Snd
open Pk Str

def ma : Msg := ⟨⟨#[97]⟩, ⟨#[97]⟩, 1, false⟩
def mb : Msg := ⟨⟨#[97]⟩, ⟨#[98]⟩, 2, false⟩
def mc : Msg := ⟨⟨#[97]⟩, ⟨#[99]⟩, 1, false⟩
theorem may_a : ma.May := (msg_may ma (by decide)).2 ⟨full_a, by decide, by decide⟩
theorem may_b : mb.May := (msg_may mb (by decide)).2 ⟨full_a, by decide, by decide⟩
theorem may_c : mc.May := (msg_may mc (by decide)).2 ⟨full_a, by decide, by decide⟩
theorem msg_results (W : World) (v : Nat) (l : List Value) (hl4 : l.length = 4) (tmps : Array Value) (hv : tmps.getD 4 undef = .pointer (some ⟨v, 0, none⟩)) (h : W.heap[v]? = some (.cells l.toArray MsT)) : (results Tryd.f56 tmps).run Tryd.prog W = .ok (.agg l.toArray) W := by
  have hl := load_agg W MsT ⟨v, 0, none⟩ l (by kernel_rfl) (by rw [hl4]; kernel_rfl) (fun j u hu => by
    rw [add_plain0, cell_heap h]
    simpa using hu)
  unfold Instr.loadAt at hl
  simp only [Instr.sureAddr, Sem.run_bind, Sem.run_pure, Result.andThen_ok] at hl
  simp only [results, Tryd.results56]
  have hv' : tmps[4]?.getD undef = .pointer (some ⟨v, 0, none⟩) := by rw [← hv]; simp
  simp [hv', asAddr, hl]
theorem message_calls (w : World) (s : ByteArray) (q : Int) : Calls Tryd.prog 56 #[.string s, .int .i64 q] w fun e w' => e = .returned (.agg (Msg.vals ⟨⟨#[97]⟩, s, q, false⟩).toArray) ∧ Below w.heap.size w w' := by
  go_enter Tryd.func56, Tryd.ntmps56
  go_wp2
  exact bodyPost_ret (msg_results _ w.heap.size (Msg.vals ⟨⟨#[97]⟩, s, q, false⟩) rfl _ rfl (heap_new _ _)) rfl ⟨rfl, (Below.refl _ _).alloc (Nat.le_refl _) _⟩

def x1 : St := ⟨1, 2, [ma], [], [], 0⟩
def x2 : St := ⟨1, 2, [ma, mb], [], [], 0⟩
def x3 : St := ⟨1, 2, [mb], [⟨1, ma, false⟩], [1], 1⟩
def x4 : St := ⟨1, 2, [mb], [], [], 1⟩
def x5 : St := ⟨1, 2, [], [⟨2, mb, false⟩], [2], 2⟩
def x6 : St := ⟨1, 2, [], [⟨2, mb, true⟩], [2], 2⟩
theorem p1 : St.push ⟨1, 2, [], [], [], 0⟩ ma = (true, 0, x1) := push_ok (by decide) may_a (by decide)
theorem p2 : x1.push mb = (true, 0, x2) := push_ok (by decide) may_b (by decide)
theorem p3 : x2.push mc = (false, 0, x2) := by
  unfold St.push
  rw [if_neg (by rintro (h | h); exact absurd h (by decide); exact h may_c), if_pos (by decide)]
theorem f0 : ff [] 0 = 1 := ff_is (j := 0) (by decide) (by simp) (fun i hi => absurd hi (by omega))
theorem f1 : ff [] 1 = 2 := ff_is (j := 0) (by decide) (by simp) (fun i hi => absurd hi (by omega))
theorem n3 : x2.next = (x3, [pubP 1 ma false]) := by
  show x2.nextN 2 = _
  have e : x2.take1 ma [mb] = x3 := by
    unfold St.take1
    rw [show ff x2.ids x2.last = 1 from f0]; rfl
  rw [next_step (x := x2) (m := ma) (r := [mb]) rfl (by decide), e, next_stop (by decide), show ff x2.ids x2.last = 1 from f0]
theorem t4 : x3.take 4 1 = (x4, [], 0) := by
  rw [take_ends (y := ⟨1, ma, false⟩) rfl (.inl ⟨rfl, rfl, rfl⟩)]
  rfl
theorem n5 : x4.next = (x5, [pubP 2 mb false]) := by
  show x4.nextN 1 = _
  have e : x4.take1 mb [] = x5 := by
    unfold St.take1
    rw [show ff x4.ids x4.last = 2 from f1]; rfl
  rw [next_step (x := x4) (m := mb) (r := []) rfl (by decide), e, next_stop (by decide), show ff x4.ids x4.last = 2 from f1]
theorem t6 : x5.take 5 2 = (x6, [ackP 6 2], 0) := by
  rw [take_goes (y := ⟨2, mb, false⟩) rfl (by unfold Ends; decide) ⟨rfl, rfl⟩]
  rfl

set_option maxRecDepth 100000 in
set_option maxHeartbeats 2000000 in
theorem awake_calls (w : World) (hT : Lib.Utf8Tabs 0 1 w) : Calls Tryd.prog 26 #[] w fun e w' => e = .returned (.bool true) ∧ Below w.heap.size w w' := by
  have HT := Lib.hid hT
  clear hT
  go_enter Tryd.func26, Tryd.ntmps26
  go_wp2_with (fail)
  refine (own_new w w (Below.refl _ _) 1 2).mono ?_
  rintro e w1 (⟨_, _, _, _, s, T1, rfl, hO, _, _⟩ | ⟨h, _⟩)
  case inr => exact absurd ⟨by decide, by decide, by decide, by decide⟩ h
  have H1 := Lib.hid hO
  clear hO
  go_wp2_with (fail)
  refine (message_calls w1 _ 1).mono ?_
  rintro e w2 ⟨rfl, hb⟩
  have H2 := Lib.hid (H1.out.still (Turn.of_below hb))
  clear hb
  go_wp2_with (fail)
  refine (own_push w w2 HT.out T1 s _ H2.out ma (by decide)).mono ?_
  rw [p1]
  rintro e w3 ⟨rfl, T3, hO, _⟩
  have H3 := Lib.hid hO
  clear hO
  go_wp2_with (fail)
  refine (message_calls w3 _ 2).mono ?_
  rintro e w4 ⟨rfl, hb⟩
  have H4 := Lib.hid (H3.out.still (Turn.of_below hb))
  clear hb
  go_wp2_with (fail)
  refine (own_push w w4 HT.out T3 s _ H4.out mb (by decide)).mono ?_
  rw [show (St.push (true, (0 : Int), x1).2.2 mb) = (true, 0, x2) from p2]
  rintro e w5 ⟨rfl, T5, hO, _⟩
  have H5 := Lib.hid hO
  clear hO
  go_wp2_with (fail)
  refine (message_calls w5 _ 1).mono ?_
  rintro e w6 ⟨rfl, hb⟩
  have H6 := Lib.hid (H5.out.still (Turn.of_below hb))
  clear hb
  go_wp2_with (fail)
  refine (own_push w w6 HT.out T5 s _ H6.out mc (by decide)).mono ?_
  rw [show (St.push (true, (0 : Int), x2).2.2 mc) = (false, 0, x2) from p3]
  rintro e w7 ⟨rfl, T7, hO, _⟩
  have H7 := Lib.hid hO
  clear hO
  go_wp2_with (fail)
  refine (own_next w w7 T7 s x2 H7.out).mono ?_
  rw [n3]
  rintro e w8 ⟨A8, n8, c8, T8, rfl, hP, _, hO, hM⟩
  have H8 := Lib.hid hO
  have R8 := Lib.hid hP
  obtain rfl := hP.len
  clear hO hP hM
  go_wp2_with (fail)
  refine (own_take w w8 T8 s x3 H8.out (ackP 4 1)).mono ?_
  rw [show x3.take (ackP 4 1).ty (ackP 4 1).id = (x4, [], 0) from t4]
  rintro e w9 ⟨A9, n9, c9, T9, rfl, _, _, hO, hM⟩
  have H9 := Lib.hid hO
  have R9 := Lib.hid (H8.out.prow hM R8.out)
  clear hO hM
  go_wp2_with (fail)
  refine (own_next w w9 T9 s x4 H9.out).mono ?_
  rw [n5]
  rintro e wa ⟨Aa, na, ca, Ta, rfl, _, _, hO, hM⟩
  have Ha := Lib.hid hO
  have Ra := Lib.hid (H9.out.prow hM R9.out)
  clear hO hM
  go_wp2_with (fail)
  refine (own_take w wa Ta s x5 Ha.out (ackP 5 2)).mono ?_
  rw [show x5.take (ackP 5 2).ty (ackP 5 2).id = (x6, [ackP 6 2], 0) from t6]
  rintro e wb ⟨Ab, nb, cb, Tb, rfl, hP, _, hO, hM⟩
  have Hb := Lib.hid hO
  have Rb := Lib.hid (Ha.out.prow hM Ra.out)
  have Sb := Lib.hid hP
  clear hO hM hP
  go_wp2_with (fail)
  refine (own_again w wb Tb s x6 Hb.out).mono ?_
  rintro e wc ⟨⟨Ac, nc, cc, Tc, rfl, hP, _, hO, hM⟩, ht⟩
  have Hc := Lib.hid hO
  have Rc := Lib.hid (Rb.out.still ht)
  have Sc := Lib.hid (Sb.out.still ht)
  have hP' : PRow wc (.slice Ac nc cc) [ackP 6 2] := hP
  have Uc := Lib.hid hP'
  clear hO hM hP hP' ht
  obtain ⟨A', c', hv, hcc, hcm, hcell⟩ := Rc.out.1.form
  injection hv with e1 e2 e3
  subst e1 e3
  obtain ⟨g, off, rfl, _, _, hcl⟩ := hcell (by decide)
  have k2 : wc.cell? ⟨g, off + 2, none⟩ = some (.int .i64 1) := hcl 2 _ rfl
  have k4 : wc.cell? ⟨g, off + 4, none⟩ = some (.string ⟨#[97]⟩) := hcl 4 _ rfl
  clear hcell hcl hcm
  go_wp2_with (fail)
  have hS1 := Sc.out.still (Turn.alloc wc (.cells (ackP 6 2).cells PT))
  refine (rows_eq (wc.alloc (.cells (ackP 6 2).cells PT)) Ab (some ⟨wc.heap.size, 0, none⟩) nb 1 cb 1 [ackP 6 2] hS1 (prow_one wc (ackP 6 2) ⟨rfl, rfl⟩) (by simp [bare_ack]) (by decide)).mono ?_
  rintro e wd ⟨rfl, hbd⟩
  have td : Hid (Turn (fun _ => False) wc wd) := (Turn.alloc _ _).trans (Turn.of_below hbd)
  clear hS1 hbd
  go_wp2_with (fail)
  refine (rows_eq wd Ac Ab nc nb cc cb [ackP 6 2] (Uc.out.still td.out) (Sc.out.still td.out) (by simp [bare_ack]) (by decide)).mono ?_
  rintro e we ⟨rfl, hbe⟩
  go_wp2_with (fail)
  go_ret
  exact ⟨rfl, ((Hc.out.still td.out).still (Turn.of_below hbe)).bel⟩

set_option maxRecDepth 100000 in
set_option maxHeartbeats 2000000 in
/-- SenderNil. -/
theorem nil_walk (m : Msg) (p : Pkt) (C : List Int) (D : List (ByteArray × Int)) (w : World) (hm1 : m.topic.size ≤ 140737488351232) (hm2 : m.pay.size ≤ 140737488351232) (hL : Lies w p C D) (hS : Sized p C D) (hT : Lib.Utf8Tabs 0 1 w) : Calls Tryd.prog 8 #[.agg m.vals.toArray, .agg p.cells] w fun e w' => e = .returned (.bool true) ∧ Below w.heap.size w w' := by
  have HT := Lib.hid hT
  clear hT
  obtain ⟨W, hW⟩ : ∃ W, Hid (W = (w.alloc (.cells m.vals.toArray MsT)).alloc (.cells p.cells PT)) := ⟨_, rfl⟩
  obtain ⟨g, hg⟩ : ∃ g, Hid (g = w.heap.size) := ⟨_, rfl⟩
  obtain ⟨b, hb⟩ : ∃ b, Hid (b = w.heap.size + 1) := ⟨_, rfl⟩
  have hB : Hid (Below w.heap.size w W) := by
    rw [hW.out]
    exact ((Below.refl _ _).alloc (Nat.le_refl _) _).alloc (by simp) _
  have hm : Hid (W.heap[g]? = some (.cells m.vals.toArray MsT)) := by
    rw [hW.out, hg.out, heap_old _ _ _ (by simp)]; exact heap_new _ _
  have hp : Hid (PkAt W b p) := by
    rw [hW.out, hb.out]
    have := heap_new (w.alloc (.cells m.vals.toArray MsT)) (.cells p.cells PT)
    simp only [World.alloc, Array.size_push] at this
    exact this
  have e0 : W.cell? ⟨g, 0, none⟩ = some (.string m.topic) := cell_heap hm.out
  have e1 : W.cell? ⟨g, 1, none⟩ = some (.string m.pay) := cell_heap hm.out
  have e2 : W.cell? ⟨g, 2, none⟩ = some (.int .i64 m.qos) := cell_heap hm.out
  have e3 : W.cell? ⟨g, 3, none⟩ = some (.bool m.retain) := cell_heap hm.out
  go_enter Tryd.func8, Tryd.ntmps8
  go_upto_region 1 with (fail)
  rw [← hW.out, ← hb.out, ← hg.out]
  go_wp2_with (fail)
  refine (push_nil W m).mono ?_
  rintro e w1 ⟨rfl, hB1⟩
  have HB1 : Hid (Below w.heap.size w w1) := hB.out.trans (hB1.mono hB.out.size)
  have HP1 : Hid (PkAt w1 b p) := (hB1.block b (heap_lt hp.out)).trans hp.out
  clear hB1 e0 e1 e2 e3
  go_wp2_with (fail)
  refine (next_nil w1).mono ?_
  rintro e w' ⟨rfl, rfl⟩
  go_wp2_with (with_reducible refine wp_load_pkt (o := ⟨some 29, _, _, _, _, _⟩) rfl rfl rfl HP1.out ?_)
  refine (take_nil w' p).mono ?_
  rintro e w2 ⟨rfl, hB2⟩
  have HB2 : Hid (Below w.heap.size w w2) := HB1.out.trans (hB2.mono HB1.out.size)
  clear hB2
  go_wp2_with (fail)
  refine (again_nil w2).mono ?_
  rintro e w3 ⟨rfl, rfl⟩
  go_wp2_with (fail)
  refine (count_nil w3).mono ?_
  rintro e w4 ⟨rfl, rfl⟩
  go_wp2_with (fail)
  refine (awake_calls w4 (Utf.tabs_keep HT.out HB2.out)).mono ?_
  rintro e w5 ⟨rfl, hB5⟩
  go_wp2_with (fail)
  go_ret
  exact ⟨rfl, HB2.out.trans (hB5.mono HB2.out.size)⟩
end Snd
end Go.Proofs.YtonemmdipmohgaaDoor

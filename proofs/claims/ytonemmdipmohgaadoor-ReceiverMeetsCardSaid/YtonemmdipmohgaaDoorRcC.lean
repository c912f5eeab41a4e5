/- receiver: the document's example; ReceiverOnce. -/
import Derived.Test.YtonemmdipmohgaaDoorRcB
import Derived.Test.YtonemmdipmohgaaDoorSnO
namespace Go.Proofs.YtonemmdipmohgaaDoor
open Go.RowKit Go.ChangeShapes
set_option linter.unusedVariables false
set_option linter.unusedSimpArgs false
namespace Rcv
open Pk Str Snd
open Utf (ints_calls)

def m17 : Msg := ⟨⟨#[97]⟩, ⟨#[]⟩, 2, false⟩
theorem may_m17 : m17.May := (msg_may m17 (by decide)).2 ⟨full_a, by decide, by decide⟩
theorem pub_results (W : World) (v : Nat) (p : Pkt) (tmps : Array Value) (hv : tmps.getD 4 undef = .pointer (some ⟨v, 0, none⟩)) (h : PkAt W v p) : (results Tryd.f45 tmps).run Tryd.prog W = .ok (.agg p.cells) W := by
  have hl := load_pkt W v p h
  unfold Instr.loadAt at hl
  simp only [Instr.sureAddr, Sem.run_bind, Sem.run_pure, Result.andThen_ok] at hl
  simp only [results, Tryd.results45]
  have hv' : tmps[4]?.getD undef = .pointer (some ⟨v, 0, none⟩) := by rw [← hv]; simp
  simp [hv', asAddr, hl]
set_option maxRecDepth 100000 in
set_option maxHeartbeats 2000000 in
theorem publish_calls (w : World) (id : Int) (dup : Bool) : Calls Tryd.prog 45 #[.int .i64 id, .bool dup] w fun e w' => e = .returned (.agg (pubP id m17 dup).cells) ∧ Below w.heap.size w w' := by
  obtain ⟨w1, hw1⟩ : ∃ w1, Hid (w1 = w.alloc (.cells zeroC PT)) := ⟨_, rfl⟩
  obtain ⟨v, hv⟩ : ∃ v, Hid (v = w.heap.size) := ⟨_, rfl⟩
  have HV : Hid (PkAt w1 v zeroP) := by rw [hw1.out, hv.out]; exact heap_new _ _
  have hB : Hid (Below w.heap.size w w1) := by rw [hw1.out]; exact (Below.refl _ _).alloc (Nat.le_refl _) _
  go_enter Tryd.func45, Tryd.ntmps45
  go_upto_region 1 with (fail)
  have hz : (w.alloc (.cells #[Value.int IntKind.i64 0, Value.bool false, Value.int IntKind.i64 0, Value.string { data := #[] },
          Value.string { data := #[] }, Value.int IntKind.i64 0, Value.bool false, Value.string { data := #[] },
          Value.bool false, Value.int IntKind.i64 0, Value.bool false, Value.bool false, Value.bool false,
          Value.string { data := #[] }, Value.string { data := #[] }, Value.bool false, Value.slice none 0 0,
          Value.slice none 0 0] PT)) = w1 := hw1.out.symm
  rw [← hv.out]
  rename_i hKont
  refine wp_region_lit (st_val (.int .i64 id) (wanted_free rfl) (by exact rMove (x := .tmp 0) rfl) ?_)
  rw [hz]
  go_wp2_with (refine wp_store_pkt (o := ⟨none, _, _, _, _, _⟩) (pubP id m17 dup) zeroP rfl rfl (by rfl) (by rfl) HV.out rfl rfl ?_)
  intro W' hP ht
  refine wpList_nil (hKont _ _ (wp_ret ?_))
  exact bodyPost_ret (pub_results W' v (pubP id m17 dup) _ rfl hP.out) rfl ⟨rfl, ht.belowTrans hB.out hB.out.size (fun k hk e => by have := hv.out; omega)⟩

structure OwnR (w0 w : World) (R b : Nat) (L : List Int) : Prop where
  at_ : RcAt w R b L
  lo : w0.heap.size ≤ b
  bel : Below w0.heap.size w0 w
theorem OwnR.still {w0 w w' : World} {R b : Nat} {L : List Int} (h : OwnR w0 w R b L) (t : Turn (fun _ => False) w w') : OwnR w0 w' R b L :=
  ⟨h.at_.still t, h.lo, t.belowTrans h.bel h.bel.size (fun _ _ h => h)⟩
def RGives (w0 w : World) (R b : Nat) (r : Bool × List Pkt × Int × List Int) (e : Ending) (w' : World) : Prop :=
  ∃ A n c, e = .returned (.tuple #[.bool r.1, .slice A n c, .int .i64 r.2.2.1]) ∧ PRow w' (.slice A n c) r.2.1 ∧ (∀ k, (Value.slice A n c).ownBlock = some k → w.heap.size ≤ k) ∧ OwnR w0 w' R b r.2.2.2 ∧ Turn (fun k => k = b) w w' ∧ ∀ v ps, PRow w v ps → PRow w' v ps
theorem own_new (w0 w : World) (hb : Below w0.heap.size w0 w) : Calls Tryd.prog 13 #[] w fun e w' => ∃ R b, e = .returned (.pointer (some ⟨R, 0, none⟩)) ∧ OwnR w0 w' R b [] ∧ Turn (fun _ => False) w w' ∧ w.heap.size ≤ R ∧ w.heap.size ≤ b := by
  refine (new_calls w).mono ?_
  rintro e w' ⟨rfl, h1, h2⟩
  exact ⟨_, _, rfl, ⟨h1, hb.size, hb.trans (h2.mono hb.size)⟩, Turn.of_below h2, Nat.le_succ _, Nat.le_refl _⟩
theorem own_take (w0 w : World) (hT : Lib.Utf8Tabs 0 1 w0) (R b : Nat) (L : List Int) (h : OwnR w0 w R b L) (p : Pkt) (C : List Int) (D : List (ByteArray × Int)) (hL : Lies w p C D) (hlen : Pk.Good p C D → (bodyB p C D).length ≤ 70368744177664) :
    Calls Tryd.prog 14 #[.pointer (some ⟨R, 0, none⟩), .agg p.cells] w fun e w' => RGives w0 w R b (rcv L p C D) e w' := by
  refine (take_calls w (Utf.tabs_keep hT h.bel) R b L h.at_ p C D hL hlen).mono ?_
  rintro e w' ⟨A, n, c, h1, h2, h3, h4, h5⟩
  exact ⟨A, n, c, h1, h2, h3, ⟨h4, h.lo, h5.belowTrans h.bel h.bel.size (fun k hk e => by have := h.lo; omega)⟩, h5, fun v ps hp => hp.turn h5 (fun k hk cur => by subst hk; exact h.at_.pk.2 cur)⟩
theorem own_held (w0 w : World) (R b : Nat) (L : List Int) (h : OwnR w0 w R b L) : Calls Tryd.prog 18 #[.pointer (some ⟨R, 0, none⟩)] w fun e w' => HeldPost w L e w' ∧ OwnR w0 w' R b L ∧ Turn (fun _ => False) w w' := by
  refine (held_calls w R b L h.at_).mono ?_
  intro e w' hp
  have hb : Below w.heap.size w w' := by obtain ⟨_, _, _, _, _, _, _, _, _, hb⟩ := hp; exact hb
  exact ⟨hp, h.still (Turn.of_below hb), Turn.of_below hb⟩

theorem lit_reads (w : World) (k : IntKind) (t : TypeId) (xs : List Int) (C : Array Value) (hC : C = (xs.map (Value.int k)).toArray) : Reads k (w.alloc (.cells C t)) (some ⟨w.heap.size, 0, none⟩) xs := by
  subst hC
  intro h0
  refine ⟨_, rfl, fun i hi => ?_⟩
  rw [add_plain0, cell_heap (heap_new _ _)]
  simp [List.getElem?_eq_getElem hi, lat_get _ _ hi]
theorem r1 : rcv [] (pubP 5 m17 false) [] [] = (true, [ackP 5 5], 0, [5]) := by
  unfold rcv
  rw [if_neg (fun h => h (may_pub (by decide) (by decide) (by decide) may_m17)), if_neg (by decide), if_neg (by decide), if_neg (by decide), if_neg (by decide)]
  rfl
theorem r2 : rcv [5] (pubP 5 m17 true) [] [] = (false, [ackP 5 5], 0, [5]) := by
  unfold rcv
  rw [if_neg (fun h => h (may_pub (by decide) (by decide) (by decide) may_m17)), if_neg (by decide), if_neg (by decide), if_neg (by decide), if_neg (by decide)]
  rfl
theorem r3 : rcv [5] (ackP 6 5) [] [] = (false, [ackP 7 5], 0, []) := by
  unfold rcv
  rw [if_neg (fun h => h (may_ack (.inr (.inr (.inl rfl))) (by decide) (by decide))), if_pos (by decide)]
  rfl
theorem len_pub (w : World) (id : Int) (m : Msg) (d : Bool) (h : m.pay.size ≤ 1000000000000) : Pk.Good (pubP id m d) [] [] → (bodyB (pubP id m d) [] []).length ≤ 70368744177664 := fun hG => good_len (lies_pub w id m d) hG (by simp) (by simp) (fun _ => h)
theorem len_ack (w : World) (t id : Int) : Pk.Good (ackP t id) [] [] → (bodyB (ackP t id) [] []).length ≤ 70368744177664 := fun hG => good_len (lies_ack w (ackP t id) ⟨rfl, rfl, rfl, rfl, rfl⟩) hG (by simp) (by simp) (fun _ => by show (0 : Nat) ≤ _; decide)
set_option maxRecDepth 100000 in
set_option maxHeartbeats 2000000 in
theorem awake_calls (w : World) (hT : Lib.Utf8Tabs 0 1 w) : Calls Tryd.prog 16 #[] w fun e w' => e = .returned (.bool true) ∧ Below w.heap.size w w' := by
  have HT := Lib.hid hT
  clear hT
  go_enter Tryd.func16, Tryd.ntmps16
  go_wp2_with (fail)
  refine (own_new w w (Below.refl _ _)).mono ?_
  rintro e w1 ⟨R, b, rfl, hO, _, _, _⟩
  have H1 := Lib.hid hO
  clear hO
  go_wp2_with (fail)
  refine (publish_calls w1 5 false).mono ?_
  rintro e w2 ⟨rfl, hb⟩
  have H2 := Lib.hid (H1.out.still (Turn.of_below hb))
  clear hb
  go_wp2_with (fail)
  refine (own_take w w2 HT.out R b [] H2.out (pubP 5 m17 false) [] [] (lies_pub _ _ _ _) (len_pub w2 _ _ _ (by decide))).mono ?_
  rw [r1]
  rintro e w3 ⟨A3, n3, c3, rfl, hP, _, hO, _, _⟩
  have H3 := Lib.hid hO
  have P3 := Lib.hid hP
  clear hO hP
  go_wp2_with (fail)
  refine (publish_calls w3 5 true).mono ?_
  rintro e w4 ⟨rfl, hb⟩
  have H4 := Lib.hid (H3.out.still (Turn.of_below hb))
  have P4 := Lib.hid (P3.out.still (Turn.of_below hb))
  clear hb
  go_wp2_with (fail)
  refine (own_take w w4 HT.out R b [5] H4.out (pubP 5 m17 true) [] [] (lies_pub _ _ _ _) (len_pub w4 _ _ _ (by decide))).mono ?_
  rw [r2]
  rintro e w5 ⟨A5, n5, c5, rfl, hP, _, hO, _, hK⟩
  have H5 := Lib.hid hO
  have P5 := Lib.hid (hK _ _ P4.out)
  have Q5 := Lib.hid hP
  clear hO hP hK
  go_wp2_with (fail)
  refine (own_held w w5 R b [5] H5.out).mono ?_
  rintro e w6 ⟨⟨A6, n6, c6, rfl, S, rfl, hS, hperm, _, _⟩, hO, ht⟩
  obtain rfl : S = [5] := List.perm_singleton.1 hperm
  have H6 := Lib.hid hO
  have P6 := Lib.hid (P5.out.still ht)
  have Q6 := Lib.hid (Q5.out.still ht)
  have S6 := Lib.hid hS
  clear hO hS hperm ht
  go_wp2_with (fail)
  refine (own_take w w6 HT.out R b [5] H6.out (ackP 6 5) [] [] (lies_ack _ _ ⟨rfl, rfl, rfl, rfl, rfl⟩) (len_ack w6 _ _)).mono ?_
  rw [r3]
  rintro e w7 ⟨A7, n7, c7, rfl, hP, _, hO, ht, hK⟩
  have H7 := Lib.hid hO
  have P7 := Lib.hid (hK _ _ P6.out)
  have Q7 := Lib.hid (hK _ _ Q6.out)
  have U7 := Lib.hid hP
  have S7 : Hid (OwnInts w7 w5.heap.size 3 .i64 (.slice A6 ([5] : List Int).length c6) [5]) := S6.out.turn ht (fun k hk e => by
    have h1 := (own_block_ge S6.out k hk).1
    have h2 := H5.out.at_.set.lt
    omega)
  clear hO hP hK ht
  go_wp2_with (fail)
  have hS1 := P7.out.still (Turn.alloc w7 (.cells (ackP 5 5).cells PT))
  refine (rows_eq (w7.alloc (.cells (ackP 5 5).cells PT)) A3 (some ⟨w7.heap.size, 0, none⟩) n3 1 c3 1 [ackP 5 5] hS1 (prow_one w7 (ackP 5 5) ⟨rfl, rfl⟩) (by simp [bare_ack]) (by decide)).mono ?_
  rintro e w8 ⟨rfl, hb⟩
  have t8 : Hid (Turn (fun _ => False) w7 w8) := (Turn.alloc _ _).trans (Turn.of_below hb)
  clear hS1 hb
  go_wp2_with (fail)
  refine (rows_eq w8 A3 A5 n3 n5 c3 c5 [ackP 5 5] (P7.out.still t8.out) (Q7.out.still t8.out) (by simp [bare_ack]) (by decide)).mono ?_
  rintro e w9 ⟨rfl, hb⟩
  have t9 : Hid (Turn (fun _ => False) w7 w9) := t8.out.trans (Turn.of_below hb)
  clear hb
  go_wp2_with (fail)
  have ta : Hid (Turn (fun _ => False) w7 (w9.alloc (.cells #[.int .i64 5] 3))) := t9.out.trans (Turn.alloc _ _)
  refine (ints_calls _ A6 (some ⟨w9.heap.size, 0, none⟩) [5] [5] c6 1 (own_reads (S7.out.turn ta.out (fun _ _ h => h))).2.2.1 (lit_reads w9 .i64 3 [5] _ rfl) (by decide)).mono ?_
  rw [show decide (([5] : List Int) = [5]) = true from rfl]
  rintro e wb ⟨rfl, hb⟩
  have tb : Hid (Turn (fun _ => False) w7 wb) := ta.out.trans (Turn.of_below hb)
  clear hb
  go_wp2_with (fail)
  have hS2 := U7.out.still (tb.out.trans (Turn.alloc wb (.cells (ackP 7 5).cells PT)))
  refine (rows_eq (wb.alloc (.cells (ackP 7 5).cells PT)) A7 (some ⟨wb.heap.size, 0, none⟩) n7 1 c7 1 [ackP 7 5] hS2 (prow_one wb (ackP 7 5) ⟨rfl, rfl⟩) (by simp [bare_ack]) (by decide)).mono ?_
  rintro e wc ⟨rfl, hb⟩
  have tc : Hid (Turn (fun _ => False) w7 wc) := (tb.out.trans (Turn.alloc _ _)).trans (Turn.of_below hb)
  clear hS2 hb
  go_wp2_with (fail)
  go_ret
  exact ⟨rfl, (H7.out.still tc.out).bel⟩
end Rcv
end Go.Proofs.YtonemmdipmohgaaDoor

/- receiver: the object, New, Take. -/
import Derived.Test.YtonemmdipmohgaaDoorSnQ
import Derived.OwnWalk
import Derived.BigRegion
namespace Go.Proofs.YtonemmdipmohgaaDoor
open Go.RowKit Go.ChangeShapes Go.Maps
set_option linter.unusedVariables false
set_option linter.unusedSimpArgs false
namespace Ids
/-- 'm[i] = true'. -/
theorem SetAt.put {w : World} {b : Nat} {L : List Int} (h : SetAt w b L) {i : Int} (h1 : 1 ≤ i) (h2 : i ≤ 65535) :
    ∃ w1, (Instr.mapUpdate MT (.map (some b)) (.int .i64 i) (.bool true)).run Tryd.prog w = .ok () w1 ∧ SetAt w1 b (if i ∈ L then L else L ++ [i]) ∧ Turn (· = b) w w1 := by
  have hw : (Lit.int .i64 i).wf = true := wf_i64 (by omega) (by omega)
  have hkey := keyOf_int_mk Tryd.underlying3 hw
  have hset := h
  obtain ⟨_, _, D, hown, hs, hat⟩ := h
  have hn : Maps.size D < maxLen := by
    have := nodup_le 65535 L hset.nodup hset.range
    unfold maxLen
    omega
  have hkl : WideAt.IsKeyLit (.int .i64 i) := law.key hkey
  obtain ⟨w3, hrun3, hown3, hturn⟩ := hown.store law Tryd.underlying74 hn hkey (plainElem_bool Tryd.underlying4 true)
  refine ⟨w3, hrun3, ?_, .of_grownBy hturn.grown (fun k e => (Option.some.inj e).symm)⟩
  by_cases hi : i ∈ L
  · rw [if_pos hi]
    refine ⟨hset.nodup, hset.range, _, ownsMap_tight hown3, ?_, ?_⟩
    · rw [Maps.size_put (hown.tidy law), (hat i hw).1]
      simp [hi, hs]
    · intro j hj
      by_cases e : j = i
      · subst e
        rw [Maps.has_put_same hown.isMap hkl, Maps.atKey_put_same hown.isMap hkl]
        simp [hi]
      · have hne : Lit.int .i64 j ≠ Lit.int .i64 i := fun e' => e (by injection e')
        rw [Maps.has_put_other hne, Maps.atKey_put_other hne, (hat j hj).1, (hat j hj).2]
        exact ⟨rfl, rfl⟩
  · rw [if_neg hi]
    exact hset.add_core h1 h2 hi hown hs hat hown3
end Ids
namespace Rcv
open Pk Str Snd

abbrev RT : TypeId := 76
structure RcAt (w : World) (R b : Nat) (L : List Int) : Prop where
  obj : w.heap[R]? = some (.cells #[.map (some b)] RT)
  set : Ids.SetAt w b L
theorem RcAt.ne {w : World} {R b : Nat} {L : List Int} (h : RcAt w R b L) : b ≠ R := by
  obtain ⟨_, _, D, ⟨es, clock, hb, _⟩, _⟩ := h.set
  rintro rfl
  rw [h.obj] at hb
  cases hb
theorem RcAt.turn {w w' : World} {R b : Nat} {L : List Int} {S : Nat → Prop} (h : RcAt w R b L) (t : Turn S w w') (h1 : ¬ S R) (h2 : ¬ S b) : RcAt w' R b L :=
  ⟨(t.block R (heap_lt h.obj) h1).trans h.obj, h.set.turn t h2⟩
theorem RcAt.still {w w' : World} {R b : Nat} {L : List Int} (h : RcAt w R b L) (t : Turn (fun _ => False) w w') : RcAt w' R b L := h.turn t (fun h => h) (fun h => h)
theorem RcAt.pk {w : World} {R b : Nat} {L : List Int} (h : RcAt w R b L) : (∀ cur, w.heap[R]? ≠ some (.cells cur PT (0, 0))) ∧ ∀ cur, w.heap[b]? ≠ some (.cells cur PT (0, 0)) := by
  refine ⟨fun cur hc => obj_ne h.obj hc (cells_ne (by decide)) rfl, fun cur hc => ?_⟩
  obtain ⟨_, _, D, ⟨es, clock, hb, _⟩, _⟩ := h.set
  exact obj_ne hb hc (by intro e; cases e) rfl

theorem new_calls (w : World) : Calls Tryd.prog 13 #[] w fun e w' => e = .returned (.pointer (some ⟨w.heap.size + 1, 0, none⟩)) ∧ RcAt w' (w.heap.size + 1) w.heap.size [] ∧ Below w.heap.size w w' := by
  have hmm := @run_makeMap Tryd.prog
  go_enter Tryd.func13, Tryd.ntmps13
  go_wp2
  go_ret
  refine ⟨rfl, ⟨?_, ?_⟩, ((Below.refl _ _).alloc (Nat.le_refl _) _).alloc (by simp) _⟩
  · have := heap_new (w.alloc (.map #[] 0)) (.cells #[.map (some w.heap.size)] RT)
    simpa using this
  · exact (Ids.SetAt.made w).turn (Turn.alloc (S := fun _ => False) _ _) (fun h => h)

theorem answer_calls (w : World) (pb : Nat) (p : Pkt) (hp : w.heap[pb]? = some (.cells p.cells PT (0, 0))) (t : Int) :
    Calls Tryd.prog 36 #[.int .i64 t, .pointer (some ⟨pb, 0, none⟩)] w fun e w' => e = .returned (.slice (some ⟨w.heap.size, 0, none⟩) 1 1) ∧ w' = w.alloc (.cells (ackP t p.id).cells PT) := by
  have hc : w.cell? ⟨pb, 2, none⟩ = some (.int .i64 p.id) := cell_heap hp
  clear hp
  go_enter Tryd.func36, Tryd.ntmps36
  go_wp2
  go_ret
  exact ⟨rfl, rfl⟩

open Classical in
/-- What Take tells: handed on, answers, error; what is held then. -/
noncomputable def rcv (L : List Int) (p : Pkt) (C : List Int) (D : List (ByteArray × Int)) : Bool × List Pkt × Int × List Int :=
  if ¬ Pk.May p C D then (false, [], 1, L)
  else if p.ty = 6 then (false, [ackP 7 p.id], 0, L.filter (· ≠ p.id))
  else if p.ty ≠ 3 then (false, [], 5, L)
  else if p.qos = 0 then (true, [], 0, L)
  else if p.qos = 1 then (true, [ackP 4 p.id], 0, L)
  else (!decide (p.id ∈ L), [ackP 5 p.id], 0, if p.id ∈ L then L else L ++ [p.id])
def RcPost (w : World) (R b : Nat) (r : Bool × List Pkt × Int × List Int) (e : Ending) (w' : World) : Prop :=
  ∃ A n c, e = .returned (.tuple #[.bool r.1, .slice A n c, .int .i64 r.2.2.1]) ∧ PRow w' (.slice A n c) r.2.1 ∧ (∀ k, (Value.slice A n c).ownBlock = some k → w.heap.size ≤ k) ∧ RcAt w' R b r.2.2.2 ∧ Turn (fun k => k = b) w w'
theorem may_ids {p : Pkt} {C : List Int} {D : List (ByteArray × Int)} (h : Pk.May p C D) : (p.ty = 6 → 1 ≤ p.id ∧ p.id ≤ 65535) ∧ (p.ty = 3 → p.qos ≠ 0 → 1 ≤ p.id ∧ p.id ≤ 65535) ∧ (p.ty = 3 → 0 ≤ p.qos ∧ p.qos ≤ 2) := by
  obtain ⟨⟨_, _, hOk, _⟩, _⟩ := h
  exact ⟨fun h => hOk.2.2.2.1 (by omega) (by omega), fun h => (hOk.2.2.1 h).1, fun h => (hOk.2.2.1 h).2.2⟩

set_option maxRecDepth 100000 in
set_option maxHeartbeats 4000000 in
theorem take_calls (w : World) (hT : Lib.Utf8Tabs 0 1 w) (R b : Nat) (L : List Int) (h : RcAt w R b L) (p : Pkt) (C : List Int) (D : List (ByteArray × Int)) (hL : Lies w p C D) (hlen : Pk.Good p C D → (bodyB p C D).length ≤ 70368744177664) :
    Calls Tryd.prog 14 #[.pointer (some ⟨R, 0, none⟩), .agg p.cells] w fun e w' => RcPost w R b (rcv L p C D) e w' := by
  obtain ⟨pb, hpb⟩ : ∃ pb, Hid (pb = w.heap.size) := ⟨_, rfl⟩
  obtain ⟨W0, hW0⟩ : ∃ W0, Hid (W0 = w.alloc (.cells p.cells PT)) := ⟨_, rfl⟩
  have hB0 : Hid (Below w.heap.size w W0) := by rw [hW0.out]; exact (Below.refl _ _).alloc (Nat.le_refl _) _
  have hP0 : Hid (PkAt W0 pb p) := by rw [hW0.out, hpb.out]; exact heap_new _ _
  have HR0 := Lib.hid (h.still (Turn.of_below hB0.out))
  have HT0 := Lib.hid (Utf.tabs_keep hT hB0.out)
  have HL0 := Lib.hid (hL.keep hB0.out)
  have HLEN := Lib.hid hlen
  clear hT h hL hlen
  go_enter Tryd.func14, Tryd.ntmps14
  go_upto_region 1 with (fail)
  rw [← hW0.out, ← hpb.out]
  go_wp2_with (with_reducible refine wp_load_pkt (o := ⟨some 12, _, _, _, _, _⟩) rfl rfl rfl hP0.out ?_)
  refine (pcheck_calls W0 HT0.out p C D HL0.out HLEN.out).mono ?_
  rintro e w1 ⟨hB1, hr⟩
  have HB1 : Hid (Below w.heap.size w w1) := hB0.out.trans (hB1.mono hB0.out.size)
  have HR1 := Lib.hid (HR0.out.still (Turn.of_below hB1))
  have HP1 : Hid (PkAt w1 pb p) := (hB1.block pb (heap_lt hP0.out)).trans hP0.out
  clear hB1
  rcases hr with ⟨hM, rfl⟩ | ⟨hM, rfl⟩
  case inr =>
    have HF : Hid (RcPost w R b (rcv L p C D) (.returned (.tuple #[.bool false, .slice none 0 0, .int .i64 1])) w1) := by
      unfold rcv
      rw [if_pos hM]
      exact ⟨none, 0, 0, rfl, PRow.nil _, (fun k hk => by cases hk), HR1.out, Turn.of_below HB1.out⟩
    clear hM
    go_wp2_with (fail)
    go_ret3
    exact HF.out
  have HM := Lib.hid hM
  have e0 : w1.cell? ⟨pb, 0, none⟩ = some (.int .i64 p.ty) := cell_heap HP1.out
  have e2 : w1.cell? ⟨pb, 2, none⟩ = some (.int .i64 p.id) := cell_heap HP1.out
  have e5 : w1.cell? ⟨pb, 3 + 2, none⟩ = some (.int .i64 p.qos) := cell_heap HP1.out
  have r0 : w1.cell? ⟨R, 0, none⟩ = some (.map (some b)) := cell_heap HR1.out.obj
  have hids := may_ids hM
  have HI := Lib.hid hids
  clear hM hids
  by_cases h6 : p.ty = 6
  · have b6 : (p.ty == 6) = true := by simpa using h6
    have HI6 := Lib.hid (HI.out.1 h6)
    have H6 := Lib.hid h6
    clear h6
    have hsd : Ids.SetAt w1.drew b L := HR1.out.set.turn (Turn.drew (Turn.refl (fun _ => False) _)) (fun h => h)
    obtain ⟨w2, hd, hset, ht⟩ := hsd.del (Ids.wf_i64 (i := p.id) (by have := HI6.out; omega) (by have := HI6.out; omega)) 0
    have hd' : (Builtin.delete_ #[74, 3] 0 #[.map (some b), .int .i64 p.id]).run Tryd.prog w1.drew = .ok (.tuple #[]) w2 := hd
    clear hd hsd
    have HSET := Lib.hid hset
    have HTT := Lib.hid ht
    clear hset ht
    have HP2 : Hid (PkAt w2 pb p) := by
      have hne : pb ≠ b := fun e => HR1.out.pk.2 _ (by rw [← e]; exact HP1.out)
      exact (HTT.out.block pb (heap_lt HP1.out) hne).trans HP1.out
    have HF : Hid (RcPost w R b (rcv L p C D) (.returned (.tuple #[.bool false, .slice (some ⟨w2.heap.size, 0, none⟩) 1 1, .int .i64 0])) (w2.alloc (.cells (ackP 7 p.id).cells PT))) := by
      have e : rcv L p C D = (false, [ackP 7 p.id], 0, L.filter (· ≠ p.id)) := by
        unfold rcv
        rw [if_neg (fun h => h HM.out), if_pos H6.out]
      rw [e]
      have ta : Turn (fun _ => False) w2 (w2.alloc (.cells (ackP 7 p.id).cells PT)) := Turn.alloc _ _
      have tt : Turn (fun k => k = b) w w2 := ((Turn.of_below HB1.out).trans ((Turn.drew (Turn.refl (fun k => k = b) w1)))).trans HTT.out
      refine ⟨_, 1, 1, rfl, prow_one w2 (ackP 7 p.id) ⟨rfl, rfl⟩, (fun k hk => by cases hk; exact tt.size), ⟨?_, HSET.out.turn ta (fun h => h)⟩, tt.trans (ta.mono (fun _ _ h => h.elim))⟩
      have hne := HR1.out.ne
      exact (ta.block R (Nat.lt_of_lt_of_le (heap_lt HR1.out.obj) HTT.out.size) (fun h => h)).trans ((HTT.out.block R (heap_lt HR1.out.obj) (fun e => hne e.symm)).trans HR1.out.obj)
    go_wp2_with (fail)
    go_region
    go_wp2_with (fail)
    refine (answer_calls w2 pb p HP2.out 7).mono ?_
    rintro e w3 ⟨rfl, rfl⟩
    go_wp2_with (fail)
    go_ret3
    exact HF.out
  have b6 : (p.ty == 6) = false := by simpa using h6
  have H6 := Lib.hid h6
  clear h6
  by_cases h3 : p.ty = 3
  case neg =>
    have b3 : (p.ty != 3) = true := by simpa using h3
    have HF : Hid (RcPost w R b (rcv L p C D) (.returned (.tuple #[.bool false, .slice none 0 0, .int .i64 5])) w1) := by
      have e : rcv L p C D = (false, [], 5, L) := by
        unfold rcv
        rw [if_neg (fun h => h HM.out), if_neg H6.out, if_pos h3]
      rw [e]
      exact ⟨none, 0, 0, rfl, PRow.nil _, (fun k hk => by cases hk), HR1.out, Turn.of_below HB1.out⟩
    clear h3
    go_wp2_with (fail)
    go_ret3
    exact HF.out
  have b3 : (p.ty != 3) = false := by simpa using h3
  have H3 := Lib.hid h3
  clear h3
  have hst : Hid (∀ t, RcPost w R b (true, [ackP t p.id], 0, L) (.returned (.tuple #[.bool true, .slice (some ⟨w1.heap.size, 0, none⟩) 1 1, .int .i64 0])) (w1.alloc (.cells (ackP t p.id).cells PT))) := fun t => by
    have ta : Turn (fun _ => False) w1 (w1.alloc (.cells (ackP t p.id).cells PT)) := Turn.alloc _ _
    exact ⟨_, 1, 1, rfl, prow_one w1 (ackP t p.id) ⟨rfl, rfl⟩, (fun k hk => by cases hk; exact HB1.out.size), HR1.out.still ta, (Turn.of_below HB1.out).trans (ta.mono (fun _ _ h => h.elim))⟩
  by_cases h0 : p.qos = 0
  · have b0 : (p.qos == 0) = true := by simpa using h0
    have HF : Hid (RcPost w R b (rcv L p C D) (.returned (.tuple #[.bool true, .slice none 0 0, .int .i64 0])) w1) := by
      have e : rcv L p C D = (true, [], 0, L) := by
        unfold rcv
        rw [if_neg (fun h => h HM.out), if_neg H6.out, if_neg (fun h => h H3.out), if_pos h0]
      rw [e]
      exact ⟨none, 0, 0, rfl, PRow.nil _, (fun k hk => by cases hk), HR1.out, Turn.of_below HB1.out⟩
    clear h0
    go_wp2_with (fail)
    go_ret3
    exact HF.out
  have b0 : (p.qos == 0) = false := by simpa using h0
  have H0 := Lib.hid h0
  clear h0
  by_cases h1 : p.qos = 1
  · have b1 : (p.qos == 1) = true := by simpa using h1
    have HF : Hid (RcPost w R b (rcv L p C D) (.returned (.tuple #[.bool true, .slice (some ⟨w1.heap.size, 0, none⟩) 1 1, .int .i64 0])) (w1.alloc (.cells (ackP 4 p.id).cells PT))) := by
      have e : rcv L p C D = (true, [ackP 4 p.id], 0, L) := by
        unfold rcv
        rw [if_neg (fun h => h HM.out), if_neg H6.out, if_neg (fun h => h H3.out), if_neg H0.out, if_pos h1]
      rw [e]
      exact hst.out 4
    clear h1
    go_wp2_with (fail)
    refine (answer_calls w1 pb p HP1.out 4).mono ?_
    rintro e w3 ⟨rfl, rfl⟩
    go_wp2_with (fail)
    go_ret3
    exact HF.out
  have b1 : (p.qos == 1) = false := by simpa using h1
  have H1 := Lib.hid h1
  clear h1 hst
  have HID := Lib.hid (HI.out.2.1 H3.out H0.out)
  have hlook : ∀ n, (Instr.lookup Ids.MT (.map (some b)) (.int .i64 p.id) false).run Tryd.prog (w1.drewN n) = .ok (.bool (decide (p.id ∈ L))) (w1.drewN n) := fun n =>
    (HR1.out.set.turn (Turn.drewN (Turn.refl (fun _ => False) _) n) (fun h => h)).look (Ids.wf_i64 (i := p.id) (by have := HID.out; omega) (by have := HID.out; omega))
  obtain ⟨q, hq⟩ : ∃ q : Bool, Hid (q = decide (p.id ∈ L)) := ⟨_, rfl⟩
  rw [← hq.out] at hlook
  go_upto_region 16 with (fail)
  go_quiet (fail)
  have hsd : Ids.SetAt (w1.drewN (nq + 1)) b L := HR1.out.set.turn (Turn.drewN (Turn.refl (fun _ => False) _) (nq + 1)) (fun h => h)
  obtain ⟨w2, hd, hset, ht⟩ := hsd.put HID.out.1 HID.out.2
  have hd' : (Instr.mapUpdate 74 (.map (some b)) (.int .i64 p.id) (.bool true)).run Tryd.prog (w1.drewN (nq + 1)) = .ok () w2 := hd
  have tt : Hid (Turn (fun k => k = b) w1 w2) := ((Turn.drewN (Turn.refl (fun _ => False) w1) (nq + 1)).mono (fun _ _ h => h.elim)).trans ht
  have HSET := Lib.hid hset
  have HP2 : Hid (PkAt w2 pb p) := by
    have hne : pb ≠ b := fun e => HR1.out.pk.2 _ (by rw [← e]; exact HP1.out)
    exact (tt.out.block pb (heap_lt HP1.out) hne).trans HP1.out
  have HF : Hid (RcPost w R b (rcv L p C D) (.returned (.tuple #[.bool (!q), .slice (some ⟨w2.heap.size, 0, none⟩) 1 1, .int .i64 0])) (w2.alloc (.cells (ackP 5 p.id).cells PT))) := by
    have e : rcv L p C D = (!decide (p.id ∈ L), [ackP 5 p.id], 0, if p.id ∈ L then L else L ++ [p.id]) := by
      unfold rcv
      rw [if_neg (fun h => h HM.out), if_neg H6.out, if_neg (fun h => h H3.out), if_neg H0.out, if_neg H1.out]
    rw [e, hq.out]
    have ta : Turn (fun _ => False) w2 (w2.alloc (.cells (ackP 5 p.id).cells PT)) := Turn.alloc _ _
    have t2 : Turn (fun k => k = b) w w2 := (Turn.of_below HB1.out).trans tt.out
    refine ⟨_, 1, 1, rfl, prow_one w2 (ackP 5 p.id) ⟨rfl, rfl⟩, (fun k hk => by cases hk; exact t2.size), ⟨?_, HSET.out.turn ta (fun h => h)⟩, t2.trans (ta.mono (fun _ _ h => h.elim))⟩
    have hne := HR1.out.ne
    exact (ta.block R (Nat.lt_of_lt_of_le (heap_lt HR1.out.obj) tt.out.size) (fun h => h)).trans ((tt.out.block R (heap_lt HR1.out.obj) (fun e => hne e.symm)).trans HR1.out.obj)
  clear hset ht hsd hd
  go_wp2_with (fail)
  go_region
  go_wp2_with (fail)
  refine (answer_calls w2 pb p HP2.out 5).mono ?_
  rintro e w3 ⟨rfl, rfl⟩
  go_wp2_with (fail)
  go_ret3
  exact HF.out
end Rcv
end Go.Proofs.YtonemmdipmohgaaDoor

/- the reference's receiver: without, with. -/
import Derived.Test.YtonemmdipmohgaaDoorRcE
import Derived.Test.YtonemmdipmohgaaDoorRfJ
namespace Go.Proofs.YtonemmdipmohgaaDoor
open Go.RowKit Go.ChangeShapes
set_option linter.unusedVariables false
set_option linter.unusedSimpArgs false
namespace Rcv
open Pk Str Snd
open Utf (ints_calls)
open Ids (filter_snoc)

def IntsPost (w : World) (L : List Int) (e : Ending) (w' : World) : Prop :=
  ∃ A n c, e = .returned (.slice A n c) ∧ OwnInts w' w.heap.size 3 .i64 (.slice A n c) L ∧ Below w.heap.size w w'
set_option maxRecDepth 100000 in
set_option maxHeartbeats 1000000 in
theorem without_calls (w : World) (A : Option Addr) (L : List Int) (c : Nat) (hR : Reads .i64 w A L) (hl : L.length ≤ 70000) (i : Int) :
    Calls Tryd.prog 59 #[.slice A L.length c, .int .i64 i] w fun e w' => IntsPost w (L.filter (· ≠ i)) e w' := by
  have HR := Lib.hid hR
  have HL := Lib.hid hl
  clear hR hl
  go_enter Tryd.func59, Tryd.ntmps59
  go_wp2_with (fail)
  go_loopw [5, 6] (fun l x wr => ∃ k : Nat, k ≤ L.length ∧ x = .int .i64 k ∧ (∃ A1 n1 c1, l = .slice A1 n1 c1 ∧ Hid (n1 = ((L.take k).filter (· ≠ i)).length ∧ OwnInts wr w.heap.size 3 .i64 (.slice A1 n1 c1) ((L.take k).filter (· ≠ i)))) ∧ Hid (Below w.heap.size w wr)) (fun _ x _ => L.length - (intOf x).toNat)
  case atStart => exact ⟨0, Nat.zero_le _, rfl, ⟨none, 0, 0, rfl, by simp, OwnInts.nil _ _ _ _⟩, Below.refl _ _⟩
  case round =>
    obtain ⟨k, hk, rfl, ⟨A1, n1, c1, rfl, ho⟩, hB⟩ := hrel
    have hk7 : (k : Int) ≤ 70000 := by have := HL.out; omega
    by_cases hlt : k < L.length
    · obtain ⟨x0, rfl, hcell⟩ := (HR.out.keep hB.out) (by omega)
      have hc1 := hcell k hlt
      clear hcell
      have HK : Hid (k < L.length) := hlt
      by_cases hi : lat L k = i
      · have HI := Lib.hid hi
        have hb : (lat L k != i) = false := by simpa using hi
        clear hi
        go_wp2_with (fail)
        go_roundw
        case rel =>
          refine ⟨k + 1, HK.out, by go_num, ⟨A1, n1, c1, rfl, ?_⟩, hB⟩
          rw [take_lat L k HK.out, filter_snoc, if_pos HI.out, List.append_nil]
          exact ho.out
        case measure => have := HK.out; simp [intOf]; omega
      · have HI := Lib.hid hi
        have hb : (lat L k != i) = true := by simpa using hi
        clear hi
        obtain ⟨M, hM⟩ : ∃ M, M = (L.take k).filter (· ≠ i) := ⟨_, rfl⟩
        have ho' := ho.out
        rw [← hM] at ho'
        obtain ⟨hn1, ho'⟩ := ho'
        subst hn1
        have HMl : Hid (M.length + 1 ≤ 140737488355328 ∧ (M.length + 1) * 8 ≤ 140737488355328) := by
          have h1 := List.length_filter_le (· ≠ i) (L.take k)
          have h2 := List.length_take_le k L
          have := HL.out
          rw [Hid, hM]; omega
        have HO := Lib.hid ho'
        have HM := Lib.hid hM
        clear hM ho ho'
        have HBs : Hid (w.heap.size ≤ wr.heap.size) := hB.out.size
        go_wp2_with (at_builtin; refine wp_append_int wr w.heap.size rfl _ _ 29 3 .i64 8 rfl Tryd.underlying29 Utf.info_int (.slice A1 M.length c1) M (lat L k) rfl _ rfl (heap_new _ _) (Nat.le_refl _) (Turn.alloc _ _) HO.out HBs.out HMl.out ?_)
        intro g2 c2 w1 hown1 ht1 hloc hsz1
        have hB1 : Hid (Below w.heap.size w w1) := ht1.belowTrans hB.out HBs.out (fun k hk e => by have := (own_block_ge HO.out k e).1; omega)
        clear ht1 hloc
        go_wp2_with (fail)
        go_roundw
        case rel =>
          refine ⟨k + 1, HK.out, by go_num, ⟨some ⟨g2, 0, none⟩, M.length + 1, c2, rfl, ?_⟩, hB1⟩
          rw [take_lat L k HK.out, filter_snoc, if_neg HI.out, ← HM.out]
          exact ⟨by simp, hown1⟩
        case measure => have := HK.out; simp [intOf]; omega
    · have hk' : L.take k = L := List.take_of_length_le (by omega)
      rw [hk'] at ho
      go_wp2_with (fail)
      go_ret
      have hO := ho.out.2
      exact ⟨_, _, _, rfl, by simpa using hO, hB.out⟩

def wstep (id : Int) (s : Bool × List Int) (x : Int) : Bool × List Int := if s.1 = false ∧ id < x then (true, s.2 ++ [id] ++ [x]) else (s.1, s.2 ++ [x])
def ws (id : Int) (L : List Int) : Bool × List Int := L.foldl (wstep id) (false, [])
theorem ws_snoc (id : Int) (L : List Int) (x : Int) : ws id (L ++ [x]) = wstep id (ws id L) x := by simp [ws, List.foldl_append]
def wsEnd (id : Int) (L : List Int) : List Int := if (ws id L).1 then (ws id L).2 else (ws id L).2 ++ [id]
theorem ws_len (id : Int) (k : Nat) : ∀ L : List Int, L.length = k → (ws id L).2.length ≤ k + 1 ∧ ((ws id L).1 = false → (ws id L).2.length = k) := by
  induction k with
  | zero =>
    intro L h
    have : L = [] := List.eq_nil_of_length_eq_zero h
    subst this
    simp [ws]
  | succ k ih =>
    intro L h
    obtain ⟨M, x, rfl⟩ : ∃ M x, L = M ++ [x] := ⟨L.dropLast, L.getLast (by intro e; subst e; simp at h), (List.dropLast_concat_getLast _).symm⟩
    have h1 := ih M (by simpa using h)
    rw [ws_snoc]
    unfold wstep
    split
    · rename_i hh
      have := h1.2 hh.1
      simp; omega
    · simp
      refine ⟨by omega, fun h => by have := h1.2 h; omega⟩
theorem ws_form (id : Int) (k : Nat) : ∀ L : List Int, L.length = k → ((ws id L).1 = false → (ws id L).2 = L ∧ ∀ x ∈ L, x ≤ id) ∧ ((ws id L).1 = true → ∃ a y b, L = a ++ y :: b ∧ (ws id L).2 = a ++ id :: y :: b ∧ (∀ x ∈ a, x ≤ id) ∧ id < y) := by
  induction k with
  | zero =>
    intro L h
    have : L = [] := List.eq_nil_of_length_eq_zero h
    subst this
    simp [ws]
  | succ k ih =>
    intro L h
    obtain ⟨M, x, rfl⟩ : ∃ M x, L = M ++ [x] := ⟨L.dropLast, L.getLast (by intro e; subst e; simp at h), (List.dropLast_concat_getLast _).symm⟩
    have h1 := ih M (by simpa using h)
    rw [ws_snoc]
    unfold wstep
    split
    · rename_i hh
      obtain ⟨e1, e2⟩ := h1.1 hh.1
      refine ⟨fun h => by simp at h, fun _ => ⟨M, x, [], rfl, by rw [e1]; simp, e2, hh.2⟩⟩
    · rename_i hh
      refine ⟨fun hf => ?_, fun ht => ?_⟩
      · obtain ⟨e1, e2⟩ := h1.1 hf
        simp only
        rw [e1]
        refine ⟨rfl, fun z hz => ?_⟩
        rcases List.mem_append.1 hz with hz | hz
        · exact e2 z hz
        · rw [List.mem_singleton.1 hz]
          have : ¬ id < x := fun hlt => hh ⟨hf, hlt⟩
          omega
      · obtain ⟨a, y, b, e1, e2, e3, e4⟩ := h1.2 ht
        refine ⟨a, y, b ++ [x], by rw [e1]; simp, by simp only; rw [e2]; simp, e3, e4⟩
/-- What 'with' tells of a rising row: the number in its place. -/
theorem wsEnd_spec (id : Int) (L : List Int) (hs : L.Pairwise (· ≤ ·)) : (wsEnd id L).Perm (L ++ [id]) ∧ (wsEnd id L).Pairwise (· ≤ ·) := by
  obtain ⟨h1, h2⟩ := ws_form id _ L rfl
  unfold wsEnd
  cases hw : (ws id L).1 with
  | false =>
    obtain ⟨e1, e2⟩ := h1 hw
    rw [if_neg (by simp), e1]
    refine ⟨List.Perm.refl _, List.pairwise_append.2 ⟨hs, by simp, fun a ha b hb => ?_⟩⟩
    rw [List.mem_singleton.1 hb]; exact e2 a ha
  | true =>
    obtain ⟨a, y, b, e1, e2, e3, e4⟩ := h2 hw
    rw [if_pos rfl, e2]
    subst e1
    obtain ⟨p1, p2, p3⟩ := List.pairwise_append.1 hs
    refine ⟨?_, ?_⟩
    · refine List.perm_middle.trans ?_
      exact (List.perm_append_comm (l₁ := a ++ y :: b) (l₂ := [id])).symm
    · refine List.pairwise_append.2 ⟨p1, ?_, fun u hu v hv => ?_⟩
      · refine List.pairwise_cons.2 ⟨fun v hv => ?_, p2⟩
        rcases List.mem_cons.1 hv with rfl | hv
        · omega
        · have := (List.pairwise_cons.1 p2).1 v hv; omega
      · rcases List.mem_cons.1 hv with rfl | hv
        · exact e3 u hu
        · exact p3 u hu v hv

set_option maxRecDepth 100000 in
set_option maxHeartbeats 2000000 in
theorem with_calls (w : World) (A : Option Addr) (L : List Int) (c : Nat) (hR : Reads .i64 w A L) (hl : L.length ≤ 70000) (id : Int) :
    Calls Tryd.prog 60 #[.slice A L.length c, .int .i64 id] w fun e w' => IntsPost w (wsEnd id L) e w' := by
  have HR := Lib.hid hR
  have HL := Lib.hid hl
  clear hR hl
  go_enter Tryd.func60, Tryd.ntmps60
  go_wp2_with (fail)
  go_loopw [5, 6, 7] (fun l dv x wr => ∃ k : Nat, k ≤ L.length ∧ x = .int .i64 k ∧ ∃ (d : Bool) (M : List Int), dv = .bool d ∧ (∃ A1 c1, l = .slice A1 M.length c1 ∧ Hid (OwnInts wr w.heap.size 3 .i64 (.slice A1 M.length c1) M)) ∧ Hid (ws id (L.take k) = (d, M) ∧ Below w.heap.size w wr)) (fun _ _ x _ => L.length - (intOf x).toNat)
  case atStart => exact ⟨0, Nat.zero_le _, rfl, false, [], rfl, ⟨none, 0, rfl, OwnInts.nil _ _ _ _⟩, by simp [ws], Below.refl _ _⟩
  case round =>
    obtain ⟨k, hk, rfl, d, M, rfl, ⟨A1, c1, rfl, HO⟩, hB⟩ := hrel
    have hk7 : (k : Int) ≤ 70000 := by have := HL.out; omega
    have hml : M.length ≤ k + 1 := by
      have h1 := (ws_len id _ (L.take k) rfl).1
      rw [hB.out.1] at h1
      have h2 := List.length_take_le k L
      have h3 : (L.take k).length ≤ k := by rw [List.length_take]; omega
      simp only at h1; omega
    have HML : Hid (M.length + 2 ≤ 140737488355328 ∧ (M.length + 2) * 8 ≤ 140737488355328) := by have := HL.out; rw [Hid]; omega
    have HM1 : Hid (M.length + 1 ≤ 140737488355328 ∧ (M.length + 1) * 8 ≤ 140737488355328) := by have := HL.out; rw [Hid]; omega
    clear hml
    have HBs : Hid (w.heap.size ≤ wr.heap.size) := hB.out.2.size
    by_cases hlt : k < L.length
    · obtain ⟨x0, rfl, hcell⟩ := (HR.out.keep hB.out.2) (by omega)
      have hc1 := hcell k hlt
      have HC := Lib.hid hc1
      clear hcell
      have HK : Hid (k < L.length) := hlt
      have hstep : Hid (ws id (L.take (k + 1)) = wstep id (d, M) (lat L k)) := by rw [Hid, take_lat L k hlt, ws_snoc, hB.out.1]
      obtain ⟨x, hx⟩ : ∃ x, Hid (x = lat L k) := ⟨_, rfl⟩
      rw [← hx.out] at hc1
      by_cases hb : d = false ∧ id < x
      · obtain ⟨rfl, hi⟩ := hb
        have HW : Hid (ws id (L.take (k + 1)) = (true, M ++ [id] ++ [x])) := by rw [hstep.out]; unfold wstep; rw [if_pos ⟨rfl, by rw [← hx.out]; exact hi⟩, hx.out]; rfl
        have di : decide (id < x) = true := decide_eq_true hi
        clear hi hstep
        go_wp2_with (at_builtin; refine wp_append_int wr w.heap.size rfl _ _ 29 3 .i64 8 rfl Tryd.underlying29 Utf.info_int (.slice A1 M.length c1) M id rfl _ rfl (heap_new _ _) (Nat.le_refl _) (Turn.alloc _ _) HO.out HBs.out HM1.out ?_)
        intro g2 c2 w1 hown1 ht1 hloc hsz1
        have hB1 : Hid (Below w.heap.size w w1) := ht1.belowTrans hB.out.2 HBs.out (fun k hk e => by have := (own_block_ge HO.out k e).1; omega)
        have hown1' : OwnInts w1 w.heap.size 3 .i64 (.slice (some ⟨g2, 0, none⟩) (M ++ [id]).length c2) (M ++ [id]) := by
          rw [List.length_append, List.length_singleton]; exact hown1
        have HO1 := Lib.hid hown1'
        have hl1 : (M ++ [id]).length = M.length + 1 := by simp
        have hc2 : w1.cell? (x0.add k) = some (.int .i64 x) := by
          obtain ⟨y0, e0, hc⟩ := (HR.out.keep hB1.out) (by omega)
          injection e0 with e0
          subst e0
          rw [hx.out]
          exact hc k hlt
        clear ht1 hloc hown1 hown1' hc1
        rw [← hl1]
        have HM2 : Hid ((M ++ [id]).length + 1 ≤ 140737488355328 ∧ ((M ++ [id]).length + 1) * 8 ≤ 140737488355328) := by rw [Hid, hl1]; exact HML.out
        clear hl1
        obtain ⟨M1, hM1⟩ : ∃ M1, M1 = M ++ [id] := ⟨_, rfl⟩
        rw [← hM1] at HM2 HO1 HW ⊢
        clear hM1
        have HB1s : Hid (w.heap.size ≤ w1.heap.size) := hB1.out.size
        go_wp2_with (at_builtin; refine wp_append_int w1 w.heap.size rfl _ _ 29 3 .i64 8 rfl Tryd.underlying29 Utf.info_int (.slice (some ⟨g2, 0, none⟩) M1.length c2) M1 x rfl _ rfl (heap_new _ _) (Nat.le_refl _) (Turn.alloc _ _) HO1.out HB1s.out HM2.out ?_)
        intro g3 c3 w2 hown2 ht2 hloc hsz2
        have hB2 : Hid (Below w.heap.size w w2) := ht2.belowTrans hB1.out HB1s.out (fun k hk e => by have := (own_block_ge HO1.out k e).1; omega)
        have HO2 := Lib.hid hown2
        clear ht2 hloc hown2
        go_wp2_with (fail)
        go_roundw
        case rel =>
          refine ⟨k + 1, HK.out, by go_num, true, M1 ++ [x], rfl, ⟨some ⟨g3, 0, none⟩, c3, by rw [List.length_append, List.length_singleton], ?_⟩, HW.out, hB2.out⟩
          rw [List.length_append, List.length_singleton]
          exact HO2.out
        case measure => have := HK.out; simp [intOf]; omega
      · have HW : Hid (ws id (L.take (k + 1)) = (d, M ++ [x])) := by rw [hstep.out]; unfold wstep; rw [if_neg (by rw [← hx.out]; exact hb), hx.out]; rfl
        have hcase : Hid (d = true ∨ (d = false ∧ decide (id < x) = false)) := by
          cases d with
          | true => exact .inl rfl
          | false => exact .inr ⟨rfl, decide_eq_false (fun h => hb ⟨rfl, h⟩)⟩
        clear hb hstep
        rcases hcase.out with rfl | ⟨rfl, di⟩
        all_goals
          go_wp2_with (at_builtin; refine wp_append_int wr w.heap.size rfl _ _ 29 3 .i64 8 rfl Tryd.underlying29 Utf.info_int (.slice A1 M.length c1) M x rfl _ rfl (heap_new _ _) (Nat.le_refl _) (Turn.alloc _ _) HO.out HBs.out HM1.out ?_)
          intro g3 c3 w2 hown2 ht2 hloc hsz2
          have hB2 : Hid (Below w.heap.size w w2) := ht2.belowTrans hB.out.2 HBs.out (fun k hk e => by have := (own_block_ge HO.out k e).1; omega)
          have HO2 := Lib.hid hown2
          clear ht2 hloc hown2
          go_wp2_with (fail)
          go_roundw
          case rel =>
            refine ⟨k + 1, HK.out, by go_num, _, M ++ [x], rfl, ⟨some ⟨g3, 0, none⟩, c3, by rw [List.length_append, List.length_singleton], ?_⟩, HW.out, hB2.out⟩
            rw [List.length_append, List.length_singleton]
            exact HO2.out
          case measure => have := HK.out; simp [intOf]; omega
    · have hk' : L.take k = L := List.take_of_length_le (by omega)
      have HE : Hid (ws id L = (d, M)) := by have := hB.out.1; rwa [hk'] at this
      clear hk'
      cases d with
      | true =>
        have hM : Hid (M = wsEnd id L) := by unfold wsEnd; rw [HE.out]; rfl
        go_wp2_with (fail)
        go_ret
        exact ⟨_, _, _, rfl, by rw [← hM.out]; exact HO.out, hB.out.2⟩
      | false =>
        have hM : Hid (M ++ [id] = wsEnd id L) := by unfold wsEnd; rw [HE.out]; rfl
        go_wp2_with (at_builtin; refine wp_append_int wr w.heap.size rfl _ _ 29 3 .i64 8 rfl Tryd.underlying29 Utf.info_int (.slice A1 M.length c1) M id rfl _ rfl (heap_new _ _) (Nat.le_refl _) (Turn.alloc _ _) HO.out HBs.out HM1.out ?_)
        intro g3 c3 w2 hown2 ht2 hloc hsz2
        have hB2 : Hid (Below w.heap.size w w2) := ht2.belowTrans hB.out.2 HBs.out (fun k hk e => by have := (own_block_ge HO.out k e).1; omega)
        have HO2 := Lib.hid hown2
        clear ht2 hloc hown2
        go_wp2_with (fail)
        go_ret
        exact ⟨_, _, _, rfl, by rw [← hM.out]; exact HO2.out, hB2.out⟩
end Rcv
end Go.Proofs.YtonemmdipmohgaaDoor

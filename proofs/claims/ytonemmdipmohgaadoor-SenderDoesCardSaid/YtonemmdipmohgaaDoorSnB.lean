/- The reference of ids as a field of the reference's sender. -/
import Derived.Test.YtonemmdipmohgaaDoorIdsG
import Derived.Deep.LoopGhost
namespace Go.Proofs.YtonemmdipmohgaaDoor
open Go.RowKit Go.Maps
set_option linter.unusedVariables false
set_option linter.unusedSimpArgs false
namespace Snd
open Ids (cand some_free cand_succ filter_snoc info_int first_free cand_range)

structure RA (w : World) (base R : Nat) (q0 q1 q2 q3 v : Value) (L : List Int) (last : Int) : Prop where
  obj : w.heap[R]? = some (.cells #[q0, q1, q2, q3, v, .int .i64 last] 58)
  own : OwnInts w base 3 .i64 v L
  ne : v.ownBlock ≠ some R
theorem RA.c0 {w : World} {base R : Nat} {q0 q1 q2 q3 v : Value} {L : List Int} {last : Int} (h : RA w base R q0 q1 q2 q3 v L last) : w.cell? ⟨R, 4, none⟩ = some v := cell_heap h.obj
theorem RA.c1 {w : World} {base R : Nat} {q0 q1 q2 q3 v : Value} {L : List Int} {last : Int} (h : RA w base R q0 q1 q2 q3 v L last) : w.cell? ⟨R, 5, none⟩ = some (.int .i64 last) := cell_heap h.obj
theorem RA.f {w : World} {base R : Nat} {q0 q1 q2 q3 v : Value} {L : List Int} {last : Int} (h : RA w base R q0 q1 q2 q3 v L last) (i : Nat) : w.frozen? ⟨R, i, none⟩ = false := frozen_heap h.obj

set_option maxHeartbeats 1000000 in
theorem rused_calls (w : World) (base R : Nat) (q0 q1 q2 q3 v : Value) (L : List Int) (last : Int) (h : RA w base R q0 q1 q2 q3 v L last) (i : Int) :
    Calls Tryd.prog 70 #[.pointer (some ⟨R, 4, none⟩), .int .i64 i] w fun e w' => e = .returned (.bool (decide (i ∈ L))) ∧ w = w' := by
  have d0 := h.c0
  obtain ⟨A, c, rfl, hc, hm, hA⟩ := h.own.form
  clear h
  go_enter Tryd.func70, Tryd.ntmps70
  go_wp2
  go_loop [5] (fun x => ∃ k : Nat, k ≤ L.length ∧ x = .int .i64 k ∧ Hid (∀ j : Nat, j < k → lat L j ≠ i)) (fun x => L.length - (intOf x).toNat)
  case atStart => exact ⟨0, Nat.zero_le _, rfl, fun j hj => absurd hj (by omega)⟩
  case round =>
    obtain ⟨k, hk, rfl, hall⟩ := hrel
    by_cases hlt : k < L.length
    · obtain ⟨g, rfl, _, _, hcell⟩ := hA (by omega)
      have hc1 := hcell k hlt
      clear hcell hA
      by_cases hi : lat L k = i
      · have HF : Hid (Ending.returned (.bool true) = .returned (.bool (decide (i ∈ L)))) := by
          rw [Hid, decide_eq_true (hi ▸ lat_mem L k hlt)]
        have hb : (lat L k == i) = true := by simpa using hi
        clear hi
        go_wp2
        go_ret
        exact ⟨HF.out, rfl⟩
      · have HI := Lib.hid hi
        have hb : (lat L k == i) = false := by simpa using hi
        clear hi
        go_wp2
        go_round
        case rel =>
          refine ⟨k + 1, by omega, by go_num, fun j hj => ?_⟩
          rcases Nat.lt_succ_iff_lt_or_eq.1 hj with h1 | h1
          · exact hall.out j h1
          · subst h1; exact HI.out
        case measure => simp [intOf]; omega
    · have HF : Hid (Ending.returned (.bool false) = .returned (.bool (decide (i ∈ L)))) := by
        rw [Hid, decide_eq_false (fun hm => by
          obtain ⟨j, hj, e⟩ := mem_lat hm
          exact hall.out j (by omega) e)]
      go_wp2
      go_ret
      exact ⟨HF.out, rfl⟩

def RTakePost (w : World) (base R : Nat) (q0 q1 q2 q3 v : Value) (L : List Int) (last : Int) (e : Ending) (w' : World) : Prop :=
  (L.length < 65535 ∧ ∃ j : Nat, j < 65535 ∧ (∀ i : Nat, i < j → cand last i ∈ L) ∧ cand last j ∉ L ∧ e = .returned (.tuple #[.int .i64 (cand last j), .int .i64 0]) ∧
    ∃ v', RA w' base R q0 q1 q2 q3 v' (L ++ [cand last j]) (cand last j) ∧ (∀ i, v'.ownBlock = some i → v.ownBlock = some i ∨ w.heap.size ≤ i) ∧ Turn (fun k => k = R ∨ v.ownBlock = some k) w w') ∨
  (65535 ≤ L.length ∧ e = .returned (.tuple #[.int .i64 0, .int .i64 6]) ∧ w' = w)

set_option maxHeartbeats 1000000 in
set_option maxRecDepth 100000 in
theorem rtake_calls (w : World) (base R : Nat) (q0 q1 q2 q3 v : Value) (L : List Int) (last : Int) (h : RA w base R q0 q1 q2 q3 v L last) (h0 : 0 ≤ last) (h1 : last ≤ 65535) (hL : L.length ≤ 1000000) (hbase : base ≤ w.heap.size) :
    Calls Tryd.prog 57 #[.pointer (some ⟨R, 4, none⟩)] w fun e w' => RTakePost w base R q0 q1 q2 q3 v L last e w' := by
  have d0 := h.c0
  have d1 := h.c1
  obtain ⟨A, c, rfl, hc, hm, hA⟩ := h.own.form
  clear hA
  have HBASE := Lib.hid hbase
  clear hbase
  by_cases hfull : (65535 : Int) ≤ (L.length : Int)
  · go_enter Tryd.func57, Tryd.ntmps57
    go_wp2
    go_ret2
    exact .inr ⟨by omega, rfl, rfl⟩
  · have hfull' : (L.length : Int) < 65535 := by omega
    clear hfull
    have HA := Lib.hid h
    have hRl : R < w.heap.size := heap_lt h.obj
    clear h
    go_enter Tryd.func57, Tryd.ntmps57
    have h65 : ∃ K : Int, Hid (K = 65535) ∧ (L.length : Int) < K := ⟨65535, rfl, hfull'⟩
    have hd : decide ((65535 : Int) ≤ (L.length : Int)) = false := decide_eq_false (by omega)
    have HFULL := Lib.hid hfull'
    clear hfull' h65 hL
    go_wp2_with (fail)
    obtain ⟨N, hN⟩ : ∃ N : Nat, Hid (N = 65535) := ⟨65535, rfl⟩
    go_loopg [4] N (fun gk x wr => ∃ (j : Nat) (y : Int), Hid (j + gk = N) ∧ x = .int .i64 y ∧ 1 ≤ y ∧ y ≤ 65535 ∧ Hid (y = cand last j) ∧ Hid (∀ i : Nat, i < j → cand last i ∈ L) ∧ Hid (wr = w))
    case atStart => exact ⟨0, last % 65535 + 1, Nat.zero_add _, rfl, by omega, by omega, (by simp only [Hid, cand]; omega), fun i hi => absurd hi (by omega), rfl⟩
    case round =>
      obtain ⟨j, y, hj, rfl, hy1, hy2, hy, hall, hw⟩ := hrel
      obtain rfl := hw.out
      have hjlt : Hid (j < 65535 ∧ 0 < gk) := by
        have := hN.out
        have := hj.out
        rw [Hid]
        refine (fun h : j < 65535 => ⟨h, by omega⟩) ?_
        rcases Nat.lt_or_ge j 65535 with h | h
        · exact h
        · exact (some_free L last h0 h1 (by have := HFULL.out; omega) (fun i hi => hall.out i (by omega))).elim
      go_wp2_with (fail)
      by_cases hin : y ∈ L
      · refine (rused_calls _ _ _ _ _ _ _ _ _ _ HA.out y).mono ?_
        rintro e w' ⟨rfl, rfl⟩
        have HIN := Lib.hid hin
        rw [decide_eq_true hin]
        clear hin
        go_wp2_with (fail)
        have hj' := hj.out
        have hjl := hjlt.out
        have hN' := hN.out
        clear hjlt hj
        go_roundg (gk - 1)
        case measure => omega
        case rel =>
          refine ⟨j + 1, y % 65535 + 1, (by simp only [Hid]; omega), rfl, by omega, by omega, (by rw [Hid, hy.out, cand_succ]), fun i hi => ?_, rfl⟩
          rcases Nat.lt_succ_iff_lt_or_eq.1 hi with h | h
          · exact hall.out i h
          · subst h; rw [← hy.out]; exact HIN.out
      · refine (rused_calls _ _ _ _ _ _ _ _ _ _ HA.out y).mono ?_
        rintro e w' ⟨rfl, rfl⟩
        have HIN := Lib.hid hin
        rw [decide_eq_false hin]
        clear hin
        have f1 := HA.out.f 5
        have hlen : Hid (L.length + 1 ≤ 140737488355328 ∧ (L.length + 1) * 8 ≤ 140737488355328) := by rw [Hid]; have := HFULL.out; omega
        have HN1 : Hid (((wr.setCell ⟨R, 5, none⟩ (.int .i64 y)).alloc (.cells #[.int .i64 y] 3)).heap[wr.heap.size]? = some (.cells #[.int .i64 y] 3)) := by
          have := heap_new (wr.setCell ⟨R, 5, none⟩ (.int .i64 y)) (.cells #[.int .i64 y] 3)
          rwa [size_set] at this
        have HN2 : Hid ((wr.setCell ⟨R, 5, none⟩ (.int .i64 y)).heap.size ≤ wr.heap.size) := by rw [Hid, size_set]; exact Nat.le_refl _
        have HN3 : Hid (base ≤ (wr.setCell ⟨R, 5, none⟩ (.int .i64 y)).heap.size) := by rw [Hid, size_set]; exact HBASE.out
        have hown : OwnInts (wr.setCell ⟨R, 5, none⟩ (.int .i64 y)) base 3 .i64 (.slice A L.length c) L := HA.out.own.turn (Turn.setCell (S := (· = R)) wr _ rfl) (fun k hk e => HA.out.ne (by rw [hk, e]))
        have d0' : (wr.setCell ⟨R, 5, none⟩ (.int .i64 y)).cell? ⟨R, 4, none⟩ = some (.slice A L.length c) := by
          have := heap_set_same wr R 5 (.int .i64 y) HA.out.obj
          exact cell_heap this
        go_wp2_with (at_builtin; go_must (refine wp_append_int (wr.setCell ⟨R, 5, none⟩ (.int .i64 y)) base rfl _ _ 29 3 .i64 8 rfl Tryd.underlying29 info_int (.slice A L.length c) L y rfl wr.heap.size rfl HN1.out HN2.out (Turn.alloc _ _) hown HN3.out hlen.out ?_))
        intro g c2 w1 hown1 ht1 hloc hsz1
        have hne := HA.out.ne
        have ho1 : w1.heap[R]? = some (.cells #[q0, q1, q2, q3, .slice A L.length c, .int .i64 y] 58) :=
          (ht1.block R (by first | exact hRl | (rw [size_set]; exact hRl)) (fun e => hne e)).trans (heap_set_same wr R 5 (.int .i64 y) HA.out.obj)
        have d0'' := cell_heap (off := 4) ho1
        have f0'' := frozen_heap (off := 4) ho1
        have HF : Hid (RTakePost wr base R q0 q1 q2 q3 (.slice A L.length c) L last (.returned (.tuple #[.int .i64 y, .int .i64 0])) (w1.setCell ⟨R, 4, none⟩ (.slice (some ⟨g, 0, none⟩) (L.length + 1) c2))) := by
          have hg : g ≠ R := by
            rcases hloc with h | h
            · exact fun e => hne (by rw [h, e])
            · first | omega | (rw [size_set] at h; omega)
          have hcy := hy.out
          refine .inl ⟨by have := HFULL.out; omega, j, hjlt.out.1, hall.out, by rw [← hcy]; exact HIN.out, by rw [hcy], .slice (some ⟨g, 0, none⟩) (L.length + 1) c2, ?_, ?_⟩
          · rw [← hcy]
            refine ⟨heap_set_same w1 R 4 _ ho1, hown1.turn (Turn.setCell (S := (· = R)) w1 _ rfl) (fun k hk => ?_), ?_⟩
            · have : g = k := Option.some.inj hk
              omega
            · intro e; exact hg (Option.some.inj e)
          · refine ⟨fun i hi => ?_, ((Turn.setCell wr _ (.inl rfl)).trans (ht1.mono (fun k _ hk => .inr hk))).trans (Turn.setCell w1 _ (.inl rfl))⟩
            cases hi
            rcases hloc with h | h
            · exact .inl h
            · exact .inr h
        clear hne ht1 hown1 hloc ho1 hown d0 d1 d0' f1
        go_wp2_with (fail)
        go_ret2
        exact HF.out

def RFreePost (w : World) (base R : Nat) (q0 q1 q2 q3 : Value) (L : List Int) (last i : Int) (e : Ending) (w' : World) : Prop :=
  e = .returned (.bool (decide (i ∈ L))) ∧ ∃ v', RA w' base R q0 q1 q2 q3 v' (L.filter (· ≠ i)) last ∧ (∀ j, v'.ownBlock = some j → w.heap.size ≤ j) ∧ Turn (· = R) w w'

set_option maxHeartbeats 1000000 in
set_option maxRecDepth 100000 in
theorem rfree_calls (w : World) (base R : Nat) (q0 q1 q2 q3 v : Value) (L : List Int) (last : Int) (h : RA w base R q0 q1 q2 q3 v L last) (hL : L.length ≤ 1000000) (hbase : base ≤ w.heap.size) (i : Int) :
    Calls Tryd.prog 71 #[.pointer (some ⟨R, 4, none⟩), .int .i64 i] w fun e w' => RFreePost w base R q0 q1 q2 q3 L last i e w' := by
  have d0 := h.c0
  have HA := Lib.hid h
  have hRl : R < w.heap.size := heap_lt h.obj
  obtain ⟨A, c, rfl, hc, hm, hA⟩ := h.own.form
  have HL := Lib.hid hL
  have HBASE := Lib.hid hbase
  clear h hL hbase
  go_enter Tryd.func71, Tryd.ntmps71
  go_wp2_with (fail)
  go_loopw [5, 6] (fun l x wr => ∃ k : Nat, k ≤ L.length ∧ x = .int .i64 k ∧ (∃ A1 n1 c1, l = .slice A1 n1 c1 ∧ Hid (n1 = ((L.take k).filter (· ≠ i)).length ∧ OwnInts wr w.heap.size 3 .i64 (.slice A1 n1 c1) ((L.take k).filter (· ≠ i)))) ∧ Below w.heap.size w wr) (fun _ x _ => L.length - (intOf x).toNat)
  case atStart => exact ⟨0, Nat.zero_le _, rfl, ⟨none, 0, 0, rfl, by simp, OwnInts.nil _ _ _ _⟩, Below.refl _ _⟩
  case round =>
    obtain ⟨k, hk, rfl, ⟨A1, n1, c1, rfl, ho⟩, hB⟩ := hrel
    have d0' : wr.cell? ⟨R, 4, none⟩ = some (.slice A L.length c) := (hB.cell (p := ⟨R, 4, none⟩) hRl).trans d0
    by_cases hlt : k < L.length
    · obtain ⟨g, rfl, _, hgl, hcell⟩ := hA (by omega)
      have hc1 : wr.cell? ⟨g, k, none⟩ = some (.int .i64 (lat L k)) := (hB.cell (p := ⟨g, k, none⟩) hgl).trans (hcell k hlt)
      clear hcell hA
      by_cases hi : lat L k = i
      · have HI := Lib.hid hi
        have hb : (lat L k != i) = false := by simpa using hi
        clear hi
        go_wp2_with (fail)
        go_roundw
        case rel =>
          refine ⟨k + 1, by omega, by go_num, ⟨A1, n1, c1, rfl, ?_⟩, hB⟩
          rw [take_lat L k hlt, filter_snoc, if_pos HI.out, List.append_nil]
          exact ho.out
        case measure => simp [intOf]; omega
      · have HI := Lib.hid hi
        have hb : (lat L k != i) = true := by simpa using hi
        clear hi
        obtain ⟨M, hM⟩ : ∃ M, M = (L.take k).filter (· ≠ i) := ⟨_, rfl⟩
        have ho' := ho.out
        rw [← hM] at ho'
        obtain ⟨hn1, ho'⟩ := ho'
        subst hn1
        have hMl : M.length ≤ 1000000 := by
          rw [hM]
          have h1 := List.length_filter_le (· ≠ i) (L.take k)
          have h2 := List.length_take_le k L
          have := HL.out
          omega
        have HMl : Hid (M.length + 1 ≤ 140737488355328 ∧ (M.length + 1) * 8 ≤ 140737488355328) := by rw [Hid]; omega
        have HO := Lib.hid ho'
        have HM := Lib.hid hM
        clear hMl hM ho
        go_wp2_with (at_builtin; refine wp_append_int wr w.heap.size rfl _ _ 29 3 .i64 8 rfl Tryd.underlying29 info_int (.slice A1 M.length c1) M (lat L k) rfl _ rfl (heap_new _ _) (Nat.le_refl _) (Turn.alloc _ _) HO.out hB.size HMl.out ?_)
        intro g2 c2 w1 hown1 ht1 hloc hsz1
        have hB1 : Below w.heap.size w w1 := ht1.belowTrans hB hB.size (fun k hk e => by have := (own_block_ge ho' k e).1; omega)
        clear ho' ht1 hloc d0'
        go_wp2_with (fail)
        go_roundw
        case rel =>
          refine ⟨k + 1, by omega, by go_num, ⟨some ⟨g2, 0, none⟩, M.length + 1, c2, rfl, ?_⟩, hB1⟩
          rw [take_lat L k hlt, filter_snoc, if_neg HI.out, ← HM.out]
          exact ⟨by simp, hown1⟩
        case measure => simp [intOf]; omega
    · have hk' : L.take k = L := List.take_of_length_le (by omega)
      rw [hk'] at ho
      clear hk'
      obtain ⟨hn1, ho'⟩ := ho.out
      have hlen : (L.filter (· ≠ i)).length ≤ L.length := List.length_filter_le _ _
      rw [← hn1] at hlen
      have hoR : wr.heap[R]? = some (.cells #[q0, q1, q2, q3, .slice A L.length c, .int .i64 last] 58) := (hB.block R hRl).trans HA.out.obj
      have f0 := frozen_heap (off := 4) hoR
      have HF : Hid (RFreePost w base R q0 q1 q2 q3 L last i (.returned (.bool (decide (n1 < L.length)))) (wr.setCell ⟨R, 4, none⟩ (.slice A1 n1 c1))) := by
        refine ⟨?_, .slice A1 n1 c1, ⟨heap_set_same wr R 4 _ hoR, ?_, ?_⟩, fun j hj => (own_block_ge ho' j hj).1, (Turn.of_below hB).trans (Turn.setCell wr _ rfl)⟩
        · congr 2
          rw [decide_eq_decide, hn1]
          constructor
          · intro h
            by_cases hm : i ∈ L
            · exact hm
            · rw [List.filter_eq_self.2 (fun y hy => by simpa using fun e => hm (by rw [← e]; exact hy))] at h
              omega
          · intro h
            have h1 := List.length_filter_lt_length_iff_exists (l := L) (p := (· ≠ i))
            exact h1.2 ⟨i, h, by simp⟩
        · exact own_mono (ho'.turn (Turn.setCell (S := (· = R)) wr _ rfl) (fun k hk => by have := (own_block_ge ho' k hk).1; omega)) HBASE.out
        · intro e; have := (own_block_ge ho' R e).1; omega
      clear hn1 ho' ho hoR hA
      go_wp2_with (fail)
      go_ret
      exact HF.out

end Snd
end Go.Proofs.YtonemmdipmohgaaDoor

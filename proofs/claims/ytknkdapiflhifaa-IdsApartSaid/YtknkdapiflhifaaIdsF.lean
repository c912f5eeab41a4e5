/- The reference of ids: a list in a field behind a pointer. -/
import Derived.Test.YtknkdapiflhifaaIdsE
import Derived.Deep.LoopGhost
namespace Go.Proofs.Ytknkdapiflhifaa
open Go.RowKit Go.Maps
set_option linter.unusedVariables false
set_option linter.unusedSimpArgs false
namespace Ids

theorem info_int : (Try.prog.info? 3).map (fun i => (i.zero, i.size, i.bytes)) = some (some (.int .i64 0), 1, 8) := by kernel_rfl

/-- The reference's object at block R: its list L in a row from block 'base' on. -/
structure RAt (w : World) (base R : Nat) (v : Value) (L : List Int) (last : Int) : Prop where
  obj : w.heap[R]? = some (.cells #[v, .int .i64 last] 27)
  own : OwnInts w base 3 .i64 v L
  base : base ≤ R
  ne : v.ownBlock ≠ some R
theorem RAt.turn {w w' : World} {base R : Nat} {v : Value} {L : List Int} {last : Int} {S : Nat → Prop} (h : RAt w base R v L last) (t : Turn S w w') (hn : ∀ k, base ≤ k → ¬ S k) : RAt w' base R v L last :=
  ⟨(t.block R (heap_lt h.obj) (hn R h.base)).trans h.obj, h.own.turn t (fun k hk => hn k (own_block_ge h.own k hk).1), h.base, h.ne⟩
theorem RAt.c0 {w : World} {base R : Nat} {v : Value} {L : List Int} {last : Int} (h : RAt w base R v L last) : w.cell? ⟨R, 0, none⟩ = some v := cell_heap h.obj
theorem RAt.c1 {w : World} {base R : Nat} {v : Value} {L : List Int} {last : Int} (h : RAt w base R v L last) : w.cell? ⟨R, 1, none⟩ = some (.int .i64 last) := cell_heap h.obj
theorem RAt.f {w : World} {base R : Nat} {v : Value} {L : List Int} {last : Int} (h : RAt w base R v L last) (i : Nat) : w.frozen? ⟨R, i, none⟩ = false := frozen_heap h.obj

set_option maxHeartbeats 1000000 in
theorem rused_calls (w : World) (base R : Nat) (v : Value) (L : List Int) (last : Int) (h : RAt w base R v L last) (i : Int) :
    Calls Try.prog 15 #[.pointer (some ⟨R, 0, none⟩), .int .i64 i] w fun e w' => e = .returned (.bool (decide (i ∈ L))) ∧ w = w' := by
  have c0 := h.c0
  obtain ⟨A, c, rfl, hc, hm, hA⟩ := h.own.form
  clear h
  go_enter Try.func15, Try.ntmps15
  go_wp2
  go_loop [5] (fun x => ∃ k : Nat, k ≤ L.length ∧ x = .int .i64 k ∧ Hid (∀ j : Nat, j < k → lat L j ≠ i)) (fun x => L.length - (intOf x).toNat)
  case atStart => exact ⟨0, Nat.zero_le _, rfl, fun j hj => absurd hj (by omega)⟩
  case round =>
    obtain ⟨k, hk, rfl, hall⟩ := hrel
    by_cases hlt : k < L.length
    · obtain ⟨g, rfl, _, _, hcell⟩ := hA (by omega)
      have hc1 := hcell k hlt
      clear hcell hA
      by_cases hi : lat L k = i
      · have HF : Hid (Ending.returned (.bool true) = .returned (.bool (decide (i ∈ L)))) := by
          rw [Hid, decide_eq_true (hi ▸ lat_mem L k hlt)]
        have hb : (lat L k == i) = true := by simpa using hi
        clear hi
        go_wp2
        go_ret
        exact ⟨HF.out, rfl⟩
      · have HI := Lib.hid hi
        have hb : (lat L k == i) = false := by simpa using hi
        clear hi
        go_wp2
        go_round
        case rel =>
          refine ⟨k + 1, by omega, by go_num, fun j hj => ?_⟩
          rcases Nat.lt_succ_iff_lt_or_eq.1 hj with h1 | h1
          · exact hall.out j h1
          · subst h1; exact HI.out
        case measure => simp [intOf]; omega
    · have HF : Hid (Ending.returned (.bool false) = .returned (.bool (decide (i ∈ L)))) := by
        rw [Hid, decide_eq_false (fun hm => by
          obtain ⟨j, hj, e⟩ := mem_lat hm
          exact hall.out j (by omega) e)]
      go_wp2
      go_ret
      exact ⟨HF.out, rfl⟩

theorem subset_len : ∀ (A B : List Int), A.Nodup → (∀ x ∈ A, x ∈ B) → A.length ≤ B.length := by
  intro A
  induction A with
  | nil => intro B _ _; simp
  | cons a A ih =>
    intro B hn hs
    obtain ⟨ha, hn⟩ := List.nodup_cons.1 hn
    have h1 := ih (B.erase a) hn (fun x hx => (List.mem_erase_of_ne (fun e => ha (by rw [← e]; exact hx))).2 (hs x (by simp [hx])))
    have h2 := List.length_erase_of_mem (hs a (by simp))
    have h3 : 0 < B.length := List.length_pos_of_mem (hs a (by simp))
    simp only [List.length_cons]
    omega
theorem nodup_upTo (n : Nat) : (upTo n).Nodup := by
  induction n with
  | zero => simp [upTo]
  | succ n ih =>
    rw [upTo_succ, List.nodup_append]
    refine ⟨ih, by simp, fun a ha b hb e => ?_⟩
    have := (mem_upTo n a).1 ha
    simp at hb
    omega
/-- Who tries all finds one that is free, as long as not all are used. -/
theorem some_free (L : List Int) (last : Int) (h0 : 0 ≤ last) (h1 : last ≤ 65535) (hl : L.length < 65535) (hall : ∀ i : Nat, i < 65535 → cand last i ∈ L) : False := by
  have := subset_len (upTo 65535) L (nodup_upTo _) (fun x hx => by
    have hx := (mem_upTo _ x).1 hx
    have := hall ((x - 1 - last) % 65535).toNat (by omega)
    have e : cand last (((x - 1 - last) % 65535).toNat : Nat) = x := by unfold cand; omega
    rwa [e] at this)
  rw [length_upTo] at this
  omega
theorem cand_succ (last : Int) (j : Nat) : cand last j % 65535 + 1 = cand last (j + 1 : Nat) := by unfold cand; omega

def RTakePost (w : World) (base R : Nat) (L : List Int) (last : Int) (e : Ending) (w' : World) : Prop :=
  (L.length < 65535 ∧ ∃ j : Nat, j < 65535 ∧ (∀ i : Nat, i < j → cand last i ∈ L) ∧ cand last j ∉ L ∧ e = .returned (.tuple #[.int .i64 (cand last j), .int .i64 0]) ∧
    ∃ v', RAt w' base R v' (L ++ [cand last j]) (cand last j) ∧ Turn (base ≤ ·) w w') ∨
  (65535 ≤ L.length ∧ e = .returned (.tuple #[.int .i64 0, .int .i64 6]) ∧ w' = w)

set_option maxHeartbeats 1000000 in
set_option maxRecDepth 100000 in
theorem rtake_calls (w : World) (base R : Nat) (v : Value) (L : List Int) (last : Int) (h : RAt w base R v L last) (h0 : 0 ≤ last) (h1 : last ≤ 65535) (hL : L.length ≤ 1000000) :
    Calls Try.prog 10 #[.pointer (some ⟨R, 0, none⟩)] w fun e w' => RTakePost w base R L last e w' := by
  have c0 := h.c0
  have c1 := h.c1
  obtain ⟨A, c, rfl, hc, hm, hA⟩ := h.own.form
  clear hA
  by_cases hfull : (65535 : Int) ≤ (L.length : Int)
  · go_enter Try.func10, Try.ntmps10
    go_wp2
    go_ret2
    exact .inr ⟨by omega, rfl, rfl⟩
  · have hfull' : (L.length : Int) < 65535 := by omega
    clear hfull
    have HA := Lib.hid h
    have hRl : R < w.heap.size := heap_lt h.obj
    clear h
    go_enter Try.func10, Try.ntmps10
    have h65 : ∃ K : Int, Hid (K = 65535) ∧ (L.length : Int) < K := ⟨65535, rfl, hfull'⟩
    have hd : decide ((65535 : Int) ≤ (L.length : Int)) = false := decide_eq_false (by omega)
    have HFULL := Lib.hid hfull'
    clear hfull' h65 hL
    go_wp2_with (fail)
    obtain ⟨N, hN⟩ : ∃ N : Nat, Hid (N = 65535) := ⟨65535, rfl⟩
    go_loopg [4] N (fun gk x wr => ∃ (j : Nat) (y : Int), Hid (j + gk = N) ∧ x = .int .i64 y ∧ 1 ≤ y ∧ y ≤ 65535 ∧ Hid (y = cand last j) ∧ Hid (∀ i : Nat, i < j → cand last i ∈ L) ∧ Hid (wr = w))
    case atStart => exact ⟨0, last % 65535 + 1, Nat.zero_add _, rfl, by omega, by omega, (by simp only [Hid, cand]; omega), fun i hi => absurd hi (by omega), rfl⟩
    case round =>
      obtain ⟨j, y, hj, rfl, hy1, hy2, hy, hall, hw⟩ := hrel
      obtain rfl := hw.out
      have hjlt : Hid (j < 65535 ∧ 0 < gk) := by
        have := hN.out
        have := hj.out
        rw [Hid]
        refine (fun h : j < 65535 => ⟨h, by omega⟩) ?_
        rcases Nat.lt_or_ge j 65535 with h | h
        · exact h
        · exact (some_free L last h0 h1 (by have := HFULL.out; omega) (fun i hi => hall.out i (by omega))).elim
      go_wp2_with (fail)
      by_cases hin : y ∈ L
      · refine (rused_calls _ _ _ _ _ _ HA.out y).mono ?_
        rintro e w' ⟨rfl, rfl⟩
        have HIN := Lib.hid hin
        rw [decide_eq_true hin]
        clear hin
        go_wp2_with (fail)
        have hj' := hj.out
        have hjl := hjlt.out
        have hN' := hN.out
        clear hjlt hj
        go_roundg (gk - 1)
        case measure => omega
        case rel =>
          refine ⟨j + 1, y % 65535 + 1, (by simp only [Hid]; omega), rfl, by omega, by omega, (by rw [Hid, hy.out, cand_succ]), fun i hi => ?_, rfl⟩
          rcases Nat.lt_succ_iff_lt_or_eq.1 hi with h | h
          · exact hall.out i h
          · subst h; rw [← hy.out]; exact HIN.out
      · refine (rused_calls _ _ _ _ _ _ HA.out y).mono ?_
        rintro e w' ⟨rfl, rfl⟩
        have HIN := Lib.hid hin
        rw [decide_eq_false hin]
        clear hin
        have f1 := HA.out.f 1
        have hlen : Hid (L.length + 1 ≤ 140737488355328 ∧ (L.length + 1) * 8 ≤ 140737488355328) := by rw [Hid]; have := HFULL.out; omega
        have HN1 : Hid (((wr.setCell ⟨R, 1, none⟩ (.int .i64 y)).alloc (.cells #[.int .i64 y] 3)).heap[wr.heap.size]? = some (.cells #[.int .i64 y] 3)) := by
          have := heap_new (wr.setCell ⟨R, 1, none⟩ (.int .i64 y)) (.cells #[.int .i64 y] 3)
          rwa [size_set] at this
        have HN2 : Hid ((wr.setCell ⟨R, 1, none⟩ (.int .i64 y)).heap.size ≤ wr.heap.size) := by rw [Hid, size_set]; exact Nat.le_refl _
        have HN3 : Hid (base ≤ (wr.setCell ⟨R, 1, none⟩ (.int .i64 y)).heap.size) := by rw [Hid, size_set]; have := HA.out.base; omega
        have hown : OwnInts (wr.setCell ⟨R, 1, none⟩ (.int .i64 y)) base 3 .i64 (.slice A L.length c) L := HA.out.own.turn (Turn.setCell (S := (· = R)) wr _ rfl) (fun k hk e => HA.out.ne (by rw [hk, e]))
        have c0' : (wr.setCell ⟨R, 1, none⟩ (.int .i64 y)).cell? ⟨R, 0, none⟩ = some (.slice A L.length c) := by
          have := heap_set_same wr R 1 (.int .i64 y) HA.out.obj
          exact cell_heap this
        go_wp2_with (at_builtin; go_must (refine wp_append_int (wr.setCell ⟨R, 1, none⟩ (.int .i64 y)) base rfl _ _ 22 3 .i64 8 rfl Try.underlying22 info_int (.slice A L.length c) L y rfl wr.heap.size rfl HN1.out HN2.out (Turn.alloc _ _) hown HN3.out hlen.out ?_))
        intro g c2 w1 hown1 ht1 hloc hsz1
        have hne := HA.out.ne
        have ho1 : w1.heap[R]? = some (.cells #[.slice A L.length c, .int .i64 y] 27) :=
          (ht1.block R (by first | exact hRl | (rw [size_set]; exact hRl)) (fun e => hne e)).trans (heap_set_same wr R 1 (.int .i64 y) HA.out.obj)
        have c0'' := cell_heap (off := 0) ho1
        have f0'' := frozen_heap (off := 0) ho1
        have HF : Hid (RTakePost wr base R L last (.returned (.tuple #[.int .i64 y, .int .i64 0])) (w1.setCell ⟨R, 0, none⟩ (.slice (some ⟨g, 0, none⟩) (L.length + 1) c2))) := by
          have hb := HA.out.base
          have hg : g ≠ R := by
            rcases hloc with h | h
            · exact fun e => hne (by rw [h, e])
            · first | omega | (rw [size_set] at h; omega)
          have hb1 : ∀ k, (Value.slice A L.length c).ownBlock = some k → base ≤ k := fun k hk => (own_block_ge HA.out.own k hk).1
          have hgb : base ≤ g := by
            rcases hloc with h | h
            · exact hb1 g h
            · first | omega | (rw [size_set] at h; omega)
          have hcy := hy.out
          refine .inl ⟨by have := HFULL.out; omega, j, hjlt.out.1, hall.out, by rw [← hcy]; exact HIN.out, by rw [hcy], .slice (some ⟨g, 0, none⟩) (L.length + 1) c2, ?_, ?_⟩
          · rw [← hcy]
            refine ⟨heap_set_same w1 R 0 _ ho1, hown1.turn (Turn.setCell (S := (· = R)) w1 _ rfl) (fun k hk => ?_), hb, ?_⟩
            · have : g = k := Option.some.inj hk
              omega
            · intro e; exact hg (Option.some.inj e)
          · exact ((Turn.setCell wr _ hb).trans (ht1.mono (fun k _ hk => hb1 k hk))).trans (Turn.setCell w1 _ hb)
        clear hne ht1 hown1 hloc ho1 hown c0 c1 c0' f1
        go_wp2_with (fail)
        go_ret2
        exact HF.out

/-- What is not one of these stays. -/
theorem filter_snoc (i : Int) (L : List Int) (x : Int) : (L ++ [x]).filter (· ≠ i) = L.filter (· ≠ i) ++ (if x = i then [] else [x]) := by
  rw [List.filter_append]
  by_cases h : x = i
  · simp [h]
  · simp [h]

def RFreePost (w : World) (base R : Nat) (L : List Int) (last i : Int) (e : Ending) (w' : World) : Prop :=
  e = .returned (.bool (decide (i ∈ L))) ∧ ∃ v', RAt w' base R v' (L.filter (· ≠ i)) last ∧ Turn (· = R) w w'

set_option maxHeartbeats 1000000 in
set_option maxRecDepth 100000 in
theorem rfree_calls (w : World) (base R : Nat) (v : Value) (L : List Int) (last : Int) (h : RAt w base R v L last) (hL : L.length ≤ 1000000) (i : Int) :
    Calls Try.prog 12 #[.pointer (some ⟨R, 0, none⟩), .int .i64 i] w fun e w' => RFreePost w base R L last i e w' := by
  have c0 := h.c0
  have HA := Lib.hid h
  have hRl : R < w.heap.size := heap_lt h.obj
  obtain ⟨A, c, rfl, hc, hm, hA⟩ := h.own.form
  have HL := Lib.hid hL
  clear h hL
  go_enter Try.func12, Try.ntmps12
  go_wp2_with (fail)
  go_loopw [5, 6] (fun l x wr => ∃ k : Nat, k ≤ L.length ∧ x = .int .i64 k ∧ (∃ A1 n1 c1, l = .slice A1 n1 c1 ∧ Hid (n1 = ((L.take k).filter (· ≠ i)).length ∧ OwnInts wr w.heap.size 3 .i64 (.slice A1 n1 c1) ((L.take k).filter (· ≠ i)))) ∧ Below w.heap.size w wr) (fun _ x _ => L.length - (intOf x).toNat)
  case atStart => exact ⟨0, Nat.zero_le _, rfl, ⟨none, 0, 0, rfl, by simp, OwnInts.nil _ _ _ _⟩, Below.refl _ _⟩
  case round =>
    obtain ⟨k, hk, rfl, ⟨A1, n1, c1, rfl, ho⟩, hB⟩ := hrel
    have c0' : wr.cell? ⟨R, 0, none⟩ = some (.slice A L.length c) := (hB.cell (p := ⟨R, 0, none⟩) hRl).trans c0
    by_cases hlt : k < L.length
    · obtain ⟨g, rfl, _, hgl, hcell⟩ := hA (by omega)
      have hc1 : wr.cell? ⟨g, k, none⟩ = some (.int .i64 (lat L k)) := (hB.cell (p := ⟨g, k, none⟩) hgl).trans (hcell k hlt)
      clear hcell hA
      by_cases hi : lat L k = i
      · have HI := Lib.hid hi
        have hb : (lat L k != i) = false := by simpa using hi
        clear hi
        go_wp2_with (fail)
        go_roundw
        case rel =>
          refine ⟨k + 1, by omega, by go_num, ⟨A1, n1, c1, rfl, ?_⟩, hB⟩
          rw [take_lat L k hlt, filter_snoc, if_pos HI.out, List.append_nil]
          exact ho.out
        case measure => simp [intOf]; omega
      · have HI := Lib.hid hi
        have hb : (lat L k != i) = true := by simpa using hi
        clear hi
        obtain ⟨M, hM⟩ : ∃ M, M = (L.take k).filter (· ≠ i) := ⟨_, rfl⟩
        have ho' := ho.out
        rw [← hM] at ho'
        obtain ⟨hn1, ho'⟩ := ho'
        subst hn1
        have hMl : M.length ≤ 1000000 := by
          rw [hM]
          have h1 := List.length_filter_le (· ≠ i) (L.take k)
          have h2 := List.length_take_le k L
          have := HL.out
          omega
        have HMl : Hid (M.length + 1 ≤ 140737488355328 ∧ (M.length + 1) * 8 ≤ 140737488355328) := by rw [Hid]; omega
        have HO := Lib.hid ho'
        have HM := Lib.hid hM
        clear hMl hM ho
        go_wp2_with (at_builtin; refine wp_append_int wr w.heap.size rfl _ _ 22 3 .i64 8 rfl Try.underlying22 info_int (.slice A1 M.length c1) M (lat L k) rfl _ rfl (heap_new _ _) (Nat.le_refl _) (Turn.alloc _ _) HO.out hB.size HMl.out ?_)
        intro g2 c2 w1 hown1 ht1 hloc hsz1
        have hB1 : Below w.heap.size w w1 := ht1.belowTrans hB hB.size (fun k hk e => by have := (own_block_ge ho' k e).1; omega)
        clear ho' ht1 hloc c0'
        go_wp2_with (fail)
        go_roundw
        case rel =>
          refine ⟨k + 1, by omega, by go_num, ⟨some ⟨g2, 0, none⟩, M.length + 1, c2, rfl, ?_⟩, hB1⟩
          rw [take_lat L k hlt, filter_snoc, if_neg HI.out, ← HM.out]
          exact ⟨by simp, hown1⟩
        case measure => simp [intOf]; omega
    · have hk' : L.take k = L := List.take_of_length_le (by omega)
      rw [hk'] at ho
      clear hk'
      obtain ⟨hn1, ho'⟩ := ho.out
      have hlen : (L.filter (· ≠ i)).length ≤ L.length := List.length_filter_le _ _
      rw [← hn1] at hlen
      have hoR : wr.heap[R]? = some (.cells #[.slice A L.length c, .int .i64 last] 27) := (hB.block R hRl).trans HA.out.obj
      have f0 := frozen_heap (off := 0) hoR
      have HF : Hid (RFreePost w base R L last i (.returned (.bool (decide (n1 < L.length)))) (wr.setCell ⟨R, 0, none⟩ (.slice A1 n1 c1))) := by
        have hb := HA.out.base
        refine ⟨?_, .slice A1 n1 c1, ⟨heap_set_same wr R 0 _ hoR, ?_, hb, ?_⟩, (Turn.of_below hB).trans (Turn.setCell wr _ rfl)⟩
        · congr 2
          rw [decide_eq_decide, hn1]
          constructor
          · intro h
            by_cases hm : i ∈ L
            · exact hm
            · rw [List.filter_eq_self.2 (fun y hy => by simpa using fun e => hm (by rw [← e]; exact hy))] at h
              omega
          · intro h
            have h1 := List.length_filter_lt_length_iff_exists (l := L) (p := (· ≠ i))
            exact h1.2 ⟨i, h, by simp⟩
        · exact own_mono (ho'.turn (Turn.setCell (S := (· = R)) wr _ rfl) (fun k hk => by have := (own_block_ge ho' k hk).1; omega)) (by omega)
        · intro e; have := (own_block_ge ho' R e).1; omega
      clear hn1 ho' ho hoR hA
      go_wp2_with (fail)
      go_ret
      exact HF.out

end Ids
end Go.Proofs.Ytknkdapiflhifaa

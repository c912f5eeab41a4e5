/- IdsApart. -/
import Derived.Test.YtknkdapiflhifaaIdsG
namespace Go.Proofs.Ytknkdapiflhifaa
open Go.RowKit Go.Maps
set_option linter.unusedVariables false
set_option linter.unusedSimpArgs false
namespace Ids

theorem hid_mono {p q : Prop} (h : Hid p) (f : p → q) : Hid q := f h

set_option maxHeartbeats 4000000 in
set_option maxRecDepth 100000 in
theorem apart_walk (a0 : Option Addr) (len0 cap0 : Nat) (z0 : List Int) (w : World) (w0 : IsRow .i64 w a0 len0 cap0 z0) (y0 : cap0 * 8 ≤ 140737488351232) :
    Calls Try.prog 4 #[.slice a0 len0 cap0] w fun e w' => e = .returned (.bool true) ∧ Below w.heap.size w w' := by
  obtain ⟨hlc, hcm, hrow0⟩ := w0.form
  clear w0
  have hrow : ∀ i, i < len0 → ∃ x, a0 = some x ∧ x.block < w.heap.size ∧ w.cell? (x.add i) = some (.int .i64 (lat z0 i)) ∧ (Lit.int .i64 (lat z0 i)).wf = true := fun i hi => by
    obtain ⟨x, hx, hh⟩ := hrow0 (by omega)
    obtain ⟨h1, h2⟩ := hh i hi
    exact ⟨x, hx, by have := World.block_lt_of_cell? w _ h1; rwa [add_block] at this, h1, h2⟩
  have hlm : (len0 : Int) ≤ 140737488351232 := by omega
  by_cases hc3 : (300 : Int) < (len0 : Int)
  · go_enter Try.func4, Try.ntmps4
    go_wp2
    go_ret
    exact ⟨rfl, Below.refl _ _⟩
  have hc3' : (len0 : Int) ≤ 300 := by omega
  have hd3 : decide ((300 : Int) < (len0 : Int)) = false := decide_eq_false hc3
  have HROW := Lib.hid hrow
  clear hc3 y0 hcm hlm hrow hrow0
  go_enter Try.func4, Try.ntmps4
  go_wp2_with (fail)
  refine (new_calls _).mono ?_
  rintro e w1 ⟨rfl, h1, b1⟩
  obtain ⟨B, hB⟩ : ∃ B, Hid (B = w.heap.size + 1) := ⟨_, rfl⟩
  obtain ⟨base, hbase⟩ : ∃ b, Hid (b = w1.heap.size) := ⟨_, rfl⟩
  rw [← hB.out] at h1 ⊢
  have hBl : B < base := by rw [hbase.out]; exact heap_lt h1.obj
  have hbl : w.heap.size < base := by rw [hbase.out]; exact h1.set.lt
  have hbw : base ≤ w1.heap.size := by rw [hbase.out]; exact Nat.le_refl _
  go_wp2_with (fail)
  go_loopw [4, 5] (fun used i wr => ∃ (k : Nat) (L : List Int) (A : Option Addr) (c : Nat) (last : Int), k ≤ len0 ∧ i = .int .i64 k ∧ used = .slice A L.length c ∧ Hid (L.length ≤ k) ∧ At wr B w.heap.size L last ∧ Hid (OwnInts wr base 3 .i64 (.slice A L.length c) L) ∧ base ≤ wr.heap.size ∧ Below w.heap.size w wr) (fun _ i _ => len0 - (intOf i).toNat)
  case atStart => exact ⟨0, [], none, 0, 0, Nat.zero_le _, rfl, rfl, Nat.le_refl _, h1, OwnInts.nil _ _ _ _, hbw, b1⟩
  case round =>
    clear h1 b1 hbw
    obtain ⟨k, L, A, c, last, hk, rfl, rfl, hL, hA, hO, hbs, hBw⟩ := hrel
    have hlo := hA.lo
    have hhi := hA.hi
    by_cases hlt : k < len0
    · obtain ⟨x, rfl, hxl, hxc, hxw⟩ := HROW.out k hlt
      have hc := (hBw.cell (p := x.add k) (by rw [add_block]; exact hxl)).trans hxc
      have hLl : Hid (L.length ≤ 300) := by have := hL.out; rw [Hid]; omega
      by_cases h0 : lat z0 k = 0
      · have hb : (lat z0 k == 0) = true := by simpa using h0
        obtain ⟨j, hj1, hj2, hj3⟩ := first_free L last hlo hhi (by have := hLl.out; omega)
        obtain ⟨id, hid⟩ : ∃ id, Hid (cand last j = id) := ⟨_, rfl⟩
        have hidr := cand_range last j
        rw [hid.out] at hidr hj2
        have HJ := Lib.hid (And.intro hj1 (And.intro hj2 hj3))
        clear hj1 hj2 hj3 h0
        obtain ⟨hid1, hid2⟩ := hidr
        go_wp2_with (fail)
        refine (take_is _ _ _ _ _ hA j id HJ.out.1 hid.out HJ.out.2.1 HJ.out.2.2).mono ?_
        rintro e w2 ⟨rfl, hA2, t2⟩
        have hB2 : Below w.heap.size w w2 := t2.belowTrans hBw hBw.size (fun k hk => by have := hB.out; rintro (rfl | rfl) <;> omega)
        have hO2 : Hid (OwnInts w2 base 3 .i64 (.slice A L.length c) L) := hO.out.turn t2 (fun k hk => by have := (own_block_ge hO.out k hk).1; rintro (rfl | rfl) <;> omega)
        have hbs2 : base ≤ w2.heap.size := Nat.le_trans hbs t2.size
        have hm : decide (id ∈ L ++ [id]) = true := by simp
        clear hc t2 hA hO hBw hbs hxc
        go_wp2_with (fail)
        refine (used_is _ _ _ _ _ hA2 id true (wf_i64 (by omega) (by omega)) hm).mono ?_
        rintro e w3 ⟨rfl, rfl⟩
        clear hm
        go_wp2_with (fail)
        go_loop [8] (fun i => ∃ q : Nat, q ≤ L.length ∧ i = .int .i64 q) (fun i => L.length - (intOf i).toNat)
        case atStart => exact ⟨0, Nat.zero_le _, rfl⟩
        case round =>
          obtain ⟨q, hq, rfl⟩ := hrel
          obtain ⟨A', c', hAc, hcc, hcm, hcell⟩ := hO2.out.form
          obtain ⟨rfl, -, rfl⟩ : A = A' ∧ True ∧ c = c' := by injection hAc with h1 _ h2; exact ⟨h1, trivial, h2⟩
          clear hAc
          by_cases hql : q < L.length
          · obtain ⟨g, rfl, hg1, hg2, hcell⟩ := hcell (by omega)
            have hqc := hcell q hql
            have hne : (lat L q == id) = false := by
              rw [beq_eq_false_iff_ne]
              intro e
              exact HJ.out.2.1 (e ▸ lat_mem L q hql)
            clear hcell
            go_wp2_with (fail)
            go_round
            case rel => exact ⟨q + 1, by omega, by go_num⟩
            case measure => simp [intOf]; omega
          · clear hcell
            have HLN : Hid (L.length + 1 ≤ 140737488355328 ∧ (L.length + 1) * 8 ≤ 140737488355328) := by rw [Hid]; have := hLl.out; omega
            go_wp2_with (at_builtin; refine wp_append_int w2 base rfl _ _ 22 3 .i64 8 rfl Try.underlying22 info_int (.slice A L.length c) L id rfl _ rfl (heap_new _ _) (Nat.le_refl _) (Turn.alloc _ _) hO2.out hbs2 HLN.out ?_)
            intro g2 c2 w4 hown4 ht4 hloc hsz4
            have hB4 : Below w.heap.size w w4 := ht4.belowTrans hB2 hB2.size (fun k hk e => by have := (own_block_ge hO2.out k e).1; omega)
            have hA4 := hA2.turn ht4 (fun e => by have := (own_block_ge hO2.out _ e).1; omega) (fun e => by have := (own_block_ge hO2.out _ e).1; omega)
            clear ht4 hloc
            go_wp2_with (fail)
            go_roundw
            case rel => exact ⟨k + 1, L ++ [id], some ⟨g2, 0, none⟩, c2, id, by omega, by go_num, by simp, by have := hL.out; simp only [Hid, List.length_append, List.length_singleton]; omega, hA4, by simp only [Hid, List.length_append, List.length_singleton]; exact hown4, by omega, hB4⟩
            case measure => simp [intOf]; omega
      · have hb : (lat z0 k == 0) = false := by simpa using h0
        clear h0
        obtain ⟨s, hs⟩ : ∃ s, Hid (lat z0 k = s) := ⟨_, rfl⟩
        rw [hs.out] at hc hb hxc hxw
        obtain ⟨wo, rfl⟩ : ∃ wo : World, wo = wr := ⟨_, rfl⟩
        go_wp2_with (fail)
        go_loopw [9, 10] (fun l i wr => ∃ (q : Nat) (A1 : Option Addr) (n1 c1 : Nat), q ≤ L.length ∧ i = .int .i64 q ∧ l = .slice A1 n1 c1 ∧ Hid (n1 = ((L.take q).filter (· ≠ s)).length ∧ OwnInts wr wo.heap.size 3 .i64 (.slice A1 n1 c1) ((L.take q).filter (· ≠ s))) ∧ Below wo.heap.size wo wr) (fun _ i _ => L.length - (intOf i).toNat)
        case atStart => exact ⟨0, none, 0, 0, Nat.zero_le _, rfl, rfl, ⟨by simp, OwnInts.nil _ _ _ _⟩, Below.refl _ _⟩
        case round =>
          obtain ⟨q, A1, n1, c1, hq, rfl, rfl, ho, hBo⟩ := hrel
          have hO2 : Hid (OwnInts wr base 3 .i64 (.slice A L.length c) L) := hO.out.turn (Turn.of_below (S := fun _ => False) hBo) (fun _ _ h => h)
          have hc2 := (hBo.cell (p := x.add k) (by rw [add_block]; exact Nat.lt_of_lt_of_le hxl hBw.size)).trans hc
          have hlen : Hid (((L.take q).filter (· ≠ s)).length ≤ 300) := by
            have h1 := List.length_filter_le (· ≠ s) (L.take q)
            have h2 := List.length_take_le q L
            have := hLl.out
            rw [Hid]; omega
          by_cases hql : q < L.length
          · obtain ⟨A', c', hAc, hcc, hcm, hcell⟩ := hO2.out.form
            obtain ⟨rfl, -, rfl⟩ : A = A' ∧ True ∧ c = c' := by injection hAc with h1 _ h2; exact ⟨h1, trivial, h2⟩
            clear hAc
            obtain ⟨g, rfl, hg1, hg2, hcell⟩ := hcell (by omega)
            have hqc := hcell q hql
            clear hcell
            by_cases hi : lat L q = s
            · have HI := Lib.hid hi
              have hbb : (lat L q != s) = false := by simpa using hi
              clear hi
              go_wp2_with (fail)
              go_quiet (fail)
              go_wp2_with (fail)
              go_roundw
              case rel =>
                refine ⟨q + 1, A1, n1, c1, by omega, by go_num, rfl, ?_, below_drewN hBo _⟩
                rw [take_lat L q hql, filter_snoc, if_pos HI.out, List.append_nil]
                exact ⟨ho.out.1, ho.out.2.turn (Turn.drewN (Turn.refl (fun _ => False) _) _) (fun _ _ h => h)⟩
              case measure => simp [intOf]; omega
            · have HI := Lib.hid hi
              have hbb : (lat L q != s) = true := by simpa using hi
              clear hi
              obtain ⟨M, hM⟩ : ∃ M, M = (L.take q).filter (· ≠ s) := ⟨_, rfl⟩
              have ho' := ho.out
              rw [← hM] at ho' hlen
              obtain ⟨hn1, ho'⟩ := ho'
              subst hn1
              have HM := Lib.hid hM
              have HO := Lib.hid ho'
              clear hM ho ho'
              go_wp2_with (fail)
              go_quiet (fail)
              have HLN : Hid (M.length + 1 ≤ 140737488355328 ∧ (M.length + 1) * 8 ≤ 140737488355328) := by rw [Hid]; have := hlen.out; omega
              go_wp2_with (at_builtin; go_must (refine wp_append_int wr wo.heap.size rfl _ _ 22 3 .i64 8 rfl Try.underlying22 info_int (.slice A1 M.length c1) M (lat L q) rfl _ rfl (heap_new wr _) (Nat.le_refl _) ((Turn.alloc wr _).drewN _) HO.out hBo.size HLN.out ?_))
              intro g2 c2 w1 hown1 ht1 hloc hsz1
              have hB1 : Below wo.heap.size wo w1 := ht1.belowTrans hBo hBo.size (fun k hk e => by have := (own_block_ge HO.out k e).1; omega)
              clear ht1 hloc
              go_wp2_with (fail)
              go_roundw
              case rel =>
                refine ⟨q + 1, some ⟨g2, 0, none⟩, M.length + 1, c2, by omega, by go_num, rfl, ?_, hB1⟩
                rw [take_lat L q hql, filter_snoc, if_neg HI.out, ← HM.out]
                exact ⟨by simp, hown1⟩
              case measure => simp [intOf]; omega
          · have hk' : L.take q = L := List.take_of_length_le (by omega)
            rw [hk'] at ho hlen
            clear hk'
            have hnl : Hid (n1 = (L.filter (· ≠ s)).length) := ho.out.1
            obtain ⟨u, hu⟩ : ∃ u, Hid (decide (s ∈ L) = u) := ⟨_, rfl⟩
            have hnu : decide (n1 < L.length) = u := by
              rw [← hu.out, decide_eq_decide, hnl.out]
              constructor
              · intro h
                by_cases hm : s ∈ L
                · exact hm
                · rw [List.filter_eq_self.2 (fun y hy => by simpa using fun e => hm (by rw [← e]; exact hy))] at h
                  omega
              · intro h
                exact (List.length_filter_lt_length_iff_exists (l := L) (p := (· ≠ s))).2 ⟨s, h, by simp⟩
            have hnu' : decide ((n1 : Int) < (L.length : Int)) = u := by
              rw [← hnu, decide_eq_decide]; omega
            have HNU := Lib.hid hnu
            have HNU' := Lib.hid hnu'
            clear hnu hnu'
            have hA2 : At wr B w.heap.size L last := hA.turn (Turn.of_below (S := fun _ => False) hBo) (fun h => h) (fun h => h)
            have hBw2 : Below w.heap.size w wr := hBw.trans (hBo.mono hBw.size)
            go_wp2_with (fail)
            refine (free_is _ _ _ _ _ hA2 s u hxw hu.out).mono ?_
            rintro e w3 ⟨rfl, hA3, t3⟩
            have hB3 : Below w.heap.size w w3 := t3.belowTrans hBw2 hBw2.size (fun k hk => by have := hB.out; rintro (rfl | rfl) <;> omega)
            have hc3 := (hB3.cell (p := x.add k) (by rw [add_block]; exact hxl)).trans hxc
            have hnus := HNU.out
            have hnus' := HNU'.out
            have hM3 : decide (s ∈ L.filter (· ≠ s)) = false := by simp
            clear hc2
            have hO3 : Hid (n1 = (L.filter (· ≠ s)).length ∧ OwnInts w3 base 3 .i64 (.slice A1 n1 c1) (L.filter (· ≠ s))) :=
              ⟨hnl.out, own_mono (ho.out.2.turn t3 (fun k hk => by have := (own_block_ge ho.out.2 k hk).1; rintro (rfl | rfl) <;> omega)) hbs⟩
            clear ho hO2 hO hA hA2 hc
            have hUsed := Lib.hid (used_is (h := hA3) (i := s) (v := false) (hi := hxw) (hv := hM3))
            clear hM3
            go_wp2_with (fail)
            refine hUsed.out.mono ?_
            rintro e w4 ⟨rfl, rfl⟩
            go_wp2_with (fail)
            go_roundw
            case rel =>
              have hl : Hid ((L.filter (· ≠ s)).length ≤ k + 1) := by
                have := List.length_filter_le (· ≠ s) L
                have := hL.out
                rw [Hid]; omega
              exact ⟨k + 1, L.filter (· ≠ s), A1, c1, last, by omega, by go_num, by rw [hnl.out], hl, hA3, by have := hO3.out; rw [this.1] at this; exact this.2, by have := hBo.size; have := t3.size; omega, hB3⟩
            case measure => simp [intOf]; omega
    · go_wp2_with (fail)
      refine (awake_calls _).mono ?_
      rintro e w6 ⟨rfl, hb6⟩
      have hA6 : At w6 B w.heap.size L last := hA.turn (Turn.of_below (S := fun _ => False) hb6) (fun h => h) (fun h => h)
      have HC := Lib.hid (count_calls (h := hA6))
      go_wp2_with (fail)
      refine HC.out.mono ?_
      rintro e w7 ⟨rfl, rfl⟩
      go_wp2_with (fail)
      go_ret
      exact ⟨by simp, hBw.trans (hb6.mono hBw.size)⟩

end Ids
end Go.Proofs.Ytknkdapiflhifaa

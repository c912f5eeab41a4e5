/- IdsDoes: the program against the reference, call by call. -/
import Derived.Test.YtknkdapiflhifaaIdsF
import Derived.WalkSmall
namespace Go.Proofs.Ytknkdapiflhifaa
open Go.RowKit Go.Maps
set_option linter.unusedVariables false
set_option linter.unusedSimpArgs false
namespace Ids

theorem first_free (L : List Int) (last : Int) (h0 : 0 ≤ last) (h1 : last ≤ 65535) (hl : L.length < 65535) : ∃ j : Nat, j < 65535 ∧ cand last j ∉ L ∧ ∀ i : Nat, i < j → cand last i ∈ L := by
  by_cases h : ∃ j : Nat, j < 65535 ∧ cand last j ∉ L
  · obtain ⟨j, hj⟩ := h
    induction j using Nat.strongRecOn with
    | _ j ih =>
      by_cases h : ∀ i : Nat, i < j → cand last i ∈ L
      · exact ⟨j, hj.1, hj.2, h⟩
      · simp only [Classical.not_forall] at h
        obtain ⟨i, hi, hn⟩ := h
        exact ih i hi ⟨by omega, hn⟩
  · exact (some_free L last h0 h1 hl (fun i hi => Classical.byContradiction fun hn => h ⟨i, hi, hn⟩)).elim

theorem rtake_is (w : World) (base R : Nat) (v : Value) (L : List Int) (last : Int) (h : RAt w base R v L last) (h0 : 0 ≤ last) (h1 : last ≤ 65535) (hL : L.length < 65535) (j : Nat) (id : Int) (hj : j < 65535) (hc : cand last j = id) (hn : id ∉ L) (hb : ∀ i : Nat, i < j → cand last i ∈ L) :
    Calls Try.prog 10 #[.pointer (some ⟨R, 0, none⟩)] w fun e w' => e = .returned (.tuple #[.int .i64 id, .int .i64 0]) ∧ (∃ v', RAt w' base R v' (L ++ [id]) id) ∧ Turn (base ≤ ·) w w' := by
  refine (rtake_calls w base R v L last h h0 h1 (by omega)).mono ?_
  rintro e w' (⟨_, j', h1, h2, h3, rfl, v', h5, h6⟩ | ⟨h1, _⟩)
  · have : j' = j := by
      rcases Nat.lt_trichotomy j' j with h | h | h
      · exact absurd (hb j' h) h3
      · exact h
      · exact absurd (hc ▸ h2 j h) hn
    subst this
    rw [hc] at h5 ⊢
    exact ⟨rfl, ⟨v', h5⟩, h6⟩
  · exact absurd h1 (by omega)
theorem rfree_is (w : World) (base R : Nat) (v : Value) (L : List Int) (last : Int) (h : RAt w base R v L last) (hL : L.length ≤ 1000000) (i : Int) :
    Calls Try.prog 12 #[.pointer (some ⟨R, 0, none⟩), .int .i64 i] w fun e w' => e = .returned (.bool (decide (i ∈ L))) ∧ (∃ v', RAt w' base R v' (L.filter (· ≠ i)) last) ∧ Turn (base ≤ ·) w w' := by
  refine (rfree_calls w base R v L last h hL i).mono ?_
  rintro e w' ⟨rfl, v', h1, h2⟩
  exact ⟨rfl, ⟨v', h1⟩, h2.mono (fun k _ e => by subst e; exact h.base)⟩

theorem At.drewN {w : World} {B b : Nat} {L : List Int} {last : Int} (h : At w B b L last) (n : Nat) : At (w.drewN n) B b L last := h.turn (Turn.drewN (Turn.refl (fun _ => False) _) n) (fun h => h) (fun h => h)
theorem RAt.drewN {w : World} {base R : Nat} {v : Value} {L : List Int} {last : Int} (h : RAt w base R v L last) (n : Nat) : RAt (w.drewN n) base R v L last := h.turn (Turn.drewN (Turn.refl (fun _ => False) _) n) (fun _ _ h => h)
/-- Both objects, alike; the program's lies below the reference's rows. -/
structure Two (w : World) (B b base R : Nat) (L : List Int) (last : Int) : Prop where
  a : At w B b L last
  r : ∃ v, RAt w base R v L last
  l1 : B < base
  l2 : b < base
theorem Two.turn {w w' : World} {B b base R : Nat} {L : List Int} {last : Int} (h : Two w B b base R L last) (t : Turn (fun _ => False) w w') : Two w' B b base R L last :=
  ⟨h.a.turn t (fun h => h) (fun h => h), let ⟨v, hv⟩ := h.r; ⟨v, hv.turn t (fun _ _ h => h)⟩, h.l1, h.l2⟩

theorem two_take (w : World) (B b base R : Nat) (L : List Int) (last : Int) (h : Two w B b base R L last) (j : Nat) (id : Int) (hj : j < 65535) (hc : cand last j = id) (hn : id ∉ L) (hb : ∀ i : Nat, i < j → cand last i ∈ L) :
    Calls Try.prog 9 #[.pointer (some ⟨B, 0, none⟩)] w fun e w' => e = .returned (.tuple #[.int .i64 id, .int .i64 0]) ∧ At w' B b (L ++ [id]) id ∧ (∃ v, RAt w' base R v L last) ∧ Turn (P2 B b) w w' := by
  obtain ⟨ha, ⟨v, hr⟩, l1, l2⟩ := h
  refine (take_is w B b L last ha j id hj hc hn hb).mono ?_
  rintro e w' ⟨rfl, h1, t⟩
  exact ⟨rfl, h1, ⟨v, hr.turn t (fun k hk => by rintro (rfl | rfl) <;> omega)⟩, t⟩

theorem below_two {w0 w w' : World} {base : Nat} (h : Below w0.heap.size w0 w) (t : Turn (base ≤ ·) w w') (hb : w0.heap.size ≤ base) : Below w0.heap.size w0 w' :=
  t.belowTrans h h.size (fun k hk h => by omega)

set_option maxHeartbeats 4000000 in
set_option maxRecDepth 100000 in
theorem does_walk (a0 : Int) (a1 : Option Addr) (len1 cap1 : Nat) (z1 : List Int) (w : World) (w0 : (Lit.int .i64 a0).wf = true) (w1 : IsRow .i64 w a1 len1 cap1 z1) (y1 : cap1 * 8 ≤ 140737488351232) :
    Calls Try.prog 3 #[.int .i64 a0, .slice a1 len1 cap1] w fun e w' => e = .returned (.bool true) ∧ Below w.heap.size w w' := by
  clear w0
  obtain ⟨hlc, hcm, hrow0⟩ := w1.form
  clear w1
  have hrow : ∀ i, i < len1 → ∃ x, a1 = some x ∧ x.block < w.heap.size ∧ w.cell? (x.add i) = some (.int .i64 (lat z1 i)) ∧ (Lit.int .i64 (lat z1 i)).wf = true := fun i hi => by
    obtain ⟨x, hx, hh⟩ := hrow0 (by omega)
    obtain ⟨h1, h2⟩ := hh i hi
    exact ⟨x, hx, by have := World.block_lt_of_cell? w _ h1; rwa [add_block] at this, h1, h2⟩
  have hlm : (len1 : Int) ≤ 140737488351232 := by omega
  by_cases hc1 : a0 < 0
  · go_enter Try.func3, Try.ntmps3
    go_wp2
    go_ret
    exact ⟨rfl, Below.refl _ _⟩
  by_cases hc2 : 140000 < a0
  · go_enter Try.func3, Try.ntmps3
    go_wp2
    go_ret
    exact ⟨rfl, Below.refl _ _⟩
  by_cases hc3 : (200 : Int) < (len1 : Int)
  · go_enter Try.func3, Try.ntmps3
    go_wp2
    go_ret
    exact ⟨rfl, Below.refl _ _⟩
  have hc1' : 0 ≤ a0 := by omega
  have hc2' : a0 ≤ 140000 := by omega
  have hc3' : (len1 : Int) ≤ 200 := by omega
  have hd1 : decide (a0 < 0) = false := decide_eq_false hc1
  have hd2 : decide (140000 < a0) = false := decide_eq_false hc2
  have hd3 : decide ((200 : Int) < (len1 : Int)) = false := decide_eq_false hc3
  clear hc1 hc2 hc3 y1 hcm hlm
  go_enter Try.func3, Try.ntmps3
  go_wp2_with (fail)
  refine (new_calls _).mono ?_
  rintro e w1 ⟨rfl, h1, b1⟩
  obtain ⟨R, hR⟩ : ∃ R, R = w1.heap.size := ⟨_, rfl⟩
  obtain ⟨B, hB⟩ : ∃ B, Hid (B = w.heap.size + 1) := ⟨_, rfl⟩
  rw [← hB.out] at h1 ⊢
  have HB0 := hB
  have hR1 : w.heap.size ≤ R := hR ▸ b1.size
  have hBR : B < R := hR ▸ heap_lt h1.obj
  have hbR : w.heap.size < R := hR ▸ h1.set.lt
  have hT0 : Two (w1.alloc (.cells #[.slice none 0 0, .int .i64 0] 27)) B w.heap.size R R [] 0 :=
    ⟨h1.turn (Turn.alloc (S := fun _ => False) _ _) (fun h => h) (fun h => h), ⟨.slice none 0 0, by rw [hR]; exact heap_new _ _, OwnInts.nil _ _ _ _, Nat.le_refl _, by simp [Value.ownBlock]⟩, hBR, hbR⟩
  have HR := Lib.hid hR
  have b1' := (b1.alloc (Nat.le_trans b1.size (Nat.le_refl _)) (.cells #[.slice none 0 0, .int .i64 0] 27))
  have HROW := Lib.hid hrow
  clear h1 hrow hrow0 hR
  go_wp2_with (fail)
  rw [← HR.out]
  obtain ⟨W, hW⟩ : ∃ W, W = w1.alloc (.cells #[.slice none 0 0, .int .i64 0] 27) := ⟨_, rfl⟩
  rw [← hW] at hT0 b1' ⊢
  clear hW HR b1
  go_loopw [7] (fun i wr => ∃ y last : Int, 0 ≤ y ∧ y ≤ a0 ∧ i = .int .i64 y ∧ Two wr B w.heap.size R R [] last ∧ Below w.heap.size w wr) (fun i _ => (a0 - intOf i).toNat)
  case atStart => exact ⟨0, 0, by omega, by omega, rfl, hT0, b1'⟩
  case round =>
    clear hT0 b1'
    obtain ⟨y, last, hy1, hy2, rfl, hT, hBl⟩ := hrel
    by_cases hlt : y < a0
    · obtain ⟨id, hid⟩ : ∃ id, Hid (cand last (0 : Nat) = id) := ⟨_, rfl⟩
      have hidr := cand_range last (0 : Nat)
      rw [show ((0 : Nat) : Int) = ((0 : Nat) : Int) from rfl, hid.out] at hidr
      have hlo := hT.a.lo
      have hhi := hT.a.hi
      go_wp2_with (fail)
      refine (two_take _ _ _ _ _ _ _ hT 0 id (by omega) hid.out (by simp) (fun i hi => absurd hi (by omega))).mono ?_
      rintro e w2 ⟨rfl, hA2, ⟨v2, hR2⟩, t2⟩
      go_wp2_with (fail)
      refine (rtake_is _ _ _ _ _ _ hR2 hlo hhi (by simp) 0 id (by omega) hid.out (by simp) (fun i hi => absurd hi (by omega))).mono ?_
      rintro e w3 ⟨rfl, ⟨v3, hR3⟩, t3⟩
      have hA3 := hA2.turn t3 (by have := hT.l1; omega) (by have := hT.l2; omega)
      go_wp2_with (fail)
      refine (free_is _ _ _ _ _ hA3 id true (wf_i64 (by omega) (by omega)) (by simp)).mono ?_
      rintro e w4 ⟨rfl, hA4, t4⟩
      have hR4 := hR3.turn t4 (fun k hk => by have := hT.l1; have := hT.l2; rintro (rfl | rfl) <;> omega)
      go_wp2_with (fail)
      refine (rfree_is _ _ _ _ _ _ hR4 (by simp) id).mono ?_
      rintro e w5 ⟨rfl, ⟨v5, hR5⟩, t5⟩
      have hA5 := hA4.turn t5 (by have := hT.l1; omega) (by have := hT.l2; omega)
      have ef : (([] ++ [id] : List Int).filter (· ≠ id)) = [] := by simp
      have em : decide (id ∈ ([] ++ [id] : List Int)) = true := by simp
      rw [ef] at hA5 hR5
      rw [em]
      have hB2 : Below w.heap.size w w2 := t2.belowTrans hBl hBl.size (fun k hk => by have := HB0.out; rintro (rfl | rfl) <;> omega)
      have hB3 := below_two hB2 t3 hR1
      have hB4 : Below w.heap.size w w4 := t4.belowTrans hB3 hB3.size (fun k hk => by have := HB0.out; rintro (rfl | rfl) <;> omega)
      have hB5 := below_two hB4 t5 hR1
      clear ef em hlo hhi
      go_wp2_with (fail)
      go_roundw
      case rel => exact ⟨y + 1, id, by omega, by omega, rfl, ⟨hA5, ⟨v5, hR5⟩, hT.l1, hT.l2⟩, hB5⟩
      case measure => simp [intOf]; omega
    · go_wp2_with (fail)
      go_loopw [14] (fun i wr => ∃ (k : Nat) (last : Int) (L : List Int), k ≤ len1 ∧ i = .int .i64 k ∧ Hid (L.length ≤ k) ∧ Two wr B w.heap.size R R L last ∧ Below w.heap.size w wr) (fun i _ => len1 - (intOf i).toNat)
      case atStart => exact ⟨0, last, [], Nat.zero_le _, rfl, Nat.le_refl _, hT, hBl⟩
      case round =>
        clear hT hBl hy1 hy2 hlt
        obtain ⟨k, last, L, hk, rfl, hL, hT, hBl⟩ := hrel
        by_cases hlt : k < len1
        · obtain ⟨x, rfl, hxl, hxc, hxw⟩ := HROW.out k hlt
          have hc := (hBl.cell (p := x.add k) (by rw [add_block]; exact hxl)).trans hxc
          have hLl : Hid (L.length ≤ 200) := by have := hL.out; rw [Hid]; omega
          have hlo := hT.a.lo
          have hhi := hT.a.hi
          by_cases h0 : lat z1 k = 0
          · have hb : (lat z1 k == 0) = true := by simpa using h0
            obtain ⟨j, hj1, hj2, hj3⟩ := first_free L last hlo hhi (by have := hLl.out; omega)
            obtain ⟨id, hid⟩ : ∃ id, Hid (cand last j = id) := ⟨_, rfl⟩
            have hidr := cand_range last j
            rw [hid.out] at hidr hj2
            have HJ := Lib.hid (And.intro hj1 (And.intro hj2 hj3))
            have H0 := Lib.hid h0
            clear hj1 hj2 hj3 h0
            go_wp2_with (fail)
            refine (two_take _ _ _ _ _ _ _ hT j id HJ.out.1 hid.out HJ.out.2.1 HJ.out.2.2).mono ?_
            rintro e w2 ⟨rfl, hA2, ⟨v2, hR2⟩, t2⟩
            go_wp2_with (fail)
            refine (rtake_is _ _ _ _ _ _ hR2 hlo hhi (by have := hLl.out; omega) j id HJ.out.1 hid.out HJ.out.2.1 HJ.out.2.2).mono ?_
            rintro e w3 ⟨rfl, ⟨v3, hR3⟩, t3⟩
            have hA3 := hA2.turn t3 (by have := hT.l1; omega) (by have := hT.l2; omega)
            have hB2 : Below w.heap.size w w2 := t2.belowTrans hBl hBl.size (fun k hk => by have := HB0.out; rintro (rfl | rfl) <;> omega)
            have hB3 := below_two hB2 t3 hR1
            have hc3 := (hB3.cell (p := x.add k) (by rw [add_block]; exact hxl)).trans hxc
            have c0 := hR3.c0
            have c1 := hR3.c1
            obtain ⟨A, c, rfl, hcc, hcm, hAA⟩ := hR3.own.form
            clear hAA hc
            have hlw : (Lit.int .i64 id).wf = true := wf_i64 (by omega) (by omega)
            have HA3 := Lib.hid hA3
            have HR3 := Lib.hid hR3
            clear hA3 hR3
            go_wp2_with (fail)
            go_quiet ((first | (go_at_call 13; exact quiet_left (count_calls _ _ _ _ _ (HA3.out.drewN _))) | (go_at_call 14; exact quiet_left (used_calls _ _ _ _ _ (HA3.out.drewN _) _ (by first | exact hxw | exact hlw))) | (go_at_call 15; exact quiet_left (rused_calls _ _ _ _ _ _ (HR3.out.drewN _) _))))
            go_wp2_with (fail)
            go_roundw
            case rel => exact ⟨k + 1, id, L ++ [id], by omega, by go_num, by have := hL.out; simp only [Hid, List.length_append, List.length_singleton]; omega, ⟨HA3.out.drewN _, ⟨_, HR3.out.drewN _⟩, hT.l1, hT.l2⟩, below_drewN hB3 _⟩
            case measure => simp [intOf]; omega
          · have hb : (lat z1 k == 0) = false := by simpa using h0
            obtain ⟨hA, ⟨v, hR⟩, hl1, hl2⟩ := hT
            obtain ⟨u, hu⟩ : ∃ u, Hid (decide (lat z1 k ∈ L) = u) := ⟨_, rfl⟩
            have H0 := Lib.hid h0
            clear h0
            go_wp2_with (fail)
            refine (free_is _ _ _ _ _ hA (lat z1 k) u hxw hu.out).mono ?_
            rintro e w3 ⟨rfl, hA3, t3⟩
            have hR3 := hR.turn t3 (fun k hk => by rintro (rfl | rfl) <;> omega)
            have hB3 : Below w.heap.size w w3 := t3.belowTrans hBl hBl.size (fun k hk => by have := HB0.out; rintro (rfl | rfl) <;> omega)
            have hc3 := (hB3.cell (p := x.add k) (by rw [add_block]; exact hxl)).trans hxc
            clear hc
            go_wp2_with (fail)
            refine (rfree_is _ _ _ _ _ _ hR3 (by have := hLl.out; omega) (lat z1 k)).mono ?_
            rintro e w4 ⟨rfl, ⟨v4, hR4⟩, t4⟩
            rw [hu.out]
            have hA4 := hA3.turn t4 (by omega) (by omega)
            have hB4 := below_two hB3 t4 hR1
            have hc4 := (hB4.cell (p := x.add k) (by rw [add_block]; exact hxl)).trans hxc
            have c0 := hR4.c0
            have c1 := hR4.c1
            obtain ⟨A, c, rfl, hcc, hcm, hAA⟩ := hR4.own.form
            have hlw : (Lit.int .i64 last).wf = true := wf_i64 (by omega) (by omega)
            have HA4 := Lib.hid hA4
            have HR4 := Lib.hid hR4
            have hlen : Hid ((L.filter (· ≠ lat z1 k)).length ≤ k) := Nat.le_trans (List.length_filter_le _ _) hL.out
            obtain ⟨M, hM⟩ : ∃ M, M = L.filter (· ≠ lat z1 k) := ⟨_, rfl⟩
            rw [← hM] at HA4 HR4 hlen c0 hcc
            clear hAA hc3 hA3 hR3 hA4 hR4 hA hR t3 t4 hM
            go_wp2_with (fail)
            go_quiet ((first | (go_at_call 13; exact quiet_left (count_calls _ _ _ _ _ (HA4.out.drewN _))) | (go_at_call 14; exact quiet_left (used_calls _ _ _ _ _ (HA4.out.drewN _) _ (by first | exact hxw | exact hlw))) | (go_at_call 15; exact quiet_left (rused_calls _ _ _ _ _ _ (HR4.out.drewN _) _))))
            go_wp2_with (fail)
            go_roundw
            case rel => exact ⟨k + 1, last, M, by omega, by go_num, Nat.le_succ_of_le hlen.out, ⟨HA4.out.drewN _, ⟨_, HR4.out.drewN _⟩, hl1, hl2⟩, below_drewN hB4 _⟩
            case measure => simp [intOf]; omega
        · go_wp2_with (first | (go_at_call 16; refine (awake_calls _).mono ?_; rintro e w6 ⟨rfl, hb6⟩))
          go_ret
          exact ⟨rfl, hBl.trans (hb6.mono hBl.size)⟩

end Ids
end Go.Proofs.Ytknkdapiflhifaa

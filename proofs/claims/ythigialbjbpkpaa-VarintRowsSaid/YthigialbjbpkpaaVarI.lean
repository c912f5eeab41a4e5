/- VarintRows. -/
import Derived.Test.YthigialbjbpkpaaVarH
namespace Go.Proofs.Ythigialbjbpkpaa
open Go.RowKit Go.ChangeShapes
set_option linter.unusedVariables false
set_option linter.unusedSimpArgs false
namespace Var

def flat (L : List Int) : List Int := L.flatMap (digs 3)
theorem flat_nil : flat [] = [] := rfl
theorem flat_app (L M : List Int) : flat (L ++ M) = flat L ++ flat M := by simp [flat]
theorem flat_one (x : Int) : flat [x] = digs 3 x := by simp [flat]
theorem flat_length (L : List Int) : (flat L).length ≤ 4 * L.length := by
  induction L with
  | nil => simp [flat]
  | cons x L ih =>
    have h1 : flat (x :: L) = flat [x] ++ flat L := flat_app [x] L
    have := (digs_length 3 x).2
    rw [h1, flat_one, List.length_append, List.length_cons]
    omega
theorem flat_snoc (L : List Int) (k : Nat) (h : k < L.length) : flat (L.take (k + 1)) = flat (L.take k) ++ digs 3 (lat L k) := by
  rw [take_lat L k h, flat_app, flat_one]
theorem flat_bytes (L : List Int) (h : ∀ x ∈ L, 0 ≤ x ∧ x ≤ 268435455) : ∀ y ∈ flat L, 0 ≤ y ∧ y < 256 := by
  intro y hy
  simp only [flat, List.mem_flatMap] at hy
  obtain ⟨x, hx, hy⟩ := hy
  have h1 := h x hx
  exact digs_bytes 3 x h1.1 (by have : (128 : Int) ^ (3 + 1) = 268435456 := by decide
                                omega) y hy
/-- What stands at the k-th place. -/
theorem flat_tell (L : List Int) (h : ∀ x ∈ L, 0 ≤ x ∧ x ≤ 268435455) (k : Nat) (hk : k < L.length) :
    tell 4 true (flat L) (((flat (L.take k)).length : Nat) : Int) 0 1 = (lat L k, ((flat (L.take k)).length : Int) + ((digs 3 (lat L k)).length : Int), 0) := by
  have h1 := h _ (lat_mem L k hk)
  have hp : (128 : Int) ^ (3 + 1) = 268435456 := by decide
  have hd : (flat L).drop (flat (L.take k)).length = digs 3 (lat L k) ++ flat (L.drop (k + 1)) := by
    have h2 : L = L.take k ++ ([lat L k] ++ L.drop (k + 1)) := by
      rw [← List.append_assoc, ← take_lat L k hk, List.take_append_drop]
    have h3 : flat L = flat (L.take k) ++ (digs 3 (lat L k) ++ flat (L.drop (k + 1))) := by
      rw [← flat_one, ← flat_app, ← flat_app, ← h2]
    rw [h3, List.drop_left]
  have := tell_digs 3 true (flat L) (flat (L.take k)).length 0 1 (lat L k) (flat (L.drop (k + 1))) h1.1 (by omega) (.inl rfl) hd
  rw [this]; simp

set_option maxHeartbeats 2000000 in
set_option maxRecDepth 100000 in
theorem rows_walk (a0 : Option Addr) (len0 cap0 : Nat) (z0 : List Int) (w : World) (w0 : IsRow .i64 w a0 len0 cap0 z0) (y0 : cap0 * 8 ≤ 140737488351232) :
    Calls Try.prog 7 #[.slice a0 len0 cap0] w fun e w' => e = .returned (.bool true) ∧ Below w.heap.size w w' := by
  obtain ⟨L, hLd⟩ : ∃ L, L = z0.take len0 := ⟨_, rfl⟩
  have hR : L.length = len0 ∧ Reads .i64 w a0 L := by
    rcases w0 with ⟨rfl, rfl, rfl, rfl⟩ | ⟨x, rfl, h1, h2, h3, h4, h5⟩
    · subst hLd
      exact ⟨rfl, fun h => absurd h (by simp)⟩
    · have hl : (z0.take len0).length = len0 := by simp; omega
      subst hLd
      refine ⟨hl, fun _ => ⟨x, rfl, fun i hi => ?_⟩⟩
      rw [hl] at hi
      rw [lat_take _ _ _ hi]
      exact h4 i (by omega)
  obtain ⟨rfl, hR⟩ := hR
  clear hLd w0 y0 z0
  have HR := Lib.hid hR
  clear hR
  by_cases hbig : (300 : Int) < (L.length : Int)
  · have hd := decide_eq_true hbig
    go_enter Try.func7, Try.ntmps7
    go_wp2_with (fail)
    go_ret
    exact ⟨rfl, Below.refl _ _⟩
  have hd := decide_eq_false hbig
  have Hbig := Lib.hid hbig
  clear hbig
  go_enter Try.func7, Try.ntmps7
  go_wp2_with (fail)
  go_loopw [3, 4] (fun b i wr => ∃ (k : Nat) (A : Option Addr) (c : Nat) (M : List Int), k ≤ L.length ∧ i = .int .i64 k ∧ b = .slice A M.length c ∧ Hid (M = flat (L.take k)) ∧ Hid (OwnInts wr w.heap.size BT .u8 (.slice A M.length c) M) ∧ Hid (∀ x ∈ L.take k, 0 ≤ x ∧ x ≤ 268435455) ∧ Below w.heap.size w wr) (fun _ i _ => L.length - (intOf i).toNat)
  case atStart => exact ⟨0, none, 0, [], Nat.zero_le _, rfl, rfl, rfl, OwnInts.nil _ _ _ _, by simp [Hid], Below.refl _ _⟩
  case round =>
    obtain ⟨k, A, c, M, hk, rfl, rfl, hM, hO, hV, hB⟩ := hrel
    have HB := Lib.hid hB
    clear hB
    have hkb : (k : Int) ≤ 300 := by have := Hbig.out; omega
    by_cases hkl : k < L.length
    · obtain ⟨x, rfl, hcell⟩ := HR.out (by omega)
      have hc0 := hcell k hkl
      have hcw := (HB.out.cell (World.block_lt_of_cell? w _ hc0)).trans hc0
      clear hcell hc0
      obtain ⟨v, hv⟩ : ∃ v, Hid (v = lat L k) := ⟨_, rfl⟩
      rw [← hv.out] at hcw
      by_cases hok : 0 ≤ v ∧ v ≤ 268435455
      · have HOK := Lib.hid hok
        clear hok
        go_wp2_with (fail)
        refine (put_calls _ v HOK.out.1 HOK.out.2).mono ?_
        rintro e w1 ⟨A1, c1, rfl, ho1, hb1⟩
        obtain ⟨D, hD⟩ : ∃ D, Hid (D = digs 3 v) := ⟨_, rfl⟩
        rw [← hD.out] at ho1 ⊢
        have HO1 := Lib.hid (own_reads ho1)
        have HOM := Lib.hid (hO.out.turn (Turn.of_below (S := fun _ => False) hb1) (fun _ _ h => h))
        have HB1 := Lib.hid (HB.out.trans (hb1.mono HB.out.size))
        clear ho1 hb1
        have HLN : Hid (M.length + D.length ≤ 140737488355328 ∧ (M.length + D.length) * 1 ≤ 140737488355328) := by
          have h1 := flat_length (L.take k)
          have h2 := (digs_length 3 v).2
          have h3 := List.length_take_le k L
          have := Hbig.out
          rw [← hM.out] at h1
          rw [← hD.out] at h2
          rw [Hid]; omega
        go_wp2_with (at_builtin; go_must (refine wp_append_row (W := w1) w.heap.size rfl _ _ 22 5 .u8 1 rfl Try.underlying22 info_byte (.slice A M.length c) M D A1 c1 rfl rfl HO1.out.2.2.2 HO1.out.2.2.1 HOM.out HB1.out.size HLN.out ?_))
        intro A2 c2 w2 ho2 ht2
        have HB2 := Lib.hid (ht2.belowTrans HB1.out HB1.out.size (fun j hj e => by have := (own_block_ge HOM.out j e).1; omega))
        have HO2 := Lib.hid ho2
        clear ho2 ht2
        go_wp2_with (fail)
        go_roundw
        case rel =>
          refine ⟨k + 1, A2, c2, M ++ D, by omega, by go_num, by simp, ?_, by simp only [Hid, List.length_append]; exact HO2.out, ?_, HB2.out⟩
          · rw [Hid, flat_snoc L k hkl, hM.out, hD.out, hv.out]
          · rw [Hid, take_lat L k hkl]
            intro y hy
            simp only [List.mem_append, List.mem_singleton] at hy
            rcases hy with hy | rfl
            · exact hV.out y hy
            · rw [← hv.out]; exact HOK.out
        case measure => simp [intOf]; omega
      · have HOK := Lib.hid hok
        clear hok
        go_wp2_with (fail)
        refine (put_bad _ v (by have := HOK.out; omega)).mono ?_
        rintro e w1 ⟨rfl, rfl⟩
        go_wp2_with (fail)
        refine (awake_calls _).mono ?_
        rintro e w1 ⟨rfl, hb1⟩
        have hc1 := (hb1.cell (World.block_lt_of_cell? wr _ hcw)).trans hcw
        have HB1 := Lib.hid (HB.out.trans (hb1.mono HB.out.size))
        clear hb1
        by_cases hneg : v < 0
        · have hdn := decide_eq_true hneg
          go_wp2_with (fail)
          go_ret
          exact ⟨rfl, HB1.out⟩
        · have hdn := decide_eq_false hneg
          have hdg : decide (268435455 < v) = true := decide_eq_true (by have := HOK.out; omega)
          go_wp2_with (fail)
          go_ret
          exact ⟨rfl, HB1.out⟩
    · have hke : k = L.length := by omega
      subst hke
      rw [List.take_length] at hM hV
      go_wp2_with (fail)
      go_loopw [7, 8] (fun at_ i wr => ∃ (k p : Nat), k ≤ L.length ∧ i = .int .i64 k ∧ at_ = .int .i64 (p : Int) ∧ Hid (p = (flat (L.take k)).length) ∧ Hid (OwnInts wr w.heap.size BT .u8 (.slice A M.length c) M) ∧ Below w.heap.size w wr) (fun _ i _ => L.length - (intOf i).toNat)
      case atStart => exact ⟨0, 0, Nat.zero_le _, rfl, rfl, rfl, hO.out, HB.out⟩
      case round =>
        clear hO HB hkl hk
        obtain ⟨k, p, hk, rfl, rfl, hp, hO, hB⟩ := hrel
        have HB := Lib.hid hB
        clear hB
        have hkb : (k : Int) ≤ 300 := by have := Hbig.out; omega
        by_cases hkl : k < L.length
        · obtain ⟨x, rfl, hcell⟩ := HR.out (by omega)
          have hc0 := hcell k hkl
          have Hc0 := Lib.hid hc0
          have hcw := (HB.out.cell (World.block_lt_of_cell? w _ hc0)).trans hc0
          clear hcell hc0
          obtain ⟨v, hv⟩ : ∃ v, Hid (v = lat L k) := ⟨_, rfl⟩
          have HOK := Lib.hid (hV.out _ (lat_mem L k hkl))
          have HT := Lib.hid (flat_tell L hV.out k hkl)
          rw [← hv.out] at hcw HOK HT
          rw [← hM.out, ← hp.out] at HT
          obtain ⟨d, hd'⟩ : ∃ d, Hid (d = (digs 3 v).length) := ⟨_, rfl⟩
          rw [← hd'.out] at HT
          obtain ⟨_, hcc, hRM, _⟩ := own_reads hO.out
          have HCC := Lib.hid hcc
          have HRM := Lib.hid hRM
          clear hcc hRM
          have HML : Hid (M.length ≤ 1200) := by
            have h1 := flat_length L
            have := Hbig.out
            rw [← hM.out] at h1
            rw [Hid]; omega
          go_wp2_with (fail)
          refine (at_is _ _ M _ _ rfl HCC.out HRM.out (by rw [hM.out]; exact flat_bytes L hV.out) (by have := HML.out; omega) _ (by omega) (by have := hp.out; have h1 := flat_length (L.take k); have h2 := List.length_take_le k L; have := Hbig.out; omega) _ _ _ HT.out).mono ?_
          rintro e w1 ⟨rfl, rfl⟩
          have hpd : Hid (p + d ≤ 3000) := by
            have h1 := flat_length (L.take k); have h2 := List.length_take_le k L; have := Hbig.out; have := hp.out; have := hd'.out; have := (digs_length 3 v).2
            rw [Hid]; omega
          go_wp2_with (fail)
          refine (size_is _ v d HOK.out.1 HOK.out.2 (by rw [hd'.out])).mono ?_
          rintro e w2 ⟨rfl, hb2⟩
          have hc2 := (hb2.cell (World.block_lt_of_cell? wr _ hcw)).trans hcw
          have HB2 := Lib.hid (HB.out.trans (hb2.mono HB.out.size))
          have HO2 := Lib.hid (hO.out.turn (Turn.of_below (S := fun _ => False) hb2) (fun _ _ h => h))
          have hwr : wrap64 ((p : Int) + (d : Int)) = (p : Int) + (d : Int) := IntWalk.wrap64_in _ ⟨by omega, by have := hpd.out; omega⟩
          clear hb2 hcw
          go_wp2_with (fail)
          go_roundw
          case rel =>
            refine ⟨k + 1, p + d, by omega, by go_num, by go_num, ?_, HO2.out, HB2.out⟩
            rw [Hid, flat_snoc L k hkl, List.length_append, hp.out, hd'.out, hv.out]
          case measure => simp [intOf]; omega
        · have hke : k = L.length := by omega
          subst hke
          rw [List.take_length, ← hM.out] at hp
          go_wp2_with (fail)
          refine (awake_calls _).mono ?_
          rintro e w1 ⟨rfl, hb1⟩
          have hpe : p = M.length := hp.out
          subst hpe
          go_wp2_with (fail)
          go_ret
          exact ⟨by simp, HB.out.trans (hb1.mono HB.out.size)⟩

end Var
end Go.Proofs.Ythigialbjbpkpaa

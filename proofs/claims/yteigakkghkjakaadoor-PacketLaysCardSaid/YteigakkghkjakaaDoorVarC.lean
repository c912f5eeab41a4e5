/- varint.At. -/
import Derived.Test.YteigakkghkjakaaDoorVarB
namespace Go.Proofs.YteigakkghkjakaaDoor
open Go.RowKit
set_option linter.unusedVariables false
set_option linter.unusedSimpArgs false
namespace Var

theorem or_low (n y : Int) (i : Nat) (hi : i ≤ 28) (h0 : 0 ≤ n) (h1 : n < 2 ^ i) (hy0 : 0 ≤ y) (hy1 : y < 2 ^ 28) (hym : y % 2 ^ i = 0) : bits .or .i64 n y = n + y := by
  have hw : ∀ n : Int, 0 ≤ n → n < 2 ^ 28 → IntKind.i64.wrap n = n := fun n h0 h1 => by rw [IntKind.wrap_i64]; omega
  have hn : n < 2 ^ 28 := by
    have : (2 : Int) ^ i ≤ 2 ^ 28 := by
      have := Nat.pow_le_pow_right (n := 2) (by decide) hi
      exact_mod_cast this
    omega
  have h := bits_join .i64 28 (by decide) hw i y n hy0 hym hy1 h0 h1 hn
  obtain ⟨a, rfl⟩ := Int.eq_ofNat_of_zero_le h0
  obtain ⟨b, rfl⟩ := Int.eq_ofNat_of_zero_le hy0
  have ha : a < 2 ^ 28 := by exact_mod_cast hn
  have hb : b < 2 ^ 28 := by exact_mod_cast hy1
  rw [(bits_nat .i64 28 (by decide) hw a b ha hb).2, Nat.or_comm, ← (bits_nat .i64 28 (by decide) hw b a hb ha).2, h, Int.add_comm]
theorem u8_and127 (x : Int) (h0 : 0 ≤ x) (h1 : x < 256) : bits .and .u8 x 127 = x % 128 := bits_mask .u8 8 (by decide) wraps_u8 7 (by decide) x h0 h1
theorem u8_and128 : ∀ x : Int, 0 ≤ x → x < 256 → bits .and .u8 x 128 = if x < 128 then 0 else 128 := by
  have h : ∀ b : Nat, b < 256 → bits .and .u8 (b : Int) 128 = if (b : Int) < 128 then 0 else 128 := by decide +kernel
  intro x h0 h1
  obtain ⟨b, rfl⟩ := Int.eq_ofNat_of_zero_le h0
  exact h b (by omega)

theorem acc_gen (n x W : Int) (i : Nat) (hW : W = 2 ^ i) (hi : i ≤ 21) (hx0 : 0 ≤ x) (hx1 : x < 256) (h0 : 0 ≤ n) (h1 : n < W) (hm : W * 128 ≤ 268435456) : bits .or .i64 n (wrap64 (wrap64 (bits .and .u8 x 127) * W)) = n + W * (x % 128) := by
  have hWp : 0 ≤ W := by omega
  have hy0 : 0 ≤ x % 128 := by omega
  have hle : x % 128 * W ≤ 127 * W := Int.mul_le_mul_of_nonneg_right (by omega) hWp
  have hge : 0 ≤ x % 128 * W := Int.mul_nonneg hy0 hWp
  rw [u8_and127 x hx0 hx1]
  have e1 : wrap64 (x % 128) = x % 128 := by unfold wrap64; omega
  have e2 : wrap64 (x % 128 * W) = x % 128 * W := by unfold wrap64; omega
  rw [e1, e2, or_low n (x % 128 * W) i (by omega) h0 (hW ▸ h1) hge (by omega) (by rw [hW]; exact Int.mul_emod_left _ _), Int.mul_comm]
theorem acc1 (n x : Int) (hx0 : 0 ≤ x) (hx1 : x < 256) (h0 : 0 ≤ n) (h1 : n < 128) : bits .or .i64 n (wrap64 (wrap64 (bits .and .u8 x 127) * 128)) = n + 128 * (x % 128) := acc_gen n x 128 7 (by decide) (by omega) hx0 hx1 h0 h1 (by omega)
theorem acc2 (n x : Int) (hx0 : 0 ≤ x) (hx1 : x < 256) (h0 : 0 ≤ n) (h1 : n < 16384) : bits .or .i64 n (wrap64 (wrap64 (bits .and .u8 x 127) * 16384)) = n + 16384 * (x % 128) := acc_gen n x 16384 14 (by decide) (by omega) hx0 hx1 h0 h1 (by omega)
theorem acc3 (n x : Int) (hx0 : 0 ≤ x) (hx1 : x < 256) (h0 : 0 ≤ n) (h1 : n < 2097152) : bits .or .i64 n (wrap64 (wrap64 (bits .and .u8 x 127) * 2097152)) = n + 2097152 * (x % 128) := acc_gen n x 2097152 21 (by decide) (by omega) hx0 hx1 h0 h1 (by omega)
theorem acc0 (x : Int) (hx0 : 0 ≤ x) (hx1 : x < 256) : bits .or .i64 0 (wrap64 (wrap64 (bits .and .u8 x 127))) = x % 128 := by
  have := acc_gen 0 x 1 0 (by decide) (by omega) hx0 hx1 (by omega) (by omega) (by omega)
  simpa using this
theorem acc0' (x : Int) (hx0 : 0 ≤ x) (hx1 : x < 256) : bits .or .i64 0 (wrap64 (bits .and .u8 x 127)) = x % 128 := by
  have h := acc0 x hx0 hx1
  have e : ∀ y : Int, wrap64 (wrap64 y) = wrap64 y := by intro y; unfold wrap64; omega
  rwa [e] at h
theorem hi_yes (x : Int) (hx0 : 0 ≤ x) (hx1 : x < 256) (h : 128 ≤ x) : (bits .and .u8 x 128 != 0) = true := by rw [u8_and128 x hx0 hx1, if_neg (by omega)]; rfl
theorem hi_no (x : Int) (hx0 : 0 ≤ x) (hx1 : x < 256) (h : x < 128) : (bits .and .u8 x 128 != 0) = false := by rw [u8_and128 x hx0 hx1, if_pos h]; rfl

theorem add_cell {w : World} {x : Addr} {i : Nat} {v : Value} (h : w.cell? (x.add i) = some v) (hi : i ≠ 0) : w.cell? ⟨x.block, x.off + i, none⟩ = some v := by
  unfold Addr.add at h
  rwa [if_neg hi] at h

set_option maxHeartbeats 4000000 in
theorem at_calls (w : World) (A : Option Addr) (L : List Int) (c : Nat) (hc : L.length ≤ c) (hR : Reads .u8 w A L) (hb : ∀ x ∈ L, 0 ≤ x ∧ x < 256) (hlen : (L.length : Int) ≤ 140737488355328) (i : Int) (hi : 0 ≤ i) (him : i ≤ 9223372036854775807) :
    Calls Tryd.prog 21 #[.slice A L.length c, .int .i64 i] w fun e w' => RetTell (tell 4 true L i 0 1) w e w' := by
  have HR := Lib.hid hR
  have Hb := Lib.hid hb
  have hineg : decide (i < 0) = false := decide_eq_false (by omega)
  clear hR hb
  go_enter Tryd.func21, Tryd.ntmps21
  go_wp2_with (fail)
  go_loop [7, 12] (fun vn vk => ∃ (k : Nat) (n : Int), vk = .int .i64 (k : Int) ∧ vn = .int .i64 n ∧
    (k = 0 ∧ n = 0 ∨ k = 1 ∧ 0 ≤ n ∧ n < 128 ∨ k = 2 ∧ 0 ≤ n ∧ n < 16384 ∨ k = 3 ∧ 0 ≤ n ∧ n < 2097152 ∨ k = 4 ∧ 0 ≤ n ∧ n < 268435456) ∧
    Hid (k = 0 ∨ i < (L.length : Int)) ∧ Hid (tell (4 - k) (k == 0) L (i + (k : Int)) n (128 ^ k) = tell 4 true L i 0 1)) (fun _ vk => 4 - (intOf vk).toNat)
  case atStart => exact ⟨0, 0, rfl, rfl, .inl ⟨rfl, rfl⟩, .inl rfl, by simp [Hid]⟩
  case round =>
    obtain ⟨k, n, rfl, rfl, hk, hil, hT⟩ := hrel
    rcases hk with ⟨rfl, rfl⟩ | ⟨rfl, h1, h2⟩ | ⟨rfl, h1, h2⟩ | ⟨rfl, h1, h2⟩ | ⟨rfl, h1, h2⟩
    · by_cases hjl : (L.length : Int) ≤ i
      · go_wp2
        go_ret3
        exact close_ret (hT.out.symm.trans (tell_more 3 _ L _ _ _ (by simp; omega)))
      · obtain ⟨q, rfl⟩ := Int.eq_ofNat_of_zero_le hi
        have hq : q < L.length := by omega
        obtain ⟨x, rfl, hcell⟩ := HR.out (by omega)
        have hc1 := hcell q hq
        have hby := Hb.out _ (lat_mem L q hq)
        obtain ⟨hby0, hby1⟩ := hby
        have hjd : decide ((L.length : Int) ≤ (q : Int)) = false := decide_eq_false hjl
        have hT' : Hid (tell 4 true L q 0 1 = tell 4 true L q 0 1) := rfl
        have HIL : Hid ((q : Int) < L.length) := by rw [Hid]; omega
        clear hcell hjl hT
        by_cases hx : lat L q < 128
        · have hh := hi_no _ hby0 hby1 hx
          have hfin : Hid (tell 4 true L q 0 1 = (lat L q % 128, (q : Int) + 1, 0)) := (tell_last 3 true L q 0 1 hq hx (by simp)).trans (by simp)
          by_cases hz : lat L q = 0
          · have hbz : (lat L q == 0) = true := by simpa using hz
            have HZ := Lib.hid hz
            clear hz
            go_wp2_with (fail)
            all_goals (go_ret3; exact close_ret3 hfin.out (by first | exact (acc0 _ hby0 hby1).symm | exact (acc0' _ hby0 hby1).symm) (by omega) rfl)
          · have hbz : (lat L q == 0) = false := by simpa using hz
            have HZ := Lib.hid hz
            clear hz
            go_wp2_with (fail)
            all_goals (go_ret3; exact close_ret3 hfin.out (by first | exact (acc0 _ hby0 hby1).symm | exact (acc0' _ hby0 hby1).symm) (by omega) rfl)
        · have hh := hi_yes _ hby0 hby1 (by omega)
          have hon : Hid (tell 3 false L ((q : Int) + ((1 : Nat) : Int)) (lat L q % 128) (128 ^ 1) = tell 4 true L q 0 1) := by
            have := (tell_on 3 true L q 0 1 hq (by omega)).symm
            rw [Hid]
            simpa using this
          go_wp2_with (fail)
          go_round
          case rel => exact ⟨1, lat L q % 128, by go_num, (by first | rw [acc0 _ hby0 hby1] | rw [acc0' _ hby0 hby1]), .inr (.inl ⟨rfl, by omega, by omega⟩), .inr HIL.out, hon⟩
          case measure => simp [intOf]
    · by_cases hjl : (L.length : Int) - 1 ≤ i
      · go_wp2
        go_ret3
        exact close_ret (hT.out.symm.trans (tell_more 2 _ L _ _ _ (by simp; omega)))
      · obtain ⟨q, rfl⟩ := Int.eq_ofNat_of_zero_le hi
        have hq : q + 1 < L.length := by omega
        obtain ⟨x, rfl, hcell⟩ := HR.out (by omega)
        have hc1 := add_cell (hcell (q + 1) hq) (by omega)
        have hby := Hb.out _ (lat_mem L (q + 1) hq)
        obtain ⟨hby0, hby1⟩ := hby
        have hjd : decide ((L.length : Int) - 1 ≤ (q : Int)) = false := decide_eq_false hjl
        have hT' : Hid (tell 3 false L ((q + 1 : Nat) : Int) n 128 = tell 4 true L q 0 1) := hT.out
        clear hcell hjl hT
        by_cases hx : lat L (q + 1) < 128
        · have hh := hi_no _ hby0 hby1 hx
          by_cases hz : lat L (q + 1) = 0
          · have hfin : Hid (tell 4 true L q 0 1 = (0, 0, 4)) := hT'.out.symm.trans (tell_form 2 L (q + 1) n 128 hq hz)
            have hbz : (lat L (q + 1) == 0) = true := by simpa using hz
            clear hz
            go_wp2_with (fail)
            all_goals (go_ret3; exact close_ret hfin.out)
          · have hfin : Hid (tell 4 true L q 0 1 = (n + 128 * (lat L (q + 1) % 128), ((q + 1 : Nat) : Int) + 1, 0)) := hT'.out.symm.trans (tell_last 2 false L (q + 1) n 128 hq hx (fun h => hz h.1))
            have hbz : (lat L (q + 1) == 0) = false := by simpa using hz
            clear hz
            go_wp2_with (fail)
            all_goals (go_ret3; exact close_ret3 hfin.out (acc1 n _ hby0 hby1 h1 h2).symm (by omega) rfl)
        · have hh := hi_yes _ hby0 hby1 (by omega)
          have hon : Hid (tell 2 false L ((q : Int) + ((2 : Nat) : Int)) (n + 128 * (lat L (q + 1) % 128)) (128 ^ 2) = tell 4 true L q 0 1) :=
            (tell_on 2 false L (q + 1) n 128 hq (by omega)).symm.trans hT'.out
          go_wp2_with (fail)
          go_round
          case rel => exact ⟨2, n + 128 * (lat L (q + 1) % 128), by go_num, (by rw [acc1 n _ hby0 hby1 h1 h2]), .inr (.inr (.inl ⟨rfl, by omega, by omega⟩)), .inr (by omega), hon⟩
          case measure => simp [intOf]
    · by_cases hjl : (L.length : Int) - 2 ≤ i
      · go_wp2
        go_ret3
        exact close_ret (hT.out.symm.trans (tell_more 1 _ L _ _ _ (by simp; omega)))
      · obtain ⟨q, rfl⟩ := Int.eq_ofNat_of_zero_le hi
        have hq : q + 2 < L.length := by omega
        obtain ⟨x, rfl, hcell⟩ := HR.out (by omega)
        have hc1 := add_cell (hcell (q + 2) hq) (by omega)
        have hby := Hb.out _ (lat_mem L (q + 2) hq)
        obtain ⟨hby0, hby1⟩ := hby
        have hjd : decide ((L.length : Int) - 2 ≤ (q : Int)) = false := decide_eq_false hjl
        have hT' : Hid (tell 2 false L ((q + 2 : Nat) : Int) n 16384 = tell 4 true L q 0 1) := hT.out
        clear hcell hjl hT
        by_cases hx : lat L (q + 2) < 128
        · have hh := hi_no _ hby0 hby1 hx
          by_cases hz : lat L (q + 2) = 0
          · have hfin : Hid (tell 4 true L q 0 1 = (0, 0, 4)) := hT'.out.symm.trans (tell_form 1 L (q + 2) n 16384 hq hz)
            have hbz : (lat L (q + 2) == 0) = true := by simpa using hz
            clear hz
            go_wp2_with (fail)
            all_goals (go_ret3; exact close_ret hfin.out)
          · have hfin : Hid (tell 4 true L q 0 1 = (n + 16384 * (lat L (q + 2) % 128), ((q + 2 : Nat) : Int) + 1, 0)) := hT'.out.symm.trans (tell_last 1 false L (q + 2) n 16384 hq hx (fun h => hz h.1))
            have hbz : (lat L (q + 2) == 0) = false := by simpa using hz
            clear hz
            go_wp2_with (fail)
            all_goals (go_ret3; exact close_ret3 hfin.out (acc2 n _ hby0 hby1 h1 h2).symm (by omega) rfl)
        · have hh := hi_yes _ hby0 hby1 (by omega)
          have hon : Hid (tell 1 false L ((q : Int) + ((3 : Nat) : Int)) (n + 16384 * (lat L (q + 2) % 128)) (128 ^ 3) = tell 4 true L q 0 1) :=
            (tell_on 1 false L (q + 2) n 16384 hq (by omega)).symm.trans hT'.out
          go_wp2_with (fail)
          go_round
          case rel => exact ⟨3, n + 16384 * (lat L (q + 2) % 128), by go_num, (by rw [acc2 n _ hby0 hby1 h1 h2]), .inr (.inr (.inr (.inl ⟨rfl, by omega, by omega⟩))), .inr (by omega), hon⟩
          case measure => simp [intOf]
    · by_cases hjl : (L.length : Int) - 3 ≤ i
      · go_wp2
        go_ret3
        exact close_ret (hT.out.symm.trans (tell_more 0 _ L _ _ _ (by simp; omega)))
      · obtain ⟨q, rfl⟩ := Int.eq_ofNat_of_zero_le hi
        have hq : q + 3 < L.length := by omega
        obtain ⟨x, rfl, hcell⟩ := HR.out (by omega)
        have hc1 := add_cell (hcell (q + 3) hq) (by omega)
        have hby := Hb.out _ (lat_mem L (q + 3) hq)
        obtain ⟨hby0, hby1⟩ := hby
        have hjd : decide ((L.length : Int) - 3 ≤ (q : Int)) = false := decide_eq_false hjl
        have hT' : Hid (tell 1 false L ((q + 3 : Nat) : Int) n 2097152 = tell 4 true L q 0 1) := hT.out
        clear hcell hjl hT
        by_cases hx : lat L (q + 3) < 128
        · have hh := hi_no _ hby0 hby1 hx
          by_cases hz : lat L (q + 3) = 0
          · have hfin : Hid (tell 4 true L q 0 1 = (0, 0, 4)) := hT'.out.symm.trans (tell_form 0 L (q + 3) n 2097152 hq hz)
            have hbz : (lat L (q + 3) == 0) = true := by simpa using hz
            clear hz
            go_wp2_with (fail)
            all_goals (go_ret3; exact close_ret hfin.out)
          · have hfin : Hid (tell 4 true L q 0 1 = (n + 2097152 * (lat L (q + 3) % 128), ((q + 3 : Nat) : Int) + 1, 0)) := hT'.out.symm.trans (tell_last 0 false L (q + 3) n 2097152 hq hx (fun h => hz h.1))
            have hbz : (lat L (q + 3) == 0) = false := by simpa using hz
            clear hz
            go_wp2_with (fail)
            all_goals (go_ret3; exact close_ret3 hfin.out (acc3 n _ hby0 hby1 h1 h2).symm (by omega) rfl)
        · have hh := hi_yes _ hby0 hby1 (by omega)
          have hon : Hid (tell 0 false L ((q : Int) + ((4 : Nat) : Int)) (n + 2097152 * (lat L (q + 3) % 128)) (128 ^ 4) = tell 4 true L q 0 1) :=
            (tell_on 0 false L (q + 3) n 2097152 hq (by omega)).symm.trans hT'.out
          go_wp2_with (fail)
          go_round
          case rel => exact ⟨4, n + 2097152 * (lat L (q + 3) % 128), by go_num, (by rw [acc3 n _ hby0 hby1 h1 h2]), .inr (.inr (.inr (.inr ⟨rfl, by omega, by omega⟩))), .inr (by omega), hon⟩
          case measure => simp [intOf]
    · go_wp2
      go_ret3
      exact close_ret hT.out.symm

theorem at_neg (w : World) (A : Option Addr) (n c : Nat) (i : Int) (hi : i < 0) :
    Calls Tryd.prog 21 #[.slice A n c, .int .i64 i] w fun e w' => RetTell (0, 0, 1) w e w' := by
  go_enter Tryd.func21, Tryd.ntmps21
  go_wp2_with (fail)
  go_ret3
  exact ⟨rfl, rfl⟩

end Var
end Go.Proofs.YteigakkghkjakaaDoor

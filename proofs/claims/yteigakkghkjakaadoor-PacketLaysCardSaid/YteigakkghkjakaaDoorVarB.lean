/- The length at a place: the reference's At, varint.At. -/
import Derived.Test.YteigakkghkjakaaDoorVarA
namespace Go.Proofs.YteigakkghkjakaaDoor
open Go.RowKit
set_option linter.unusedVariables false
set_option linter.unusedSimpArgs false
namespace Var

def RetTell (t : Int × Int × Int) (w : World) (e : Ending) (w' : World) : Prop := e = .returned (.tuple #[.int .i64 t.1, .int .i64 t.2.1, .int .i64 t.2.2]) ∧ w = w'

theorem close_ret {T : Int × Int × Int} {a b c : Int} {w : World} (h : T = (a, b, c)) : RetTell T w (.returned (.tuple #[.int .i64 a, .int .i64 b, .int .i64 c])) w := by subst h; exact ⟨rfl, rfl⟩

theorem close_ret3 {T : Int × Int × Int} {a b c a' b' c' : Int} {w : World} (h : T = (a', b', c')) (ha : a' = a) (hb : b' = b) (hc : c' = c) : RetTell T w (.returned (.tuple #[.int .i64 a, .int .i64 b, .int .i64 c])) w := by subst h ha hb hc; exact ⟨rfl, rfl⟩

theorem tell_more (f : Nat) (first : Bool) (L : List Int) (i n w : Int) (h : (L.length : Int) ≤ i) : tell (f + 1) first L i n w = (0, 0, 7) := by
  simp only [tell]; rw [if_pos h]
theorem tell_last (f : Nat) (first : Bool) (L : List Int) (j : Nat) (n w : Int) (h : j < L.length) (hx : lat L j < 128) (h0 : ¬ (lat L j = 0 ∧ first = false)) : tell (f + 1) first L j n w = (n + w * (lat L j % 128), (j : Int) + 1, 0) := by
  have e : L.getD ((j : Nat) : Int).toNat 0 = lat L j := rfl
  simp only [tell]
  rw [if_neg (by omega), e, if_pos hx, if_neg h0]
theorem tell_form (f : Nat) (L : List Int) (j : Nat) (n w : Int) (h : j < L.length) (h0 : lat L j = 0) : tell (f + 1) false L j n w = (0, 0, 4) := by
  have e : L.getD ((j : Nat) : Int).toNat 0 = lat L j := rfl
  simp only [tell]
  rw [if_neg (by omega), e, if_pos (by omega), if_pos (by simp [h0])]
theorem tell_on (f : Nat) (first : Bool) (L : List Int) (j : Nat) (n w : Int) (h : j < L.length) (hx : 128 ≤ lat L j) : tell (f + 1) first L j n w = tell f false L ((j + 1 : Nat) : Int) (n + w * (lat L j % 128)) (128 * w) := by
  have e : L.getD ((j : Nat) : Int).toNat 0 = lat L j := rfl
  simp only [tell]
  rw [if_neg (by omega), e, if_neg (by omega)]
  simp

set_option maxHeartbeats 4000000 in
theorem rat_calls (w : World) (A : Option Addr) (L : List Int) (c : Nat) (hc : L.length ≤ c) (hR : Reads .u8 w A L) (hb : ∀ x ∈ L, 0 ≤ x ∧ x < 256) (hlen : (L.length : Int) ≤ 140737488355328) (i : Int) (hi : 0 ≤ i) :
    Calls Tryd.prog 37 #[.slice A L.length c, .int .i64 i] w fun e w' => RetTell (tell 4 true L i 0 1) w e w' := by
  have HR := Lib.hid hR
  have Hb := Lib.hid hb
  clear hR hb
  go_enter Tryd.func37, Tryd.ntmps37
  go_wp2_with (fail)
  go_loop [1, 7, 8, 9] (fun vi vn vw vk => ∃ (k : Nat) (j n W : Int), vk = .int .i64 (k : Int) ∧ vi = .int .i64 j ∧ vn = .int .i64 n ∧ vw = .int .i64 W ∧ 0 ≤ j ∧
    (k = 0 ∧ n = 0 ∧ W = 1 ∨ k = 1 ∧ 0 ≤ n ∧ n < 128 ∧ W = 128 ∨ k = 2 ∧ 0 ≤ n ∧ n < 16384 ∧ W = 16384 ∨ k = 3 ∧ 0 ≤ n ∧ n < 2097152 ∧ W = 2097152 ∨ k = 4 ∧ 0 ≤ n ∧ n < 268435456 ∧ W = 268435456) ∧
    Hid (tell (4 - k) (k == 0) L j n W = tell 4 true L i 0 1)) (fun _ _ _ vk => 4 - (intOf vk).toNat)
  case atStart => exact ⟨0, i, 0, 1, rfl, rfl, rfl, rfl, hi, .inl ⟨rfl, rfl, rfl⟩, rfl⟩
  case round =>
    obtain ⟨k, j, n, W, rfl, rfl, rfl, rfl, hj, hk, hT⟩ := hrel
    by_cases hjl : (L.length : Int) ≤ j
    · rcases hk with ⟨rfl, rfl, rfl⟩ | ⟨rfl, h1, h2, rfl⟩ | ⟨rfl, h1, h2, rfl⟩ | ⟨rfl, h1, h2, rfl⟩ | ⟨rfl, h1, h2, rfl⟩
      · go_wp2
        go_ret3
        exact close_ret (hT.out.symm.trans (tell_more 3 _ L j _ _ hjl))
      · go_wp2
        go_ret3
        exact close_ret (hT.out.symm.trans (tell_more 2 _ L j _ _ hjl))
      · go_wp2
        go_ret3
        exact close_ret (hT.out.symm.trans (tell_more 1 _ L j _ _ hjl))
      · go_wp2
        go_ret3
        exact close_ret (hT.out.symm.trans (tell_more 0 _ L j _ _ hjl))
      · go_wp2
        go_ret3
        exact close_ret hT.out.symm
    · obtain ⟨q, rfl⟩ := Int.eq_ofNat_of_zero_le hj
      have hq : q < L.length := by omega
      obtain ⟨x, rfl, hcell⟩ := HR.out (by omega)
      have hc1 := hcell q hq
      have hby := Hb.out _ (lat_mem L q hq)
      obtain ⟨hby0, hby1⟩ := hby
      have hjd : decide ((L.length : Int) ≤ (q : Int)) = false := decide_eq_false hjl
      clear hcell hjl
      rcases hk with ⟨rfl, rfl, rfl⟩ | ⟨rfl, h1, h2, rfl⟩ | ⟨rfl, h1, h2, rfl⟩ | ⟨rfl, h1, h2, rfl⟩ | ⟨rfl, h1, h2, rfl⟩
      · by_cases hx : lat L q < 128
        · have hfin : Hid (tell 4 true L i 0 1 = (lat L q % 128, (q : Int) + 1, 0)) := hT.out.symm.trans ((tell_last 3 true L q 0 1 hq hx (by simp)).trans (by simp))
          by_cases hz : lat L q = 0
          · have hbz : (lat L q == 0) = true := by simpa using hz
            clear hz
            go_wp2
            all_goals (go_ret3; exact close_ret hfin.out)
          · have hbz : (lat L q == 0) = false := by simpa using hz
            clear hz
            go_wp2
            all_goals (go_ret3; exact close_ret hfin.out)
        · have hon : Hid (tell 3 false L ((q + 1 : Nat) : Int) (lat L q % 128) 128 = tell 4 true L i 0 1) := by
            have := (tell_on 3 true L q 0 1 hq (by omega)).symm.trans hT.out
            rw [Hid]
            simpa using this
          go_wp2
          go_round
          case rel => exact ⟨1, ((q + 1 : Nat) : Int), lat L q % 128, 128, by go_num, by go_num, rfl, rfl, by omega, .inr (.inl ⟨rfl, by omega, by omega, rfl⟩), hon⟩
          case measure => simp [intOf]
      · by_cases hx : lat L q < 128
        · by_cases hz : lat L q = 0
          · have hfin : Hid (tell 4 true L i 0 1 = (0, 0, 4)) := hT.out.symm.trans (tell_form 2 L q n 128 hq hz)
            have hbz : (lat L q == 0) = true := by simpa using hz
            clear hz
            go_wp2
            all_goals (go_ret3; exact close_ret hfin.out)
          · have hfin : Hid (tell 4 true L i 0 1 = (n + 128 * (lat L q % 128), (q : Int) + 1, 0)) := hT.out.symm.trans (tell_last 2 false L q n 128 hq hx (fun h => hz h.1))
            have hbz : (lat L q == 0) = false := by simpa using hz
            clear hz
            go_wp2
            all_goals (go_ret3; exact close_ret hfin.out)
        · have hon : Hid (tell 2 false L ((q + 1 : Nat) : Int) (n + 128 * (lat L q % 128)) 16384 = tell 4 true L i 0 1) :=
            (tell_on 2 false L q n 128 hq (by omega)).symm.trans hT.out
          go_wp2
          go_round
          case rel => exact ⟨2, ((q + 1 : Nat) : Int), n + 128 * (lat L q % 128), 16384, by go_num, by go_num, rfl, rfl, by omega, .inr (.inr (.inl ⟨rfl, by omega, by omega, rfl⟩)), hon⟩
          case measure => simp [intOf]
      · by_cases hx : lat L q < 128
        · by_cases hz : lat L q = 0
          · have hfin : Hid (tell 4 true L i 0 1 = (0, 0, 4)) := hT.out.symm.trans (tell_form 1 L q n 16384 hq hz)
            have hbz : (lat L q == 0) = true := by simpa using hz
            clear hz
            go_wp2
            all_goals (go_ret3; exact close_ret hfin.out)
          · have hfin : Hid (tell 4 true L i 0 1 = (n + 16384 * (lat L q % 128), (q : Int) + 1, 0)) := hT.out.symm.trans (tell_last 1 false L q n 16384 hq hx (fun h => hz h.1))
            have hbz : (lat L q == 0) = false := by simpa using hz
            clear hz
            go_wp2
            all_goals (go_ret3; exact close_ret hfin.out)
        · have hon : Hid (tell 1 false L ((q + 1 : Nat) : Int) (n + 16384 * (lat L q % 128)) 2097152 = tell 4 true L i 0 1) :=
            (tell_on 1 false L q n 16384 hq (by omega)).symm.trans hT.out
          go_wp2
          go_round
          case rel => exact ⟨3, ((q + 1 : Nat) : Int), n + 16384 * (lat L q % 128), 2097152, by go_num, by go_num, rfl, rfl, by omega, .inr (.inr (.inr (.inl ⟨rfl, by omega, by omega, rfl⟩))), hon⟩
          case measure => simp [intOf]
      · by_cases hx : lat L q < 128
        · by_cases hz : lat L q = 0
          · have hfin : Hid (tell 4 true L i 0 1 = (0, 0, 4)) := hT.out.symm.trans (tell_form 0 L q n 2097152 hq hz)
            have hbz : (lat L q == 0) = true := by simpa using hz
            clear hz
            go_wp2
            all_goals (go_ret3; exact close_ret hfin.out)
          · have hfin : Hid (tell 4 true L i 0 1 = (n + 2097152 * (lat L q % 128), (q : Int) + 1, 0)) := hT.out.symm.trans (tell_last 0 false L q n 2097152 hq hx (fun h => hz h.1))
            have hbz : (lat L q == 0) = false := by simpa using hz
            clear hz
            go_wp2
            all_goals (go_ret3; exact close_ret hfin.out)
        · have hon : Hid (tell 0 false L ((q + 1 : Nat) : Int) (n + 2097152 * (lat L q % 128)) 268435456 = tell 4 true L i 0 1) :=
            (tell_on 0 false L q n 2097152 hq (by omega)).symm.trans hT.out
          go_wp2
          go_round
          case rel => exact ⟨4, ((q + 1 : Nat) : Int), n + 2097152 * (lat L q % 128), 268435456, by go_num, by go_num, rfl, rfl, by omega, .inr (.inr (.inr (.inr ⟨rfl, by omega, by omega, rfl⟩))), hon⟩
          case measure => simp [intOf]
      · go_wp2
        go_ret3
        exact close_ret hT.out.symm

end Var
end Go.Proofs.YteigakkghkjakaaDoor

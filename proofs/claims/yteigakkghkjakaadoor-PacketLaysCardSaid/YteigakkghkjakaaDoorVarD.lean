/- varint.Put: a range over a function. -/
import Derived.Test.YteigakkghkjakaaDoorVarC
import Derived.RangeFuncNested
import Derived.RangeFuncBound
import Derived.RangeFuncCalls
import Derived.RangeFuncLeaves
import Derived.RangeFuncRecord
import Derived.OwnWalkIn
import Derived.TacticsInMore
import Derived.LoopNIn
import Derived.LoopIn
namespace Go.Proofs.YteigakkghkjakaaDoor
open Go.RowKit
set_option linter.unusedVariables false
set_option linter.unusedSimpArgs false
attribute [local go_sem] Oper.semAt_some
namespace Var

theorem digits_calls (w : World) (n : Int) : Calls Tryd.prog 74 #[.int .i64 n] w fun e w' => e = .returned (.func (.func 87) #[] #[.pointer (some ⟨w.heap.size, 0, none⟩)]) ∧ w.alloc (.cells #[.int .i64 n] 3) = w' := by
  have hmf : ∀ (fn : Fn) (first cap : Array Value) (w : World), (Instr.makeFunc fn first cap).run Tryd.prog w = .ok (.func fn first cap) w := fun _ _ _ _ => rfl
  go_enter Tryd.func74, Tryd.ntmps74
  go_wp2_with (fail)
  go_ret
  exact ⟨rfl, rfl⟩

theorem or128 : ∀ y : Int, 0 ≤ y → y < 128 → bits .or .u8 y 128 = y + 128 := by
  have h : ∀ b : Nat, b < 128 → bits .or .u8 (b : Int) 128 = (b : Int) + 128 := by decide +kernel
  intro y h0 h1
  obtain ⟨b, rfl⟩ := Int.eq_ofNat_of_zero_le h0
  exact h b (by omega)
/-- The number in a block's first cell. -/
def cellInt (w : World) (b : Nat) : Int := match w.cell? ⟨b, 0, none⟩ with | some (.int _ m) => m | _ => 0

set_option maxHeartbeats 1000000 in
/-- The iterator: each round takes the next byte. St pre m W: what has come; what its own variable holds. -/
theorem iter_in (l Bn : Nat) (St : List Int → Int → World → Prop)
    (hcell : ∀ pre m W, St pre m W → W.cell? ⟨Bn, 0, none⟩ = some (.int .i64 m) ∧ W.frozen? ⟨Bn, 0, none⟩ = false)
    (hset : ∀ pre m m' W, St pre m W → St pre m' (W.setCell ⟨Bn, 0, none⟩ (.int .i64 m')))
    (hY : ∀ pre m x W, 0 ≤ x → x < 256 → St pre m W → pre.length ≤ 3 → YieldAt Fence.wide 1 Tryd.prog l #[.int .u8 x] W fun e W' => e = .returned (.bool true) ∧ St (pre ++ [x]) m W')
    (n : Int) (hn0 : 0 ≤ n) (hn1 : n ≤ 268435455) (W : World) (h0 : St [] n W) :
    CallsIn Fence.wide 2 Tryd.prog 87 #[.func (.yield l) #[] #[], .pointer (some ⟨Bn, 0, none⟩)] W fun e W' => (∃ v, e = .returned v) ∧ ∃ m, St (digs 3 n) m W' := by
  refine callsIn_of_wp Tryd.func87 rfl trivial ?_ rfl
  simp only [Tryd.ntmps87, List.size_toArray, List.length_cons, List.length_nil, Nat.reduceAdd, Nat.reduceSub, Array.replicate_succ, Array.replicate_zero, List.push_toArray, List.append_toArray, List.nil_append, List.cons_append]
  gi_wp2_with (fail)
  gi_loopw [3] (fun _ wr => ∃ (m : Int) (pre : List Int) (k : Nat), 0 ≤ m ∧ m ≤ 268435455 ∧ Hid (m < 128 ^ (k + 1)) ∧ Hid (pre ++ digs k m = digs 3 n) ∧ Hid (pre.length + k = 3) ∧ Hid (St pre m wr)) (fun _ wr => (cellInt wr Bn).toNat)
  case atStart => exact ⟨n, [], 3, hn0, hn1, (by rw [Hid]; omega), rfl, rfl, h0⟩
  case round =>
    obtain ⟨m, pre, k, hm0, hm1, hk, hd, hl, hSt⟩ := hrel
    obtain ⟨hc, hf⟩ := hcell pre m wr hSt.out
    have hcm : Hid (cellInt wr Bn = m) := by rw [Hid, cellInt, hc]
    by_cases hm : 127 < m
    · obtain ⟨x, hx⟩ : ∃ x, Hid (bits .or .u8 (bits .and .i64 m 127 % 256) 128 = x) := ⟨_, rfl⟩
      have hxe : Hid (x = m % 128 + 128) := by rw [Hid, ← hx.out, i64_and127, show m % 128 % 256 = m % 128 from by omega]; exact or128 _ (by omega) (by omega)
      obtain ⟨k1, rfl⟩ : ∃ k1, k = k1 + 1 := ⟨k - 1, by
        have := hk.out
        cases k with
        | zero => simp at this; omega
        | succ k => omega⟩
      obtain ⟨fn, tmps, assign, body, hy, hR⟩ := hY pre m x wr (by have := hxe.out; omega) (by have := hxe.out; omega) hSt.out (by have := hl.out; omega)
      rw [← hx.out] at hy
      gi_wp2_with (fail)
      refine hR.mono ?_
      rintro e W' ⟨rfl, hSt'⟩
      obtain ⟨hc', hf'⟩ := hcell _ m W' hSt'
      have hSt2 := Lib.hid hSt'
      have hset' := Lib.hid (hset _ m (m / 128) W' hSt')
      clear hSt' hc hf hy
      gi_wp2_with (fail)
      go_roundw
      case rel =>
        refine ⟨m / 128, pre ++ [x], k1, by omega, by omega, ?_, ?_, ?_, hset'.out⟩
        · have := hk.out
          have e : (128 : Int) ^ (k1 + 1 + 1) = 128 * 128 ^ (k1 + 1) := by rw [Int.pow_succ, Int.mul_comm]
          rw [e] at this
          rw [Hid]; omega
        · have := hd.out
          rw [digs_step _ _ (by omega)] at this
          rw [Hid, ← this, hxe.out]; simp
        · have := hl.out
          simp only [Hid, List.length_append, List.length_singleton]; omega
      case measure =>
        rw [hcm.out]
        have : cellInt (W'.setCell ⟨Bn, 0, none⟩ (.int .i64 (m / 128))) Bn = m / 128 := by
          have h := (hcell _ _ _ hset'.out).1
          rw [cellInt, h]
        rw [this]
        omega
    · obtain ⟨fn, tmps, assign, body, hy, hR⟩ := hY pre m m wr hm0 (by omega) hSt.out (by have := hl.out; omega)
      have hfin : Hid (pre ++ [m] = digs 3 n) := by rw [Hid, ← hd.out, digs_last _ _ (by omega)]
      gi_wp2_with (fail)
      refine hR.mono ?_
      rintro e W' ⟨rfl, hSt'⟩
      have HS := Lib.hid (hfin.out ▸ hSt')
      clear hSt' hc hf hy
      gi_wp2_with (fail)
      go_end0
      exact ⟨⟨_, rfl⟩, m, HS.out⟩

end Var
end Go.Proofs.YteigakkghkjakaaDoor

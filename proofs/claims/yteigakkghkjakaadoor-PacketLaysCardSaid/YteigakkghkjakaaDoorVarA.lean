/- The reference's lengths (basculeref08), and varint.At. -/
import Derived.Test.YteigakkghkjakaaDoorProg
import Derived.Test.YteigakkghkjakaaDoorBase
import Derived.Test.YteigakkghkjakaaDoorRowsRead
import Derived.Test.YteigakkghkjakaaDoorVarP
import Derived.Laws.BitsLemmas
import Derived.Laws.Bits128
namespace Go.Proofs.YteigakkghkjakaaDoor
open Go.RowKit
set_option linter.unusedVariables false
set_option linter.unusedSimpArgs false
namespace Var
abbrev BT : Nat := 5
theorem info_byte : (Tryd.prog.info? BT).map (fun i => (i.zero, i.size, i.bytes)) = some (some (.int .u8 0), 1, 1) := by kernel_rfl

theorem is_calls (w : World) (n : Int) : Calls Tryd.prog 53 #[.int .i64 n] w fun e w' => e = .returned (.bool (decide (0 ≤ n ∧ n ≤ 268435455))) ∧ w = w' := by
  by_cases h1 : 0 ≤ n
  · by_cases h2 : n ≤ 268435455
    · rw [decide_eq_true (⟨h1, h2⟩ : 0 ≤ n ∧ n ≤ 268435455)]
      go_enter Tryd.func53, Tryd.ntmps53
      go_wp2
      go_ret
      exact ⟨rfl, rfl⟩
    · rw [decide_eq_false (fun h => h2 h.2)]
      go_enter Tryd.func53, Tryd.ntmps53
      go_wp2
      go_ret
      exact ⟨rfl, rfl⟩
  · rw [decide_eq_false (fun h => h1 h.1)]
    have hd : decide (0 ≤ n) = false := decide_eq_false h1
    go_enter Tryd.func53, Tryd.ntmps53
    go_wp2
    go_ret
    exact ⟨rfl, rfl⟩

/-- A row of bytes of the call's own comes back. -/
def GivesBytes (w : World) (L : List Int) (e : Ending) (w' : World) : Prop :=
  ∃ A c, e = .returned (.slice A L.length c) ∧ OwnInts w' w.heap.size BT .u8 (.slice A L.length c) L ∧ Below w.heap.size w w'

set_option maxHeartbeats 1000000 in
theorem rput_calls (w : World) (n : Int) (h0 : 0 ≤ n) (h1 : n ≤ 268435455) : Calls Tryd.prog 56 #[.int .i64 n] w fun e w' => GivesBytes w (digs 3 n) e w' := by
  go_enter Tryd.func56, Tryd.ntmps56
  go_wp2_with (fail)
  obtain ⟨N, hN⟩ : ∃ N : Nat, Hid (N = 3) := ⟨3, rfl⟩
  go_loopg [0, 3] N (fun gk x out wr => ∃ (m : Int) (pre : List Int) (A : Option Addr) (c : Nat), x = .int .i64 m ∧ 0 ≤ m ∧ m ≤ 268435455 ∧ Hid (m < 128 ^ (gk + 1)) ∧ Hid (pre ++ digs gk m = digs 3 n) ∧ Hid (pre.length ≤ 3) ∧ out = .slice A pre.length c ∧ Hid (OwnInts wr w.heap.size BT .u8 (.slice A pre.length c) pre) ∧ Below w.heap.size w wr)
  case atStart => exact ⟨n, [], none, 0, rfl, h0, h1, (by rw [Hid, hN.out]; omega), (by rw [Hid, hN.out]; rfl), by simp [Hid], rfl, OwnInts.nil _ _ _ _, Below.refl _ _⟩
  case round =>
    obtain ⟨m, pre, A, c, rfl, hm0, hm1, hlt, hd, hp, rfl, hO, hB⟩ := hrel
    have HL : Hid (pre.length + 1 ≤ 140737488355328 ∧ (pre.length + 1) * 1 ≤ 140737488355328) := by have := hp.out; rw [Hid]; omega
    by_cases hc : 128 ≤ m
    · cases gk with
      | zero => exact absurd hlt.out (by simp; omega)
      | succ k1 =>
        have hpl : Hid ((pre ++ [m % 128 + 128]).length ≤ 3) := by
          have h2 := congrArg List.length hd.out
          have h3 := digs_length k1 (m / 128)
          rw [digs_step _ _ hc, List.length_append, List.length_cons] at h2
          have h4 := digs_length 3 n
          simp only [Hid, List.length_append, List.length_singleton]
          omega
        go_wp2_with (at_builtin; go_must (refine wp_append_int wr w.heap.size rfl _ _ 22 5 .u8 1 rfl Tryd.underlying22 info_byte (.slice A pre.length c) pre (m % 128 + 128) rfl _ rfl (heap_new wr _) (Nat.le_refl _) (Turn.alloc wr _) hO.out hB.size HL.out ?_))
        intro g2 c2 w1 hown1 ht1 hloc hsz1
        have hB1 : Below w.heap.size w w1 := ht1.belowTrans hB hB.size (fun k hk e => by have := (own_block_ge hO.out k e).1; omega)
        clear ht1 hloc
        go_wp2_with (fail)
        go_roundg k1
        case measure => omega
        case rel =>
          refine ⟨m / 128, pre ++ [m % 128 + 128], some ⟨g2, 0, none⟩, c2, rfl, by omega, by omega, ?_, ?_, hpl, by simp, by simp only [Hid, List.length_append, List.length_singleton]; exact hown1, hB1⟩
          · have := hlt.out
            have e : (128 : Int) ^ (k1 + 1 + 1) = 128 * 128 ^ (k1 + 1) := by rw [Int.pow_succ, Int.mul_comm]
            rw [e] at this
            rw [Hid]; omega
          · have := hd.out
            rw [digs_step _ _ hc] at this
            rw [Hid, ← this]; simp
    · have hfin : Hid (pre ++ [m] = digs 3 n) := by
        rw [Hid, ← hd.out]
        rw [digs_last _ _ (by omega)]
      go_wp2_with (at_builtin; go_must (refine wp_append_int wr w.heap.size rfl _ _ 22 5 .u8 1 rfl Tryd.underlying22 info_byte (.slice A pre.length c) pre m rfl _ rfl (heap_new wr _) (Nat.le_refl _) (Turn.alloc wr _) hO.out hB.size HL.out ?_))
      intro g2 c2 w1 hown1 ht1 hloc hsz1
      have hB1 : Below w.heap.size w w1 := ht1.belowTrans hB hB.size (fun k hk e => by have := (own_block_ge hO.out k e).1; omega)
      have HF : Hid (GivesBytes w (digs 3 n) (.returned (.slice (some ⟨g2, 0, none⟩) (pre.length + 1) c2)) w1) := by
        rw [← hfin.out]
        exact ⟨some ⟨g2, 0, none⟩, c2, by simp, by simpa using hown1, hB1⟩
      clear ht1 hloc
      go_wp2_with (fail)
      go_ret
      exact HF.out

end Var
end Go.Proofs.YteigakkghkjakaaDoor

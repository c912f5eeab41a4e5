/- stream: slices.Concat; New, fail, Left. -/
import Derived.Test.YteigakkghkjakaaDoorPlW
import Derived.Lib.AppendZeros
namespace Go.Proofs.YteigakkghkjakaaDoor
open Go.RowKit Go.ChangeShapes
set_option linter.unusedVariables false
set_option linter.unusedSimpArgs false
namespace Str
open Utf (nums nums_length nums_bytes IsStr nums_str)
open Var (BT info_byte digs digs_length tell RetTell)
open Pk

set_option maxRecDepth 100000 in
set_option maxHeartbeats 1000000 in
theorem grow_calls (w : World) (n : Nat) (hn : (n : Int) ≤ 140737488355328) : Calls Tryd.prog 81 #[.slice none 0 0, .int .i64 n] w fun e w' => ∃ A c, e = .returned (.slice A 0 c) ∧ OwnInts w' w.heap.size BT .u8 (.slice A 0 c) [] ∧ Below w.heap.size w w' := by
  obtain ⟨i0, hi, hzz⟩ := Option.map_eq_some_iff.1 (info_byte)
  simp only [Prod.mk.injEq] at hzz
  obtain ⟨hz0, hz1, hz2⟩ := hzz
  by_cases h0 : 0 < n
  · have hb : decide ((0 : Int) < n) = true := decide_eq_true (by omega)
    have HR := Lib.hid (Lib.run_append_nil_zeros (P := Tryd.prog) w 22 3 22 5 i0 _ .u8 .i64 Tryd.underlying22 Tryd.underlying3 hi hz0 n h0 (by omega) (by omega) (by rw [hz2]; omega))
    have hg1 := grownCap_ge w n 0 5
    have hg2 := grownCap_le_maxLen w n 0 5 (by simp only [maxLen]; omega)
    obtain ⟨cp, hcp⟩ : ∃ cp, Hid (cp = grownCap w n 0 5) := ⟨_, rfl⟩
    obtain ⟨cur, hcur⟩ : ∃ cur : Array Value, Hid (cur = Builtin.zeroCells (Value.int .u8 0).cells n ++ Builtin.zeroCells (Value.int .u8 0).cells (grownCap w n 0 5 - n)) := ⟨_, rfl⟩
    have hcs : Hid (cur.size = cp) := by
      rw [hcur.out, hcp.out, Hid, Array.size_append, Go.size_zeroCells, Go.size_zeroCells]
      simp [Value.cells]
      omega
    rw [← hcur.out, ← hcp.out] at HR
    rw [← hcp.out] at hg1 hg2
    clear hi hz0 hz1 hz2
    go_enter Tryd.func81, Tryd.ntmps81
    go_wp2_with (at_builtin; go_must (refine Lib.wpList_append_run _ rfl _ _ _ _ rfl _ _ rfl rfl _ _ HR.out ?_))
    go_wp2_with (fail)
    go_ret
    exact ⟨_, _, rfl, own_of_heap (heap_new _ _) (by simp) rfl (Nat.zero_le _) hg2 hcs.out rfl, ((Turn.drew (Turn.refl (fun _ => False) w)).toBelow (Nat.le_refl _) (fun _ _ h => h)).alloc (by simp) _⟩
  · have hz : n = 0 := by omega
    subst hz
    clear hi hz0 hz1 hz2
    go_enter Tryd.func81, Tryd.ntmps81
    go_wp2_with (fail)
    go_ret
    exact ⟨none, 0, rfl, OwnInts.nil _ _ _ _, Below.refl _ _⟩

/-- A row of two rows of bytes. -/
def TwoAt (w : World) (b : Nat) (A : Option Addr) (n c : Nat) (B : Option Addr) (m d : Nat) : Prop := w.cell? ⟨b, 0, none⟩ = some (.slice A n c) ∧ w.cell? ⟨b, 1, none⟩ = some (.slice B m d)

set_option maxRecDepth 100000 in
set_option maxHeartbeats 1000000 in
theorem concat_calls (w : World) (b : Nat) (A B : Option Addr) (c d : Nat) (L M : List Int) (hA : Reads .u8 w A L) (hB : Reads .u8 w B M) (hcA : A = none → c = 0) (hcB : B = none → d = 0) (h2 : TwoAt w b A L.length c B M.length d) (hl : (L.length : Int) + M.length ≤ 140737488355328) :
    Calls Tryd.prog 57 #[.slice (some ⟨b, 0, none⟩) 2 2] w fun e w' => Var.GivesBytes w (L ++ M) e w' := by
  obtain ⟨k0, k1⟩ := h2
  have hG0 := grow_calls w (L.length + M.length) (by omega)
  rw [Int.natCast_add] at hG0
  have hG := Lib.hid hG0
  have HA := Lib.hid hA
  have HB := Lib.hid hB
  have hl1 : (L.length : Int) ≤ 140737488355328 := by omega
  have hl2 : (M.length : Int) ≤ 140737488355328 := by omega
  have hneg1 : decide ((L.length : Int) < 0) = false := decide_eq_false (by omega)
  have hneg2 : decide ((L.length : Int) + M.length < 0) = false := decide_eq_false (by omega)
  have hl3 : Hid (L.length + M.length ≤ 140737488355328) := by rw [Hid]; omega
  have HK := Lib.hid (And.intro k0 k1)
  clear hA hB hG0
  go_enter Tryd.func57, Tryd.ntmps57
  go_wp2_with (fail)
  go_loopw [3, 5, 11] (fun s x i wr => Hid (wr = w) ∧ ((i = .int .i64 0 ∧ s = .int .i64 0) ∨ (i = .int .i64 1 ∧ s = .int .i64 L.length) ∨ (i = .int .i64 2 ∧ s = .int .i64 ((L.length : Int) + M.length)))) (fun _ _ i _ => 2 - (intOf i).toNat)
  case atStart => exact ⟨rfl, .inl ⟨rfl, rfl⟩⟩
  case round =>
    obtain ⟨hw, (⟨rfl, rfl⟩ | ⟨rfl, rfl⟩ | ⟨rfl, rfl⟩)⟩ := hrel
    · have hw' := hw.out
      subst hw'
      go_wp2_with (fail)
      go_roundw
      case rel => exact ⟨trivial, .inr (.inl ⟨rfl, rfl⟩)⟩
      case measure => simp [intOf]
    · have hw' := hw.out
      subst hw'
      go_wp2_with (fail)
      go_roundw
      case rel => exact ⟨trivial, .inr (.inr ⟨rfl, rfl⟩)⟩
      case measure => simp [intOf]
    · have hw' := hw.out
      subst hw'
      rename World => w
      go_wp2_with (fail)
      refine hG.out.mono ?_
      rintro e w1 ⟨A1, c1, rfl, ho1, hb1⟩
      have HO1 := Lib.hid ho1
      have HB1 := Lib.hid hb1
      have k0' : w1.cell? ⟨b, 0, none⟩ = some (.slice A L.length c) := (Turn.of_below (S := fun _ => False) hb1).cell k0 (fun h => h)
      have k1' : w1.cell? ⟨b, 1, none⟩ = some (.slice B M.length d) := (Turn.of_below (S := fun _ => False) hb1).cell k1 (fun h => h)
      have HA1 : Hid (Reads .u8 w1 A L) := HA.out.keep hb1
      have HBM1 : Hid (Reads .u8 w1 B M) := HB.out.keep hb1
      clear ho1 hb1 k0 k1
      go_wp2_with (fail)
      go_loopw [6, 8, 27] (fun v x i wx => ∃ (A2 : Option Addr) (c2 : Nat) (X : List Int), v = .slice A2 X.length c2 ∧ Hid (OwnInts wx w.heap.size BT .u8 (.slice A2 X.length c2) X) ∧ Hid (Below w.heap.size w wx) ∧ ((i = .int .i64 0 ∧ X = []) ∨ (i = .int .i64 1 ∧ X = L) ∨ (i = .int .i64 2 ∧ X = L ++ M))) (fun _ _ i _ => 2 - (intOf i).toNat)
      case atStart => exact ⟨A1, c1, [], rfl, HO1.out, HB1.out, .inl ⟨rfl, rfl⟩⟩
      case round =>
        obtain ⟨A2, c2, X, rfl, hO, hBx, (⟨rfl, hX⟩ | ⟨rfl, hX⟩ | ⟨rfl, hX⟩)⟩ := hrel
        · subst X
          have q0 : wr.cell? ⟨b, 0, none⟩ = some (.slice A L.length c) := (Turn.of_below (S := fun _ => False) hBx.out).cell HK.out.1 (fun h => h)
          have q1 : wr.cell? ⟨b, 1, none⟩ = some (.slice B M.length d) := (Turn.of_below (S := fun _ => False) hBx.out).cell HK.out.2 (fun h => h)
          go_wp2_with (at_builtin; go_must (refine wp_append_row (W := wr) w.heap.size rfl _ _ 22 5 .u8 1 rfl Tryd.underlying22 info_byte _ [] L A c rfl rfl hcA (HA.out.keep hBx.out) hO.out hBx.out.size (by have := hl3.out; constructor <;> (try simp) <;> omega) ?_))
          intro A3 c3 w3 ho3 ht3
          have HO3 := Lib.hid ho3
          have HB3 : Hid (Below w.heap.size w w3) := hBx.out.trans (ht3.toBelow hBx.out.size (fun k hk e => by have := (own_block_ge hO.out k e).1; omega))
          clear ho3 ht3
          go_wp2_with (fail)
          go_roundw
          case rel => exact ⟨A3, c3, L, rfl, HO3.out, HB3.out, .inr (.inl ⟨rfl, rfl⟩)⟩
          case measure => simp [intOf]
        · subst X
          have q0 : wr.cell? ⟨b, 0, none⟩ = some (.slice A L.length c) := (Turn.of_below (S := fun _ => False) hBx.out).cell HK.out.1 (fun h => h)
          have q1 : wr.cell? ⟨b, 1, none⟩ = some (.slice B M.length d) := (Turn.of_below (S := fun _ => False) hBx.out).cell HK.out.2 (fun h => h)
          go_wp2_with (at_builtin; go_must (refine wp_append_row (W := wr) w.heap.size rfl _ _ 22 5 .u8 1 rfl Tryd.underlying22 info_byte _ L M B d rfl rfl hcB (HB.out.keep hBx.out) hO.out hBx.out.size (by have := hl3.out; constructor <;> (try simp) <;> omega) ?_))
          intro A3 c3 w3 ho3 ht3
          have HO3 := Lib.hid ho3
          have HB3 : Hid (Below w.heap.size w w3) := hBx.out.trans (ht3.toBelow hBx.out.size (fun k hk e => by have := (own_block_ge hO.out k e).1; omega))
          clear ho3 ht3
          go_wp2_with (fail)
          go_roundw
          case rel => exact ⟨A3, c3, (L ++ M), by simp, by rw [Hid]; simpa using HO3.out, HB3.out, .inr (.inr ⟨rfl, rfl⟩)⟩
          case measure => simp [intOf]
        · subst X
          go_wp2_with (fail)
          go_ret
          exact ⟨A2, c2, rfl, hO.out, hBx.out⟩
end Str
end Go.Proofs.YteigakkghkjakaaDoor

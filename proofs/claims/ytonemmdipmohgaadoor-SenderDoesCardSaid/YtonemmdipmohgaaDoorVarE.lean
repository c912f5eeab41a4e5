/- Lengths as bytes: plain functions and their laws; no program here. The reference's lengths (basculeref08), and varint.At. The length at a place: the reference's At, varint.At. varint.At. varint.Put: a range over a function. varint.Put, varint.Size. -/
import Derived.Test.YtonemmdipmohgaaDoorProg
import Derived.Test.YtonemmdipmohgaaDoorBase
import Derived.Test.YtonemmdipmohgaaDoorRowsRead
import Derived.Laws.BitsLemmas
import Derived.Laws.Bits128
import Derived.RangeFuncNested
import Derived.RangeFuncBound
import Derived.RangeFuncCalls
import Derived.RangeFuncLeaves
import Derived.RangeFuncRecord
import Derived.OwnWalkIn
import Derived.TacticsInMore
import Derived.LoopNIn
import Derived.LoopIn
import Derived.Shelf.Abstract
namespace Go.Proofs.YtonemmdipmohgaaDoor
namespace Var

/-- A length's bytes, with at most so many more behind the first. -/
def digs : Nat → Int → List Int
  | 0, n => [n]
  | k + 1, n => if n < 128 then [n] else (n % 128 + 128) :: digs k (n / 128)
/-- The length at a place: so many bytes may still come; is it the first; the sum so far; what the next digit is worth. -/
def tell : Nat → Bool → List Int → Int → Int → Int → Int × Int × Int
  | 0, _, _, _, _, _ => (0, 0, 4)
  | f + 1, first, L, i, n, w =>
    if (L.length : Int) ≤ i then (0, 0, 7)
    else if L.getD i.toNat 0 < 128 then (if L.getD i.toNat 0 = 0 ∧ first = false then (0, 0, 4) else (n + w * (L.getD i.toNat 0 % 128), i + 1, 0))
    else tell f false L (i + 1) (n + w * (L.getD i.toNat 0 % 128)) (128 * w)

theorem digs_step (k : Nat) (n : Int) (h : 128 ≤ n) : digs (k + 1) n = (n % 128 + 128) :: digs k (n / 128) := by
  simp only [digs]; rw [if_neg (by omega)]
theorem digs_last (k : Nat) (n : Int) (h : n < 128) : digs k n = [n] := by
  cases k with
  | zero => rfl
  | succ k => simp only [digs]; rw [if_pos h]
theorem digs_length (k : Nat) : ∀ n : Int, 1 ≤ (digs k n).length ∧ (digs k n).length ≤ k + 1 := by
  induction k with
  | zero => intro n; simp [digs]
  | succ k ih =>
    intro n
    simp only [digs]
    split
    · simp
    · have := ih (n / 128)
      simp only [List.length_cons]
      omega
theorem getD_drop (L : List Int) (i j : Nat) : (L.drop i).getD j 0 = L.getD (i + j) 0 := by
  simp [List.getD_eq_getElem?_getD]
/-- What is put is told, whatever stands around it. -/
theorem tell_digs (k : Nat) : ∀ (first : Bool) (L : List Int) (i : Nat) (n w m : Int) (post : List Int), 0 ≤ m → m < 128 ^ (k + 1) → (first = true ∨ m ≠ 0) → L.drop i = digs k m ++ post →
    tell (k + 1) first L i n w = (n + w * m, (i : Int) + (digs k m).length, 0) := by
  induction k with
  | zero =>
    intro first L i n w m post h0 h1 hf hL
    simp only [digs, List.singleton_append] at hL
    have hlen := congrArg List.length hL
    simp only [List.length_drop, List.length_cons] at hlen
    have hx : L.getD ((i : Nat) : Int).toNat 0 = m := by
      have := getD_drop L i 0
      rw [hL] at this
      simpa using this.symm
    simp at h1
    simp only [tell, digs]
    rw [if_neg (by omega), hx, if_pos (by omega), if_neg (by rintro ⟨rfl, rfl⟩; simp at hf)]
    rw [show m % 128 = m from by omega]
    rfl
  | succ k ih =>
    intro first L i n w m post h0 h1 hf hL
    by_cases hm : m < 128
    · rw [digs_last _ _ hm] at hL ⊢
      simp only [List.singleton_append] at hL
      have hlen := congrArg List.length hL
      simp only [List.length_drop, List.length_cons] at hlen
      have hx : L.getD ((i : Nat) : Int).toNat 0 = m := by
        have := getD_drop L i 0
        rw [hL] at this
        simpa using this.symm
      simp only [tell]
      rw [if_neg (by omega), hx, if_pos (by omega), if_neg (by rintro ⟨rfl, rfl⟩; simp at hf)]
      rw [show m % 128 = m from by omega]
      rfl
    · rw [digs_step _ _ (by omega)] at hL ⊢
      have hlen := congrArg List.length hL
      simp only [List.length_drop, List.cons_append, List.length_cons] at hlen
      have hx : L.getD ((i : Nat) : Int).toNat 0 = m % 128 + 128 := by
        have := getD_drop L i 0
        rw [hL] at this
        simpa using this.symm
      have hL2 : L.drop (i + 1) = digs k (m / 128) ++ post := by
        have := congrArg List.tail hL
        simpa [List.tail_drop] using this
      have e : (128 : Int) ^ (k + 1 + 1) = 128 * 128 ^ (k + 1) := by rw [Int.pow_succ, Int.mul_comm]
      rw [e] at h1
      have h2 := ih false L (i + 1) (n + w * ((m % 128 + 128) % 128)) (128 * w) (m / 128) post (by omega) (by omega) (.inr (by omega)) hL2
      rw [tell]
      rw [if_neg (by omega), hx, if_neg (by omega)]
      rw [show ((i : Int) + 1) = ((i + 1 : Nat) : Int) from by omega, h2]
      simp only [Prod.mk.injEq, and_true]
      refine ⟨?_, ?_⟩
      · have h3 : m = 128 * (m / 128) + m % 128 := by omega
        rw [show (m % 128 + 128) % 128 = m % 128 from by omega]
        have e1 : 128 * w * (m / 128) = w * (128 * (m / 128)) := by rw [Int.mul_comm 128 w, Int.mul_assoc]
        rw [e1, Int.add_assoc, ← Int.mul_add]
        rw [show m % 128 + 128 * (m / 128) = m from by omega]
      · simp only [List.length_cons]
        omega
/-- Without its last byte more is needed. -/
theorem tell_cut (k : Nat) : ∀ (first : Bool) (L : List Int) (i : Nat) (n w m : Int), i ≤ L.length → L.drop i = (digs k m).dropLast → tell (k + 1) first L i n w = (0, 0, 7) := by
  induction k with
  | zero =>
    intro first L i n w m hi hL
    simp only [digs, List.dropLast_singleton] at hL
    have hlen := congrArg List.length hL
    simp only [List.length_drop, List.length_nil] at hlen
    simp only [tell]
    rw [if_pos (by omega)]
  | succ k ih =>
    intro first L i n w m hi hL
    by_cases hm : m < 128
    · rw [digs_last _ _ hm] at hL
      simp only [List.dropLast_singleton] at hL
      have hlen := congrArg List.length hL
      simp only [List.length_drop, List.length_nil] at hlen
      simp only [tell]
      rw [if_pos (by omega)]
    · rw [digs_step _ _ (by omega)] at hL
      have hne : digs k (m / 128) ≠ [] := by
        have := (digs_length k (m / 128)).1
        intro e; rw [e] at this; simp at this
      rw [List.dropLast_cons_of_ne_nil hne] at hL
      have hlen := congrArg List.length hL
      simp only [List.length_drop, List.length_cons] at hlen
      have hx : L.getD ((i : Nat) : Int).toNat 0 = m % 128 + 128 := by
        have := getD_drop L i 0
        rw [hL] at this
        simpa using this.symm
      have hL2 : L.drop (i + 1) = (digs k (m / 128)).dropLast := by
        have := congrArg List.tail hL
        simpa [List.tail_drop] using this
      rw [tell]
      rw [if_neg (by omega), hx, if_neg (by omega), show ((i : Int) + 1) = ((i + 1 : Nat) : Int) from by omega]
      exact ih _ _ _ _ _ _ (by omega) hL2
/-- What is told was put; else nothing is told. -/
theorem tell_inv (k : Nat) : ∀ (first : Bool) (L : List Int) (i : Nat) (n w : Int), (∀ x ∈ L, 0 ≤ x ∧ x < 256) →
    (∃ m : Int, 0 ≤ m ∧ m < 128 ^ (k + 1) ∧ (first = true ∨ m ≠ 0) ∧ tell (k + 1) first L i n w = (n + w * m, (i : Int) + (digs k m).length, 0) ∧ i + (digs k m).length ≤ L.length ∧ (L.drop i).take (digs k m).length = digs k m) ∨
    (∃ e, (e = 4 ∨ e = 7) ∧ tell (k + 1) first L i n w = (0, 0, e)) := by
  induction k with
  | zero =>
    intro first L i n w hb
    by_cases h1 : (L.length : Int) ≤ (i : Int)
    · exact .inr ⟨7, .inr rfl, by simp only [tell]; rw [if_pos h1]⟩
    have hi : i < L.length := by omega
    have hx : L.getD ((i : Nat) : Int).toNat 0 = L[i] := by simp [List.getD_eq_getElem?_getD, List.getElem?_eq_getElem hi]
    have hb := hb _ (List.getElem_mem hi)
    by_cases h2 : L[i] < 128
    · by_cases h3 : L[i] = 0 ∧ first = false
      · exact .inr ⟨4, .inl rfl, by simp only [tell]; rw [if_neg h1, hx, if_pos h2, if_pos h3]⟩
      · refine .inl ⟨L[i], hb.1, by simpa using h2, ?_, ?_, by simp [digs]; omega, ?_⟩
        · cases first
          · exact .inr fun e => h3 ⟨e, rfl⟩
          · exact .inl rfl
        · simp only [tell, digs]
          rw [if_neg h1, hx, if_pos h2, if_neg h3, show L[i] % 128 = L[i] from by omega]
          rfl
        · simp only [digs, List.length_singleton]
          rw [List.drop_eq_getElem_cons hi]
          rfl
    · exact .inr ⟨4, .inl rfl, by simp only [tell]; rw [if_neg h1, hx, if_neg h2]⟩
  | succ k ih =>
    intro first L i n w hb
    by_cases h1 : (L.length : Int) ≤ (i : Int)
    · exact .inr ⟨7, .inr rfl, by rw [show k + 1 + 1 = (k + 1) + 1 from rfl]; unfold tell; rw [if_pos h1]⟩
    have hi : i < L.length := by omega
    have hx : L.getD ((i : Nat) : Int).toNat 0 = L[i] := by simp [List.getD_eq_getElem?_getD, List.getElem?_eq_getElem hi]
    have hbb := hb _ (List.getElem_mem hi)
    by_cases h2 : L[i] < 128
    · by_cases h3 : L[i] = 0 ∧ first = false
      · exact .inr ⟨4, .inl rfl, by unfold tell; rw [if_neg h1, hx, if_pos h2, if_pos h3]⟩
      · refine .inl ⟨L[i], hbb.1, ?_, ?_, ?_, ?_, ?_⟩
        · have : (0 : Int) < 128 ^ (k + 1) := Int.pow_pos (by omega)
          have e : (128 : Int) ^ (k + 1 + 1) = 128 * 128 ^ (k + 1) := by rw [Int.pow_succ, Int.mul_comm]
          rw [e]; omega
        · cases first
          · exact .inr fun e => h3 ⟨e, rfl⟩
          · exact .inl rfl
        · rw [digs_last _ _ h2]
          unfold tell
          rw [if_neg h1, hx, if_pos h2, if_neg h3, show L[i] % 128 = L[i] from by omega]
          rfl
        · rw [digs_last _ _ h2]; simp; omega
        · rw [digs_last _ _ h2, List.drop_eq_getElem_cons hi]
          rfl
    · have hstep : tell (k + 1 + 1) first L i n w = tell (k + 1) false L ((i + 1 : Nat) : Int) (n + w * (L[i] % 128)) (128 * w) := by
        rw [tell]
        rw [if_neg h1, hx, if_neg h2]
        rfl
      rcases ih false L (i + 1) (n + w * (L[i] % 128)) (128 * w) hb with ⟨m, g1, g2, g3, g4, g5, g6⟩ | ⟨e, g1, g2⟩
      · have hm1 : 1 ≤ m := by
          rcases g3 with g3 | g3
          · cases g3
          · omega
        have hbig : 128 ≤ 128 * m + L[i] % 128 := by omega
        have hd : digs (k + 1) (128 * m + L[i] % 128) = L[i] :: digs k m := by
          rw [digs_step _ _ hbig, show (128 * m + L[i] % 128) % 128 + 128 = L[i] from by omega, show (128 * m + L[i] % 128) / 128 = m from by omega]
        refine .inl ⟨128 * m + L[i] % 128, by omega, ?_, .inr (by omega), ?_, ?_, ?_⟩
        · have e : (128 : Int) ^ (k + 1 + 1) = 128 * 128 ^ (k + 1) := by rw [Int.pow_succ, Int.mul_comm]
          rw [e]; omega
        · rw [hstep, g4, hd]
          simp only [Prod.mk.injEq, and_true, List.length_cons]
          refine ⟨?_, by omega⟩
          have e1 : 128 * w * m = w * (128 * m) := by rw [Int.mul_comm 128 w, Int.mul_assoc]
          rw [e1, Int.add_assoc, ← Int.mul_add, Int.add_comm (L[i] % 128)]
        · rw [hd, List.length_cons]; omega
        · rw [hd, List.length_cons, List.drop_eq_getElem_cons hi, List.take_succ_cons, g6]
      · exact .inr ⟨e, g1, hstep.trans g2⟩
theorem digs_mono (k : Nat) : ∀ n m : Int, n ≤ m → (digs k n).length ≤ (digs k m).length := by
  induction k with
  | zero => intro n m _; simp [digs]
  | succ k ih =>
    intro n m h
    by_cases hn : n < 128
    · rw [digs_last _ _ hn]
      exact (digs_length _ _).1
    · rw [digs_step _ _ (by omega), digs_step _ _ (by omega)]
      have := ih (n / 128) (m / 128) (by omega)
      simp only [List.length_cons]
      omega
theorem digs_bytes (k : Nat) : ∀ n : Int, 0 ≤ n → n < 128 ^ (k + 1) → ∀ x ∈ digs k n, 0 ≤ x ∧ x < 256 := by
  induction k with
  | zero =>
    intro n h0 h1 x hx
    simp [digs] at hx
    subst hx
    simp at h1
    omega
  | succ k ih =>
    intro n h0 h1 x hx
    simp only [digs] at hx
    split at hx
    · simp at hx; subst hx; omega
    · rcases List.mem_cons.1 hx with rfl | hx
      · omega
      · refine ih (n / 128) (by omega) ?_ x hx
        have e : (128 : Int) ^ (k + 1 + 1) = 128 * 128 ^ (k + 1) := by rw [Int.pow_succ, Int.mul_comm]
        rw [e] at h1
        omega
end Var
end Go.Proofs.YtonemmdipmohgaaDoor

namespace Go.Proofs.YtonemmdipmohgaaDoor
open Go.RowKit
set_option linter.unusedVariables false
set_option linter.unusedSimpArgs false
namespace Var
abbrev BT : Nat := 5
theorem info_byte : (Tryd.prog.info? BT).map (fun i => (i.zero, i.size, i.bytes)) = some (some (.int .u8 0), 1, 1) := by kernel_rfl

theorem is_calls (w : World) (n : Int) : Calls Tryd.prog 43 #[.int .i64 n] w fun e w' => e = .returned (.bool (decide (0 ≤ n ∧ n ≤ 268435455))) ∧ w = w' := by
  by_cases h1 : 0 ≤ n
  · by_cases h2 : n ≤ 268435455
    · rw [decide_eq_true (⟨h1, h2⟩ : 0 ≤ n ∧ n ≤ 268435455)]
      go_enter Tryd.func43, Tryd.ntmps43
      go_wp2
      go_ret
      exact ⟨rfl, rfl⟩
    · rw [decide_eq_false (fun h => h2 h.2)]
      go_enter Tryd.func43, Tryd.ntmps43
      go_wp2
      go_ret
      exact ⟨rfl, rfl⟩
  · rw [decide_eq_false (fun h => h1 h.1)]
    have hd : decide (0 ≤ n) = false := decide_eq_false h1
    go_enter Tryd.func43, Tryd.ntmps43
    go_wp2
    go_ret
    exact ⟨rfl, rfl⟩

/-- A row of bytes of the call's own comes back. -/
def GivesBytes (w : World) (L : List Int) (e : Ending) (w' : World) : Prop :=
  ∃ A c, e = .returned (.slice A L.length c) ∧ OwnInts w' w.heap.size BT .u8 (.slice A L.length c) L ∧ Below w.heap.size w w'

end Var
end Go.Proofs.YtonemmdipmohgaaDoor

namespace Go.Proofs.YtonemmdipmohgaaDoor
open Go.RowKit
set_option linter.unusedVariables false
set_option linter.unusedSimpArgs false
namespace Var

def RetTell (t : Int × Int × Int) (w : World) (e : Ending) (w' : World) : Prop := e = .returned (.tuple #[.int .i64 t.1, .int .i64 t.2.1, .int .i64 t.2.2]) ∧ w = w'

theorem close_ret {T : Int × Int × Int} {a b c : Int} {w : World} (h : T = (a, b, c)) : RetTell T w (.returned (.tuple #[.int .i64 a, .int .i64 b, .int .i64 c])) w := by subst h; exact ⟨rfl, rfl⟩

theorem close_ret3 {T : Int × Int × Int} {a b c a' b' c' : Int} {w : World} (h : T = (a', b', c')) (ha : a' = a) (hb : b' = b) (hc : c' = c) : RetTell T w (.returned (.tuple #[.int .i64 a, .int .i64 b, .int .i64 c])) w := by subst h ha hb hc; exact ⟨rfl, rfl⟩

theorem tell_more (f : Nat) (first : Bool) (L : List Int) (i n w : Int) (h : (L.length : Int) ≤ i) : tell (f + 1) first L i n w = (0, 0, 7) := by
  simp only [tell]; rw [if_pos h]
theorem tell_last (f : Nat) (first : Bool) (L : List Int) (j : Nat) (n w : Int) (h : j < L.length) (hx : lat L j < 128) (h0 : ¬ (lat L j = 0 ∧ first = false)) : tell (f + 1) first L j n w = (n + w * (lat L j % 128), (j : Int) + 1, 0) := by
  have e : L.getD ((j : Nat) : Int).toNat 0 = lat L j := rfl
  simp only [tell]
  rw [if_neg (by omega), e, if_pos hx, if_neg h0]
theorem tell_form (f : Nat) (L : List Int) (j : Nat) (n w : Int) (h : j < L.length) (h0 : lat L j = 0) : tell (f + 1) false L j n w = (0, 0, 4) := by
  have e : L.getD ((j : Nat) : Int).toNat 0 = lat L j := rfl
  simp only [tell]
  rw [if_neg (by omega), e, if_pos (by omega), if_pos (by simp [h0])]
theorem tell_on (f : Nat) (first : Bool) (L : List Int) (j : Nat) (n w : Int) (h : j < L.length) (hx : 128 ≤ lat L j) : tell (f + 1) first L j n w = tell f false L ((j + 1 : Nat) : Int) (n + w * (lat L j % 128)) (128 * w) := by
  have e : L.getD ((j : Nat) : Int).toNat 0 = lat L j := rfl
  simp only [tell]
  rw [if_neg (by omega), e, if_neg (by omega)]
  simp

end Var
end Go.Proofs.YtonemmdipmohgaaDoor

namespace Go.Proofs.YtonemmdipmohgaaDoor
open Go.RowKit
set_option linter.unusedVariables false
set_option linter.unusedSimpArgs false
namespace Var

theorem or_low (n y : Int) (i : Nat) (hi : i ≤ 28) (h0 : 0 ≤ n) (h1 : n < 2 ^ i) (hy0 : 0 ≤ y) (hy1 : y < 2 ^ 28) (hym : y % 2 ^ i = 0) : bits .or .i64 n y = n + y := by
  have hw : ∀ n : Int, 0 ≤ n → n < 2 ^ 28 → IntKind.i64.wrap n = n := fun n h0 h1 => by rw [IntKind.wrap_i64]; omega
  have hn : n < 2 ^ 28 := by
    have : (2 : Int) ^ i ≤ 2 ^ 28 := by
      have := Nat.pow_le_pow_right (n := 2) (by decide) hi
      exact_mod_cast this
    omega
  have h := bits_join .i64 28 (by decide) hw i y n hy0 hym hy1 h0 h1 hn
  obtain ⟨a, rfl⟩ := Int.eq_ofNat_of_zero_le h0
  obtain ⟨b, rfl⟩ := Int.eq_ofNat_of_zero_le hy0
  have ha : a < 2 ^ 28 := by exact_mod_cast hn
  have hb : b < 2 ^ 28 := by exact_mod_cast hy1
  rw [(bits_nat .i64 28 (by decide) hw a b ha hb).2, Nat.or_comm, ← (bits_nat .i64 28 (by decide) hw b a hb ha).2, h, Int.add_comm]
theorem u8_and127 (x : Int) (h0 : 0 ≤ x) (h1 : x < 256) : bits .and .u8 x 127 = x % 128 := bits_mask .u8 8 (by decide) wraps_u8 7 (by decide) x h0 h1
theorem u8_and128 : ∀ x : Int, 0 ≤ x → x < 256 → bits .and .u8 x 128 = if x < 128 then 0 else 128 := by
  have h : ∀ b : Nat, b < 256 → bits .and .u8 (b : Int) 128 = if (b : Int) < 128 then 0 else 128 := by decide +kernel
  intro x h0 h1
  obtain ⟨b, rfl⟩ := Int.eq_ofNat_of_zero_le h0
  exact h b (by omega)

theorem acc_gen (n x W : Int) (i : Nat) (hW : W = 2 ^ i) (hi : i ≤ 21) (hx0 : 0 ≤ x) (hx1 : x < 256) (h0 : 0 ≤ n) (h1 : n < W) (hm : W * 128 ≤ 268435456) : bits .or .i64 n (wrap64 (wrap64 (bits .and .u8 x 127) * W)) = n + W * (x % 128) := by
  have hWp : 0 ≤ W := by omega
  have hy0 : 0 ≤ x % 128 := by omega
  have hle : x % 128 * W ≤ 127 * W := Int.mul_le_mul_of_nonneg_right (by omega) hWp
  have hge : 0 ≤ x % 128 * W := Int.mul_nonneg hy0 hWp
  rw [u8_and127 x hx0 hx1]
  have e1 : wrap64 (x % 128) = x % 128 := by unfold wrap64; omega
  have e2 : wrap64 (x % 128 * W) = x % 128 * W := by unfold wrap64; omega
  rw [e1, e2, or_low n (x % 128 * W) i (by omega) h0 (hW ▸ h1) hge (by omega) (by rw [hW]; exact Int.mul_emod_left _ _), Int.mul_comm]
theorem acc1 (n x : Int) (hx0 : 0 ≤ x) (hx1 : x < 256) (h0 : 0 ≤ n) (h1 : n < 128) : bits .or .i64 n (wrap64 (wrap64 (bits .and .u8 x 127) * 128)) = n + 128 * (x % 128) := acc_gen n x 128 7 (by decide) (by omega) hx0 hx1 h0 h1 (by omega)
theorem acc2 (n x : Int) (hx0 : 0 ≤ x) (hx1 : x < 256) (h0 : 0 ≤ n) (h1 : n < 16384) : bits .or .i64 n (wrap64 (wrap64 (bits .and .u8 x 127) * 16384)) = n + 16384 * (x % 128) := acc_gen n x 16384 14 (by decide) (by omega) hx0 hx1 h0 h1 (by omega)
theorem acc3 (n x : Int) (hx0 : 0 ≤ x) (hx1 : x < 256) (h0 : 0 ≤ n) (h1 : n < 2097152) : bits .or .i64 n (wrap64 (wrap64 (bits .and .u8 x 127) * 2097152)) = n + 2097152 * (x % 128) := acc_gen n x 2097152 21 (by decide) (by omega) hx0 hx1 h0 h1 (by omega)
theorem acc0 (x : Int) (hx0 : 0 ≤ x) (hx1 : x < 256) : bits .or .i64 0 (wrap64 (wrap64 (bits .and .u8 x 127))) = x % 128 := by
  have := acc_gen 0 x 1 0 (by decide) (by omega) hx0 hx1 (by omega) (by omega) (by omega)
  simpa using this
theorem acc0' (x : Int) (hx0 : 0 ≤ x) (hx1 : x < 256) : bits .or .i64 0 (wrap64 (bits .and .u8 x 127)) = x % 128 := by
  have h := acc0 x hx0 hx1
  have e : ∀ y : Int, wrap64 (wrap64 y) = wrap64 y := by intro y; unfold wrap64; omega
  rwa [e] at h
theorem hi_yes (x : Int) (hx0 : 0 ≤ x) (hx1 : x < 256) (h : 128 ≤ x) : (bits .and .u8 x 128 != 0) = true := by rw [u8_and128 x hx0 hx1, if_neg (by omega)]; rfl
theorem hi_no (x : Int) (hx0 : 0 ≤ x) (hx1 : x < 256) (h : x < 128) : (bits .and .u8 x 128 != 0) = false := by rw [u8_and128 x hx0 hx1, if_pos h]; rfl

theorem add_cell {w : World} {x : Addr} {i : Nat} {v : Value} (h : w.cell? (x.add i) = some v) (hi : i ≠ 0) : w.cell? ⟨x.block, x.off + i, none⟩ = some v := by
  unfold Addr.add at h
  rwa [if_neg hi] at h

end Var
end Go.Proofs.YtonemmdipmohgaaDoor

namespace Go.Proofs.YtonemmdipmohgaaDoor
open Go.RowKit
set_option linter.unusedVariables false
set_option linter.unusedSimpArgs false
attribute [local go_sem] Oper.semAt_some
namespace Var

theorem digits_calls (w : World) (n : Int) : Calls Tryd.prog 93 #[.int .i64 n] w fun e w' => e = .returned (.func (.func 110) #[] #[.pointer (some ⟨w.heap.size, 0, none⟩)]) ∧ w.alloc (.cells #[.int .i64 n] 3) = w' := by
  have hmf : ∀ (fn : Fn) (first cap : Array Value) (w : World), (Instr.makeFunc fn first cap).run Tryd.prog w = .ok (.func fn first cap) w := fun _ _ _ _ => rfl
  go_enter Tryd.func93, Tryd.ntmps93
  go_wp2_with (fail)
  go_ret
  exact ⟨rfl, rfl⟩

theorem or128 : ∀ y : Int, 0 ≤ y → y < 128 → bits .or .u8 y 128 = y + 128 := by
  have h : ∀ b : Nat, b < 128 → bits .or .u8 (b : Int) 128 = (b : Int) + 128 := by decide +kernel
  intro y h0 h1
  obtain ⟨b, rfl⟩ := Int.eq_ofNat_of_zero_le h0
  exact h b (by omega)
/-- The number in a block's first cell. -/
def cellInt (w : World) (b : Nat) : Int := match w.cell? ⟨b, 0, none⟩ with | some (.int _ m) => m | _ => 0

set_option maxHeartbeats 1000000 in
/-- The iterator: each round takes the next byte. St pre m W: what has come; what its own variable holds. -/
theorem iter_in (l Bn : Nat) (St : List Int → Int → World → Prop)
    (hcell : ∀ pre m W, St pre m W → W.cell? ⟨Bn, 0, none⟩ = some (.int .i64 m) ∧ W.frozen? ⟨Bn, 0, none⟩ = false)
    (hset : ∀ pre m m' W, St pre m W → St pre m' (W.setCell ⟨Bn, 0, none⟩ (.int .i64 m')))
    (hY : ∀ pre m x W, 0 ≤ x → x < 256 → St pre m W → pre.length ≤ 3 → YieldAt Fence.wide 1 Tryd.prog l #[.int .u8 x] W fun e W' => e = .returned (.bool true) ∧ St (pre ++ [x]) m W')
    (n : Int) (hn0 : 0 ≤ n) (hn1 : n ≤ 268435455) (W : World) (h0 : St [] n W) :
    CallsIn Fence.wide 2 Tryd.prog 110 #[.func (.yield l) #[] #[], .pointer (some ⟨Bn, 0, none⟩)] W fun e W' => (∃ v, e = .returned v) ∧ ∃ m, St (digs 3 n) m W' := by
  refine callsIn_of_wp Tryd.func110 rfl trivial ?_ rfl
  simp only [Tryd.ntmps110, List.size_toArray, List.length_cons, List.length_nil, Nat.reduceAdd, Nat.reduceSub, Array.replicate_succ, Array.replicate_zero, List.push_toArray, List.append_toArray, List.nil_append, List.cons_append]
  gi_wp2_with (fail)
  gi_loopw [3] (fun _ wr => ∃ (m : Int) (pre : List Int) (k : Nat), 0 ≤ m ∧ m ≤ 268435455 ∧ Hid (m < 128 ^ (k + 1)) ∧ Hid (pre ++ digs k m = digs 3 n) ∧ Hid (pre.length + k = 3) ∧ Hid (St pre m wr)) (fun _ wr => (cellInt wr Bn).toNat)
  case atStart => exact ⟨n, [], 3, hn0, hn1, (by rw [Hid]; omega), rfl, rfl, h0⟩
  case round =>
    obtain ⟨m, pre, k, hm0, hm1, hk, hd, hl, hSt⟩ := hrel
    obtain ⟨hc, hf⟩ := hcell pre m wr hSt.out
    have hcm : Hid (cellInt wr Bn = m) := by rw [Hid, cellInt, hc]
    by_cases hm : 127 < m
    · obtain ⟨x, hx⟩ : ∃ x, Hid (bits .or .u8 (bits .and .i64 m 127 % 256) 128 = x) := ⟨_, rfl⟩
      have hxe : Hid (x = m % 128 + 128) := by rw [Hid, ← hx.out, i64_and127, show m % 128 % 256 = m % 128 from by omega]; exact or128 _ (by omega) (by omega)
      obtain ⟨k1, rfl⟩ : ∃ k1, k = k1 + 1 := ⟨k - 1, by
        have := hk.out
        cases k with
        | zero => simp at this; omega
        | succ k => omega⟩
      obtain ⟨fn, tmps, assign, body, hy, hR⟩ := hY pre m x wr (by have := hxe.out; omega) (by have := hxe.out; omega) hSt.out (by have := hl.out; omega)
      rw [← hx.out] at hy
      gi_wp2_with (fail)
      refine hR.mono ?_
      rintro e W' ⟨rfl, hSt'⟩
      obtain ⟨hc', hf'⟩ := hcell _ m W' hSt'
      have hSt2 := Lib.hid hSt'
      have hset' := Lib.hid (hset _ m (m / 128) W' hSt')
      clear hSt' hc hf hy
      gi_wp2_with (fail)
      go_roundw
      case rel =>
        refine ⟨m / 128, pre ++ [x], k1, by omega, by omega, ?_, ?_, ?_, hset'.out⟩
        · have := hk.out
          have e : (128 : Int) ^ (k1 + 1 + 1) = 128 * 128 ^ (k1 + 1) := by rw [Int.pow_succ, Int.mul_comm]
          rw [e] at this
          rw [Hid]; omega
        · have := hd.out
          rw [digs_step _ _ (by omega)] at this
          rw [Hid, ← this, hxe.out]; simp
        · have := hl.out
          simp only [Hid, List.length_append, List.length_singleton]; omega
      case measure =>
        rw [hcm.out]
        have : cellInt (W'.setCell ⟨Bn, 0, none⟩ (.int .i64 (m / 128))) Bn = m / 128 := by
          have h := (hcell _ _ _ hset'.out).1
          rw [cellInt, h]
        rw [this]
        omega
    · obtain ⟨fn, tmps, assign, body, hy, hR⟩ := hY pre m m wr hm0 (by omega) hSt.out (by have := hl.out; omega)
      have hfin : Hid (pre ++ [m] = digs 3 n) := by rw [Hid, ← hd.out, digs_last _ _ (by omega)]
      gi_wp2_with (fail)
      refine hR.mono ?_
      rintro e W' ⟨rfl, hSt'⟩
      have HS := Lib.hid (hfin.out ▸ hSt')
      clear hSt' hc hf hy
      gi_wp2_with (fail)
      go_end0
      exact ⟨⟨_, rfl⟩, m, HS.out⟩

end Var
end Go.Proofs.YtonemmdipmohgaaDoor

namespace Go.Proofs.YtonemmdipmohgaaDoor
open Go.RowKit
set_option linter.unusedVariables false
set_option linter.unusedSimpArgs false
attribute [local go_sem] Oper.semAt_some
namespace Var

/-- append of a byte in a round's frame. -/
theorem wpIn_append_int {F : Fence} {nn : Nat} {P : Program} {ops : Array Oper} {rest : List Oper} {o : Oper} {a : Act} {Q : Exit → Act → World → Prop} {W1 : World} (W : World) (base : Nat) (hgd : o.guard = none) (s x : Operand) (t e : TypeId) (k : IntKind) (bytes : Nat)
    (ho : o.op = .call { callee := .builtin .append, args := #[s, x], argTypes := #[t, t] })
    (ht : P.underlying t = some (.slice e)) (hinfo : (P.info? e).map (fun i => (i.zero, i.size, i.bytes)) = some (some (.int k 0), 1, bytes))
    (v : Value) (L : List Int) (y : Int) (hs : a.eval s = v) (nb : Nat) (hx : a.eval x = .slice (some ⟨nb, 0, none⟩) 1 1)
    (hnb : W1.heap[nb]? = some (.cells #[.int k y] e (0, 0))) (hnew : W.heap.size ≤ nb) (hW : Turn (fun _ => False) W W1)
    (HO : OwnInts W base e k v L) (hbase : base ≤ W.heap.size) (hn : L.length + 1 ≤ 140737488355328 ∧ (L.length + 1) * bytes ≤ 140737488355328)
    (K : ∀ g c1 w1, OwnInts w1 base e k (.slice (some ⟨g, 0, none⟩) (L.length + 1) c1) (L ++ [y]) → Turn (fun j => v.ownBlock = some j) W w1 → W.heap.size < w1.heap.size → wpListIn F nn P ops Q rest (a.put o.dst (.slice (some ⟨g, 0, none⟩) (L.length + 1) c1)) w1) :
    wpListIn F nn P ops Q (o :: rest) a W1 := by
  obtain ⟨i0, hi, hzz⟩ := Option.map_eq_some_iff.1 hinfo
  simp only [Prod.mk.injEq] at hzz
  obtain ⟨hz0, hz1, hz2⟩ := hzz
  have hlt := heap_lt hnb
  refine wpListIn_append_own W1 hgd s x t ho base e i0 (.int k 0) 1 bytes ht hi hz0 hz1 hz2 rfl (by omega) v L.length _ hs (HO.turn hW (fun _ _ h => h)) ⟨nb, 0, none⟩ 1 1 [.int k y] hx rfl
    (fun j u hu => by rw [add_plain0, cell_heap hnb]; simpa using hu) (by simp [Value.oneCell']) (by simp only [maxLen]; omega) hn.2 (by omega) ?_
  intro v1 w1 hown hg _
  have hsh : ∃ g c1, v1 = .slice (some ⟨g, 0, none⟩) (L.length + 1) c1 := by
    rcases hown.2 with ⟨_, h0⟩ | ⟨g, cap, cur, h, _⟩
    · exact absurd h0 (by omega)
    · exact ⟨g, cap, h⟩
  obtain ⟨g, c1, rfl⟩ := hsh
  exact K g c1 w1 (by simpa [OwnInts] using hown) ((hW.mono (fun _ _ h => h.elim)).trans (Turn.of_grownBy hg (fun k e => e))) (Nat.lt_of_lt_of_le (by omega) hg.size)

theorem turn_putObj (W : World) (l : Nat) (o : Obj) : Turn (· = l) W (W.putObj l o) := ⟨rfl, rfl, rfl, by simp, fun k _ hk => World.putObj_heap_other hk⟩

/-- A range over a closure, outermost, under no fence: the iterator's call, and what is asked behind it. -/
theorem wp_range_wide {P : Program} {n : Nat} {g : Operand} {ps : Array Tmp} {assign body : Code} {Q : Exit → Act → World → Prop} {a : Act} {w : World} (gf : Nat) (lb : Array Value) (hg : a.eval g = .func (.func gf) #[] lb)
    (eg : ∀ args w, (callFunc gf args).run P w = .ok (.enter gf args) w)
    (h : ∀ (fn : FuncId) (rec_ : LoopState → Loop), (∀ st, rec_ st = { state := st, pending := none, fn := fn, tmps := a.tmps, params := ps, assign := assign, body := body, defers := w.heap.size }) → ∀ W1 : World, W1 = (w.alloc (.deferred (some []))).alloc (.loop (rec_ .ready)) →
      CallsIn Fence.wide (n - 1) P gf (#[.func (.yield (w.heap.size + 1)) #[] #[]] ++ lb) W1 (rangePost Fence.wide n P (w.heap.size + 1) Q { a with defers := { target := .collected w.heap.size, args := #[] } :: a.defers })) :
    (Code.rangeFunc g ps assign body).wpIn Fence.wide n P Q a w := by
  refine wpIn_rangeFunc ?_
  intro fn hfn
  refine ⟨w.heap.size + 1, [{ target := .collected w.heap.size, args := #[] }], _, { target := .fn (.func gf) lb, args := #[.func (.yield (w.heap.size + 1)) #[] #[]] }, (w.alloc (.deferred (some []))).alloc (.loop { state := .ready, pending := none, fn := fn, tmps := a.tmps, params := ps, assign := assign, body := body, defers := w.heap.size }), gf,
    #[.func (.yield (w.heap.size + 1)) #[] #[]] ++ lb, _, run_enterLoop_outer _ _ _ _ _, ?_, fun _ _ => trivial, ?_, (fun hh => nomatch hh), h fn _ (fun _ => rfl) _ rfl⟩
  · simp only [resolve, hg]
    simp [go_sem]
  · simp [invoke, go_sem, eg]

/-- A call of yield: a round. -/
theorem yield_wide {P : Program} {m l : Nat} {args : Array Value} {W : World} {r : Loop} {R : Ending → World → Prop} (hl : W.heap[l]? = some (.loop r)) (hs : args.size = r.params.size)
    (h : r.assign.wpIn (Fence.wide.inRound l) m P (Exit.then (fun a₁ w₁ => ∃ w₂, (Instr.beginRound l).run P w₁ = .ok () w₂ ∧ r.body.wpIn (Fence.wide.inRound l) m P (roundPost P l R) a₁ w₂) (fun _ _ _ => False))
      { tmps := (r.params.zip args).foldl (fun tmps (t, a) => tmps.setIfInBounds t a) r.tmps, defers := [] } W) : YieldAt Fence.wide m P l args W R :=
  ⟨r.fn, _, r.assign, r.body, run_yield hl hs, roundIn_of_wpIn trivial h⟩

def PutPost (w : World) (L : List Int) (e : Ending) (w' : World) : Prop :=
  ∃ A c, e = .returned (.tuple #[.slice A L.length c, .int .i64 0]) ∧ OwnInts w' w.heap.size BT .u8 (.slice A L.length c) L ∧ Below w.heap.size w w'

/-- Between two rounds: the bytes so far in the row that 'out' holds (block b), the iterator's variable (b + 1), the block for deferred calls (b + 2), the loop's record (b + 3). -/
structure St (w : World) (rec_ : LoopState → Loop) (pre : List Int) (m : Int) (W : World) : Prop where
  out : ∃ A c, W.heap[w.heap.size]? = some (.cells #[.slice A pre.length c] 82 (0, 0)) ∧ OwnInts W (w.heap.size + 4) BT .u8 (.slice A pre.length c) pre
  var : W.heap[w.heap.size + 1]? = some (.cells #[.int .i64 m] 3 (0, 0))
  dfr : W.heap[w.heap.size + 2]? = some (.deferred (some []))
  rec_ : W.heap[w.heap.size + 3]? = some (.loop (rec_ .ready))
  below : Below w.heap.size w W
  size : w.heap.size + 4 ≤ W.heap.size

theorem St.turn {w : World} {r : LoopState → Loop} {pre : List Int} {m : Int} {W W' : World} {S : Nat → Prop} (h : St w r pre m W) (t : Turn S W W') (hs : ∀ k, S k → False) : St w r pre m W' := by
  obtain ⟨⟨A, c, h1, h2⟩, h3, h4, h5, h6, h7⟩ := h
  exact ⟨⟨A, c, (t.block _ (heap_lt h1) (hs _)).trans h1, h2.turn t (fun k _ => hs k)⟩, (t.block _ (heap_lt h3) (hs _)).trans h3, (t.block _ (heap_lt h4) (hs _)).trans h4, (t.block _ (heap_lt h5) (hs _)).trans h5, t.belowTrans h6 h6.size (fun k _ => hs k), Nat.le_trans h7 t.size⟩

set_option maxHeartbeats 4000000 in
set_option maxRecDepth 100000 in
theorem put_calls (w : World) (n : Int) (h0 : 0 ≤ n) (h1 : n ≤ 268435455) : Calls Tryd.prog 76 #[.int .i64 n] w fun e w' => PutPost w (digs 3 n) e w' := by
  refine (callsIn_wide (n := 3)).1 ?_
  refine callsIn_of_wp_marks Tryd.func76 rfl trivial ?_ rfl
  simp only [Tryd.ntmps76, List.size_toArray, List.length_cons, List.length_nil, Nat.reduceAdd, Nat.reduceSub, Array.replicate_succ, Array.replicate_zero, List.push_toArray, List.append_toArray, List.nil_append, List.cons_append]
  have hd1 : decide (n < 0) = false := decide_eq_false (by omega)
  have hd2 : decide (268435455 < n) = false := decide_eq_false (by omega)
  gi_wp2_with (refine ⟨trivial, ?_⟩; gi_at_call 93; refine (callsIn_wide.2 (digits_calls _ _)).mono ?_; rintro e w' ⟨rfl, rfl⟩)
  refine wp_range_wide 110 #[.pointer (some ⟨w.heap.size + 1, 0, none⟩)] rfl (enters_of Tryd.func110 (by kernel_rfl) rfl) ?_
  intro fn rec_ hrec W1 hW1
  have hsz : ((w.alloc (.cells #[.slice none 0 0] 82)).alloc (.cells #[.int .i64 n] 3)).heap.size = w.heap.size + 2 := by simp
  rw [hsz] at hrec ⊢
  have hSt : St w rec_ [] n W1 := by
    rw [hW1]
    have e1 := heap_new w (.cells #[.slice none 0 0] 82)
    have e2 := heap_new (w.alloc (.cells #[.slice none 0 0] 82)) (.cells #[.int .i64 n] 3)
    have e3 := heap_new ((w.alloc (.cells #[.slice none 0 0] 82)).alloc (.cells #[.int .i64 n] 3)) (.deferred (some []))
    have e4 := heap_new (((w.alloc (.cells #[.slice none 0 0] 82)).alloc (.cells #[.int .i64 n] 3)).alloc (.deferred (some []))) (.loop (rec_ .ready))
    rw [World.size_alloc] at e2 e3 e4
    rw [World.size_alloc] at e3 e4
    rw [World.size_alloc] at e4
    refine ⟨⟨none, 0, ?_, OwnInts.nil _ _ _ _⟩, ?_, ?_, e4, ?_, by simp⟩
    · rw [heap_old _ _ _ (by simp only [World.size_alloc]; omega), heap_old _ _ _ (by simp only [World.size_alloc]; omega), heap_old _ _ _ (by simp)]; exact e1
    · rw [heap_old _ _ _ (by simp only [World.size_alloc]; omega), heap_old _ _ _ (by simp only [World.size_alloc]; omega)]; exact e2
    · rw [heap_old _ _ _ (by simp)]; exact e3
    · exact ((((Below.refl _ w).alloc (Nat.le_refl _) _).alloc (by simp) _).alloc (by simp; omega) _).alloc (by simp; omega) _
  clear hW1 hsz
  have hround : ∀ pre m x W, 0 ≤ x → x < 256 → St w rec_ pre m W → pre.length ≤ 3 → YieldAt Fence.wide 1 Tryd.prog (w.heap.size + 3) #[.int .u8 x] W fun e W' => e = .returned (.bool true) ∧ St w rec_ (pre ++ [x]) m W' := by
    intro pre m x W hx0 hx1 hS hpl
    refine yield_wide hS.rec_ (by rw [hrec]; rfl) ?_
    rw [hrec]
    simp only []
    gi_wp2_with (fail)
    have hbusy := run_beginRound (P := Tryd.prog) hS.rec_ (by rw [hrec])
    refine ⟨_, hbusy, ?_⟩
    clear hbusy
    obtain ⟨Wb, hWb⟩ : ∃ Wb, Wb = W.putObj (w.heap.size + 3) (.loop { rec_ .ready with state := .busy }) := ⟨_, rfl⟩
    have tb : Turn (· = w.heap.size + 3) W Wb := by rw [hWb]; exact turn_putObj _ _ _
    have hl : Wb.heap[w.heap.size + 3]? = some (.loop { rec_ .ready with state := .busy }) := by rw [hWb]; exact World.putObj_heap_same (heap_lt hS.rec_)
    rw [← hWb]
    obtain ⟨⟨A, c, e1, e2⟩, e3, e4, e5, e6, e7⟩ := hS
    have e1b := (tb.block _ (heap_lt e1) (by omega)).trans e1
    have c0 := cell_heap (off := 0) e1b
    have f0 := frozen_heap (off := 0) e1b
    have HO : Hid (OwnInts Wb (w.heap.size + 4) BT .u8 (.slice A pre.length c) pre) := e2.turn tb (fun k hk e => by have := (own_block_ge e2 k hk).1; omega)
    have HS : Hid (w.heap.size + 4 ≤ Wb.heap.size) := Nat.le_trans e7 tb.size
    have HL : Hid (pre.length + 1 ≤ 140737488355328 ∧ (pre.length + 1) * 1 ≤ 140737488355328) := by rw [Hid]; omega
    have HREC := Lib.hid hrec
    have HWb := Lib.hid hWb
    clear hrec hWb
    gi_wp2_with (gi_at_builtin; go_must (refine wpIn_append_int Wb (w.heap.size + 4) rfl _ _ 82 5 .u8 1 rfl Tryd.underlying82 info_byte (.slice A pre.length c) pre x rfl _ rfl (heap_new Wb _) (Nat.le_refl _) (Turn.alloc Wb _) HO.out HS.out HL.out ?_))
    intro g c1 w1 hown1 ht1 hsz1
    have hng : ∀ k, (Value.slice A pre.length c).ownBlock = some k → w.heap.size + 4 ≤ k := fun k hk => (own_block_ge HO.out k hk).1
    have e1c := (ht1.block _ (heap_lt e1b) (fun e => by have := hng _ e; omega)).trans e1b
    have c0' := cell_heap (off := 0) e1c
    have f0' := frozen_heap (off := 0) e1c
    have hlc := (ht1.block _ (heap_lt hl) (fun e => by have := hng _ e; omega)).trans hl
    clear c0 f0
    gi_wp2_with (fail)
    have hl2 : (w1.setCell ⟨w.heap.size, 0, none⟩ (.slice (some ⟨g, 0, none⟩) (pre.length + 1) c1)).heap[w.heap.size + 3]? = some (.loop { rec_ .ready with state := .busy }) := by
      rw [Below.heap_setCell _ _ _ _ (by simp)]; exact hlc
    refine ⟨_, _, run_endRound none hl2, rfl, ?_⟩
    have t2 := Turn.setCell (S := (· = w.heap.size)) w1 (p := ⟨w.heap.size, 0, none⟩) (.slice (some ⟨g, 0, none⟩) (pre.length + 1) c1) rfl
    have t3 := turn_putObj (w1.setCell ⟨w.heap.size, 0, none⟩ (.slice (some ⟨g, 0, none⟩) (pre.length + 1) c1)) (w.heap.size + 3) (.loop { { rec_ .ready with state := .busy } with state := .ready, pending := none })
    have e3b := (tb.block _ (heap_lt e3) (by omega)).trans e3
    have e3c := (ht1.block _ (heap_lt e3b) (fun e => by have := hng _ e; omega)).trans e3b
    have e3d := (t2.block _ (heap_lt e3c) (by omega)).trans e3c
    have e4b := (tb.block _ (heap_lt e4) (by omega)).trans e4
    have e4c := (ht1.block _ (heap_lt e4b) (fun e => by have := hng _ e; omega)).trans e4b
    have e4d := (t2.block _ (heap_lt e4c) (by omega)).trans e4c
    have e1d := heap_set_same w1 _ 0 (.slice (some ⟨g, 0, none⟩) (pre.length + 1) c1) e1c
    have hgb : ∀ k, (Value.slice (some ⟨g, 0, none⟩) (pre.length + 1) c1).ownBlock = some k → w.heap.size + 4 ≤ k := fun k hk => (own_block_ge hown1 k hk).1
    have hb1 := tb.belowTrans e6 e6.size (fun k hk e => by omega)
    have hb2 := ht1.belowTrans hb1 hb1.size (fun k hk e => by have := hng _ e; omega)
    have hb3 := t2.belowTrans hb2 hb2.size (fun k hk e => by omega)
    have hb4 := t3.belowTrans hb3 hb3.size (fun k hk e => by omega)
    refine ⟨⟨some ⟨g, 0, none⟩, c1, ?_, ?_⟩, ?_, ?_, ?_, hb4, ?_⟩
    · rw [List.length_append, List.length_singleton]
      exact (t3.block _ (heap_lt e1d) (by omega)).trans e1d
    · rw [List.length_append, List.length_singleton]
      exact (hown1.turn t2 (fun k hk e => by have := hgb k hk; omega)).turn t3 (fun k hk e => by have := hgb k hk; omega)
    · exact (t3.block _ (heap_lt e3d) (by omega)).trans e3d
    · exact (t3.block _ (heap_lt e4d) (by omega)).trans e4d
    · have := World.putObj_heap_same (o := .loop { { rec_ .ready with state := .busy } with state := .ready, pending := none }) (heap_lt hl2)
      refine this.trans ?_
      rw [HREC.out]
    · exact Nat.le_trans HS.out (Nat.le_trans ht1.size (Nat.le_trans t2.size t3.size))
  refine (iter_in (w.heap.size + 3) (w.heap.size + 1) (St w rec_) ?_ ?_ hround n h0 h1 W1 hSt).mono ?_
  · intro pre m W hS
    exact ⟨cell_heap hS.var, frozen_heap hS.var⟩
  · intro pre m m' W hS
    obtain ⟨⟨A, c, e1, e2⟩, e3, e4, e5, e6, e7⟩ := hS
    have t := Turn.setCell (S := (· = w.heap.size + 1)) W (p := ⟨w.heap.size + 1, 0, none⟩) (.int .i64 m') rfl
    exact ⟨⟨A, c, (t.block _ (heap_lt e1) (by omega)).trans e1, e2.turn t (fun k hk e => by have := (own_block_ge e2 k hk).1; omega)⟩, heap_set_same W _ 0 _ e3, (t.block _ (heap_lt e4) (by omega)).trans e4, (t.block _ (heap_lt e5) (by omega)).trans e5,
      t.belowTrans e6 e6.size (fun k hk e => by omega), Nat.le_trans e7 t.size⟩
  · rintro e W' ⟨⟨v, rfl⟩, m, hS⟩
    have hp : (rec_ .ready).pending = none := by rw [hrec]
    have hend := run_endLoop (P := Tryd.prog) hS.rec_ (by rw [hrec]; simp)
    have t := turn_putObj W' (w.heap.size + 3) (.loop { rec_ .ready with state := .exhausted })
    generalize W'.putObj (w.heap.size + 3) (.loop { rec_ .ready with state := .exhausted }) = W2 at t hend
    rw [hp] at hend
    refine ⟨none, _, hend, ?_⟩
    clear hend hrec hd1 hd2 hp
    simp only []
    obtain ⟨⟨A, c, e1, e2⟩, e3, e4, e5, e6, e7⟩ := hS
    have e1' := (t.block _ (heap_lt e1) (by omega)).trans e1
    have e4' := (t.block _ (heap_lt e4) (by omega)).trans e4
    have e2' : OwnInts W2 (w.heap.size + 4) BT .u8 (.slice A (digs 3 n).length c) (digs 3 n) := e2.turn t (fun k hk e => by have := (own_block_ge e2 k hk).1; omega)
    have hb' := t.belowTrans e6 e6.size (fun k hk e => by omega)
    have c0 := cell_heap (off := 0) e1'
    clear e1 e2 e3 e4 e5 e6 t
    gi_wp2_with (fail)
    refine ⟨by simp, .inl ⟨_, _, rfl, run_takeDeferred e4', ?_⟩⟩
    have t5 := turn_putObj W2 (w.heap.size + 2) (.deferred none)
    have HF : PutPost w (digs 3 n) (.returned (.tuple #[.slice A (digs 3 n).length c, .int .i64 0])) (W2.putObj (w.heap.size + 2) (.deferred none)) :=
      ⟨A, c, rfl, own_mono (e2'.turn t5 (fun k hk e => by have := (own_block_ge e2' k hk).1; omega)) (by omega), t5.belowTrans hb' hb'.size (fun k hk e => by omega)⟩
    exact ⟨_, results_tmp2 (t := 2) (u := 3) rfl _ _ _, HF⟩

theorem put_bad (w : World) (n : Int) (h : n < 0 ∨ 268435455 < n) : Calls Tryd.prog 76 #[.int .i64 n] w fun e w' => e = .returned (.tuple #[.slice none 0 0, .int .i64 1]) ∧ w = w' := by
  by_cases h1 : n < 0
  · have hd : decide (n < 0) = true := decide_eq_true h1
    go_enter Tryd.func76, Tryd.ntmps76
    go_wp2_with (fail)
    go_ret2
    exact ⟨rfl, rfl⟩
  · have hd : decide (n < 0) = false := decide_eq_false h1
    have hd2 : decide (268435455 < n) = true := decide_eq_true (by omega)
    go_enter Tryd.func76, Tryd.ntmps76
    go_wp2_with (fail)
    go_ret2
    exact ⟨rfl, rfl⟩

end Var
end Go.Proofs.YtonemmdipmohgaaDoor

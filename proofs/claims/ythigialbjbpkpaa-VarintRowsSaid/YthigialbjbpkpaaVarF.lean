/- The document's example of varint; VarintPuts. -/
import Derived.Test.YthigialbjbpkpaaVarE
import Derived.Deep.RegionHeld
namespace Go.Proofs.Ythigialbjbpkpaa
open Go.RowKit
set_option linter.unusedVariables false
set_option linter.unusedSimpArgs false
namespace Var

theorem put_is (w : World) (n : Int) (L : List Int) (h0 : 0 ≤ n) (h1 : n ≤ 268435455) (hL : digs 3 n = L) : Calls Try.prog 8 #[.int .i64 n] w fun e w' => PutPost w L e w' := hL ▸ put_calls w n h0 h1
theorem size_is (w : World) (n k : Int) (h0 : 0 ≤ n) (h1 : n ≤ 268435455) (hL : ((digs 3 n).length : Int) = k) : Calls Try.prog 9 #[.int .i64 n] w fun e w' => e = .returned (.tuple #[.int .i64 k, .int .i64 0]) ∧ Below w.heap.size w w' := hL ▸ size_calls w n h0 h1
theorem at_is (w : World) (A : Option Addr) (L : List Int) (n c : Nat) (hn : n = L.length) (hc : L.length ≤ c) (hR : Reads .u8 w A L) (hb : ∀ x ∈ L, 0 ≤ x ∧ x < 256) (hlen : (L.length : Int) ≤ 140737488355328) (i : Int) (hi : 0 ≤ i) (him : i ≤ 9223372036854775807) (a b e' : Int) (ht : tell 4 true L i 0 1 = (a, b, e')) :
    Calls Try.prog 13 #[.slice A n c, .int .i64 i] w fun e w' => e = .returned (.tuple #[.int .i64 a, .int .i64 b, .int .i64 e']) ∧ w = w' := by
  subst hn
  have := at_calls w A L c hc hR hb hlen i hi him
  rw [ht] at this
  exact this

set_option maxHeartbeats 1000000 in
set_option maxRecDepth 100000 in
theorem awake_calls (w : World) : Calls Try.prog 11 #[] w fun e w' => e = .returned (.bool true) ∧ Below w.heap.size w w' := by
  go_enter Try.func11, Try.ntmps11
  go_wp2_with (fail)
  refine (put_is _ 128 [128, 1] (by omega) (by omega) (by decide)).mono ?_
  rintro e w1 ⟨A, c, rfl, ho, hb⟩
  go_wp2_with (fail)
  refine (at_is _ _ [128, 1] _ _ rfl (by simp) (fun _ => ⟨_, rfl, fun i hi => ?_⟩) (by simp) (by simp) 0 (by omega) (by omega) 128 2 0 (by decide)).mono ?_
  · rw [add_plain0, cell_heap (heap_new _ _)]
    match i, hi with
    | 0, _ => rfl
    | 1, _ => rfl
  rintro e w2 ⟨rfl, rfl⟩
  go_wp2_with (fail)
  refine (at_is _ _ [128] _ _ rfl (by simp) (fun _ => ⟨_, rfl, fun i hi => ?_⟩) (by simp) (by simp) 0 (by omega) (by omega) 0 0 7 (by decide)).mono ?_
  · rw [show (w1.heap.size + 1) = (w1.alloc (.cells #[.int .u8 128, .int .u8 1] 5)).heap.size from by simp, add_plain0, cell_heap (heap_new _ _)]
    match i, hi with
    | 0, _ => rfl
  rintro e w2 ⟨rfl, rfl⟩
  go_wp2_with (fail)
  refine (size_is _ 16384 3 (by omega) (by omega) (by decide)).mono ?_
  rintro e w3 ⟨rfl, hb3⟩
  have t3 : Turn (fun _ => False) w1 w3 := ((Turn.alloc w1 _).trans (Turn.alloc _ _)).trans (Turn.of_below hb3)
  have hcv := conv_own (src := 22) (dst := 9) (e := BT) Try.underlying22 Try.underlying5 Try.underlying9 (ho.turn t3 (fun _ _ h => h))
  rw [show strOfNums [128, 1] = ⟨#[128, 1]⟩ from rfl] at hcv
  simp only [List.length_cons, List.length_nil, Nat.zero_add, Nat.reduceAdd] at hcv
  have hb' : Below w.heap.size w w3 := t3.belowTrans hb hb.size (fun _ _ h => h)
  clear t3 hb3 ho hb
  go_wp2_with (fail)
  go_ret
  exact ⟨by simp, hb'⟩

theorem own_drew {w : World} {base : Nat} {e : TypeId} {k : IntKind} {v : Value} {L : List Int} (h : OwnInts w base e k v L) : OwnInts w.drew base e k v L := h.turn (Turn.drew (Turn.refl (fun _ => False) _)) (fun _ _ h => h)
theorem own_drewN {w : World} {base : Nat} {e : TypeId} {k : IntKind} {v : Value} {L : List Int} (h : OwnInts w base e k v L) (n : Nat) : OwnInts (w.drewN n) base e k v L := h.turn (Turn.drewN (Turn.refl (fun _ => False) _) n) (fun _ _ h => h)

set_option maxHeartbeats 2000000 in
set_option maxRecDepth 100000 in
theorem puts_walk (a0 : Int) (w : World) (w0 : (Lit.int .i64 a0).wf = true) : Calls Try.prog 3 #[.int .i64 a0] w fun e w' => e = .returned (.bool true) ∧ Below w.heap.size w w' := by
  clear w0
  by_cases hok : 0 ≤ a0 ∧ a0 ≤ 268435455
  · have hdt := decide_eq_true hok
    obtain ⟨h0, h1⟩ := hok
    go_enter Try.func3, Try.ntmps3
    go_wp2_with (fail)
    refine (put_calls _ a0 h0 h1).mono ?_
    rintro e w1 ⟨A, c, rfl, ho, hb⟩
    go_wp2_with (fail)
    refine (size_calls _ a0 h0 h1).mono ?_
    rintro e w2 ⟨rfl, hb2⟩
    have ho2 := ho.turn (Turn.of_below (S := fun _ => False) hb2) (fun _ _ h => h)
    have hB2 := hb.trans (hb2.mono hb.size)
    clear hb2 ho hb
    go_wp2_with (fail)
    refine (is_calls _ _).mono ?_
    rintro e w3 ⟨rfl, rfl⟩
    rw [hdt]
    go_wp2_with (fail)
    obtain ⟨M, hM⟩ : ∃ M, Hid (M = digs 3 a0) := ⟨_, rfl⟩
    rw [← hM.out] at ho2 ⊢
    have hput : ∀ W, Calls Try.prog 12 #[.int .i64 a0] W fun e w' => GivesBytes W M e w' := fun W => by rw [hM.out]; exact rput_calls W a0 h0 h1
    have HP := Lib.hid hput
    have HO := Lib.hid ho2
    clear hput ho2 hdt
    have HK : Hid (∀ W, Turn (fun _ => False) w2 W → (convert 22 9 (.slice A M.length c)).run Try.prog W = .ok (.string (strOfNums M)) W) := Lib.hid fun W hW => conv_own (src := 22) (dst := 9) (e := BT) Try.underlying22 Try.underlying5 Try.underlying9 (HO.out.turn hW (fun _ _ h => h))
    have HT0 : Turn (fun _ => False) w2 w2.drew := Turn.drew (Turn.refl _ _)
    go_region_held (fun W => (convert 22 9 (.slice A M.length c)).run Try.prog W = .ok (.string (strOfNums M)) W) (exact HK.out _ (by assumption)) (first | (go_at_call 11; refine (awake_calls _).mono ?_; rintro e w4 ⟨rfl, hb4⟩; have HT4 := HT0.trans (Turn.of_below hb4)) | (go_at_call 12; refine (HP.out _).mono ?_; rintro e w5 ⟨A5, c5, rfl, ho5, hb5⟩; have HT5 := HT4.trans (Turn.of_below hb5); have hcv5 := conv_own (src := 22) (dst := 9) (e := BT) Try.underlying22 Try.underlying5 Try.underlying9 ho5; have HO5 := Lib.hid ho5; clear ho5))
    go_wp2_with (fail)
    go_ret
    exact ⟨rfl, HT5.belowTrans hB2 hB2.size (fun _ _ h => h)⟩
  · have hdt := decide_eq_false hok
    go_enter Try.func3, Try.ntmps3
    go_wp2_with (fail)
    refine (put_bad _ a0 (by omega)).mono ?_
    rintro e w1 ⟨rfl, rfl⟩
    go_wp2_with (fail)
    refine (size_bad _ a0 (by omega)).mono ?_
    rintro e w2 ⟨rfl, rfl⟩
    go_wp2_with (fail)
    refine (is_calls _ _).mono ?_
    rintro e w3 ⟨rfl, rfl⟩
    rw [hdt]
    go_wp2_with (fail)
    refine (awake_calls _).mono ?_
    rintro e w4 ⟨rfl, hb4⟩
    go_wp2_with (fail)
    go_ret
    exact ⟨by simp, hb4⟩

end Var
end Go.Proofs.Ythigialbjbpkpaa

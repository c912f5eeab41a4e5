/- What the methods of ids.Ids do, each at the object's block and its set. -/
import Derived.Test.YtknkdapiflhifaaIdsA
namespace Go.Proofs.Ytknkdapiflhifaa
open Go.RowKit Go.Maps
set_option linter.unusedVariables false
set_option linter.unusedSimpArgs false
namespace Ids

/-- The object at block B: its set in block b holds L; 'last' was taken last. -/
structure At (w : World) (B b : Nat) (L : List Int) (last : Int) : Prop where
  obj : w.heap[B]? = some (.cells #[.map (some b), .int .i64 last] 41)
  set : SetAt w b L
  lo : 0 ≤ last
  hi : last ≤ 65535
theorem At.ne {w : World} {B b : Nat} {L : List Int} {last : Int} (h : At w B b L last) : b ≠ B := by
  intro e
  subst e
  obtain ⟨_, _, D, ⟨es, clock, hb, _⟩, _⟩ := h.set
  rw [h.obj] at hb
  cases hb
theorem At.turn {w w' : World} {B b : Nat} {L : List Int} {last : Int} {S : Nat → Prop} (h : At w B b L last) (t : Turn S w w') (h1 : ¬ S B) (h2 : ¬ S b) : At w' B b L last :=
  ⟨(t.block B (heap_lt h.obj) h1).trans h.obj, h.set.turn t h2, h.lo, h.hi⟩
theorem At.c0 {w : World} {B b : Nat} {L : List Int} {last : Int} (h : At w B b L last) : w.cell? ⟨B, 0, none⟩ = some (.map (some b)) := cell_heap h.obj
theorem At.c1 {w : World} {B b : Nat} {L : List Int} {last : Int} (h : At w B b L last) : w.cell? ⟨B, 1, none⟩ = some (.int .i64 last) := cell_heap h.obj
theorem At.f1 {w : World} {B b : Nat} {L : List Int} {last : Int} (h : At w B b L last) : w.frozen? ⟨B, 1, none⟩ = false := frozen_heap h.obj

/-- The number that is tried as the i-th behind the last. -/
def cand (last : Int) (i : Int) : Int := (last + i) % 65535 + 1
theorem cand_range (last i : Int) : 1 ≤ cand last i ∧ cand last i ≤ 65535 := by unfold cand; omega

def P2 (B b : Nat) (k : Nat) : Prop := k = B ∨ k = b

theorem new_calls (w : World) : Calls Try.prog 8 #[] w fun e w' => e = .returned (.pointer (some ⟨w.heap.size + 1, 0, none⟩)) ∧ At w' (w.heap.size + 1) w.heap.size [] 0 ∧ Below w.heap.size w w' := by
  have hmm := @run_makeMap Try.prog
  go_enter Try.func8, Try.ntmps8
  go_wp2
  go_ret
  refine ⟨rfl, ⟨?_, ?_, by omega, by omega⟩, ((Below.refl _ _).alloc (Nat.le_refl _) _).alloc (by simp) _⟩
  · have := heap_new (w.alloc (.map #[] 0)) (.cells #[.map (some w.heap.size), .int .i64 0] 41)
    simpa using this
  · exact (SetAt.made w).turn (Turn.alloc (S := fun _ => False) _ _) (fun h => h)

theorem take_nil (w : World) : Calls Try.prog 9 #[.pointer none] w fun e w' => e = .returned (.tuple #[.int .i64 0, .int .i64 3]) ∧ w = w' := by
  go_enter Try.func9, Try.ntmps9
  go_wp2
  go_ret2
  exact ⟨rfl, rfl⟩

def TakePost (w : World) (B b : Nat) (L : List Int) (last : Int) (e : Ending) (w' : World) : Prop :=
  (∃ j : Nat, j < 65535 ∧ (∀ i : Nat, i < j → cand last i ∈ L) ∧ cand last j ∉ L ∧ e = .returned (.tuple #[.int .i64 (cand last j), .int .i64 0]) ∧
    At w' B b (L ++ [cand last j]) (cand last j) ∧ Turn (P2 B b) w w') ∨
  ((∀ i : Nat, i < 65535 → cand last i ∈ L) ∧ e = .returned (.tuple #[.int .i64 0, .int .i64 6]) ∧ At w' B b L last ∧ Turn (P2 B b) w w')

set_option maxHeartbeats 1000000 in
set_option maxRecDepth 100000 in
theorem take_calls (w : World) (B b : Nat) (L : List Int) (last : Int) (h : At w B b L last) :
    Calls Try.prog 9 #[.pointer (some ⟨B, 0, none⟩)] w fun e w' => TakePost w B b L last e w' := by
  have c0 := h.c0
  have c1 := h.c1
  have f1 := h.f1
  have hlo := h.lo
  have hhi := h.hi
  have HA := Lib.hid h
  clear h
  go_enter Try.func9, Try.ntmps9
  go_wp2
  go_loop [8] (fun i => ∃ k : Nat, (k : Int) ≤ 65535 ∧ i = .int .i64 k ∧ Hid (∀ j : Nat, j < k → cand last j ∈ L)) (fun i => 65535 - (intOf i).toNat)
  case atStart => exact ⟨0, by omega, rfl, fun j hj => absurd hj (by omega)⟩
  case round =>
    obtain ⟨k, hk, rfl, hall⟩ := hrel
    by_cases hlt : (k : Int) < 65535
    · have hr := cand_range last k
      have hlook := HA.out.set.look (wf_i64 (i := cand last k) (by omega) (by omega))
      have hce : cand last k = (last + (k : Int)) % 65535 + 1 := rfl
      by_cases hin : cand last k ∈ L
      · rw [decide_eq_true hin] at hlook
        rw [hce] at hlook
        clear hce hr
        have HIN := Lib.hid hin
        clear hin
        go_wp2
        go_round
        case rel =>
          refine ⟨k + 1, by omega, by go_num, fun j hj => ?_⟩
          rcases Nat.lt_succ_iff_lt_or_eq.1 hj with h1 | h1
          · exact hall.out j h1
          · subst h1; exact HIN.out
        case measure => simp [intOf]; omega
      · rw [decide_eq_false hin] at hlook
        obtain ⟨c, w1, he1, ht1, hs1, w2, he2, hset2, ht2⟩ := HA.out.set.entry hr.1 hr.2 hin
        have hne := HA.out.ne
        have ht := ht1.trans ht2
        have c1' : w2.cell? ⟨B, 1, none⟩ = some (.int .i64 last) := ht.cell c1 (fun e => hne e.symm)
        have f1' : w2.frozen? ⟨B, 1, none⟩ = false := (ht.frozen (heap_lt HA.out.obj) (fun e => hne e.symm)).trans f1
        have HF : Hid (TakePost w B b L last (.returned (.tuple #[.int .i64 (cand last k), .int .i64 0])) (w2.setCell ⟨B, 1, none⟩ (.int .i64 (cand last k)))) := by
          refine .inl ⟨k, by omega, hall.out, hin, rfl, ⟨?_, ?_, by omega, hr.2⟩, ?_⟩
          · have ho : w2.heap[B]? = some (.cells #[.map (some b), .int .i64 last] 41) := (ht.block B (heap_lt HA.out.obj) (fun e => hne e.symm)).trans HA.out.obj
            exact heap_set_same w2 B 1 _ ho
          · exact hset2.turn (S := (· = B)) (Turn.setCell w2 _ rfl) hne
          · exact (ht.mono (fun k _ e => .inr e)).trans (Turn.setCell w2 _ (.inl rfl))
        rw [hce] at hlook he1 HF
        clear hce hr ht ht1 ht2 hset2 hs1
        have HIN := Lib.hid hin
        clear hin
        go_wp2
        go_ret2
        exact HF.out
    · have hk' : k = 65535 := by omega
      have HF : Hid (TakePost w B b L last (.returned (.tuple #[.int .i64 0, .int .i64 6])) w) :=
        .inr ⟨fun i hi => hall.out i (by omega), rfl, HA.out, Turn.refl _ _⟩
      clear hk'
      go_wp2
      go_ret2
      exact HF.out

theorem free_nil (w : World) (i : Int) : Calls Try.prog 11 #[.pointer none, .int .i64 i] w fun e w' => e = .returned (.tuple #[.bool false, .int .i64 3]) ∧ w = w' := by
  go_enter Try.func11, Try.ntmps11
  go_wp2
  go_ret2
  exact ⟨rfl, rfl⟩

def FreePost (w : World) (B b : Nat) (L : List Int) (last : Int) (i : Int) (e : Ending) (w' : World) : Prop :=
  e = .returned (.tuple #[.bool (decide (i ∈ L)), .int .i64 0]) ∧ At w' B b (L.filter (· ≠ i)) last ∧ Turn (P2 B b) w w'

set_option maxHeartbeats 1000000 in
theorem free_calls (w : World) (B b : Nat) (L : List Int) (last : Int) (h : At w B b L last) (i : Int) (hi : (Lit.int .i64 i).wf = true) :
    Calls Try.prog 11 #[.pointer (some ⟨B, 0, none⟩), .int .i64 i] w fun e w' => FreePost w B b L last i e w' := by
  have c0 := h.c0
  have hlook := h.set.look hi
  obtain ⟨w1, hd, hset, ht⟩ := h.set.del hi 0
  have HF : Hid (FreePost w B b L last i (.returned (.tuple #[.bool (decide (i ∈ L)), .int .i64 0])) w1) :=
    ⟨rfl, ⟨(ht.block B (heap_lt h.obj) (fun e => h.ne e.symm)).trans h.obj, hset, h.lo, h.hi⟩, ht.mono (fun k _ e => .inr e)⟩
  have hd' : (Builtin.delete_ #[39, 3] 0 #[.map (some b), .int .i64 i]).run Try.prog w = .ok (.tuple #[]) w1 := hd
  clear h ht hset hd hi
  generalize decide (i ∈ L) = x at *
  go_enter Try.func11, Try.ntmps11
  go_wp2
  go_ret2
  exact HF.out

theorem count_nil (w : World) : Calls Try.prog 13 #[.pointer none] w fun e w' => e = .returned (.int .i64 0) ∧ w = w' := by
  go_enter Try.func13, Try.ntmps13
  go_wp2
  go_ret
  exact ⟨rfl, rfl⟩
theorem count_calls (w : World) (B b : Nat) (L : List Int) (last : Int) (h : At w B b L last) :
    Calls Try.prog 13 #[.pointer (some ⟨B, 0, none⟩)] w fun e w' => e = .returned (.int .i64 (L.length : Int)) ∧ w = w' := by
  have c0 := h.c0
  have hl := fun ty => h.set.len ty
  go_enter Try.func13, Try.ntmps13
  go_wp2
  go_ret
  exact ⟨rfl, rfl⟩

theorem used_nil (w : World) (i : Int) : Calls Try.prog 14 #[.pointer none, .int .i64 i] w fun e w' => e = .returned (.bool false) ∧ w = w' := by
  go_enter Try.func14, Try.ntmps14
  go_wp2
  go_ret
  exact ⟨rfl, rfl⟩
theorem used_calls (w : World) (B b : Nat) (L : List Int) (last : Int) (h : At w B b L last) (i : Int) (hi : (Lit.int .i64 i).wf = true) :
    Calls Try.prog 14 #[.pointer (some ⟨B, 0, none⟩), .int .i64 i] w fun e w' => e = .returned (.bool (decide (i ∈ L))) ∧ w = w' := by
  have c0 := h.c0
  have hl := h.set.look hi
  generalize decide (i ∈ L) = x at *
  go_enter Try.func14, Try.ntmps14
  go_wp2
  go_ret
  exact ⟨rfl, rfl⟩

end Ids
end Go.Proofs.Ytknkdapiflhifaa

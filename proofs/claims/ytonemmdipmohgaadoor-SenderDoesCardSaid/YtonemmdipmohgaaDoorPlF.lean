/- The reader: read, a Suback's codes; the types with an Id alone. The reader: read, filters. -/
import Derived.Test.YtonemmdipmohgaaDoorPlD
import Derived.Deep.LoopGhost
namespace Go.Proofs.YtonemmdipmohgaaDoor
open Go.RowKit
set_option linter.unusedVariables false
set_option linter.unusedSimpArgs false
namespace Pk
open Utf (nums nums_length nums_bytes IsStr)
open Var (BT)

theorem rdWord_len {L M : List Int} {n : Int} (h : rdWord L = some (n, M)) : M.length + 2 = L.length := by
  match L, h with
  | a :: b :: L', h => simp [rdWord] at h; obtain ⟨_, rfl⟩ := h; simp
theorem info_int : (Tryd.prog.info? 3).map (fun i => (i.zero, i.size, i.bytes)) = some (some (.int .i64 0), 1, 8) := by kernel_rfl

end Pk
end Go.Proofs.YtonemmdipmohgaaDoor

namespace Go.Proofs.YtonemmdipmohgaaDoor
open Go.RowKit
set_option linter.unusedVariables false
set_option linter.unusedSimpArgs false
namespace Pk
open Utf (nums nums_length nums_bytes IsStr)
open Var (BT)

theorem rdText_len {L M : List Int} {s : ByteArray} (h : rdText L = some (s, M)) : M.length + 2 ≤ L.length := by
  unfold rdText at h
  cases hw : rdWord L with
  | none => rw [hw] at h; cases h
  | some x =>
    obtain ⟨n, N⟩ := x
    rw [hw] at h
    have := rdWord_len hw
    simp only at h
    split at h
    · cases h
      rw [List.length_drop]; omega
    · cases h
theorem rdOct_len {L M : List Int} {x : Int} (h : rdOct L = some (x, M)) : M.length + 1 = L.length := by
  cases L with
  | nil => cases h
  | cons a b => cases h; rfl
theorem rdSubs_nil (k : Nat) (t : Int) : rdSubs k t [] = some [] := by cases k <;> rfl
theorem info_sub : (Tryd.prog.info? 114).map (fun i => (i.zero, i.size, i.bytes)) = some (some (.agg #[.string ⟨#[]⟩, .int .i64 0]), 2, 24) := by kernel_rfl
theorem own_len {w : World} {base : Nat} {e : TypeId} {size n m c : Nat} {A : Option Addr} {xs : List Value} (h : w.ownsRow base e size (.slice A n c) m xs) : n = m := by
  obtain ⟨A', c', hv, _⟩ := own_form h
  injection hv
theorem subCells_snoc (D : List (ByteArray × Int)) (s : ByteArray) (q : Int) : subCells (D ++ [(s, q)]) = subCells D ++ [.string s, .int .i64 q] := by simp [subCells]

/-- 'append(p.Subs, s)'. -/
theorem wp_append_sub {ops : Array Oper} {rest : List Oper} {o : Oper} {a : Act} {Q : Exit → Act → World → Prop} {W : World} (base : Nat) (hgd : o.guard = none) (s x : Operand)
    (ho : o.op = .call { callee := .builtin .append, args := #[s, x], argTypes := #[30, 30] })
    (v : Value) (D : List (ByteArray × Int)) (f : ByteArray) (q : Int) (b : Nat) (hs : a.eval s = v) (hx : a.eval x = .slice (some ⟨b, 0, none⟩) 1 1) (hb : W.heap[b]? = some (.cells #[.string f, .int .i64 q] 114 (0, 0)))
    (HO : W.ownsRow base 114 2 v D.length (subCells D)) (hbase : base ≤ W.heap.size) (hn : (D.length + 1) * 24 ≤ 140737488355328) (D1 : List (ByteArray × Int)) (hD1 : D1 = D ++ [(f, q)])
    (K : ∀ A1 n1 c1 w1, Hid (w1.ownsRow base 114 2 (.slice A1 n1 c1) D1.length (subCells D1)) → Turn (fun j => v.ownBlock = some j) W w1 → wpList Tryd.prog ops Q rest (a.put o.dst (.slice A1 n1 c1)) w1) :
    wpList Tryd.prog ops Q (o :: rest) a W := by
  subst hD1
  obtain ⟨i0, hi, hzz⟩ := Option.map_eq_some_iff.1 info_sub
  simp only [Prod.mk.injEq] at hzz
  obtain ⟨hz0, hz1, hz2⟩ := hzz
  refine wpList_append_own W hgd s x 30 ho base 114 i0 (.agg #[.string ⟨#[]⟩, .int .i64 0]) 2 24 Tryd.underlying30 hi hz0 hz1 hz2 rfl (by omega) v D.length _ hs HO ⟨b, 0, none⟩ 1 1 [.string f, .int .i64 q] hx rfl
    (fun j u hu => ?_) (by simp [Value.oneCell']) (by simp only [maxLen]; omega) hn hbase ?_
  · rw [add_plain0, cell_heap hb]
    match j, hu with
    | 0, hu => exact hu
    | 1, hu => exact hu
  · intro v' w' h2 h3 _
    have h4 : w'.ownsRow base 114 2 v' (D ++ [(f, q)]).length (subCells (D ++ [(f, q)])) := by
      rw [subCells_snoc, List.length_append]; exact h2
    obtain ⟨A1, c1, hv, _⟩ := own_form h4
    subst hv
    exact K A1 _ c1 w' h4 (Turn.of_grownBy h3 (fun k e => e))

end Pk
end Go.Proofs.YtonemmdipmohgaaDoor

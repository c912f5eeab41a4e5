/- Slices of whole numbers that are read; 'append(v, src...)'; string(b). -/
import Derived.Test.YtonemmdipmohgaaDoorBase
import Derived.Laws.AppendOwnNone
namespace Go.Proofs.YtonemmdipmohgaaDoor
open Go.RowKit
set_option linter.unusedVariables false
set_option linter.unusedSimpArgs false

/-- A slice that is read: nil let in. -/
def Reads (k : IntKind) (w : World) (A : Option Addr) (L : List Int) : Prop :=
  0 < L.length → ∃ x, A = some x ∧ ∀ i, i < L.length → w.cell? (x.add i) = some (.int k (lat L i))

theorem below_drewN {B : Nat} {a w : World} (h : Below B a w) (n : Nat) : Below B a (w.drewN n) := ⟨h.os, h.tape, h.output, h.size, h.block⟩
theorem add_add (x : Addr) (i j : Nat) : (x.add i).add j = x.add (i + j) := by
  unfold Addr.add
  by_cases hi : i = 0
  · subst hi; simp
  · by_cases hj : j = 0
    · subst hj; simp
    · rw [if_neg hj, if_neg hi, if_neg (by omega)]; simp [Nat.add_assoc]

/-- string(b) of what came in. -/
theorem conv_reads {P : Program} {W : World} {src dst e : TypeId} {A : Option Addr} {n c : Nat} {L : List Int} (hs : P.underlying src = some (.slice e)) (he : P.underlying e = some (.int .u8)) (hd : P.underlying dst = some .string)
    (hn : n = L.length) (h : Reads .u8 W A L) : (convert src dst (.slice A n c)).run P W = .ok (.string (strOfNums L)) W := by
  subst hn
  cases A with
  | none =>
    have hL : L = [] := by
      cases L with
      | nil => rfl
      | cons a b => obtain ⟨x, hx, _⟩ := h (by simp); cases hx
    subst hL
    exact run_convert_bytes_nil W src e hs he _ _ dst hd
  | some x =>
    have hl := run_loadCells_list (P := P) W x (L.map (Value.int .u8)) (fun j v hj => by
      have hj' : j < L.length := by simpa using (List.getElem?_eq_some_iff.1 hj).1
      obtain ⟨y, hy, hc⟩ := h (by omega)
      cases hy
      rw [hc j hj', lat_get _ _ hj']
      simp [List.getElem?_eq_getElem hj'] at hj
      rw [← hj])
    rw [List.length_map] at hl
    rw [run_convert_bytes_string W src dst e _ _ c hs he hd, run_bytesToString W x _ c L hl, foldl_push_bytes]
    simp [strOfNums, ByteArray.empty, ByteArray.emptyWithCapacity]
    rfl

theorem Reads.keep {w w' : World} {A : Option Addr} {L : List Int} {k : IntKind} (h : Reads k w A L) (b : Below w.heap.size w w') : Reads k w' A L := by
  intro h0
  obtain ⟨x, hx, hc⟩ := h h0
  exact ⟨x, hx, fun i hi => by rw [b.cell (World.block_lt_of_cell? w _ (hc i hi))]; exact hc i hi⟩

theorem reads_part {k : IntKind} {W : World} {x : Addr} {L M : List Int} {j n : Nat} (h : Reads k W (some x) L) (hM : (L.drop j).take n = M) (hjn : j + n ≤ L.length) : Reads k W (some (x.add j)) M := by
  subst hM
  intro h0
  refine ⟨_, rfl, fun i hi => ?_⟩
  have hi' : i < n := by simp at hi; omega
  obtain ⟨y, hy, hc⟩ := h (by omega)
  cases hy
  rw [add_add, hc (j + i) (by omega)]
  simp [lat, List.getElem?_take, hi', List.getElem?_drop]

theorem lat_take (L : List Int) (n i : Nat) (h : i < n) : lat (L.take n) i = lat L i := by
  simp [lat, List.getElem?_take, h]
theorem row_reads {k : IntKind} {w : World} {a : Option Addr} {len cap : Nat} {zs : List Int} (h : IsRow k w a len cap zs) :
    (zs.take len).length = len ∧ Reads k w a (zs.take len) := by
  rcases h with ⟨rfl, rfl, rfl, rfl⟩ | ⟨x, rfl, h1, h2, h3, h4, h5⟩
  · exact ⟨rfl, fun h => absurd h (by simp)⟩
  · have hl : (zs.take len).length = len := by simp; omega
    refine ⟨hl, fun _ => ⟨x, rfl, fun i hi => ?_⟩⟩
    rw [hl] at hi
    rw [lat_take _ _ _ hi]
    exact h4 i (by omega)

/-- 'append(v, src...)': v the call's own; src whatever reads as M, nil let in. -/
theorem wp_append_row {P : Program} {ops : Array Oper} {rest : List Oper} {o : Oper} {a : Act} {Q : Exit → Act → World → Prop} {W : World} (base : Nat) (hgd : o.guard = none) (s x : Operand) (t e : TypeId) (k : IntKind) (bytes : Nat)
    (ho : o.op = .call { callee := .builtin .append, args := #[s, x], argTypes := #[t, t] })
    (ht : P.underlying t = some (.slice e)) (hinfo : (P.info? e).map (fun i => (i.zero, i.size, i.bytes)) = some (some (.int k 0), 1, bytes))
    (v : Value) (L M : List Int) (A : Option Addr) (c : Nat) (hs : a.eval s = v) (hx : a.eval x = .slice A M.length c) (hN : A = none → c = 0) (hR : Reads k W A M)
    (HO : OwnInts W base e k v L) (hbase : base ≤ W.heap.size) (hn : L.length + M.length ≤ 140737488355328 ∧ (L.length + M.length) * bytes ≤ 140737488355328)
    (K : ∀ A1 c1 w1, OwnInts w1 base e k (.slice A1 (L ++ M).length c1) (L ++ M) → Turn (fun j => v.ownBlock = some j) W w1 → wpList P ops Q rest (a.put o.dst (.slice A1 (L ++ M).length c1)) w1) :
    wpList P ops Q (o :: rest) a W := by
  obtain ⟨i0, hi, hzz⟩ := Option.map_eq_some_iff.1 hinfo
  simp only [Prod.mk.injEq] at hzz
  obtain ⟨hz0, hz1, hz2⟩ := hzz
  cases A with
  | none =>
    have hM : M = [] := by
      cases M with
      | nil => rfl
      | cons a b => obtain ⟨x, hx, _⟩ := hR (by simp); cases hx
    subst hM
    obtain rfl := hN rfl
    obtain ⟨A', c', hv, _⟩ := HO.form
    subst hv
    refine wpList_append_own_none hgd s x t ho base e i0 1 ht hi _ L.length _ hs HO hx ?_
    have := K A' c' W (by simpa using HO) (Turn.refl _ _)
    simpa using this
  | some ad =>
    refine wpList_append_own W hgd s x t ho base e i0 (.int k 0) 1 bytes ht hi hz0 hz1 hz2 rfl (by omega) v L.length _ hs HO ad M.length c (M.map (Value.int k)) hx (by simp)
      (fun j u hu => ?_) (by simp [Value.oneCell']) (by simp only [maxLen]; omega) hn.2 hbase ?_
    · have hj : j < M.length := by simpa using (List.getElem?_eq_some_iff.1 hu).1
      obtain ⟨y, hy, hc⟩ := hR (by omega)
      cases hy
      rw [hc j hj, lat_get _ _ hj]
      simp [List.getElem?_eq_getElem hj] at hu
      rw [← hu]
    · intro v' w' h2 h3 _
      have h4 : OwnInts w' base e k v' (L ++ M) := by simpa [OwnInts] using h2
      obtain ⟨A1, c1, hv, _⟩ := h4.form
      subst hv
      exact K A1 c1 w' h4 (Turn.of_grownBy h3 (fun k e => e))

theorem own_reads {w : World} {base : Nat} {e : TypeId} {k : IntKind} {A : Option Addr} {n c : Nat} {L : List Int} (h : OwnInts w base e k (.slice A n c) L) : n = L.length ∧ L.length ≤ c ∧ Reads k w A L ∧ (A = none → c = 0) := by
  have hn : A = none → c = 0 := by
    intro hA
    rcases h.2 with ⟨hv, _⟩ | ⟨g, cap, cur, hv, _⟩
    · injection hv
    · injection hv with h4; rw [hA] at h4; cases h4
  obtain ⟨A', c', hv, h1, h2, h3⟩ := h.form
  injection hv with h4 h5 h6
  subst h4 h5 h6
  refine ⟨rfl, h1, fun h0 => ?_, hn⟩
  obtain ⟨g, hg, _, _, hc⟩ := h3 h0
  exact ⟨_, hg, fun i hi => by rw [add_plain0]; exact hc i hi⟩


end Go.Proofs.YtonemmdipmohgaaDoor

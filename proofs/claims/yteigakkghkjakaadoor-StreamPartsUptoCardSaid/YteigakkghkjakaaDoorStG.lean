/- stream: what is told and what is left are all bytes that came. -/
import Derived.Test.YteigakkghkjakaaDoorStE
namespace Go.Proofs.YteigakkghkjakaaDoor
open Go.RowKit Go.ChangeShapes
set_option linter.unusedVariables false
set_option linter.unusedSimpArgs false
namespace Str
open Utf (nums nums_length nums_bytes IsStr nums_str)
open Var (BT info_byte digs digs_length tell RetTell)
open Pk

theorem pkCells_get : ∀ (ps : List PkX) (i : Nat) (hi : i < ps.length) (j : Nat), j < 18 → (pkCells ps)[i * 18 + j]? = ps[i].1.cells.toList[j]?
  | x :: rest, 0, _, j, hj => by
    have : x.1.cells.toList.length = 18 := rfl
    simp only [pkCells, List.map_cons, List.flatten_cons]
    rw [List.getElem?_append_left (by omega)]; simp
  | x :: rest, i + 1, hi, j, hj => by
    have h18 : x.1.cells.toList.length = 18 := rfl
    have ih := pkCells_get rest i (by simpa using hi) j hj
    simp only [pkCells, List.map_cons, List.flatten_cons] at ih ⊢
    rw [List.getElem?_append_right (by omega), h18, show (i + 1) * 18 + j - 18 = i * 18 + j by omega, ih]
    rfl
theorem PkRow.get {w : World} {base n c : Nat} {A : Option Addr} {ps : List PkX} (h : PkRow w base (.slice A n c) ps) (i : Nat) (hi : i < ps.length) : ∃ g, A = some ⟨g, 0, none⟩ ∧ n = ps.length ∧ ps.length ≤ c ∧ ∀ j v, ps[i].1.cells.toList[j]? = some v → w.cell? ⟨g, i * 18 + j, none⟩ = some v := by
  have hr := h.row
  rcases hr.2 with ⟨hv, hn⟩ | ⟨g, cap, cur, hv, _, _, hc, _⟩
  · omega
  · injection hv with e1 e2 e3
    subst e1 e2 e3
    refine ⟨g, rfl, rfl, hc, fun j v hj => ?_⟩
    have hjl : j < 18 := by
      have := (List.getElem?_eq_some_iff.1 hj).1
      have h18 : ps[i].1.cells.toList.length = 18 := rfl
      omega
    have := hr.cells (g := g) rfl (i * 18 + j) v (by rw [pkCells_get ps i hi j hjl]; exact hj)
    rw [add_plain0] at this
    exact this
theorem told_get : ∀ {Ls : List (List Int)} {ps : List PkX} (h : Told Ls ps) (i : Nat) (hi : i < ps.length) (hi' : i < Ls.length), IsPkt Ls[i] ps[i].1 ps[i].2.1 ps[i].2.2
  | _ :: _, _ :: _, h, 0, _, _ => h.1
  | _ :: _, _ :: _, h, i + 1, hi, hi' => told_get h.2 i (by simpa using hi) (by simpa using hi')
  | [], _ :: _, h, _, _, _ => h.elim

/-- A packet of a row, loaded. -/
theorem wp_load_row {ops : Array Oper} {rest : List Oper} {o : Oper} {a : Act} {W : World} {Q : Exit → Act → World → Prop} {x : Operand} {g i : Nat} {p : Pkt} (hgd : o.guard = none) (ho : o.op = .load PT x) (hx : a.eval x = .pointer (some ⟨g, i * 18, none⟩)) (h : ∀ j v, p.cells.toList[j]? = some v → W.cell? ⟨g, i * 18 + j, none⟩ = some v)
    (hK : wpList Tryd.prog ops Q rest (a.put o.dst (.agg p.cells)) W) : wpList Tryd.prog ops Q (o :: rest) a W :=
  st_val _ (wanted_free hgd) (rLoad ho (by
    rw [hx]
    have := load_agg W PT ⟨g, i * 18, none⟩ p.cells.toList (by kernel_rfl) (by kernel_rfl) (fun j v hj => by have := h j v hj; by_cases h0 : j = 0 <;> simpa [Addr.add, h0] using this)
    simpa using this)) hK

theorem step_inr {most : Int} {R : List Int} {c : Int} (hb : ∀ x ∈ R, 0 ≤ x ∧ x < 256) (h : stepS most R IsP = .inr c) : c = 0 ∨ ((c = 100 ∨ c = 101) ∧ 0 < R.length) := by
  by_cases h0 : R = []
  · subst h0
    have : stepS most [] IsP = .inr 0 := step_more (by decide)
    rw [this] at h
    injection h with h
    exact .inl h.symm
  · have hp : 0 < R.length := List.length_pos_iff.2 h0
    unfold stepS at h
    split at h
    rename_i n k er ht
    split at h
    · injection h with h; exact .inr ⟨.inl h.symm, hp⟩
    · split at h
      · injection h with h; exact .inl h.symm
      · split at h
        · injection h with h; exact .inr ⟨.inr h.symm, hp⟩
        · split at h
          · injection h with h; exact .inl h.symm
          · split at h
            · cases h
            · injection h with h; exact .inr ⟨.inl h.symm, hp⟩

theorem cuts_spec (most : Int) : ∀ (f : Nat) (X : List Int), X.length < f → (∀ x ∈ X, 0 ≤ x ∧ x < 256) →
    (∀ L ∈ (cuts most f X).1, (L.length : Int) ≤ most ∧ L.length ≤ X.length) ∧ (((cuts most f X).2.1 = 0 ∧ (cuts most f X).1.flatten ++ (cuts most f X).2.2 = X) ∨ (((cuts most f X).2.1 = 100 ∨ (cuts most f X).2.1 = 101) ∧ (cuts most f X).2.2 = [] ∧ ∃ Y, 0 < Y.length ∧ (cuts most f X).1.flatten ++ Y = X))
  | 0, X, h, _ => absurd h (by omega)
  | f + 1, X, h, hb => by
    cases hs : stepS most X IsP with
    | inl n =>
      obtain ⟨h2, hn, hm, _⟩ := step_inl hb hs
      have ih := cuts_spec most f (X.drop n) (by rw [List.length_drop]; omega) (fun x hx => hb x (List.mem_of_mem_drop hx))
      rw [cuts_inl hs]
      have hl : (X.take n).length = n := by simp; omega
      refine ⟨fun L hL => ?_, ?_⟩
      · rcases List.mem_cons.1 hL with rfl | hL
        · rw [hl]; exact ⟨hm, hn⟩
        · have := ih.1 L hL
          rw [List.length_drop] at this
          exact ⟨this.1, by omega⟩
      · rcases ih.2 with ⟨h1, h2⟩ | ⟨h1, h2, Y, hY, h3⟩
        · refine .inl ⟨h1, ?_⟩
          show (X.take n :: (cuts most f (X.drop n)).1).flatten ++ _ = X
          rw [List.flatten_cons, List.append_assoc, h2, List.take_append_drop]
        · refine .inr ⟨h1, h2, Y, hY, ?_⟩
          show (X.take n :: (cuts most f (X.drop n)).1).flatten ++ _ = X
          rw [List.flatten_cons, List.append_assoc, h3, List.take_append_drop]
    | inr c =>
      rw [cuts_inr hs]
      refine ⟨fun L hL => (by cases hL), ?_⟩
      rcases step_inr hb hs with rfl | ⟨hc, hp⟩
      · exact .inl ⟨rfl, by simp⟩
      · refine .inr ⟨hc, ?_, X, hp, rfl⟩
        rw [if_neg (by omega)]
theorem take_flat (Ls : List (List Int)) (k : Nat) (hk : k < Ls.length) : (Ls.take (k + 1)).flatten = (Ls.take k).flatten ++ Ls[k] := by
  rw [List.take_succ_eq_append_getElem hk, List.flatten_append]; simp
theorem flat_le (Ls : List (List Int)) (k : Nat) : (Ls.take k).flatten.length ≤ Ls.flatten.length := by
  have h := congrArg (fun x => (List.flatten x).length) (List.take_append_drop k Ls)
  simp only [List.flatten_append, List.length_append] at h
  omega
theorem take_drop_flat (Ls : List (List Int)) (Y X : List Int) (k : Nat) (hk : k < Ls.length) (h : Ls.flatten ++ Y = X) : (X.drop (Ls.take k).flatten.length).take Ls[k].length = Ls[k] := by
  have h1 : X = (Ls.take k).flatten ++ (Ls[k] ++ ((Ls.drop (k + 1)).flatten ++ Y)) := by
    rw [← h, ← List.append_assoc, ← take_flat Ls k hk, ← List.append_assoc, ← List.flatten_append, List.take_append_drop]
  rw [h1, List.drop_left, List.take_left]

theorem flat_two : ∀ (Ls : List (List Int)), (∀ L ∈ Ls, 2 ≤ L.length) → 2 * Ls.length ≤ Ls.flatten.length
  | [], _ => by simp
  | L :: Ls, h => by
    have h1 := h L (List.mem_cons_self ..)
    have h2 := flat_two Ls (fun x hx => h x (List.mem_cons_of_mem _ hx))
    rw [List.flatten_cons, List.length_append, List.length_cons]
    omega
end Str
end Go.Proofs.YteigakkghkjakaaDoor

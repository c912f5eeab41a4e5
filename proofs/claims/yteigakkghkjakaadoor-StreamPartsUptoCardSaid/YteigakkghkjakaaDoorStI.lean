/- stream: two rows of packets; bytes parted. -/
import Derived.Test.YteigakkghkjakaaDoorStG
namespace Go.Proofs.YteigakkghkjakaaDoor
open Go.RowKit Go.ChangeShapes
set_option linter.unusedVariables false
set_option linter.unusedSimpArgs false
namespace Str
open Utf (nums nums_length nums_bytes IsStr nums_str)
open Var (BT info_byte digs digs_length tell RetTell)
open Pk

/-- A row of packets, wherever it lies. -/
def PkReads (w : World) (A : Option Addr) (ps : List PkX) : Prop := ∀ i (hi : i < ps.length), ∃ g, A = some ⟨g, 0, none⟩ ∧ (∀ j v, ps[i].1.cells.toList[j]? = some v → w.cell? ⟨g, i * 18 + j, none⟩ = some v) ∧ Lies w ps[i].1 ps[i].2.1 ps[i].2.2
theorem PkReads.keep {w w' : World} {A : Option Addr} {ps : List PkX} (h : PkReads w A ps) (b : Below w.heap.size w w') : PkReads w' A ps := by
  intro i hi
  obtain ⟨g, hA, hc, hl⟩ := h i hi
  refine ⟨g, hA, fun j v hj => ?_, hl.keep b⟩
  have := hc j v hj
  rw [b.cell (World.block_lt_of_cell? w _ this)]; exact this

/- what 'tell' has told stays told when more comes -/
theorem tell_more : ∀ (f : Nat) (first : Bool) (L M : List Int) (i n w : Int), 0 ≤ i → (tell f first L i n w).2.2 ≠ 7 → tell f first (L ++ M) i n w = tell f first L i n w
  | 0, _, _, _, _, _, _, _, _ => rfl
  | f + 1, first, L, M, i, n, w, hi, h => by
    unfold tell at h ⊢
    by_cases h1 : (L.length : Int) ≤ i
    · rw [if_pos h1] at h; exact absurd rfl h
    · have h2 : ¬ ((L ++ M).length : Int) ≤ i := by rw [List.length_append]; omega
      have hg : (L ++ M).getD i.toNat 0 = L.getD i.toNat 0 := by
        rw [List.getD_eq_getElem?_getD, List.getD_eq_getElem?_getD, List.getElem?_append_left (by omega)]
      rw [if_neg h1] at h ⊢
      rw [if_neg h2, hg]
      by_cases h3 : L.getD i.toNat 0 < 128
      · rw [if_pos h3] at h ⊢
        rw [if_pos h3]
      · rw [if_neg h3] at h
        rw [if_neg h3, if_neg h3]
        exact tell_more f false L M (i + 1) _ _ (by omega) h
theorem step_more_inl {most : Int} {R M : List Int} {n : Nat} (hb : ∀ x ∈ R, 0 ≤ x ∧ x < 256) (h : stepS most R IsP = .inl n) : stepS most (R ++ M) IsP = .inl n := by
  obtain ⟨_, hn, _, _⟩ := step_inl hb h
  have ht : tell 4 true (R ++ M) 1 0 1 = tell 4 true R 1 0 1 := by
    refine tell_more 4 true R M 1 0 1 (by decide) (fun h7 => ?_)
    unfold stepS at h
    split at h
    rename_i n' k er hT
    rw [hT] at h7
    simp only at h7
    rw [h7, if_neg (by decide), if_pos (by decide)] at h
    cases h
  unfold stepS at h ⊢
  rw [ht]
  split at h
  rename_i n' k er hT
  split at h
  · cases h
  · split at h
    · cases h
    · split at h
      · cases h
      · split at h
        · cases h
        · rename_i a1 a2 a3 a4
          split at h
          · rename_i a5
            injection h with h
            have htk : (R ++ M).take (k + n').toNat = R.take (k + n').toNat := List.take_append_of_le_length (by omega)
            rw [if_neg a1, if_neg a2, if_neg a3, if_neg (by rw [List.length_append]; omega), htk, if_pos a5, h]
          · cases h
theorem step_more_inr {most : Int} {R M : List Int} {c : Int} (h : stepS most R IsP = .inr c) (hc : c ≠ 0) : stepS most (R ++ M) IsP = .inr c := by
  have ht : tell 4 true (R ++ M) 1 0 1 = tell 4 true R 1 0 1 := by
    refine tell_more 4 true R M 1 0 1 (by decide) (fun h7 => ?_)
    unfold stepS at h
    split at h
    rename_i n' k er hT
    rw [hT] at h7
    simp only at h7
    rw [h7, if_neg (by decide), if_pos (by decide)] at h
    injection h with h
    exact hc h.symm
  unfold stepS at h ⊢
  rw [ht]
  split at h
  rename_i n' k er hT
  split at h
  · rename_i a1
    rw [if_pos a1]; exact h
  · rename_i a1
    rw [if_neg a1]
    split at h
    · injection h with h; exact absurd h.symm hc
    · rename_i a2
      rw [if_neg a2]
      split at h
      · rename_i a3
        rw [if_pos a3]; exact h
      · rename_i a3
        rw [if_neg a3]
        split at h
        · injection h with h; exact absurd h.symm hc
        · rename_i a4
          rw [if_neg (by rw [List.length_append]; omega)]
          split at h
          · cases h
          · rename_i a5
            have htk : (R ++ M).take (k + n').toNat = R.take (k + n').toNat := List.take_append_of_le_length (by omega)
            rw [htk, if_neg a5]; exact h
/-- More fuel than bytes: it is all one. -/
theorem cuts_fuel (most : Int) : ∀ (f f' : Nat) (X : List Int), X.length < f → X.length < f' → (∀ x ∈ X, 0 ≤ x ∧ x < 256) → cuts most f X = cuts most f' X
  | 0, _, _, h, _, _ => absurd h (by omega)
  | _ + 1, 0, _, _, h, _ => absurd h (by omega)
  | f + 1, f' + 1, X, h, h', hb => by
    cases hs : stepS most X IsP with
    | inl n =>
      obtain ⟨h2, hn, _, _⟩ := step_inl hb hs
      have e := cuts_fuel most f f' (X.drop n) (by rw [List.length_drop]; omega) (by rw [List.length_drop]; omega) (fun x hx => hb x (List.mem_of_mem_drop hx))
      rw [cuts_inl hs, cuts_inl hs, e]
    | inr c => rw [cuts_inr hs, cuts_inr hs]
/-- Bytes that come in two parts are cut as they are at once. -/
theorem cuts_part (most : Int) : ∀ (f g h : Nat) (X Y : List Int), X.length < f → (X ++ Y).length < g → (X ++ Y).length < h → (∀ x ∈ X, 0 ≤ x ∧ x < 256) → (∀ x ∈ Y, 0 ≤ x ∧ x < 256) →
    ((cuts most f X).2.1 = 0 → cuts most g (X ++ Y) = ((cuts most f X).1 ++ (cuts most h ((cuts most f X).2.2 ++ Y)).1, (cuts most h ((cuts most f X).2.2 ++ Y)).2)) ∧
    ((cuts most f X).2.1 ≠ 0 → cuts most g (X ++ Y) = cuts most f X)
  | 0, _, _, _, _, h, _, _, _, _ => absurd h (by omega)
  | _ + 1, 0, _, _, _, _, h, _, _, _ => absurd h (by omega)
  | f + 1, g + 1, h, X, Y, hf, hg, hh, hb, hy => by
    have hby : ∀ x ∈ X ++ Y, 0 ≤ x ∧ x < 256 := fun x hx => by
      rcases List.mem_append.1 hx with h | h
      · exact hb x h
      · exact hy x h
    cases hs : stepS most X IsP with
    | inl n =>
      obtain ⟨h2, hn, _, _⟩ := step_inl hb hs
      have hd : (X ++ Y).drop n = X.drop n ++ Y := List.drop_append_of_le_length hn
      have htk : (X ++ Y).take n = X.take n := List.take_append_of_le_length hn
      have hl : (X.drop n ++ Y).length + 2 ≤ (X ++ Y).length := by simp; omega
      have ih := cuts_part most f g h (X.drop n) Y (by rw [List.length_drop]; omega) (by omega) (by omega) (fun x hx => hb x (List.mem_of_mem_drop hx)) hy
      rw [cuts_inl hs, cuts_inl (step_more_inl hb hs), hd, htk]
      constructor
      · intro h0
        rw [ih.1 h0]; rfl
      · intro h0
        rw [ih.2 h0]
    | inr c =>
      rw [cuts_inr hs]
      constructor
      · intro h0
        have h0' : c = 0 := h0
        subst h0'
        show cuts most (g + 1) (X ++ Y) = ([] ++ (cuts most h ((if (0 : Int) = 0 then X else []) ++ Y)).1, (cuts most h ((if (0 : Int) = 0 then X else []) ++ Y)).2)
        rw [if_pos rfl, List.nil_append, cuts_fuel most (g + 1) h (X ++ Y) hg hh hby]
      · intro h0
        have h0' : c ≠ 0 := h0
        rw [cuts_inr (step_more_inr hs h0'), if_neg h0', if_neg h0']
/-- Packets told of the same bytes are the same. -/
theorem told_same {Ls : List (List Int)} : ∀ {ps qs : List PkX}, Told Ls ps → Told Ls qs → ps.length = qs.length ∧ ∀ i (h : i < ps.length) (h' : i < qs.length), SameP ps[i].1 qs[i].1 ps[i].2.1 qs[i].2.1 ps[i].2.2 qs[i].2.2 := by
  induction Ls with
  | nil =>
    intro ps qs h h'
    cases ps with
    | nil =>
      cases qs with
      | nil => exact ⟨rfl, fun i h => absurd h (by simp)⟩
      | cons _ _ => exact h'.elim
    | cons _ _ => exact h.elim
  | cons L Ls ih =>
    intro ps qs h h'
    cases ps with
    | nil => exact h.elim
    | cons x ps =>
      cases qs with
      | nil => exact h'.elim
      | cons y qs =>
        obtain ⟨e, ih⟩ := ih h.2 h'.2
        refine ⟨by simp [e], fun i hi hi' => ?_⟩
        cases i with
        | zero => exact is_unique h.1 h'.1
        | succ i => exact ih i (by simpa using hi) (by simpa using hi')
theorem told_append : ∀ {Ls Ms : List (List Int)} {ps qs : List PkX}, Told Ls ps → Told Ms qs → Told (Ls ++ Ms) (ps ++ qs)
  | [], _, [], _, _, h => h
  | _ :: _, _, _ :: _, _, h, h' => ⟨h.1, told_append h.2 h'⟩
end Str
end Go.Proofs.YteigakkghkjakaaDoor

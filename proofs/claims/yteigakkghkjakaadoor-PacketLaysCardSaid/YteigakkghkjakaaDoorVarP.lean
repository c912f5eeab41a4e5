/- Lengths as bytes: plain functions and their laws; no program here. -/
namespace Go.Proofs.YteigakkghkjakaaDoor
namespace Var

/-- A length's bytes, with at most so many more behind the first. -/
def digs : Nat → Int → List Int
  | 0, n => [n]
  | k + 1, n => if n < 128 then [n] else (n % 128 + 128) :: digs k (n / 128)
/-- The length at a place: so many bytes may still come; is it the first; the sum so far; what the next digit is worth. -/
def tell : Nat → Bool → List Int → Int → Int → Int → Int × Int × Int
  | 0, _, _, _, _, _ => (0, 0, 4)
  | f + 1, first, L, i, n, w =>
    if (L.length : Int) ≤ i then (0, 0, 7)
    else if L.getD i.toNat 0 < 128 then (if L.getD i.toNat 0 = 0 ∧ first = false then (0, 0, 4) else (n + w * (L.getD i.toNat 0 % 128), i + 1, 0))
    else tell f false L (i + 1) (n + w * (L.getD i.toNat 0 % 128)) (128 * w)

theorem digs_step (k : Nat) (n : Int) (h : 128 ≤ n) : digs (k + 1) n = (n % 128 + 128) :: digs k (n / 128) := by
  simp only [digs]; rw [if_neg (by omega)]
theorem digs_last (k : Nat) (n : Int) (h : n < 128) : digs k n = [n] := by
  cases k with
  | zero => rfl
  | succ k => simp only [digs]; rw [if_pos h]
theorem digs_length (k : Nat) : ∀ n : Int, 1 ≤ (digs k n).length ∧ (digs k n).length ≤ k + 1 := by
  induction k with
  | zero => intro n; simp [digs]
  | succ k ih =>
    intro n
    simp only [digs]
    split
    · simp
    · have := ih (n / 128)
      simp only [List.length_cons]
      omega
theorem getD_drop (L : List Int) (i j : Nat) : (L.drop i).getD j 0 = L.getD (i + j) 0 := by
  simp [List.getD_eq_getElem?_getD]
/-- What is put is told, whatever stands around it. -/
theorem tell_digs (k : Nat) : ∀ (first : Bool) (L : List Int) (i : Nat) (n w m : Int) (post : List Int), 0 ≤ m → m < 128 ^ (k + 1) → (first = true ∨ m ≠ 0) → L.drop i = digs k m ++ post →
    tell (k + 1) first L i n w = (n + w * m, (i : Int) + (digs k m).length, 0) := by
  induction k with
  | zero =>
    intro first L i n w m post h0 h1 hf hL
    simp only [digs, List.singleton_append] at hL
    have hlen := congrArg List.length hL
    simp only [List.length_drop, List.length_cons] at hlen
    have hx : L.getD ((i : Nat) : Int).toNat 0 = m := by
      have := getD_drop L i 0
      rw [hL] at this
      simpa using this.symm
    simp at h1
    simp only [tell, digs]
    rw [if_neg (by omega), hx, if_pos (by omega), if_neg (by rintro ⟨rfl, rfl⟩; simp at hf)]
    rw [show m % 128 = m from by omega]
    rfl
  | succ k ih =>
    intro first L i n w m post h0 h1 hf hL
    by_cases hm : m < 128
    · rw [digs_last _ _ hm] at hL ⊢
      simp only [List.singleton_append] at hL
      have hlen := congrArg List.length hL
      simp only [List.length_drop, List.length_cons] at hlen
      have hx : L.getD ((i : Nat) : Int).toNat 0 = m := by
        have := getD_drop L i 0
        rw [hL] at this
        simpa using this.symm
      simp only [tell]
      rw [if_neg (by omega), hx, if_pos (by omega), if_neg (by rintro ⟨rfl, rfl⟩; simp at hf)]
      rw [show m % 128 = m from by omega]
      rfl
    · rw [digs_step _ _ (by omega)] at hL ⊢
      have hlen := congrArg List.length hL
      simp only [List.length_drop, List.cons_append, List.length_cons] at hlen
      have hx : L.getD ((i : Nat) : Int).toNat 0 = m % 128 + 128 := by
        have := getD_drop L i 0
        rw [hL] at this
        simpa using this.symm
      have hL2 : L.drop (i + 1) = digs k (m / 128) ++ post := by
        have := congrArg List.tail hL
        simpa [List.tail_drop] using this
      have e : (128 : Int) ^ (k + 1 + 1) = 128 * 128 ^ (k + 1) := by rw [Int.pow_succ, Int.mul_comm]
      rw [e] at h1
      have h2 := ih false L (i + 1) (n + w * ((m % 128 + 128) % 128)) (128 * w) (m / 128) post (by omega) (by omega) (.inr (by omega)) hL2
      rw [tell]
      rw [if_neg (by omega), hx, if_neg (by omega)]
      rw [show ((i : Int) + 1) = ((i + 1 : Nat) : Int) from by omega, h2]
      simp only [Prod.mk.injEq, and_true]
      refine ⟨?_, ?_⟩
      · have h3 : m = 128 * (m / 128) + m % 128 := by omega
        rw [show (m % 128 + 128) % 128 = m % 128 from by omega]
        have e1 : 128 * w * (m / 128) = w * (128 * (m / 128)) := by rw [Int.mul_comm 128 w, Int.mul_assoc]
        rw [e1, Int.add_assoc, ← Int.mul_add]
        rw [show m % 128 + 128 * (m / 128) = m from by omega]
      · simp only [List.length_cons]
        omega
/-- Without its last byte more is needed. -/
theorem tell_cut (k : Nat) : ∀ (first : Bool) (L : List Int) (i : Nat) (n w m : Int), i ≤ L.length → L.drop i = (digs k m).dropLast → tell (k + 1) first L i n w = (0, 0, 7) := by
  induction k with
  | zero =>
    intro first L i n w m hi hL
    simp only [digs, List.dropLast_singleton] at hL
    have hlen := congrArg List.length hL
    simp only [List.length_drop, List.length_nil] at hlen
    simp only [tell]
    rw [if_pos (by omega)]
  | succ k ih =>
    intro first L i n w m hi hL
    by_cases hm : m < 128
    · rw [digs_last _ _ hm] at hL
      simp only [List.dropLast_singleton] at hL
      have hlen := congrArg List.length hL
      simp only [List.length_drop, List.length_nil] at hlen
      simp only [tell]
      rw [if_pos (by omega)]
    · rw [digs_step _ _ (by omega)] at hL
      have hne : digs k (m / 128) ≠ [] := by
        have := (digs_length k (m / 128)).1
        intro e; rw [e] at this; simp at this
      rw [List.dropLast_cons_of_ne_nil hne] at hL
      have hlen := congrArg List.length hL
      simp only [List.length_drop, List.length_cons] at hlen
      have hx : L.getD ((i : Nat) : Int).toNat 0 = m % 128 + 128 := by
        have := getD_drop L i 0
        rw [hL] at this
        simpa using this.symm
      have hL2 : L.drop (i + 1) = (digs k (m / 128)).dropLast := by
        have := congrArg List.tail hL
        simpa [List.tail_drop] using this
      rw [tell]
      rw [if_neg (by omega), hx, if_neg (by omega), show ((i : Int) + 1) = ((i + 1 : Nat) : Int) from by omega]
      exact ih _ _ _ _ _ _ (by omega) hL2
/-- What is told was put; else nothing is told. -/
theorem tell_inv (k : Nat) : ∀ (first : Bool) (L : List Int) (i : Nat) (n w : Int), (∀ x ∈ L, 0 ≤ x ∧ x < 256) →
    (∃ m : Int, 0 ≤ m ∧ m < 128 ^ (k + 1) ∧ (first = true ∨ m ≠ 0) ∧ tell (k + 1) first L i n w = (n + w * m, (i : Int) + (digs k m).length, 0) ∧ i + (digs k m).length ≤ L.length ∧ (L.drop i).take (digs k m).length = digs k m) ∨
    (∃ e, (e = 4 ∨ e = 7) ∧ tell (k + 1) first L i n w = (0, 0, e)) := by
  induction k with
  | zero =>
    intro first L i n w hb
    by_cases h1 : (L.length : Int) ≤ (i : Int)
    · exact .inr ⟨7, .inr rfl, by simp only [tell]; rw [if_pos h1]⟩
    have hi : i < L.length := by omega
    have hx : L.getD ((i : Nat) : Int).toNat 0 = L[i] := by simp [List.getD_eq_getElem?_getD, List.getElem?_eq_getElem hi]
    have hb := hb _ (List.getElem_mem hi)
    by_cases h2 : L[i] < 128
    · by_cases h3 : L[i] = 0 ∧ first = false
      · exact .inr ⟨4, .inl rfl, by simp only [tell]; rw [if_neg h1, hx, if_pos h2, if_pos h3]⟩
      · refine .inl ⟨L[i], hb.1, by simpa using h2, ?_, ?_, by simp [digs]; omega, ?_⟩
        · cases first
          · exact .inr fun e => h3 ⟨e, rfl⟩
          · exact .inl rfl
        · simp only [tell, digs]
          rw [if_neg h1, hx, if_pos h2, if_neg h3, show L[i] % 128 = L[i] from by omega]
          rfl
        · simp only [digs, List.length_singleton]
          rw [List.drop_eq_getElem_cons hi]
          rfl
    · exact .inr ⟨4, .inl rfl, by simp only [tell]; rw [if_neg h1, hx, if_neg h2]⟩
  | succ k ih =>
    intro first L i n w hb
    by_cases h1 : (L.length : Int) ≤ (i : Int)
    · exact .inr ⟨7, .inr rfl, by rw [show k + 1 + 1 = (k + 1) + 1 from rfl]; unfold tell; rw [if_pos h1]⟩
    have hi : i < L.length := by omega
    have hx : L.getD ((i : Nat) : Int).toNat 0 = L[i] := by simp [List.getD_eq_getElem?_getD, List.getElem?_eq_getElem hi]
    have hbb := hb _ (List.getElem_mem hi)
    by_cases h2 : L[i] < 128
    · by_cases h3 : L[i] = 0 ∧ first = false
      · exact .inr ⟨4, .inl rfl, by unfold tell; rw [if_neg h1, hx, if_pos h2, if_pos h3]⟩
      · refine .inl ⟨L[i], hbb.1, ?_, ?_, ?_, ?_, ?_⟩
        · have : (0 : Int) < 128 ^ (k + 1) := Int.pow_pos (by omega)
          have e : (128 : Int) ^ (k + 1 + 1) = 128 * 128 ^ (k + 1) := by rw [Int.pow_succ, Int.mul_comm]
          rw [e]; omega
        · cases first
          · exact .inr fun e => h3 ⟨e, rfl⟩
          · exact .inl rfl
        · rw [digs_last _ _ h2]
          unfold tell
          rw [if_neg h1, hx, if_pos h2, if_neg h3, show L[i] % 128 = L[i] from by omega]
          rfl
        · rw [digs_last _ _ h2]; simp; omega
        · rw [digs_last _ _ h2, List.drop_eq_getElem_cons hi]
          rfl
    · have hstep : tell (k + 1 + 1) first L i n w = tell (k + 1) false L ((i + 1 : Nat) : Int) (n + w * (L[i] % 128)) (128 * w) := by
        rw [tell]
        rw [if_neg h1, hx, if_neg h2]
        rfl
      rcases ih false L (i + 1) (n + w * (L[i] % 128)) (128 * w) hb with ⟨m, g1, g2, g3, g4, g5, g6⟩ | ⟨e, g1, g2⟩
      · have hm1 : 1 ≤ m := by
          rcases g3 with g3 | g3
          · cases g3
          · omega
        have hbig : 128 ≤ 128 * m + L[i] % 128 := by omega
        have hd : digs (k + 1) (128 * m + L[i] % 128) = L[i] :: digs k m := by
          rw [digs_step _ _ hbig, show (128 * m + L[i] % 128) % 128 + 128 = L[i] from by omega, show (128 * m + L[i] % 128) / 128 = m from by omega]
        refine .inl ⟨128 * m + L[i] % 128, by omega, ?_, .inr (by omega), ?_, ?_, ?_⟩
        · have e : (128 : Int) ^ (k + 1 + 1) = 128 * 128 ^ (k + 1) := by rw [Int.pow_succ, Int.mul_comm]
          rw [e]; omega
        · rw [hstep, g4, hd]
          simp only [Prod.mk.injEq, and_true, List.length_cons]
          refine ⟨?_, by omega⟩
          have e1 : 128 * w * m = w * (128 * m) := by rw [Int.mul_comm 128 w, Int.mul_assoc]
          rw [e1, Int.add_assoc, ← Int.mul_add, Int.add_comm (L[i] % 128)]
        · rw [hd, List.length_cons]; omega
        · rw [hd, List.length_cons, List.drop_eq_getElem_cons hi, List.take_succ_cons, g6]
      · exact .inr ⟨e, g1, hstep.trans g2⟩
theorem digs_mono (k : Nat) : ∀ n m : Int, n ≤ m → (digs k n).length ≤ (digs k m).length := by
  induction k with
  | zero => intro n m _; simp [digs]
  | succ k ih =>
    intro n m h
    by_cases hn : n < 128
    · rw [digs_last _ _ hn]
      exact (digs_length _ _).1
    · rw [digs_step _ _ (by omega), digs_step _ _ (by omega)]
      have := ih (n / 128) (m / 128) (by omega)
      simp only [List.length_cons]
      omega
theorem digs_bytes (k : Nat) : ∀ n : Int, 0 ≤ n → n < 128 ^ (k + 1) → ∀ x ∈ digs k n, 0 ≤ x ∧ x < 256 := by
  induction k with
  | zero =>
    intro n h0 h1 x hx
    simp [digs] at hx
    subst hx
    simp at h1
    omega
  | succ k ih =>
    intro n h0 h1 x hx
    simp only [digs] at hx
    split at hx
    · simp at hx; subst hx; omega
    · rcases List.mem_cons.1 hx with rfl | hx
      · omega
      · refine ih (n / 128) (by omega) ?_ x hx
        have e : (128 : Int) ^ (k + 1 + 1) = 128 * 128 ^ (k + 1) := by rw [Int.pow_succ, Int.mul_comm]
        rw [e] at h1
        omega
end Var
end Go.Proofs.YteigakkghkjakaaDoor

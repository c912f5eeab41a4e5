/- UTF-8 in plain Lean: what a point's bytes are; no point's bytes begin another's; a list of points and its bytes. -/
import Derived.Test.YteigakkghkjakaaDoorBase
import Derived.Test.YteigakkghkjakaaDoorRowsRead
import Derived.Lib.DecodeN
import Derived.Shelf.Unicode.DecodeSlow
namespace Go.Proofs.YteigakkghkjakaaDoor
set_option linter.unusedVariables false
set_option linter.unusedSimpArgs false
namespace Utf

def Good (n : Int) : Prop := 1 ≤ n ∧ n ≤ 1114111 ∧ (n < 55296 ∨ 57343 < n)
instance (n : Int) : Decidable (Good n) := by unfold Good; exact inferInstance
def enc (n : Int) : List Int :=
  if n < 128 then [n] else if n < 2048 then [192 + n / 64, 128 + n % 64] else if n < 65536 then [224 + n / 4096, 128 + n / 64 % 64, 128 + n % 64]
  else [240 + n / 262144, 128 + n / 4096 % 64, 128 + n / 64 % 64, 128 + n % 64]

/-- The point's bytes stand at the beginning: said of the first four bytes and the length. -/
def PreA (n : Int) (len : Nat) (b0 b1 b2 b3 : Int) : Prop :=
  (n < 128 ∧ 1 ≤ len ∧ b0 = n) ∨ (128 ≤ n ∧ n < 2048 ∧ 2 ≤ len ∧ b0 = 192 + n / 64 ∧ b1 = 128 + n % 64) ∨
  (2048 ≤ n ∧ n < 65536 ∧ 3 ≤ len ∧ b0 = 224 + n / 4096 ∧ b1 = 128 + n / 64 % 64 ∧ b2 = 128 + n % 64) ∨
  (65536 ≤ n ∧ 4 ≤ len ∧ b0 = 240 + n / 262144 ∧ b1 = 128 + n / 4096 % 64 ∧ b2 = 128 + n / 64 % 64 ∧ b3 = 128 + n % 64)

theorem pre_iff (n : Int) (L : List Int) : enc n <+: L ↔ PreA n L.length (lat L 0) (lat L 1) (lat L 2) (lat L 3) := by
  unfold enc PreA
  match L with
  | [] => 
    constructor
    · intro h
      have := h.length_le
      split at this
      · simp at this
      · split at this
        · simp at this
        · split at this <;> simp at this
    · intro h; simp at h
  | [a] => by_cases h1 : n < 128 <;> by_cases h2 : n < 2048 <;> by_cases h3 : n < 65536 <;> simp [h1, h2, h3, lat, List.cons_prefix_cons] <;> omega
  | [a, b] => by_cases h1 : n < 128 <;> by_cases h2 : n < 2048 <;> by_cases h3 : n < 65536 <;> simp [h1, h2, h3, lat, List.cons_prefix_cons] <;> omega
  | [a, b, c] => by_cases h1 : n < 128 <;> by_cases h2 : n < 2048 <;> by_cases h3 : n < 65536 <;> simp [h1, h2, h3, lat, List.cons_prefix_cons] <;> omega
  | a :: b :: c :: d :: L => by_cases h1 : n < 128 <;> by_cases h2 : n < 2048 <;> by_cases h3 : n < 65536 <;> simp [h1, h2, h3, lat, List.cons_prefix_cons] <;> omega

def encLen (n : Int) : Nat := if n < 128 then 1 else if n < 2048 then 2 else if n < 65536 then 3 else 4
theorem enc_length (n : Int) : (enc n).length = encLen n := by unfold enc encLen; repeat' split
                                                               all_goals rfl
theorem encLen_range (n : Int) : 1 ≤ encLen n ∧ encLen n ≤ 4 := by unfold encLen; repeat' split
                                                                   all_goals omega
theorem enc_ne (n : Int) : enc n ≠ [] := fun h => by have := enc_length n; rw [h] at this; have := (encLen_range n).1; simp at *; omega
theorem enc_bytes (n : Int) (h : Good n) : ∀ x ∈ enc n, 0 ≤ x ∧ x < 256 := by
  obtain ⟨h1, h2, h3⟩ := h
  unfold enc
  intro x hx
  repeat' split at hx
  all_goals (simp at hx; omega)

set_option maxHeartbeats 1000000 in
/-- No point's bytes begin another's. -/
theorem pre_same (n m : Int) (hn : Good n) (hm : Good m) (len : Nat) (b0 b1 b2 b3 : Int) (h1 : PreA n len b0 b1 b2 b3) (h2 : PreA m len b0 b1 b2 b3) : n = m := by
  obtain ⟨g1, g2, _⟩ := hn
  obtain ⟨g4, g5, _⟩ := hm
  unfold PreA at h1 h2
  rcases h1 with h1 | h1 | h1 | h1 <;> rcases h2 with h2 | h2 | h2 | h2 <;> omega
theorem enc_same {n m : Int} (hn : Good n) (hm : Good m) {L : List Int} (h1 : enc n <+: L) (h2 : enc m <+: L) : n = m :=
  pre_same n m hn hm _ _ _ _ _ ((pre_iff n L).1 h1) ((pre_iff m L).1 h2)

/-- The decoder's answer. -/
def dec (L : List Int) : Nat × Nat := Lib.decodeN L.length (lat L 0).toNat (lat L 1).toNat (lat L 2).toNat (lat L 3).toNat
def None_ (d : Nat × Nat) : Prop := d.1 = 0 ∨ d.1 = 65533 ∧ d.2 < 2

set_option maxRecDepth 100000 in
set_option maxHeartbeats 4000000 in
theorem dec_none (len : Nat) (b0 b1 b2 b3 : Nat) (hl : 1 ≤ len) (h0 : b0 < 256) (h1 : b1 < 256) (h2 : b2 < 256) (h3 : b3 < 256) (h : None_ (Lib.decodeN len b0 b1 b2 b3)) (n : Int) (hn : Good n) :
    ¬ PreA n len b0 b1 b2 b3 := by
  obtain ⟨g1, g2, g3⟩ := hn
  unfold None_ Lib.decodeN at h
  unfold PreA
  repeat' split at h
  all_goals (simp at h; try omega)
set_option maxRecDepth 100000 in
set_option maxHeartbeats 4000000 in
theorem dec_cases (len : Nat) (b0 b1 b2 b3 : Nat) (hl : 1 ≤ len) (h0 : b0 < 256) (h1 : b1 < 256) (h2 : b2 < 256) (h3 : b3 < 256) (r k : Nat) (h : Lib.decodeN len b0 b1 b2 b3 = (r, k)) :
    (r = 0 ∨ r = 65533 ∧ k < 2) ∨ Good (r : Int) ∧ PreA (r : Int) len b0 b1 b2 b3 ∧ k = encLen (r : Int) := by
  unfold Lib.decodeN at h
  unfold Good PreA encLen
  repeat' split at h
  all_goals
    simp only [Prod.mk.injEq] at h
    obtain ⟨e1, e2⟩ := h
  · subst e2
    by_cases hz : r = 0
    · exact .inl (.inl hz)
    · refine .inr ⟨by omega, .inl (by omega), ?_⟩
      rw [if_pos (by omega)]
  · subst e2
    refine .inr ⟨by omega, .inr (.inl (by omega)), ?_⟩
    rw [if_neg (by omega), if_pos (by omega)]
  · exact .inl (.inr (by omega))
  · subst e2
    refine .inr ⟨by omega, .inr (.inr (.inl (by omega))), ?_⟩
    rw [if_neg (by omega), if_neg (by omega), if_pos (by omega)]
  · exact .inl (.inr (by omega))
  · subst e2
    refine .inr ⟨by omega, .inr (.inr (.inr (by omega))), ?_⟩
    rw [if_neg (by omega), if_neg (by omega), if_neg (by omega)]
  · exact .inl (.inr (by omega))
  · exact .inl (.inr (by omega))

theorem lat_byte (L : List Int) (hb : ∀ x ∈ L, 0 ≤ x ∧ x < 256) (i : Nat) : 0 ≤ lat L i ∧ lat L i < 256 := by
  by_cases h : i < L.length
  · exact hb _ (lat_mem L i h)
  · simp [lat, List.getElem?_eq_none (Nat.le_of_not_lt h)]

/-- What the decoder gives: a point whose bytes stand at the beginning, or there is none. -/
theorem dec_spec (L : List Int) (hb : ∀ x ∈ L, 0 ≤ x ∧ x < 256) (hne : L ≠ []) :
    (None_ (dec L) ∧ ∀ n, Good n → ¬ enc n <+: L) ∨ (¬ None_ (dec L) ∧ Good ((dec L).1 : Int) ∧ enc ((dec L).1 : Int) <+: L ∧ (dec L).2 = (enc ((dec L).1 : Int)).length) := by
  have hl : 1 ≤ L.length := by cases L with
    | nil => exact absurd rfl hne
    | cons a b => simp
  have k0 := lat_byte L hb 0
  have k1 := lat_byte L hb 1
  have k2 := lat_byte L hb 2
  have k3 := lat_byte L hb 3
  have e0 : (((lat L 0).toNat : Nat) : Int) = lat L 0 := Int.toNat_of_nonneg k0.1
  have e1 : (((lat L 1).toNat : Nat) : Int) = lat L 1 := Int.toNat_of_nonneg k1.1
  have e2 : (((lat L 2).toNat : Nat) : Int) = lat L 2 := Int.toNat_of_nonneg k2.1
  have e3 : (((lat L 3).toNat : Nat) : Int) = lat L 3 := Int.toNat_of_nonneg k3.1
  by_cases hN : None_ (dec L)
  · refine .inl ⟨hN, fun n hn hp => ?_⟩
    refine dec_none L.length (lat L 0).toNat (lat L 1).toNat (lat L 2).toNat (lat L 3).toNat hl (by omega) (by omega) (by omega) (by omega) hN n hn ?_
    rw [e0, e1, e2, e3]
    exact (pre_iff n L).1 hp
  · refine .inr ⟨hN, ?_⟩
    rcases dec_cases L.length (lat L 0).toNat (lat L 1).toNat (lat L 2).toNat (lat L 3).toNat hl (by omega) (by omega) (by omega) (by omega) (dec L).1 (dec L).2 rfl with h | ⟨h1, h2, h3⟩
    · exact absurd h hN
    · rw [e0, e1, e2, e3] at h2
      exact ⟨h1, (pre_iff _ L).2 h2, by rw [enc_length]; exact h3⟩

def encs (l : List Int) : List Int := l.flatMap enc
def AllGood (l : List Int) : Prop := ∀ n ∈ l, Good n
theorem encs_nil : encs [] = [] := rfl
theorem encs_cons (n : Int) (l : List Int) : encs (n :: l) = enc n ++ encs l := by simp [encs]
theorem encs_app (l m : List Int) : encs (l ++ m) = encs l ++ encs m := by simp [encs]
theorem encs_one (n : Int) : encs [n] = enc n := by simp [encs]
theorem encs_eq_nil {l : List Int} (h : encs l = []) : l = [] := by
  cases l with
  | nil => rfl
  | cons n l => rw [encs_cons] at h; exact absurd (List.append_eq_nil_iff.1 h).1 (enc_ne n)
theorem encs_bytes (l : List Int) (h : AllGood l) : ∀ x ∈ encs l, 0 ≤ x ∧ x < 256 := by
  intro x hx
  simp only [encs, List.mem_flatMap] at hx
  obtain ⟨n, hn, hx⟩ := hx
  exact enc_bytes n (h n hn) x hx
theorem encs_length (l : List Int) : l.length ≤ (encs l).length := by
  induction l with
  | nil => simp
  | cons n l ih =>
    rw [encs_cons, List.length_append, enc_length, List.length_cons]
    have := (encLen_range n).1
    omega
theorem encs_length4 (l : List Int) : (encs l).length ≤ 4 * l.length := by
  induction l with
  | nil => simp [encs]
  | cons n l ih =>
    rw [encs_cons, List.length_append, enc_length, List.length_cons]
    have := (encLen_range n).2
    omega

/-- A list of points that begins where another goes on: the shorter one is its beginning. -/
theorem encs_split : ∀ (l m : List Int) (R : List Int), AllGood l → AllGood m → encs l ++ R = encs m → (R ≠ [] → ∀ n, Good n → ¬ enc n <+: R) → R = [] ∧ m = l
  | [], [], R, _, _, h, _ => ⟨by simpa [encs] using h, rfl⟩
  | [], n :: m, R, _, hm, h, hR => by
    rw [encs_nil, List.nil_append, encs_cons] at h
    exact absurd ⟨encs m, h.symm⟩ (hR (fun e => by rw [e] at h; exact enc_ne n (List.append_eq_nil_iff.1 h.symm).1) n (hm n (by simp)))
  | n :: l, [], R, _, _, h, _ => by
    rw [encs_cons, encs_nil, List.append_assoc] at h
    exact absurd (List.append_eq_nil_iff.1 h).1 (enc_ne n)
  | n :: l, k :: m, R, hl, hm, h, hR => by
    rw [encs_cons, encs_cons, List.append_assoc] at h
    have hnk : n = k := enc_same (hl n (by simp)) (hm k (by simp)) (L := enc n ++ (encs l ++ R)) ⟨_, rfl⟩ (by rw [h]; exact ⟨_, rfl⟩)
    subst hnk
    obtain ⟨h1, h2⟩ := encs_split l m R (fun x hx => hl x (by simp [hx])) (fun x hx => hm x (by simp [hx])) (List.append_cancel_left h) hR
    exact ⟨h1, by rw [h2]⟩
theorem encs_inj {l m : List Int} (hl : AllGood l) (hm : AllGood m) (h : encs l = encs m) : l = m :=
  ((encs_split l m [] hl hm (by simpa using h) (fun h => absurd rfl h)).2).symm
/-- What goes on behind the first points. -/
theorem encs_rest : ∀ (l m : List Int) (R : List Int), AllGood l → AllGood m → encs l ++ R = encs m → ∃ m', m = l ++ m' ∧ R = encs m'
  | [], m, R, _, _, h => ⟨m, rfl, by simpa [encs] using h⟩
  | n :: l, [], R, _, _, h => by
    rw [encs_cons, encs_nil, List.append_assoc] at h
    exact absurd (List.append_eq_nil_iff.1 h).1 (enc_ne n)
  | n :: l, k :: m, R, hl, hm, h => by
    rw [encs_cons, encs_cons, List.append_assoc] at h
    have hnk : n = k := enc_same (hl n (by simp)) (hm k (by simp)) (L := enc n ++ (encs l ++ R)) ⟨_, rfl⟩ (by rw [h]; exact ⟨_, rfl⟩)
    subst hnk
    obtain ⟨m', h1, h2⟩ := encs_rest l m R (fun x hx => hl x (by simp [hx])) (fun x hx => hm x (by simp [hx])) (List.append_cancel_left h)
    exact ⟨m', by rw [h1]; rfl, h2⟩
/-- Without its last byte a string is none, or has one point less. -/
theorem encs_short (l c : List Int) (hl : AllGood l) (hc : AllGood c) (hne : l ≠ []) (h : (encs l).dropLast = encs c) : c = l.dropLast := by
  obtain ⟨l0, n, rfl⟩ : ∃ l0 n, l = l0 ++ [n] := ⟨l.dropLast, l.getLast hne, (List.dropLast_concat_getLast hne).symm⟩
  rw [encs_app, encs_one, List.dropLast_append_of_ne_nil (enc_ne n)] at h
  have hn := hl n (by simp)
  obtain ⟨m', h1, h2⟩ := encs_rest l0 c _ (fun x hx => hl x (by simp [hx])) hc h
  cases m' with
  | nil => rw [h1]; simp
  | cons k m' =>
    rw [encs_cons] at h2
    have hk : Good k := hc k (by rw [h1]; simp)
    have hp : enc k <+: enc n := by
      have e : enc n = (enc n).dropLast ++ [(enc n).getLast (enc_ne n)] := (List.dropLast_concat_getLast (enc_ne n)).symm
      rw [e, h2, List.append_assoc]
      exact ⟨_, rfl⟩
    have hkn : k = n := enc_same hk hn hp ⟨[], by simp⟩
    subst hkn
    have := congrArg List.length h2
    rw [List.length_dropLast, List.length_append] at this
    have := enc_length k
    have := (encLen_range k).1
    omega

end Utf
end Go.Proofs.YteigakkghkjakaaDoor

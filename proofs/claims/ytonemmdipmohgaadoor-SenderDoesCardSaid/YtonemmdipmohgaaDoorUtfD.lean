/- UTF-8 in plain Lean: what a point's bytes are; no point's bytes begin another's; a list of points and its bytes. utf.point, utf.Points, utf.Is. basculeref09: Point, Bytes, first, Points; basculeref01.Ints; utf.Is. basculeref09.first. basculeref09.Points; basculeref01.Ints. -/
import Derived.Test.YtonemmdipmohgaaDoorBase
import Derived.Test.YtonemmdipmohgaaDoorRowsRead
import Derived.Lib.DecodeN
import Derived.Shelf.Unicode.DecodeSlow
import Derived.Test.YtonemmdipmohgaaDoorShelf
import Derived.Deep.RegionHeld
namespace Go.Proofs.YtonemmdipmohgaaDoor
set_option linter.unusedVariables false
set_option linter.unusedSimpArgs false
namespace Utf

def Good (n : Int) : Prop := 1 ≤ n ∧ n ≤ 1114111 ∧ (n < 55296 ∨ 57343 < n)
instance (n : Int) : Decidable (Good n) := by unfold Good; exact inferInstance
def enc (n : Int) : List Int :=
  if n < 128 then [n] else if n < 2048 then [192 + n / 64, 128 + n % 64] else if n < 65536 then [224 + n / 4096, 128 + n / 64 % 64, 128 + n % 64]
  else [240 + n / 262144, 128 + n / 4096 % 64, 128 + n / 64 % 64, 128 + n % 64]

/-- The point's bytes stand at the beginning: said of the first four bytes and the length. -/
def PreA (n : Int) (len : Nat) (b0 b1 b2 b3 : Int) : Prop :=
  (n < 128 ∧ 1 ≤ len ∧ b0 = n) ∨ (128 ≤ n ∧ n < 2048 ∧ 2 ≤ len ∧ b0 = 192 + n / 64 ∧ b1 = 128 + n % 64) ∨
  (2048 ≤ n ∧ n < 65536 ∧ 3 ≤ len ∧ b0 = 224 + n / 4096 ∧ b1 = 128 + n / 64 % 64 ∧ b2 = 128 + n % 64) ∨
  (65536 ≤ n ∧ 4 ≤ len ∧ b0 = 240 + n / 262144 ∧ b1 = 128 + n / 4096 % 64 ∧ b2 = 128 + n / 64 % 64 ∧ b3 = 128 + n % 64)

theorem pre_iff (n : Int) (L : List Int) : enc n <+: L ↔ PreA n L.length (lat L 0) (lat L 1) (lat L 2) (lat L 3) := by
  unfold enc PreA
  match L with
  | [] => 
    constructor
    · intro h
      have := h.length_le
      split at this
      · simp at this
      · split at this
        · simp at this
        · split at this <;> simp at this
    · intro h; simp at h
  | [a] => by_cases h1 : n < 128 <;> by_cases h2 : n < 2048 <;> by_cases h3 : n < 65536 <;> simp [h1, h2, h3, lat, List.cons_prefix_cons] <;> omega
  | [a, b] => by_cases h1 : n < 128 <;> by_cases h2 : n < 2048 <;> by_cases h3 : n < 65536 <;> simp [h1, h2, h3, lat, List.cons_prefix_cons] <;> omega
  | [a, b, c] => by_cases h1 : n < 128 <;> by_cases h2 : n < 2048 <;> by_cases h3 : n < 65536 <;> simp [h1, h2, h3, lat, List.cons_prefix_cons] <;> omega
  | a :: b :: c :: d :: L => by_cases h1 : n < 128 <;> by_cases h2 : n < 2048 <;> by_cases h3 : n < 65536 <;> simp [h1, h2, h3, lat, List.cons_prefix_cons] <;> omega

def encLen (n : Int) : Nat := if n < 128 then 1 else if n < 2048 then 2 else if n < 65536 then 3 else 4
theorem enc_length (n : Int) : (enc n).length = encLen n := by unfold enc encLen; repeat' split
                                                               all_goals rfl
theorem encLen_range (n : Int) : 1 ≤ encLen n ∧ encLen n ≤ 4 := by unfold encLen; repeat' split
                                                                   all_goals omega
theorem enc_ne (n : Int) : enc n ≠ [] := fun h => by have := enc_length n; rw [h] at this; have := (encLen_range n).1; simp at *; omega
theorem enc_bytes (n : Int) (h : Good n) : ∀ x ∈ enc n, 0 ≤ x ∧ x < 256 := by
  obtain ⟨h1, h2, h3⟩ := h
  unfold enc
  intro x hx
  repeat' split at hx
  all_goals (simp at hx; omega)

set_option maxHeartbeats 1000000 in
/-- No point's bytes begin another's. -/
theorem pre_same (n m : Int) (hn : Good n) (hm : Good m) (len : Nat) (b0 b1 b2 b3 : Int) (h1 : PreA n len b0 b1 b2 b3) (h2 : PreA m len b0 b1 b2 b3) : n = m := by
  obtain ⟨g1, g2, _⟩ := hn
  obtain ⟨g4, g5, _⟩ := hm
  unfold PreA at h1 h2
  rcases h1 with h1 | h1 | h1 | h1 <;> rcases h2 with h2 | h2 | h2 | h2 <;> omega
theorem enc_same {n m : Int} (hn : Good n) (hm : Good m) {L : List Int} (h1 : enc n <+: L) (h2 : enc m <+: L) : n = m :=
  pre_same n m hn hm _ _ _ _ _ ((pre_iff n L).1 h1) ((pre_iff m L).1 h2)

/-- The decoder's answer. -/
def dec (L : List Int) : Nat × Nat := Lib.decodeN L.length (lat L 0).toNat (lat L 1).toNat (lat L 2).toNat (lat L 3).toNat
def None_ (d : Nat × Nat) : Prop := d.1 = 0 ∨ d.1 = 65533 ∧ d.2 < 2

set_option maxRecDepth 100000 in
set_option maxHeartbeats 4000000 in
theorem dec_none (len : Nat) (b0 b1 b2 b3 : Nat) (hl : 1 ≤ len) (h0 : b0 < 256) (h1 : b1 < 256) (h2 : b2 < 256) (h3 : b3 < 256) (h : None_ (Lib.decodeN len b0 b1 b2 b3)) (n : Int) (hn : Good n) :
    ¬ PreA n len b0 b1 b2 b3 := by
  obtain ⟨g1, g2, g3⟩ := hn
  unfold None_ Lib.decodeN at h
  unfold PreA
  repeat' split at h
  all_goals (simp at h; try omega)
set_option maxRecDepth 100000 in
set_option maxHeartbeats 4000000 in
theorem dec_cases (len : Nat) (b0 b1 b2 b3 : Nat) (hl : 1 ≤ len) (h0 : b0 < 256) (h1 : b1 < 256) (h2 : b2 < 256) (h3 : b3 < 256) (r k : Nat) (h : Lib.decodeN len b0 b1 b2 b3 = (r, k)) :
    (r = 0 ∨ r = 65533 ∧ k < 2) ∨ Good (r : Int) ∧ PreA (r : Int) len b0 b1 b2 b3 ∧ k = encLen (r : Int) := by
  unfold Lib.decodeN at h
  unfold Good PreA encLen
  repeat' split at h
  all_goals
    simp only [Prod.mk.injEq] at h
    obtain ⟨e1, e2⟩ := h
  · subst e2
    by_cases hz : r = 0
    · exact .inl (.inl hz)
    · refine .inr ⟨by omega, .inl (by omega), ?_⟩
      rw [if_pos (by omega)]
  · subst e2
    refine .inr ⟨by omega, .inr (.inl (by omega)), ?_⟩
    rw [if_neg (by omega), if_pos (by omega)]
  · exact .inl (.inr (by omega))
  · subst e2
    refine .inr ⟨by omega, .inr (.inr (.inl (by omega))), ?_⟩
    rw [if_neg (by omega), if_neg (by omega), if_pos (by omega)]
  · exact .inl (.inr (by omega))
  · subst e2
    refine .inr ⟨by omega, .inr (.inr (.inr (by omega))), ?_⟩
    rw [if_neg (by omega), if_neg (by omega), if_neg (by omega)]
  · exact .inl (.inr (by omega))
  · exact .inl (.inr (by omega))

theorem lat_byte (L : List Int) (hb : ∀ x ∈ L, 0 ≤ x ∧ x < 256) (i : Nat) : 0 ≤ lat L i ∧ lat L i < 256 := by
  by_cases h : i < L.length
  · exact hb _ (lat_mem L i h)
  · simp [lat, List.getElem?_eq_none (Nat.le_of_not_lt h)]

/-- What the decoder gives: a point whose bytes stand at the beginning, or there is none. -/
theorem dec_spec (L : List Int) (hb : ∀ x ∈ L, 0 ≤ x ∧ x < 256) (hne : L ≠ []) :
    (None_ (dec L) ∧ ∀ n, Good n → ¬ enc n <+: L) ∨ (¬ None_ (dec L) ∧ Good ((dec L).1 : Int) ∧ enc ((dec L).1 : Int) <+: L ∧ (dec L).2 = (enc ((dec L).1 : Int)).length) := by
  have hl : 1 ≤ L.length := by cases L with
    | nil => exact absurd rfl hne
    | cons a b => simp
  have k0 := lat_byte L hb 0
  have k1 := lat_byte L hb 1
  have k2 := lat_byte L hb 2
  have k3 := lat_byte L hb 3
  have e0 : (((lat L 0).toNat : Nat) : Int) = lat L 0 := Int.toNat_of_nonneg k0.1
  have e1 : (((lat L 1).toNat : Nat) : Int) = lat L 1 := Int.toNat_of_nonneg k1.1
  have e2 : (((lat L 2).toNat : Nat) : Int) = lat L 2 := Int.toNat_of_nonneg k2.1
  have e3 : (((lat L 3).toNat : Nat) : Int) = lat L 3 := Int.toNat_of_nonneg k3.1
  by_cases hN : None_ (dec L)
  · refine .inl ⟨hN, fun n hn hp => ?_⟩
    refine dec_none L.length (lat L 0).toNat (lat L 1).toNat (lat L 2).toNat (lat L 3).toNat hl (by omega) (by omega) (by omega) (by omega) hN n hn ?_
    rw [e0, e1, e2, e3]
    exact (pre_iff n L).1 hp
  · refine .inr ⟨hN, ?_⟩
    rcases dec_cases L.length (lat L 0).toNat (lat L 1).toNat (lat L 2).toNat (lat L 3).toNat hl (by omega) (by omega) (by omega) (by omega) (dec L).1 (dec L).2 rfl with h | ⟨h1, h2, h3⟩
    · exact absurd h hN
    · rw [e0, e1, e2, e3] at h2
      exact ⟨h1, (pre_iff _ L).2 h2, by rw [enc_length]; exact h3⟩

def encs (l : List Int) : List Int := l.flatMap enc
def AllGood (l : List Int) : Prop := ∀ n ∈ l, Good n
theorem encs_nil : encs [] = [] := rfl
theorem encs_cons (n : Int) (l : List Int) : encs (n :: l) = enc n ++ encs l := by simp [encs]
theorem encs_app (l m : List Int) : encs (l ++ m) = encs l ++ encs m := by simp [encs]
theorem encs_one (n : Int) : encs [n] = enc n := by simp [encs]
theorem encs_eq_nil {l : List Int} (h : encs l = []) : l = [] := by
  cases l with
  | nil => rfl
  | cons n l => rw [encs_cons] at h; exact absurd (List.append_eq_nil_iff.1 h).1 (enc_ne n)
theorem encs_bytes (l : List Int) (h : AllGood l) : ∀ x ∈ encs l, 0 ≤ x ∧ x < 256 := by
  intro x hx
  simp only [encs, List.mem_flatMap] at hx
  obtain ⟨n, hn, hx⟩ := hx
  exact enc_bytes n (h n hn) x hx
theorem encs_length (l : List Int) : l.length ≤ (encs l).length := by
  induction l with
  | nil => simp
  | cons n l ih =>
    rw [encs_cons, List.length_append, enc_length, List.length_cons]
    have := (encLen_range n).1
    omega
theorem encs_length4 (l : List Int) : (encs l).length ≤ 4 * l.length := by
  induction l with
  | nil => simp [encs]
  | cons n l ih =>
    rw [encs_cons, List.length_append, enc_length, List.length_cons]
    have := (encLen_range n).2
    omega

/-- A list of points that begins where another goes on: the shorter one is its beginning. -/
theorem encs_split : ∀ (l m : List Int) (R : List Int), AllGood l → AllGood m → encs l ++ R = encs m → (R ≠ [] → ∀ n, Good n → ¬ enc n <+: R) → R = [] ∧ m = l
  | [], [], R, _, _, h, _ => ⟨by simpa [encs] using h, rfl⟩
  | [], n :: m, R, _, hm, h, hR => by
    rw [encs_nil, List.nil_append, encs_cons] at h
    exact absurd ⟨encs m, h.symm⟩ (hR (fun e => by rw [e] at h; exact enc_ne n (List.append_eq_nil_iff.1 h.symm).1) n (hm n (by simp)))
  | n :: l, [], R, _, _, h, _ => by
    rw [encs_cons, encs_nil, List.append_assoc] at h
    exact absurd (List.append_eq_nil_iff.1 h).1 (enc_ne n)
  | n :: l, k :: m, R, hl, hm, h, hR => by
    rw [encs_cons, encs_cons, List.append_assoc] at h
    have hnk : n = k := enc_same (hl n (by simp)) (hm k (by simp)) (L := enc n ++ (encs l ++ R)) ⟨_, rfl⟩ (by rw [h]; exact ⟨_, rfl⟩)
    subst hnk
    obtain ⟨h1, h2⟩ := encs_split l m R (fun x hx => hl x (by simp [hx])) (fun x hx => hm x (by simp [hx])) (List.append_cancel_left h) hR
    exact ⟨h1, by rw [h2]⟩
theorem encs_inj {l m : List Int} (hl : AllGood l) (hm : AllGood m) (h : encs l = encs m) : l = m :=
  ((encs_split l m [] hl hm (by simpa using h) (fun h => absurd rfl h)).2).symm
/-- What goes on behind the first points. -/
theorem encs_rest : ∀ (l m : List Int) (R : List Int), AllGood l → AllGood m → encs l ++ R = encs m → ∃ m', m = l ++ m' ∧ R = encs m'
  | [], m, R, _, _, h => ⟨m, rfl, by simpa [encs] using h⟩
  | n :: l, [], R, _, _, h => by
    rw [encs_cons, encs_nil, List.append_assoc] at h
    exact absurd (List.append_eq_nil_iff.1 h).1 (enc_ne n)
  | n :: l, k :: m, R, hl, hm, h => by
    rw [encs_cons, encs_cons, List.append_assoc] at h
    have hnk : n = k := enc_same (hl n (by simp)) (hm k (by simp)) (L := enc n ++ (encs l ++ R)) ⟨_, rfl⟩ (by rw [h]; exact ⟨_, rfl⟩)
    subst hnk
    obtain ⟨m', h1, h2⟩ := encs_rest l m R (fun x hx => hl x (by simp [hx])) (fun x hx => hm x (by simp [hx])) (List.append_cancel_left h)
    exact ⟨m', by rw [h1]; rfl, h2⟩
/-- Without its last byte a string is none, or has one point less. -/
theorem encs_short (l c : List Int) (hl : AllGood l) (hc : AllGood c) (hne : l ≠ []) (h : (encs l).dropLast = encs c) : c = l.dropLast := by
  obtain ⟨l0, n, rfl⟩ : ∃ l0 n, l = l0 ++ [n] := ⟨l.dropLast, l.getLast hne, (List.dropLast_concat_getLast hne).symm⟩
  rw [encs_app, encs_one, List.dropLast_append_of_ne_nil (enc_ne n)] at h
  have hn := hl n (by simp)
  obtain ⟨m', h1, h2⟩ := encs_rest l0 c _ (fun x hx => hl x (by simp [hx])) hc h
  cases m' with
  | nil => rw [h1]; simp
  | cons k m' =>
    rw [encs_cons] at h2
    have hk : Good k := hc k (by rw [h1]; simp)
    have hp : enc k <+: enc n := by
      have e : enc n = (enc n).dropLast ++ [(enc n).getLast (enc_ne n)] := (List.dropLast_concat_getLast (enc_ne n)).symm
      rw [e, h2, List.append_assoc]
      exact ⟨_, rfl⟩
    have hkn : k = n := enc_same hk hn hp ⟨[], by simp⟩
    subst hkn
    have := congrArg List.length h2
    rw [List.length_dropLast, List.length_append] at this
    have := enc_length k
    have := (encLen_range k).1
    omega

end Utf
end Go.Proofs.YtonemmdipmohgaaDoor

namespace Go.Proofs.YtonemmdipmohgaaDoor
open Go.RowKit
set_option linter.unusedVariables false
set_option linter.unusedSimpArgs false
namespace Utf

def nums (s : ByteArray) : List Int := s.data.toList.map fun b => (b.toNat : Int)
theorem nums_length (s : ByteArray) : (nums s).length = s.size := by unfold nums; rw [List.length_map, Array.length_toList]; rfl
theorem nums_bytes (s : ByteArray) : ∀ x ∈ nums s, 0 ≤ x ∧ x < 256 := by
  intro x hx
  simp only [nums, List.mem_map] at hx
  obtain ⟨b, _, rfl⟩ := hx
  have := b.toNat_lt
  omega
theorem nums_lat (s : ByteArray) (i : Nat) : lat (nums s) i = ((s.get! i).toNat : Int) := by
  have e : s.get! i = s.data[i]! := rfl
  rw [e]
  unfold lat nums
  rw [List.getD_eq_getElem?_getD, List.getElem?_map, Array.getElem?_toList]
  by_cases h : i < s.data.size
  · rw [Array.getElem?_eq_getElem h, getElem!_pos s.data i h]
    rfl
  · rw [Array.getElem?_eq_none (Nat.le_of_not_lt h), getElem!_neg s.data i h]
    rfl
theorem dec_go (s : ByteArray) (h : s.size ≠ 0) : Lib.decodeGo s = dec (nums s) := by
  unfold Lib.decodeGo dec
  rw [if_neg h, Lib.decode_at, nums_lat, nums_lat, nums_lat, nums_lat, nums_length]
  rfl

theorem nums_extract (s : ByteArray) (i j : Nat) : nums (s.extract i j) = ((nums s).take j).drop i := by
  unfold nums
  rw [ByteArray.data_extract, Array.toList_extract, List.extract_eq_take_drop, List.map_take, List.map_drop, List.drop_take]
theorem nums_from (s : ByteArray) (i : Nat) : nums (s.extract i s.size) = (nums s).drop i := by
  rw [nums_extract, List.take_of_length_le (by rw [nums_length]; omega)]

theorem tabs_keep {g3 g4 : Nat} {w w' : World} (h : Lib.Utf8Tabs g3 g4 w) (b : Below w.heap.size w w') : Lib.Utf8Tabs g3 g4 w' :=
  ⟨fun c hc => by rw [b.cell (World.block_lt_of_cell? w _ (h.1 c hc))]; exact h.1 c hc,
   fun i hi => ⟨by rw [b.cell (World.block_lt_of_cell? w _ (h.2 i hi).1)]; exact (h.2 i hi).1, by rw [b.cell (World.block_lt_of_cell? w _ (h.2 i hi).2)]; exact (h.2 i hi).2⟩⟩

/-- Where no point's bytes stand at the beginning: (0, 0). -/
theorem point_none (w : World) (hT : Lib.Utf8Tabs 0 1 w) (s : ByteArray) (r k : Nat) (hd : Lib.decodeGo s = (r, k)) (h : r = 0 ∨ r = 65533 ∧ k < 2) :
    Calls Tryd.prog 118 #[.string s] w fun e w' => e = .returned (.tuple #[.int .i64 0, .int .i64 0]) ∧ Below w.heap.size w w' := by
  have hk : Hid (k < 2 ∨ r = 0) := h.elim .inr (fun x => .inl x.2)
  go_enter Tryd.func118, Tryd.ntmps118
  go_wp2_with (fail)
  refine (Tryd.utf8_DecodeRuneInString s _ hT).mono ?_
  rw [hd]
  clear hd
  rintro e w1 ⟨rfl, hb⟩
  rcases h with rfl | ⟨rfl, h⟩
  · go_wp2_with (fail)
    go_ret2
    exact ⟨rfl, hb⟩
  · have hd := decide_eq_true (show (k : Int) < 2 by omega)
    clear h hk
    go_wp2_with (fail)
    go_ret2
    exact ⟨rfl, hb⟩

theorem point_some (w : World) (hT : Lib.Utf8Tabs 0 1 w) (s : ByteArray) (r k : Nat) (hd : Lib.decodeGo s = (r, k)) (h : ¬ (r = 0 ∨ r = 65533 ∧ k < 2)) (hr : r ≤ 1114111) :
    Calls Tryd.prog 118 #[.string s] w fun e w' => e = .returned (.tuple #[.int .i64 r, .int .i64 k]) ∧ Below w.heap.size w w' := by
  have h0 : ((r : Int) == 0) = false := by simp; omega
  obtain ⟨R, hR⟩ : ∃ R : Int, R = (r : Int) := ⟨_, rfl⟩
  have hw : wrap64 R = R := IntWalk.wrap64_in _ ⟨by omega, by omega⟩
  by_cases hq : r = 65533
  · have h1 := decide_eq_false (show ¬ ((k : Int) < 2) by omega)
    have h2 : (R == 65533) = true := by rw [hR, hq]; rfl
    rw [← hR] at h0 ⊢
    go_enter Tryd.func118, Tryd.ntmps118
    go_wp2_with (fail)
    refine (Tryd.utf8_DecodeRuneInString s _ hT).mono ?_
    rw [hd, ← hR]
    clear hd hq h hr
    rintro e w1 ⟨rfl, hb⟩
    clear hR
    go_wp2_with (fail)
    go_ret2
    exact ⟨by simp [hw], hb⟩
  · have h2 : (R == 65533) = false := by rw [hR]; simp; omega
    rw [← hR] at h0 ⊢
    go_enter Tryd.func118, Tryd.ntmps118
    go_wp2_with (fail)
    refine (Tryd.utf8_DecodeRuneInString s _ hT).mono ?_
    rw [hd, ← hR]
    clear hd hq h hr
    rintro e w1 ⟨rfl, hb⟩
    clear hR
    go_wp2_with (fail)
    go_ret2
    exact ⟨by simp [hw], hb⟩

theorem nums_ne {s : ByteArray} (h : s.size ≠ 0) : nums s ≠ [] := fun e => h (by rw [← nums_length, e]; rfl)

/-- utf.point: a point and how many bytes it has, or there is none. -/
theorem point_calls (w : World) (hT : Lib.Utf8Tabs 0 1 w) (s : ByteArray) (hs : s.size ≠ 0) :
    Calls Tryd.prog 118 #[.string s] w fun e w' => ∃ (n : Int) (k : Nat), e = .returned (.tuple #[.int .i64 n, .int .i64 k]) ∧ Below w.heap.size w w' ∧
      ((k = 0 ∧ ∀ n, Good n → ¬ enc n <+: nums s) ∨ (Good n ∧ enc n <+: nums s ∧ k = (enc n).length)) := by
  rcases dec_spec (nums s) (nums_bytes s) (nums_ne hs) with ⟨h1, h2⟩ | ⟨h1, h2, h3, h4⟩
  · refine (point_none w hT s (dec (nums s)).1 (dec (nums s)).2 (dec_go s hs) h1).mono ?_
    rintro e w' ⟨rfl, hb⟩
    exact ⟨0, 0, rfl, hb, .inl ⟨rfl, h2⟩⟩
  · refine (point_some w hT s (dec (nums s)).1 (dec (nums s)).2 (dec_go s hs) h1 (by have := h2.2.1; omega)).mono ?_
    rintro e w' ⟨rfl, hb⟩
    exact ⟨_, _, rfl, hb, .inr ⟨h2, h3, h4⟩⟩

theorem info_int : (Tryd.prog.info? 3).map (fun i => (i.zero, i.size, i.bytes)) = some (some (.int .i64 0), 1, 8) := by kernel_rfl

def strLen : Value → Nat | .string b => b.size | _ => 0
def IsStr (L l : List Int) : Prop := AllGood l ∧ L = encs l ∧ L.length ≤ 65535
def PointsPost (w : World) (L : List Int) (e : Ending) (w' : World) : Prop :=
  (∃ l A c, IsStr L l ∧ e = .returned (.tuple #[.slice A l.length c, .int .i64 0]) ∧ OwnInts w' w.heap.size 3 .i64 (.slice A l.length c) l ∧ Below w.heap.size w w') ∨
  ((∀ l, ¬ IsStr L l) ∧ e = .returned (.tuple #[.slice none 0 0, .int .i64 90]) ∧ Below w.heap.size w w')

set_option maxHeartbeats 1000000 in
theorem points_calls (w : World) (hT : Lib.Utf8Tabs 0 1 w) (s : ByteArray) :
    Calls Tryd.prog 107 #[.string s] w fun e w' => PointsPost w (nums s) e w' := by
  obtain ⟨L, hL⟩ : ∃ L, Hid (L = nums s) := ⟨_, rfl⟩
  have hLs : Hid (L.length = s.size) := by rw [hL.out, Hid, nums_length]
  rw [← hL.out]
  have HT := Lib.hid hT
  clear hT
  by_cases hbig : (65535 : Int) < (s.size : Int)
  · have hd := decide_eq_true hbig
    have HN : Hid (∀ l, ¬ IsStr L l) := fun l h => by have := h.2.2; rw [hLs.out] at this; omega
    go_enter Tryd.func107, Tryd.ntmps107
    go_wp2_with (fail)
    go_step3
    go_wp2_with (fail)
    rw [Exit.noGoto_ret]
    go_ret2
    exact .inr ⟨HN.out, rfl, Below.refl _ _⟩
  · have hd := decide_eq_false hbig
    have HS : Hid (L.length ≤ 65535) := by rw [Hid, hLs.out]; omega
    clear hbig
    go_enter Tryd.func107, Tryd.ntmps107
    go_wp2_with (fail)
    go_step3
    go_wp2_with (fail)
    go_step3
    go_wp2_with (fail)
    go_loopw [0, 4] (fun sv out wr => ∃ (b : ByteArray) (l : List Int) (A : Option Addr) (c : Nat), sv = .string b ∧ out = .slice A l.length c ∧ Hid (AllGood l ∧ L = encs l ++ nums b) ∧ Hid (OwnInts wr w.heap.size 3 .i64 (.slice A l.length c) l) ∧ Below w.heap.size w wr) (fun sv _ _ => strLen sv)
    case atStart => exact ⟨s, [], none, 0, rfl, rfl, ⟨fun n h => by simp at h, by rw [hL.out]; rfl⟩, OwnInts.nil _ _ _ _, Below.refl _ _⟩
    case round =>
      obtain ⟨b, l, A, c, rfl, rfl, hl, hO, hB⟩ := hrel
      have HB := Lib.hid hB
      clear hB
      by_cases hz : b.size = 0
      · have hfin : Hid (IsStr L l) := by
          have e : nums b = [] := List.eq_nil_of_length_eq_zero (by rw [nums_length]; exact hz)
          exact ⟨hl.out.1, by rw [hl.out.2, e]; simp, HS.out⟩
        have hd0 : decide (0 < b.size) = false := decide_eq_false (by omega)
        clear hz
        go_wp2_with (fail)
        rw [Exit.noGoto_ret]
        go_ret2
        exact .inl ⟨l, A, c, hfin.out, rfl, hO.out, HB.out⟩
      · have hd0 : decide (0 < b.size) = true := decide_eq_true (by omega)
        have HZ := Lib.hid hz
        clear hz
        go_wp2_with (fail)
        refine (point_calls _ (tabs_keep HT.out HB.out) b HZ.out).mono ?_
        rintro e w1 ⟨n, k, rfl, hb1, hk⟩
        have HB1 := Lib.hid (HB.out.trans (hb1.mono HB.out.size))
        have HO1 := Lib.hid (hO.out.turn (Turn.of_below (S := fun _ => False) hb1) (fun _ _ h => h))
        have HK := Lib.hid hk
        clear hb1 hk hO
        by_cases hk0 : k = 0
        · subst hk0
          have hfin : Hid (∀ l', ¬ IsStr L l') := by
            intro l' h'
            rcases HK.out with ⟨_, hno⟩ | ⟨_, _, h0⟩
            · have := encs_split l l' (nums b) hl.out.1 h'.1 (by rw [← hl.out.2]; exact h'.2.1) (fun _ => hno)
              exact nums_ne HZ.out this.1
            · have := enc_length n; have := (encLen_range n).1; omega
          go_wp2_with (fail)
          rw [Exit.noGoto_ret]
          go_ret2
          exact .inr ⟨hfin.out, rfl, HB1.out⟩
        · have hkp : (0 : Int) < (k : Int) := by omega
          have hdk : decide (0 < k) = true := decide_eq_true (by omega)
          have hk' : Hid (Good n ∧ enc n <+: nums b ∧ k = (enc n).length) := by
            rcases HK.out with ⟨h0, _⟩ | h
            · exact absurd h0 hk0
            · exact h
          have hkb : (k : Int) ≤ (b.size : Int) := by
            have := hk'.out.2.1.length_le
            rw [nums_length, ← hk'.out.2.2] at this
            omega
          have hLN : Hid (l.length + 1 ≤ 140737488355328 ∧ (l.length + 1) * 8 ≤ 140737488355328) := by
            have h1 := encs_length l
            have h2 := HS.out
            rw [hl.out.2, List.length_append] at h2
            rw [Hid]; omega
          clear hk0
          go_wp2_with (at_builtin; go_must (refine wp_append_int w1 w.heap.size rfl _ _ 29 3 .i64 8 rfl Tryd.underlying29 info_int (.slice A l.length c) l n rfl _ rfl (heap_new w1 _) (Nat.le_refl _) (Turn.alloc w1 _) HO1.out HB1.out.size hLN.out ?_))
          intro g2 c2 w2 hown2 ht2 hloc hsz2
          have HB2 := Lib.hid (ht2.belowTrans HB1.out HB1.out.size (fun j hj e => by have := (own_block_ge HO1.out j e).1; omega))
          have HO2 := Lib.hid hown2
          clear ht2 hloc hown2
          go_wp2_with (fail)
          go_roundw
          case rel =>
            refine ⟨b.extract k b.size, l ++ [n], some ⟨g2, 0, none⟩, c2, rfl, by simp, ?_, by simp only [Hid, List.length_append, List.length_singleton]; exact HO2.out, HB2.out⟩
            obtain ⟨hg, hp, hke⟩ := hk'.out
            refine ⟨fun x hx => ?_, ?_⟩
            · simp only [List.mem_append, List.mem_singleton] at hx
              rcases hx with hx | rfl
              · exact hl.out.1 x hx
              · exact hg
            · rw [hl.out.2, encs_app, encs_one, List.append_assoc, nums_from, hke]
              obtain ⟨t, ht⟩ := hp
              rw [← ht, List.drop_left]
          case measure =>
            show (b.extract k b.size).size < b.size
            rw [← nums_length, nums_from, List.length_drop, nums_length]
            omega

end Utf
end Go.Proofs.YtonemmdipmohgaaDoor

namespace Go.Proofs.YtonemmdipmohgaaDoor
open Go.RowKit
set_option linter.unusedVariables false
set_option linter.unusedSimpArgs false
namespace Utf

theorem rpoint_calls (w : World) (n : Int) : Calls Tryd.prog 111 #[.int .i64 n] w fun e w' => e = .returned (.bool (decide (Good n))) ∧ w = w' := by
  by_cases h1 : 1 ≤ n
  · by_cases h2 : n ≤ 1114111
    · by_cases h3 : n < 55296
      · rw [show decide (Good n) = true from decide_eq_true ⟨h1, h2, .inl h3⟩]
        go_enter Tryd.func111, Tryd.ntmps111
        go_wp2
        go_ret
        exact ⟨rfl, rfl⟩
      · by_cases h4 : 57343 < n
        · rw [show decide (Good n) = true from decide_eq_true ⟨h1, h2, .inr h4⟩]
          have hd := decide_eq_true h4
          have hd3 := decide_eq_false h3
          go_enter Tryd.func111, Tryd.ntmps111
          go_wp2
          go_ret
          exact ⟨rfl, rfl⟩
        · rw [decide_eq_false (fun h : Good n => by have := h.2.2; omega)]
          have hd := decide_eq_false h4
          have hd3 := decide_eq_false h3
          go_enter Tryd.func111, Tryd.ntmps111
          go_wp2
          go_ret
          exact ⟨rfl, rfl⟩
    · rw [decide_eq_false (fun h : Good n => h2 h.2.1)]
      have hd2 := decide_eq_false h2
      go_enter Tryd.func111, Tryd.ntmps111
      go_wp2
      go_ret
      exact ⟨rfl, rfl⟩
  · rw [decide_eq_false (fun h : Good n => h1 h.1)]
    have hd1 := decide_eq_false h1
    go_enter Tryd.func111, Tryd.ntmps111
    go_wp2
    go_ret
    exact ⟨rfl, rfl⟩

theorem is_yes (w : World) (hT : Lib.Utf8Tabs 0 1 w) (s : ByteArray) (l : List Int) (h : IsStr (nums s) l) :
    Calls Tryd.prog 88 #[.string s] w fun e w' => e = .returned (.bool true) ∧ Below w.heap.size w w' := by
  have H := Lib.hid h
  clear h
  go_enter Tryd.func88, Tryd.ntmps88
  go_wp2_with (fail)
  refine (points_calls _ hT s).mono ?_
  rintro e w' (⟨l, A, c, hi, rfl, ho, hb⟩ | ⟨hn, rfl, hb⟩)
  · go_wp2_with (fail)
    go_ret
    exact ⟨rfl, hb⟩
  · exact absurd H.out (hn l)
theorem is_no (w : World) (hT : Lib.Utf8Tabs 0 1 w) (s : ByteArray) (h : ∀ l, ¬ IsStr (nums s) l) :
    Calls Tryd.prog 88 #[.string s] w fun e w' => e = .returned (.bool false) ∧ Below w.heap.size w w' := by
  have H := Lib.hid h
  clear h
  go_enter Tryd.func88, Tryd.ntmps88
  go_wp2_with (fail)
  refine (points_calls _ hT s).mono ?_
  rintro e w' (⟨l, A, c, hi, rfl, ho, hb⟩ | ⟨hn, rfl, hb⟩)
  · exact absurd hi (H.out l)
  · go_wp2_with (fail)
    go_ret
    exact ⟨rfl, hb⟩

theorem conv_lit (w : World) (xs : List Int) (C : Array Value) (hC : C = (xs.map (Value.int .u8)).toArray) (n : Nat) (hn : n = xs.length) :
    (convert 82 9 (.slice (some ⟨w.heap.size, 0, none⟩) n n)).run Tryd.prog (w.alloc (.cells C 5)) = .ok (.string (strOfNums xs)) (w.alloc (.cells C 5)) := by
  subst hn hC
  refine run_convert_bytes_arg _ 82 5 Tryd.underlying82 Tryd.underlying5 w.heap.size 0 xs.length xs.length xs rfl (fun i hi => ?_) 9 Tryd.underlying9
  rw [Nat.zero_add, cell_heap (heap_new _ _)]
  simp [List.getElem?_eq_getElem hi]

theorem rbytes_calls (w : World) (n : Int) (h : Good n) : Calls Tryd.prog 95 #[.int .i64 n] w fun e w' => e = .returned (.string (strOfNums (enc n))) ∧ Below w.heap.size w w' := by
  obtain ⟨h0, hm, _⟩ := h
  by_cases h1 : n < 128
  · have he : enc n = [n] := by unfold enc; rw [if_pos h1]
    rw [he]
    have hcv := conv_lit w [n] #[.int .u8 n] rfl 1 rfl
    go_enter Tryd.func95, Tryd.ntmps95
    go_wp2_with (fail)
    go_ret
    exact ⟨rfl, Below.alloc (Below.refl _ _) (Nat.le_refl _) _⟩
  have hd1 := decide_eq_false h1
  by_cases h2 : n < 2048
  · have he : enc n = [192 + n / 64, 128 + n % 64] := by unfold enc; rw [if_neg h1, if_pos h2]
    rw [he]
    have hcv := conv_lit w [192 + n / 64, 128 + n % 64] #[.int .u8 (192 + n / 64), .int .u8 (128 + n % 64)] rfl 2 rfl
    have b0 : 0 ≤ n / 64 := by omega
    have b1 : n / 64 < 32 := by omega
    have b2 : 0 ≤ n % 64 := by omega
    have b3 : n % 64 < 64 := by omega
    go_enter Tryd.func95, Tryd.ntmps95
    go_wp2_with (fail)
    go_ret
    exact ⟨rfl, Below.alloc (Below.refl _ _) (Nat.le_refl _) _⟩
  have hd2 := decide_eq_false h2
  by_cases h3 : n < 65536
  · have he : enc n = [224 + n / 4096, 128 + n / 64 % 64, 128 + n % 64] := by unfold enc; rw [if_neg h1, if_neg h2, if_pos h3]
    rw [he]
    have hcv := conv_lit w [224 + n / 4096, 128 + n / 64 % 64, 128 + n % 64] #[.int .u8 (224 + n / 4096), .int .u8 (128 + n / 64 % 64), .int .u8 (128 + n % 64)] rfl 3 rfl
    have b0 : 0 ≤ n / 4096 := by omega
    have b1 : n / 4096 < 16 := by omega
    have b2 : 0 ≤ n % 64 := by omega
    have b3 : n % 64 < 64 := by omega
    have b4 : 0 ≤ n / 64 % 64 := by omega
    have b5 : n / 64 % 64 < 64 := by omega
    have b6 : 0 ≤ n / 64 := by omega
    go_enter Tryd.func95, Tryd.ntmps95
    go_wp2_with (fail)
    go_ret
    exact ⟨rfl, Below.alloc (Below.refl _ _) (Nat.le_refl _) _⟩
  · have he : enc n = [240 + n / 262144, 128 + n / 4096 % 64, 128 + n / 64 % 64, 128 + n % 64] := by unfold enc; rw [if_neg h1, if_neg h2, if_neg h3]
    rw [he]
    have hd3 := decide_eq_false h3
    have hcv := conv_lit w [240 + n / 262144, 128 + n / 4096 % 64, 128 + n / 64 % 64, 128 + n % 64] #[.int .u8 (240 + n / 262144), .int .u8 (128 + n / 4096 % 64), .int .u8 (128 + n / 64 % 64), .int .u8 (128 + n % 64)] rfl 4 rfl
    have b0 : 0 ≤ n / 262144 := by omega
    have b1 : n / 262144 < 8 := by omega
    have b2 : 0 ≤ n % 64 := by omega
    have b3 : n % 64 < 64 := by omega
    have b4 : 0 ≤ n / 64 % 64 := by omega
    have b5 : n / 64 % 64 < 64 := by omega
    have b6 : 0 ≤ n / 64 := by omega
    have b7 : 0 ≤ n / 4096 % 64 := by omega
    have b8 : n / 4096 % 64 < 64 := by omega
    have b9 : 0 ≤ n / 4096 := by omega
    go_enter Tryd.func95, Tryd.ntmps95
    go_wp2_with (fail)
    go_ret
    exact ⟨rfl, Below.alloc (Below.refl _ _) (Nat.le_refl _) _⟩

end Utf
end Go.Proofs.YtonemmdipmohgaaDoor

namespace Go.Proofs.YtonemmdipmohgaaDoor
open Go.RowKit
set_option linter.unusedVariables false
set_option linter.unusedSimpArgs false
namespace Utf

theorem str_beq (x y : ByteArray) : (x.toList == y.toList) = true ↔ x = y := by
  rw [beq_iff_eq, ByteArray.toList_eq, ByteArray.toList_eq]
  exact ⟨fun h => ByteArray.ext (Array.toList_inj.mp h), fun h => by rw [h]⟩
theorem nums_inj {a b : ByteArray} (h : nums a = nums b) : a = b := by
  have h1 : a.data.toList = b.data.toList := by
    have h2 : (a.data.toList.map fun x => (x.toNat : Int)) = b.data.toList.map fun x => (x.toNat : Int) := h
    exact List.map_inj_right (fun x y e => UInt8.toNat_inj.1 (by omega)) |>.1 h2
  have h3 : a.data = b.data := Array.toList_inj.1 h1
  cases a; cases b; cases h3; rfl
theorem nums_str (X : List Int) (h : ∀ x ∈ X, 0 ≤ x ∧ x < 256) : nums (strOfNums X) = X := by
  unfold nums
  rw [strOfNums_data, List.map_map]
  conv => rhs; rw [← List.map_id X]
  refine List.map_congr_left fun x hx => ?_
  have := h x hx
  show ((UInt8.ofNat x.toNat).toNat : Int) = x
  rw [UInt8.toNat_ofNat']
  omega

def sub : Nat → Int | 2 => 192 | 3 => 224 | 4 => 240 | _ => 0
def acc (L : List Int) (k : Nat) : Nat → Int
  | 0 => 0
  | 1 => lat L 0 - sub k
  | q + 2 => 64 * acc L k (q + 1) + lat L (q + 1) - 128

/-- What a round of so many bytes reckons, where a point's bytes stand there, is the point. -/
theorem acc_enc (L : List Int) (m : Int) (h : Good m) (hp : enc m <+: L) : acc L (encLen m) (encLen m) = m := by
  have h1 := (pre_iff m L).1 hp
  obtain ⟨g1, g2, _⟩ := h
  unfold PreA at h1
  rcases h1 with h1 | h1 | h1 | h1
  · have e : encLen m = 1 := by unfold encLen; rw [if_pos h1.1]
    rw [e]; simp only [acc, sub, Nat.zero_add, Nat.reduceAdd]; omega
  · have e : encLen m = 2 := by unfold encLen; rw [if_neg (by omega), if_pos (by omega)]
    rw [e]; simp only [acc, sub, Nat.zero_add, Nat.reduceAdd]; omega
  · have e : encLen m = 3 := by unfold encLen; rw [if_neg (by omega), if_neg (by omega), if_pos (by omega)]
    rw [e]; simp only [acc, sub, Nat.zero_add, Nat.reduceAdd]; omega
  · have e : encLen m = 4 := by unfold encLen; rw [if_neg (by omega), if_neg (by omega), if_neg (by omega)]
    rw [e]; simp only [acc, sub, Nat.zero_add, Nat.reduceAdd]; omega

theorem step_eq (m : Int) (x : UInt8) (h0 : -100000000 ≤ m) (h1 : m ≤ 100000000) : wrap64 (wrap64 (64 * m + wrap64 (x.toNat : Int)) - 128) = 64 * m + (x.toNat : Int) - 128 := by
  have := x.toNat_lt
  rw [IntWalk.wrap64_in (x.toNat : Int) ⟨by omega, by omega⟩, IntWalk.wrap64_in (64 * m + (x.toNat : Int)) ⟨by omega, by omega⟩, IntWalk.wrap64_in _ ⟨by omega, by omega⟩]
theorem first_eq (x : UInt8) (d : Int) (h0 : 0 ≤ d) (h1 : d ≤ 240) : wrap64 (wrap64 (x.toNat : Int) - d) = (x.toNat : Int) - d := by
  have := x.toNat_lt
  rw [IntWalk.wrap64_in (x.toNat : Int) ⟨by omega, by omega⟩, IntWalk.wrap64_in _ ⟨by omega, by omega⟩]
theorem lat_at (s : ByteArray) (q : Nat) (h : q < s.size) : lat (nums s) q = ((s[q]'h).toNat : Int) := by
  have h2 : q < s.data.size := h
  rw [nums_lat, show s.get! q = s.data[q]! from rfl, getElem!_pos s.data q h2]
  rfl
theorem acc_bound (L : List Int) (hb : ∀ x ∈ L, 0 ≤ x ∧ x < 256) (k q : Nat) (h0 : 1 ≤ q) (h4 : q ≤ 4) : -100000000 ≤ acc L k q ∧ acc L k q ≤ 100000000 := by
  have k0 := lat_byte L hb 0
  have k1 := lat_byte L hb 1
  have k2 := lat_byte L hb 2
  have k3 := lat_byte L hb 3
  have hs : 0 ≤ sub k ∧ sub k ≤ 240 := by unfold sub; split <;> omega
  match q, h0, h4 with
  | 1, _, _ => simp only [acc]; omega
  | 2, _, _ => simp only [acc, Nat.zero_add, Nat.reduceAdd]; omega
  | 3, _, _ => simp only [acc, Nat.zero_add, Nat.reduceAdd]; omega
  | 4, _, _ => simp only [acc, Nat.zero_add, Nat.reduceAdd]; omega

def FirstPost (w : World) (L : List Int) (e : Ending) (w' : World) : Prop :=
  Below w.heap.size w w' ∧ ((∃ n, Good n ∧ enc n <+: L ∧ e = .returned (.int .i64 n)) ∨ ((∀ n, Good n → ¬ enc n <+: L) ∧ e = .returned (.int .i64 0)))

set_option maxHeartbeats 1000000 in
theorem first_calls (w : World) (s : ByteArray) :
    Calls Tryd.prog 94 #[.string s] w fun e w' => FirstPost w (nums s) e w' := by
  obtain ⟨L, hL⟩ : ∃ L, Hid (L = nums s) := ⟨_, rfl⟩
  have hLs : Hid (L.length = s.size) := by rw [hL.out, Hid, nums_length]
  rw [← hL.out]
  go_enter Tryd.func94, Tryd.ntmps94
  go_wp2_with (fail)
  go_loopw [3] (fun x wr => ∃ k : Nat, 1 ≤ k ∧ k ≤ 5 ∧ x = .int .i64 (k : Int) ∧ Hid (∀ m, Good m → enc m <+: L → k ≤ encLen m) ∧ Below w.heap.size w wr) (fun x _ => 5 - (intOf x).toNat)
  case atStart => exact ⟨1, by omega, by omega, rfl, fun m _ _ => (encLen_range m).1, Below.refl _ _⟩
  case round =>
    obtain ⟨k, hk1, hk5, rfl, hk, hB⟩ := hrel
    have HB := Lib.hid hB
    clear hB
    by_cases hin : k ≤ 4 ∧ k ≤ s.size
    · obtain ⟨hk4, hks⟩ := hin
      have hd1 : decide ((k : Int) ≤ 4) = true := decide_eq_true (by omega)
      have hd2 : decide ((k : Int) ≤ (s.size : Int)) = true := decide_eq_true (by omega)
      have hd2' : decide (k ≤ s.size) = true := decide_eq_true (by omega)
      have hs0 : (0 : Int) < (s.size : Int) := by omega
      have hkk : (((k : Int) == 2) = false ∧ ((k : Int) == 3) = false ∧ ((k : Int) == 4) = false ∧ sub k = 0) ∨ (((k : Int) == 2) = true ∧ sub k = 192) ∨ (((k : Int) == 2) = false ∧ ((k : Int) == 3) = true ∧ sub k = 224) ∨ (((k : Int) == 2) = false ∧ ((k : Int) == 3) = false ∧ ((k : Int) == 4) = true ∧ sub k = 240) := by
        match k, hk1, hk4 with
        | 1, _, _ => exact .inl ⟨rfl, rfl, rfl, rfl⟩
        | 2, _, _ => exact .inr (.inl ⟨rfl, rfl⟩)
        | 3, _, _ => exact .inr (.inr (.inl ⟨rfl, rfl, rfl⟩))
        | 4, _, _ => exact .inr (.inr (.inr ⟨rfl, rfl, rfl, rfl⟩))
      obtain ⟨K, hK⟩ : ∃ K : Nat, K = k := ⟨_, rfl⟩
      rcases hkk with ⟨e2, e3, e4, hsub⟩ | ⟨e2, hsub⟩ | ⟨e2, e3, hsub⟩ | ⟨e2, e3, e4, hsub⟩
      all_goals
        have Hsub := Lib.hid hsub
        clear hsub
        go_wp2_with (fail)
        go_loopw [4, 5] (fun n x w2 => ∃ (q : Nat) (m : Int), 1 ≤ q ∧ q ≤ k ∧ x = .int .i64 (q : Int) ∧ n = .int .i64 m ∧ -100000000 ≤ m ∧ m ≤ 100000000 ∧ Hid (m = acc L k q) ∧ w2 = wr) (fun _ x _ => 5 - (intOf x).toNat)
        case atStart =>
          have hb := acc_bound L (by rw [hL.out]; exact nums_bytes s) k 1 (by omega) (by omega)
          refine ⟨1, acc L k 1, by omega, hk1, rfl, ?_, hb.1, hb.2, rfl, rfl⟩
          simp only [acc, Hsub.out, hL.out]
          rw [lat_at s 0 (by omega)]
          first
            | (rw [first_eq _ _ (by omega) (by omega)])
            | (have := (s[0]'(by omega)).toNat_lt; rw [IntWalk.wrap64_in _ ⟨by omega, by omega⟩]; simp)
        case round =>
          obtain ⟨q, m, hq1, hqk, rfl, rfl, hm0, hm1, hm, rfl⟩ := hrel
          by_cases hqk' : q < k
          · have hqs : q < s.size := by omega
            go_wp2_with (fail)
            go_roundw
            case rel =>
              have hb := acc_bound L (by rw [hL.out]; exact nums_bytes s) k (q + 1) (by omega) (by omega)
              refine ⟨q + 1, acc L k (q + 1), by omega, by omega, by go_num, ?_, hb.1, hb.2, rfl, trivial⟩
              obtain ⟨p, rfl⟩ : ∃ p, q = p + 1 := ⟨q - 1, by omega⟩
              rw [step_eq _ _ hm0 hm1, hm.out]
              simp only [acc]
              rw [hL.out, lat_at s (p + 1) hqs]
            case measure => simp [intOf]; omega
          · have hqe : k = q := by omega
            subst hqe
            clear hqk'
            go_wp2_with (fail)
            by_cases hg : Good m
            · have hdg := decide_eq_true hg
              have HG := Lib.hid hg
              clear hg
              obtain ⟨b, hb⟩ : ∃ b, ((strOfNums (enc m)).toList == (s.extract 0 k).toList) = b := ⟨_, rfl⟩
              have HP := Lib.hid (fun W => rpoint_calls W m)
              rw [hdg] at HP
              clear hdg
              go_region_held (fun _ => True) (trivial) (first | (go_at_call 111; refine (HP.out _).mono ?_; rintro e w5 ⟨rfl, rfl⟩) | (go_at_call 95; refine (rbytes_calls _ m HG.out).mono ?_; rintro e w6 ⟨rfl, hb6⟩; have HB6 := Lib.hid ((HB.out.drew).trans (hb6.mono HB.out.size))))
              have hext : Hid (nums (s.extract 0 k) = L.take k) := by rw [hL.out, Hid, nums_extract, List.drop_zero]
              have hen : Hid (nums (strOfNums (enc m)) = enc m) := nums_str _ (enc_bytes m HG.out)
              cases b with
              | true =>
                have hfin : Hid (enc m <+: L) := by
                  have h1 := (str_beq _ _).1 hb
                  have h2 := congrArg nums h1
                  rw [hen.out, hext.out] at h2
                  rw [h2]
                  exact List.take_prefix _ _
                go_wp2_with (fail)
                go_ret
                exact ⟨HB6.out, .inl ⟨m, HG.out, hfin.out, rfl⟩⟩
              | false =>
                have hnext : Hid (∀ m', Good m' → enc m' <+: L → k + 1 ≤ encLen m') := by
                  intro m' hg' hp'
                  have h1 := hk.out m' hg' hp'
                  rcases Nat.lt_or_ge k (encLen m') with h2 | h2
                  · exact h2
                  · have h3 : encLen m' = k := by omega
                    have h4 := acc_enc L m' hg' hp'
                    rw [h3, ← hm.out] at h4
                    subst h4
                    have h5 : enc m = L.take k := by
                      have := List.prefix_iff_eq_take.1 hp'
                      rw [enc_length, h3] at this
                      exact this
                    have h6 : strOfNums (enc m) = s.extract 0 k := nums_inj (by rw [hen.out, hext.out, h5])
                    rw [(str_beq _ _).2 h6] at hb
                    cases hb
                go_wp2_with (fail)
                go_roundw
                case rel => exact ⟨k + 1, by omega, by omega, by go_num, hnext.out, HB6.out⟩
                case measure => simp [intOf]; omega
            · have hdg := decide_eq_false hg
              have HG := Lib.hid hg
              clear hg
              have HP := Lib.hid (fun W => rpoint_calls W m)
              rw [hdg] at HP
              clear hdg
              go_quiet ((go_at_call 111; exact quiet_left (HP.out _)))
              have hnext : Hid (∀ m', Good m' → enc m' <+: L → k + 1 ≤ encLen m') := by
                intro m' hg' hp'
                have h1 := hk.out m' hg' hp'
                rcases Nat.lt_or_ge k (encLen m') with h2 | h2
                · exact h2
                · have h3 : encLen m' = k := by omega
                  have h4 := acc_enc L m' hg' hp'
                  rw [h3, ← hm.out] at h4
                  exact absurd (h4 ▸ hg') HG.out
              go_wp2_with (fail)
              go_roundw
              case rel => exact ⟨k + 1, by omega, by omega, by go_num, hnext.out, below_drewN HB.out _⟩
              case measure => simp [intOf]; omega
    · have hno : Hid (∀ n, Good n → ¬ enc n <+: L) := by
        intro n hg hp
        have h1 := hk.out n hg hp
        have h2 := (encLen_range n).2
        have h3 := hp.length_le
        rw [enc_length, hLs.out] at h3
        omega
      by_cases h4 : k ≤ 4
      · have hd1 : decide ((k : Int) ≤ 4) = true := decide_eq_true (by omega)
        have hd2 : decide ((k : Int) ≤ (s.size : Int)) = false := decide_eq_false (by omega)
        have hd2' : decide (k ≤ s.size) = false := decide_eq_false (by omega)
        clear hin h4
        go_wp2_with (fail)
        go_ret
        exact ⟨HB.out, .inr ⟨hno.out, rfl⟩⟩
      · have hd1 : decide ((k : Int) ≤ 4) = false := decide_eq_false (by omega)
        clear hin h4
        go_wp2_with (fail)
        go_ret
        exact ⟨HB.out, .inr ⟨hno.out, rfl⟩⟩

end Utf
end Go.Proofs.YtonemmdipmohgaaDoor

namespace Go.Proofs.YtonemmdipmohgaaDoor
open Go.RowKit
set_option linter.unusedVariables false
set_option linter.unusedSimpArgs false
namespace Utf

theorem lat_ext {L M : List Int} (hl : L.length = M.length) (h : ∀ i, i < L.length → lat L i = lat M i) : L = M := by
  apply List.ext_getElem hl
  intro i h1 h2
  rw [← lat_get L i h1, ← lat_get M i h2]
  exact h i h1

def RPointsPost (w : World) (L : List Int) (e : Ending) (w' : World) : Prop :=
  (∃ l A c, IsStr L l ∧ e = .returned (.tuple #[.slice A l.length c, .bool true]) ∧ OwnInts w' w.heap.size 3 .i64 (.slice A l.length c) l ∧ Below w.heap.size w w') ∨
  ((∀ l, ¬ IsStr L l) ∧ e = .returned (.tuple #[.slice none 0 0, .bool false]) ∧ Below w.heap.size w w')

set_option maxHeartbeats 1000000 in
theorem rpoints_calls (w : World) (s : ByteArray) :
    Calls Tryd.prog 77 #[.string s] w fun e w' => RPointsPost w (nums s) e w' := by
  obtain ⟨L, hL⟩ : ∃ L, Hid (L = nums s) := ⟨_, rfl⟩
  have hLs : Hid (L.length = s.size) := by rw [hL.out, Hid, nums_length]
  rw [← hL.out]
  by_cases hbig : (65535 : Int) < (s.size : Int)
  · have hd := decide_eq_true hbig
    have HN : Hid (∀ l, ¬ IsStr L l) := fun l h => by have := h.2.2; rw [hLs.out] at this; omega
    go_enter Tryd.func77, Tryd.ntmps77
    go_wp2_with (fail)
    go_ret2
    exact .inr ⟨HN.out, rfl, Below.refl _ _⟩
  · have hd := decide_eq_false hbig
    have HS : Hid (L.length ≤ 65535) := by rw [Hid, hLs.out]; omega
    clear hbig
    go_enter Tryd.func77, Tryd.ntmps77
    go_wp2_with (fail)
    go_loopw [0, 4] (fun sv out wr => ∃ (b : ByteArray) (l : List Int) (A : Option Addr) (c : Nat), sv = .string b ∧ out = .slice A l.length c ∧ Hid (AllGood l ∧ L = encs l ++ nums b) ∧ Hid (OwnInts wr w.heap.size 3 .i64 (.slice A l.length c) l) ∧ Below w.heap.size w wr) (fun sv _ _ => strLen sv)
    case atStart => exact ⟨s, [], none, 0, rfl, rfl, ⟨fun n h => by simp at h, by rw [hL.out]; rfl⟩, OwnInts.nil _ _ _ _, Below.refl _ _⟩
    case round =>
      obtain ⟨b, l, A, c, rfl, rfl, hl, hO, hB⟩ := hrel
      have HB := Lib.hid hB
      clear hB
      by_cases hz : b.size = 0
      · have hfin : Hid (IsStr L l) := by
          have e : nums b = [] := List.eq_nil_of_length_eq_zero (by rw [nums_length]; exact hz)
          exact ⟨hl.out.1, by rw [hl.out.2, e]; simp, HS.out⟩
        have hd0 : decide (0 < b.size) = false := decide_eq_false (by omega)
        clear hz
        go_wp2_with (fail)
        go_ret2
        exact .inl ⟨l, A, c, hfin.out, rfl, hO.out, HB.out⟩
      · have hd0 : decide (0 < b.size) = true := decide_eq_true (by omega)
        have HZ := Lib.hid hz
        clear hz
        go_wp2_with (fail)
        refine (first_calls _ b).mono ?_
        rintro e w1 ⟨hb1, hk⟩
        have HB1 := Lib.hid (HB.out.trans (hb1.mono HB.out.size))
        have HO1 := Lib.hid (hO.out.turn (Turn.of_below (S := fun _ => False) hb1) (fun _ _ h => h))
        clear hb1 hO
        rcases hk with ⟨n, hg, hp, rfl⟩ | ⟨hno, rfl⟩
        · have HG := Lib.hid hg
          have HP := Lib.hid hp
          have hn0 : (n == 0) = false := by have := hg.1; simp; omega
          have hkb : (((enc n).length : Nat) : Int) ≤ (b.size : Int) := by
            have := hp.length_le
            rw [nums_length] at this
            omega
          have hsz : (strOfNums (enc n)).size = (enc n).length := strOfNums_size _
          have hLN : Hid (l.length + 1 ≤ 140737488355328 ∧ (l.length + 1) * 8 ≤ 140737488355328) := by
            have h1 := encs_length l
            have h2 := HS.out
            rw [hl.out.2, List.length_append] at h2
            rw [Hid]; omega
          clear hg hp
          go_wp2_with (at_builtin; go_must (refine wp_append_int w1 w.heap.size rfl _ _ 29 3 .i64 8 rfl Tryd.underlying29 info_int (.slice A l.length c) l n rfl _ rfl (heap_new w1 _) (Nat.le_refl _) (Turn.alloc w1 _) HO1.out HB1.out.size hLN.out ?_))
          intro g2 c2 w2 hown2 ht2 hloc hsz2
          have HB2 := Lib.hid (ht2.belowTrans HB1.out HB1.out.size (fun j hj e => by have := (own_block_ge HO1.out j e).1; omega))
          have HO2 := Lib.hid hown2
          clear ht2 hloc hown2
          go_wp2_with (fail)
          refine (rbytes_calls _ n HG.out).mono ?_
          rintro e w3 ⟨rfl, hb3⟩
          have HB3 := Lib.hid (HB2.out.trans (hb3.mono HB2.out.size))
          have HO3 := Lib.hid (HO2.out.turn (Turn.of_below (S := fun _ => False) hb3) (fun _ _ h => h))
          clear hb3
          go_wp2_with (fail)
          go_roundw
          case rel =>
            refine ⟨b.extract (enc n).length b.size, l ++ [n], some ⟨g2, 0, none⟩, c2, rfl, by simp, ?_, by simp only [Hid, List.length_append, List.length_singleton]; exact HO3.out, HB3.out⟩
            refine ⟨fun x hx => ?_, ?_⟩
            · simp only [List.mem_append, List.mem_singleton] at hx
              rcases hx with hx | rfl
              · exact hl.out.1 x hx
              · exact HG.out
            · rw [hl.out.2, encs_app, encs_one, List.append_assoc, nums_from]
              obtain ⟨t, ht⟩ := HP.out
              rw [← ht, List.drop_left]
          case measure =>
            show (b.extract (enc n).length b.size).size < b.size
            rw [← nums_length, nums_from, List.length_drop, nums_length]
            have := enc_length n; have := (encLen_range n).1; have := HZ.out
            omega
        · have hfin : Hid (∀ l', ¬ IsStr L l') := by
            intro l' h'
            have := encs_split l l' (nums b) hl.out.1 h'.1 (by rw [← hl.out.2]; exact h'.2.1) (fun _ => hno)
            exact nums_ne HZ.out this.1
          clear hno
          go_wp2_with (fail)
          go_ret2
          exact .inr ⟨hfin.out, rfl, HB1.out⟩

theorem meas (n k : Nat) (h : k < n) : n - ((k : Int) + 1).toNat < n - ((k : Int)).toNat := by omega

set_option maxHeartbeats 1000000 in
theorem ints_calls (w : World) (A B : Option Addr) (L M : List Int) (c d : Nat) (hL : Reads .i64 w A L) (hM : Reads .i64 w B M) (hbd : (L.length : Int) ≤ 70000) :
    Calls Tryd.prog 17 #[.slice A L.length c, .slice B M.length d] w fun e w' => e = .returned (.bool (decide (L = M))) ∧ Below w.heap.size w w' := by
  have HL := Lib.hid hL
  have HM := Lib.hid hM
  have HBD := Lib.hid hbd
  clear hL hM hbd
  obtain ⟨q, hq⟩ : ∃ q, Hid (decide (L = M) = q) := ⟨_, rfl⟩
  rw [hq.out]
  by_cases hlen : L.length = M.length
  · have hne : ((L.length : Int) != (M.length : Int)) = false := by simp [hlen]
    obtain ⟨k0, hk0⟩ : ∃ k0, Hid (k0 = M.length) := ⟨_, rfl⟩
    go_enter Tryd.func17, Tryd.ntmps17
    go_wp2_with (fail)
    go_loopw [5] (fun x wr => ∃ k : Nat, k ≤ L.length ∧ x = .int .i64 k ∧ Hid (∀ i, i < k → lat L i = lat M i) ∧ Hid (∃ n, wr = w.drewN n)) (fun x _ => L.length - (intOf x).toNat)
    case atStart => exact ⟨0, Nat.zero_le _, rfl, fun i h => absurd h (by omega), ⟨0, rfl⟩⟩
    case round =>
      obtain ⟨k, hk, rfl, hs, hB⟩ := hrel
      obtain ⟨n, hn⟩ := hB.out
      subst hn
      have hkb : (k : Int) ≤ 70000 := by have := HBD.out; omega
      by_cases hkl : k < L.length
      · have hkm : k < M.length := by omega
        obtain ⟨x, rfl, hcx⟩ := HL.out (by omega)
        obtain ⟨y, rfl, hcy⟩ := HM.out (by omega)
        have hx := hcx k hkl
        have hy := hcy k hkm
        clear hcx hcy
        by_cases he : lat L k = lat M k
        · have hbe : (lat L k != lat M k) = false := by simp [he]
          have HE := Lib.hid he
          clear he
          go_wp2_with (fail)
          go_quiet (fail)
          go_wp2_with (fail)
          go_roundw
          case rel =>
            refine ⟨k + 1, by omega, by go_num, fun i hi => ?_, ⟨_, rfl⟩⟩
            rcases Nat.lt_or_ge i k with h | h
            · exact hs.out i h
            · have : i = k := by omega
              subst this
              exact HE.out
          case measure => simp [intOf]; omega
        · have hbe : (lat L k != lat M k) = true := by simpa using he
          have hqf : Hid (q = false) := by rw [Hid, ← hq.out]; exact decide_eq_false (fun h : L = M => he (by rw [h]))
          clear he
          go_wp2_with (fail)
          go_quiet (fail)
          go_wp2_with (fail)
          go_ret
          exact ⟨by simp [hqf.out], below_drewN (below_drewN (Below.refl _ _) _) _⟩
      · have hke : Hid (L = M) := lat_ext hlen (fun i hi => hs.out i (by omega))
        have hqt : Hid (q = true) := by rw [Hid, ← hq.out]; exact decide_eq_true hke.out
        go_wp2_with (fail)
        go_ret
        exact ⟨by simp [hqt.out], below_drewN (Below.refl _ _) _⟩
  · have hqf : Hid (q = false) := by rw [Hid, ← hq.out]; exact decide_eq_false (fun h : L = M => hlen (by rw [h]))
    have hne : ((L.length : Int) != (M.length : Int)) = true := by simp; omega
    have hne' : (L.length != M.length) = true := by simp; omega
    clear hlen
    go_enter Tryd.func17, Tryd.ntmps17
    go_wp2_with (fail)
    go_ret
    exact ⟨by simp [hqf.out], Below.refl _ _⟩

end Utf
end Go.Proofs.YtonemmdipmohgaaDoor

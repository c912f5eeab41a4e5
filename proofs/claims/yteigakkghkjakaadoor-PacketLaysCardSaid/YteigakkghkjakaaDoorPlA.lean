/- The reader: take, octet, word, text. -/
import Derived.Test.YteigakkghkjakaaDoorPkZ
namespace Go.Proofs.YteigakkghkjakaaDoor
open Go.RowKit
set_option linter.unusedVariables false
set_option linter.unusedSimpArgs false
namespace Pk
open Utf (nums nums_length nums_bytes IsStr)
open Var (BT)

abbrev RT : TypeId := 65
/-- Block r is a reader with the bytes L. -/
def RdAt (w : World) (r B : Nat) (L : List Int) : Prop := ∃ A c, w.heap[r]? = some (.cells #[.slice A L.length c] RT (0, 0)) ∧ L.length ≤ c ∧ (c ≤ 9223372036854775807 ∧ L.length ≤ 140737488355328) ∧ Reads .u8 w A L ∧ (A = none → c = 0) ∧ (B ≤ r ∧ ∀ x, A = some x → x.block < B) ∧ ∀ x ∈ L, 0 ≤ x ∧ x < 256
theorem RdAt.keep {w w' : World} {r B : Nat} {L : List Int} (h : RdAt w r B L) (b : Below w.heap.size w w') : RdAt w' r B L := by
  obtain ⟨A, c, h1, h2, h3, h4, h5⟩ := h
  exact ⟨A, c, by rw [b.block _ (heap_lt h1)]; exact h1, h2, h3, h4.keep b, h5⟩
theorem RdAt.lt {w : World} {r B : Nat} {L : List Int} (h : RdAt w r B L) : r < w.heap.size := by obtain ⟨A, c, h1, _⟩ := h; exact heap_lt h1

/-- What a method of the reader does. -/
def Rd {V : Type} (w : World) (r B : Nat) (o : Option (V × List Int)) (enc : V → Value) (e : Ending) (w' : World) : Prop :=
  Turn (fun k => k = r) w w' ∧ ((∃ v L', o = some (v, L') ∧ e = .returned (enc v) ∧ RdAt w' r B L') ∨ (o = none ∧ e = badP))

theorem reads_turn {k : IntKind} {w w' : World} {A : Option Addr} {L : List Int} {S : Nat → Prop} (h : Reads k w A L) (t : Turn S w w') (hs : ∀ x, A = some x → ¬ S x.block) : Reads k w' A L := by
  intro h0
  obtain ⟨x, hx, hc⟩ := h h0
  refine ⟨x, hx, fun i hi => t.cell (hc i hi) ?_⟩
  rw [add_block]; exact hs x hx
theorem reads_drop {k : IntKind} {w : World} {x : Addr} {L : List Int} (n : Nat) (h : Reads k w (some x) L) : Reads k w (some (x.add n)) (L.drop n) := by
  intro h0
  rw [List.length_drop] at h0
  obtain ⟨y, hy, hc⟩ := h (by omega)
  cases hy
  refine ⟨_, rfl, fun i hi => ?_⟩
  rw [List.length_drop] at hi
  rw [add_add, hc (n + i) (by omega)]
  simp [lat, List.getElem?_drop]
theorem reads_take {k : IntKind} {w : World} {A : Option Addr} {L : List Int} (n : Nat) (h : Reads k w A L) : Reads k w A (L.take n) := by
  intro h0
  rw [List.length_take] at h0
  obtain ⟨y, hy, hc⟩ := h (by omega)
  refine ⟨y, hy, fun i hi => ?_⟩
  rw [List.length_take] at hi
  rw [hc i (by omega), lat_take _ _ _ (by omega)]
theorem ne_r {A : Option Addr} {r B : Nat} (h : B ≤ r ∧ ∀ x, A = some x → x.block < B) : ∀ x, A = some x → ¬ (x.block = r) := fun x hx e => by have := h.2 x hx; omega
theorem rd_set {w : World} {r B : Nat} {A A' : Option Addr} {L : List Int} {c m c' : Nat} {L' : List Int} (h1 : w.heap[r]? = some (.cells #[.slice A L.length c] RT (0, 0))) (hm : m = L'.length) (hc : L'.length ≤ c') (hb : c' ≤ 9223372036854775807 ∧ L'.length ≤ 140737488355328) (hR : Reads .u8 w A' L') (h6 : B ≤ r ∧ ∀ x, A' = some x → x.block < B) (hN : A' = none → c' = 0) (h7 : ∀ x ∈ L', 0 ≤ x ∧ x < 256) : RdAt (w.setCell ⟨r, 0, none⟩ (.slice A' m c')) r B L' := by
  subst hm
  exact ⟨A', c', heap_set_same w r 0 _ h1, hc, hb, reads_turn hR (Turn.setCell (S := fun k => k = r) w _ rfl) (ne_r h6), hN, h6, h7⟩
theorem drop_bytes {L : List Int} (n : Nat) (h : ∀ x ∈ L, 0 ≤ x ∧ x < 256) : ∀ x ∈ L.drop n, 0 ≤ x ∧ x < 256 := fun x hx => h x (List.mem_of_mem_drop hx)

set_option maxHeartbeats 1000000 in
theorem take_calls (w : World) (r B : Nat) (L : List Int) (n : Nat) (hn : (n : Int) ≤ 140737488355328) (hR : RdAt w r B L) : Calls Tryd.prog 64 #[.pointer (some ⟨r, 0, none⟩), .int .i64 n] w fun e w' =>
    Turn (fun k => k = r) w w' ∧ ((n ≤ L.length ∧ (∃ A c, e = .returned (.slice A n c) ∧ Reads .u8 w' A (L.take n) ∧ n ≤ c) ∧ RdAt w' r B (L.drop n)) ∨ (¬ n ≤ L.length ∧ e = badP)) := by
  obtain ⟨A, c, h1, h2, h3, h4, h5, h6, h7⟩ := hR
  have k0 : w.cell? ⟨r, 0, none⟩ = some (.slice A L.length c) := by rw [cell_heap h1]; rfl
  have f0 : w.frozen? ⟨r, 0, none⟩ = false := frozen_heap h1
  have H1 := Lib.hid h1
  have H4 := Lib.hid h4
  have H5 := Lib.hid h5
  have H6 := Lib.hid h6
  have H7 := Lib.hid h7
  clear h1 h4 h5 h6 h7
  by_cases hle : n ≤ L.length
  · have hd : decide (n ≤ L.length) = true := by simpa using hle
    have hnc : n ≤ c := by omega
    have hln : (L.drop n).length = L.length - n := List.length_drop
    by_cases hcn : c = n
    · subst hcn
      go_enter Tryd.func64, Tryd.ntmps64
      go_wp2_with (fail)
      refine (need_yes _).mono ?_
      rintro e w' ⟨rfl, rfl⟩
      go_wp2_with (fail)
      go_ret
      have hm0 : 0 = (L.drop c).length := by rw [hln]; omega
      refine ⟨Turn.setCell (S := fun k => k = r) w (p := ⟨r, 0, none⟩) _ rfl, .inl ⟨hle, ⟨A, c, rfl, reads_turn (S := fun k => k = r) (reads_take c H4.out) (Turn.setCell w _ rfl) (ne_r H6.out), Nat.le_refl _⟩, ?_⟩⟩
      have hd0 : L.drop c = [] := by apply List.drop_eq_nil_of_le; omega
      exact rd_set H1.out (by first | exact hm0 | exact hln.symm) (by rw [hd0]; exact Nat.le_refl _) (by omega) (by rw [hd0]; exact fun h => absurd h (by simp)) H6.out (fun _ => rfl) (drop_bytes c H7.out)
    · go_enter Tryd.func64, Tryd.ntmps64
      go_wp2_with (fail)
      refine (need_yes _).mono ?_
      rintro e w' ⟨rfl, rfl⟩
      go_wp2_with (fail)
      go_ret
      cases A with
      | none => exact absurd (H5.out rfl) (by omega)
      | some x =>
        have t := Turn.setCell (S := fun k => k = r) w (p := ⟨r, 0, none⟩) (.slice (some (x.add n)) (L.length - n) (c - n)) rfl
        refine ⟨t, .inl ⟨hle, ⟨some x, c, rfl, reads_turn (reads_take n H4.out) t (ne_r H6.out), hnc⟩, ?_⟩⟩
        exact rd_set H1.out hln.symm (by omega) (by omega) (reads_drop n H4.out) ⟨H6.out.1, fun y hy => by cases hy; rw [add_block]; exact H6.out.2 x rfl⟩ (fun h => by cases h) (drop_bytes n H7.out)
  · have hd : decide (n ≤ L.length) = false := decide_eq_false hle
    have HL := Lib.hid hle
    clear hle
    go_enter Tryd.func64, Tryd.ntmps64
    go_wp2_with (fail)
    refine (need_no _).mono ?_
    rintro e w' ⟨rfl, rfl⟩
    go_wp2_with (fail)
    exact ⟨rfl, Turn.refl _ _, .inr ⟨HL.out, rfl⟩⟩

def rdOct : List Int → Option (Int × List Int)
  | x :: L => some (x, L)
  | [] => none
def rdWord : List Int → Option (Int × List Int)
  | a :: b :: L => some (256 * a + b, L)
  | _ => none
def rdText (L : List Int) : Option (ByteArray × List Int) :=
  match rdWord L with
  | some (n, M) => if n.toNat ≤ M.length then some (strOfNums (M.take n.toNat), M.drop n.toNat) else none
  | none => none
abbrev intV (x : Int) : Value := .int .i64 x
abbrev strV (x : ByteArray) : Value := .string x

theorem rdBytes {w : World} {r B : Nat} {L : List Int} (h : RdAt w r B L) : ∀ x ∈ L, 0 ≤ x ∧ x < 256 := by obtain ⟨A, c, h1, h2, h3, h4, h5, h6, h7⟩ := h; exact h7
theorem rdLen {w : World} {r B : Nat} {L : List Int} (h : RdAt w r B L) : L.length ≤ 140737488355328 := by obtain ⟨A, c, h1, h2, h3, h4, h5, h6, h7⟩ := h; omega

set_option maxHeartbeats 1000000 in
theorem octet_calls (w : World) (r B : Nat) (L : List Int) (hR : RdAt w r B L) : Calls Tryd.prog 61 #[.pointer (some ⟨r, 0, none⟩)] w fun e w' => Rd w r B (rdOct L) intV e w' := by
  cases L with
  | nil =>
    have HT := Lib.hid (take_calls w r B [] 1 (by decide) hR)
    clear hR
    go_enter Tryd.func61, Tryd.ntmps61
    go_wp2_with (fail)
    refine HT.out.mono ?_
    rintro e w1 ⟨t, (⟨hn, _⟩ | ⟨hn, rfl⟩)⟩
    · exact absurd hn (by simp)
    · have HE := Lib.hid t
      clear t
      go_wp2_with (fail)
      exact ⟨rfl, HE.out, .inr ⟨rfl, rfl⟩⟩
  | cons x L' =>
    have HT := Lib.hid (take_calls w r B (x :: L') 1 (by decide) hR)
    obtain ⟨hb0, hb1⟩ := rdBytes hR x (by simp)
    clear hR
    go_enter Tryd.func61, Tryd.ntmps61
    go_wp2_with (fail)
    refine HT.out.mono ?_
    rintro e w1 ⟨t, (⟨hn, ⟨A, c, rfl, hr, hc⟩, hR1⟩ | ⟨hn, rfl⟩)⟩
    · obtain ⟨y, hy, hcell⟩ := hr (by simp)
      subst hy
      have hx0 : w1.cell? y = some (.int .u8 x) := by
        have := hcell 0 (by simp)
        have h1 : y.add 0 = y := by simp [Addr.add]
        rw [h1] at this
        simpa [lat] using this
      have HE : Hid (Turn (fun k => k = r) w w1 ∧ RdAt w1 r B L') := ⟨t, hR1⟩
      clear hcell hr t hR1
      go_wp2_with (fail)
      go_ret
      exact ⟨HE.out.1, .inl ⟨x, L', rfl, rfl, HE.out.2⟩⟩
    · exact absurd (by simp) hn

theorem or_word (a b : Int) (ha0 : 0 ≤ a) (ha1 : a < 256) (hb0 : 0 ≤ b) (hb1 : b < 256) : bits .or .i64 (a * 256) b = 256 * a + b := by
  have hw : ∀ n : Int, 0 ≤ n → n < 2 ^ 28 → IntKind.i64.wrap n = n := fun n h0 h1 => by rw [IntKind.wrap_i64]; omega
  rw [bits_join .i64 28 (by decide) hw 8 (a * 256) b (by omega) (by omega) (by omega) hb0 (by omega) (by omega)]
  omega
set_option maxHeartbeats 1000000 in
theorem wat_calls (w : World) (A : Option Addr) (a b : Int) (c : Nat) (hR : Reads .u8 w A [a, b]) (ha : 0 ≤ a ∧ a < 256) (hb : 0 ≤ b ∧ b < 256) (hc : 2 ≤ c) : Calls Tryd.prog 83 #[.slice A 2 c, .int .i64 0] w fun e w' => e = .returned (.tuple #[.int .i64 (256 * a + b), .int .i64 0]) ∧ ∃ n, w' = w.drewN n := by
  obtain ⟨x, rfl, hx⟩ := hR (by simp)
  have h0 : w.cell? x = some (.int .u8 a) := by
    have := hx 0 (by simp)
    have h1 : x.add 0 = x := by simp [Addr.add]
    rw [h1] at this
    exact this
  have h1 : w.cell? (x.add 1) = some (.int .u8 b) := hx 1 (by simp)
  have h1' := Var.add_cell h1 (by decide)
  obtain ⟨ha0, ha1⟩ := ha
  obtain ⟨hb0, hb1⟩ := hb
  have hor := or_word a b ha0 ha1 hb0 hb1
  clear hx hR
  go_enter Tryd.func83, Tryd.ntmps83
  go_wp2_with (fail)
  go_quiet (fail)
  go_wp2_with (fail)
  go_ret2
  exact ⟨rfl, _, rfl⟩

set_option maxHeartbeats 1000000 in
theorem rword_calls (w : World) (r B : Nat) (L : List Int) (hR : RdAt w r B L) : Calls Tryd.prog 63 #[.pointer (some ⟨r, 0, none⟩)] w fun e w' => Rd w r B (rdWord L) intV e w' := by
  have HT := Lib.hid (take_calls w r B L 2 (by decide) hR)
  by_cases hl : 2 ≤ L.length
  · obtain ⟨a, b, M, rfl⟩ : ∃ a b M, L = a :: b :: M := by
      match L, hl with
      | a :: b :: M, _ => exact ⟨a, b, M, rfl⟩
    have ha := rdBytes hR a (by simp)
    have hb := rdBytes hR b (by simp)
    clear hR hl
    go_enter Tryd.func63, Tryd.ntmps63
    go_wp2_with (fail)
    refine HT.out.mono ?_
    rintro e w1 ⟨t, (⟨hn, ⟨A, c, rfl, hr, hc⟩, hR1⟩ | ⟨hn, rfl⟩)⟩
    · have HE : Hid (Turn (fun k => k = r) w w1 ∧ RdAt w1 r B M) := ⟨t, hR1⟩
      have HW := Lib.hid (wat_calls w1 A a b c hr ha hb hc)
      clear hr t hR1
      go_wp2_with (fail)
      refine HW.out.mono ?_
      rintro e w2 ⟨rfl, n, rfl⟩
      go_wp2_with (fail)
      go_ret
      exact ⟨HE.out.1.trans (Turn.drewN (Turn.refl _ _) n), .inl ⟨256 * a + b, M, rfl, rfl, HE.out.2⟩⟩
    · exact absurd (by simp) hn
  · have hN : Hid (rdWord L = none) := by
      match L, hl with
      | [], _ => exact rfl
      | [a], _ => exact rfl
      | a :: b :: M, hl => exact absurd (by simp) hl
    have HL := Lib.hid hl
    clear hR hl
    go_enter Tryd.func63, Tryd.ntmps63
    go_wp2_with (fail)
    refine HT.out.mono ?_
    rintro e w1 ⟨t, (⟨hn, _⟩ | ⟨hn, rfl⟩)⟩
    · exact absurd hn HL.out
    · have HE := Lib.hid t
      clear t
      go_wp2_with (fail)
      exact ⟨rfl, HE.out, .inr ⟨hN.out, rfl⟩⟩

theorem rdWord_rest {L M : List Int} {n : Int} (h : rdWord L = some (n, M)) (hb : ∀ x ∈ L, 0 ≤ x ∧ x < 256) : 0 ≤ n ∧ n ≤ 65535 := by
  match L, h with
  | a :: b :: L', h =>
    have ha := hb a (by simp)
    have hb := hb b (by simp)
    simp [rdWord] at h
    omega

set_option maxHeartbeats 1000000 in
theorem rtext_calls (w : World) (r B : Nat) (L : List Int) (hR : RdAt w r B L) : Calls Tryd.prog 62 #[.pointer (some ⟨r, 0, none⟩)] w fun e w' => Rd w r B (rdText L) strV e w' := by
  have HW := Lib.hid (rword_calls w r B L hR)
  have hby := Lib.hid (rdBytes hR)
  clear hR
  cases hwo : rdWord L with
  | none =>
    have hN : Hid (rdText L = none) := by rw [Hid, rdText, hwo]
    rw [hwo] at HW
    go_enter Tryd.func62, Tryd.ntmps62
    go_wp2_with (fail)
    refine HW.out.mono ?_
    rintro e w1 ⟨t, (⟨v, L', h, _⟩ | ⟨_, rfl⟩)⟩
    · cases h
    · have HE := Lib.hid t
      clear t
      go_wp2_with (fail)
      exact ⟨rfl, HE.out, .inr ⟨hN.out, rfl⟩⟩
  | some q =>
    obtain ⟨n, M⟩ := q
    obtain ⟨h0, h1⟩ := rdWord_rest hwo hby.out
    obtain ⟨k, rfl⟩ : ∃ k : Nat, n = (k : Int) := ⟨n.toNat, by omega⟩
    have hT : Hid (rdText L = if k ≤ M.length then some (strOfNums (M.take k), M.drop k) else none) := by rw [Hid, rdText, hwo]; rfl
    rw [hwo] at HW
    go_enter Tryd.func62, Tryd.ntmps62
    go_wp2_with (fail)
    refine HW.out.mono ?_
    rintro e w1 ⟨t, (⟨v, L', h, rfl, hR1⟩ | ⟨h, _⟩)⟩
    · cases h
      have HTK := Lib.hid (take_calls w1 r B M k (by omega) hR1)
      have HE := Lib.hid t
      clear t hR1
      go_wp2_with (fail)
      refine HTK.out.mono ?_
      rintro e w2 ⟨t2, (⟨hn, ⟨A, c, rfl, hr, hc⟩, hR2⟩ | ⟨hn, rfl⟩)⟩
      · have hl : k = (M.take k).length := by rw [List.length_take]; omega
        have hcv := conv_reads (P := Tryd.prog) (W := w2) (src := 22) (dst := 9) (e := 5) (A := A) (n := k) (c := c) (L := M.take k) Tryd.underlying22 Tryd.underlying5 Tryd.underlying9 hl hr
        have HE2 := Lib.hid (And.intro (HE.out.trans t2) hR2)
        have HN := Lib.hid hn
        clear t2 hr hR2 hn hl
        go_wp2_with (fail)
        go_ret
        exact ⟨HE2.out.1, .inl ⟨_, _, by rw [hT.out, if_pos HN.out], rfl, HE2.out.2⟩⟩
      · have HE2 := Lib.hid (HE.out.trans t2)
        have HN := Lib.hid hn
        clear t2 hn
        go_wp2_with (fail)
        exact ⟨rfl, HE2.out, .inr ⟨by rw [hT.out, if_neg HN.out], rfl⟩⟩
    · cases h
end Pk
end Go.Proofs.YteigakkghkjakaaDoor

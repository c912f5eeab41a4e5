/- The reader: take, octet, word, text. The reader: connect. The reader: a packet stored whole; read. The reader: read, the types without loops. -/
import Derived.Test.YteigakkghkjakaaDoorPkZ
import Derived.Laws.Tables
namespace Go.Proofs.YteigakkghkjakaaDoor
open Go.RowKit
set_option linter.unusedVariables false
set_option linter.unusedSimpArgs false
namespace Pk
open Utf (nums nums_length nums_bytes IsStr)
open Var (BT)

abbrev RT : TypeId := 65
/-- Block r is a reader with the bytes L. -/
def RdAt (w : World) (r B : Nat) (L : List Int) : Prop := ∃ A c, w.heap[r]? = some (.cells #[.slice A L.length c] RT (0, 0)) ∧ L.length ≤ c ∧ (c ≤ 9223372036854775807 ∧ L.length ≤ 140737488355328) ∧ Reads .u8 w A L ∧ (A = none → c = 0) ∧ (B ≤ r ∧ ∀ x, A = some x → x.block < B) ∧ ∀ x ∈ L, 0 ≤ x ∧ x < 256
theorem RdAt.keep {w w' : World} {r B : Nat} {L : List Int} (h : RdAt w r B L) (b : Below w.heap.size w w') : RdAt w' r B L := by
  obtain ⟨A, c, h1, h2, h3, h4, h5⟩ := h
  exact ⟨A, c, by rw [b.block _ (heap_lt h1)]; exact h1, h2, h3, h4.keep b, h5⟩
theorem RdAt.lt {w : World} {r B : Nat} {L : List Int} (h : RdAt w r B L) : r < w.heap.size := by obtain ⟨A, c, h1, _⟩ := h; exact heap_lt h1

/-- What a method of the reader does. -/
def Rd {V : Type} (w : World) (r B : Nat) (o : Option (V × List Int)) (enc : V → Value) (e : Ending) (w' : World) : Prop :=
  Turn (fun k => k = r) w w' ∧ ((∃ v L', o = some (v, L') ∧ e = .returned (enc v) ∧ RdAt w' r B L') ∨ (o = none ∧ e = badP))

theorem reads_turn {k : IntKind} {w w' : World} {A : Option Addr} {L : List Int} {S : Nat → Prop} (h : Reads k w A L) (t : Turn S w w') (hs : ∀ x, A = some x → ¬ S x.block) : Reads k w' A L := by
  intro h0
  obtain ⟨x, hx, hc⟩ := h h0
  refine ⟨x, hx, fun i hi => t.cell (hc i hi) ?_⟩
  rw [add_block]; exact hs x hx
theorem reads_drop {k : IntKind} {w : World} {x : Addr} {L : List Int} (n : Nat) (h : Reads k w (some x) L) : Reads k w (some (x.add n)) (L.drop n) := by
  intro h0
  rw [List.length_drop] at h0
  obtain ⟨y, hy, hc⟩ := h (by omega)
  cases hy
  refine ⟨_, rfl, fun i hi => ?_⟩
  rw [List.length_drop] at hi
  rw [add_add, hc (n + i) (by omega)]
  simp [lat, List.getElem?_drop]
theorem reads_take {k : IntKind} {w : World} {A : Option Addr} {L : List Int} (n : Nat) (h : Reads k w A L) : Reads k w A (L.take n) := by
  intro h0
  rw [List.length_take] at h0
  obtain ⟨y, hy, hc⟩ := h (by omega)
  refine ⟨y, hy, fun i hi => ?_⟩
  rw [List.length_take] at hi
  rw [hc i (by omega), lat_take _ _ _ (by omega)]
theorem ne_r {A : Option Addr} {r B : Nat} (h : B ≤ r ∧ ∀ x, A = some x → x.block < B) : ∀ x, A = some x → ¬ (x.block = r) := fun x hx e => by have := h.2 x hx; omega
theorem rd_set {w : World} {r B : Nat} {A A' : Option Addr} {L : List Int} {c m c' : Nat} {L' : List Int} (h1 : w.heap[r]? = some (.cells #[.slice A L.length c] RT (0, 0))) (hm : m = L'.length) (hc : L'.length ≤ c') (hb : c' ≤ 9223372036854775807 ∧ L'.length ≤ 140737488355328) (hR : Reads .u8 w A' L') (h6 : B ≤ r ∧ ∀ x, A' = some x → x.block < B) (hN : A' = none → c' = 0) (h7 : ∀ x ∈ L', 0 ≤ x ∧ x < 256) : RdAt (w.setCell ⟨r, 0, none⟩ (.slice A' m c')) r B L' := by
  subst hm
  exact ⟨A', c', heap_set_same w r 0 _ h1, hc, hb, reads_turn hR (Turn.setCell (S := fun k => k = r) w _ rfl) (ne_r h6), hN, h6, h7⟩
theorem drop_bytes {L : List Int} (n : Nat) (h : ∀ x ∈ L, 0 ≤ x ∧ x < 256) : ∀ x ∈ L.drop n, 0 ≤ x ∧ x < 256 := fun x hx => h x (List.mem_of_mem_drop hx)

set_option maxHeartbeats 1000000 in
theorem take_calls (w : World) (r B : Nat) (L : List Int) (n : Nat) (hn : (n : Int) ≤ 140737488355328) (hR : RdAt w r B L) : Calls Tryd.prog 64 #[.pointer (some ⟨r, 0, none⟩), .int .i64 n] w fun e w' =>
    Turn (fun k => k = r) w w' ∧ ((n ≤ L.length ∧ (∃ A c, e = .returned (.slice A n c) ∧ Reads .u8 w' A (L.take n) ∧ n ≤ c) ∧ RdAt w' r B (L.drop n)) ∨ (¬ n ≤ L.length ∧ e = badP)) := by
  obtain ⟨A, c, h1, h2, h3, h4, h5, h6, h7⟩ := hR
  have k0 : w.cell? ⟨r, 0, none⟩ = some (.slice A L.length c) := by rw [cell_heap h1]; rfl
  have f0 : w.frozen? ⟨r, 0, none⟩ = false := frozen_heap h1
  have H1 := Lib.hid h1
  have H4 := Lib.hid h4
  have H5 := Lib.hid h5
  have H6 := Lib.hid h6
  have H7 := Lib.hid h7
  clear h1 h4 h5 h6 h7
  by_cases hle : n ≤ L.length
  · have hd : decide (n ≤ L.length) = true := by simpa using hle
    have hnc : n ≤ c := by omega
    have hln : (L.drop n).length = L.length - n := List.length_drop
    by_cases hcn : c = n
    · subst hcn
      go_enter Tryd.func64, Tryd.ntmps64
      go_wp2_with (fail)
      refine (need_yes _).mono ?_
      rintro e w' ⟨rfl, rfl⟩
      go_wp2_with (fail)
      go_ret
      have hm0 : 0 = (L.drop c).length := by rw [hln]; omega
      refine ⟨Turn.setCell (S := fun k => k = r) w (p := ⟨r, 0, none⟩) _ rfl, .inl ⟨hle, ⟨A, c, rfl, reads_turn (S := fun k => k = r) (reads_take c H4.out) (Turn.setCell w _ rfl) (ne_r H6.out), Nat.le_refl _⟩, ?_⟩⟩
      have hd0 : L.drop c = [] := by apply List.drop_eq_nil_of_le; omega
      exact rd_set H1.out (by first | exact hm0 | exact hln.symm) (by rw [hd0]; exact Nat.le_refl _) (by omega) (by rw [hd0]; exact fun h => absurd h (by simp)) H6.out (fun _ => rfl) (drop_bytes c H7.out)
    · go_enter Tryd.func64, Tryd.ntmps64
      go_wp2_with (fail)
      refine (need_yes _).mono ?_
      rintro e w' ⟨rfl, rfl⟩
      go_wp2_with (fail)
      go_ret
      cases A with
      | none => exact absurd (H5.out rfl) (by omega)
      | some x =>
        have t := Turn.setCell (S := fun k => k = r) w (p := ⟨r, 0, none⟩) (.slice (some (x.add n)) (L.length - n) (c - n)) rfl
        refine ⟨t, .inl ⟨hle, ⟨some x, c, rfl, reads_turn (reads_take n H4.out) t (ne_r H6.out), hnc⟩, ?_⟩⟩
        exact rd_set H1.out hln.symm (by omega) (by omega) (reads_drop n H4.out) ⟨H6.out.1, fun y hy => by cases hy; rw [add_block]; exact H6.out.2 x rfl⟩ (fun h => by cases h) (drop_bytes n H7.out)
  · have hd : decide (n ≤ L.length) = false := decide_eq_false hle
    have HL := Lib.hid hle
    clear hle
    go_enter Tryd.func64, Tryd.ntmps64
    go_wp2_with (fail)
    refine (need_no _).mono ?_
    rintro e w' ⟨rfl, rfl⟩
    go_wp2_with (fail)
    exact ⟨rfl, Turn.refl _ _, .inr ⟨HL.out, rfl⟩⟩

def rdOct : List Int → Option (Int × List Int)
  | x :: L => some (x, L)
  | [] => none
def rdWord : List Int → Option (Int × List Int)
  | a :: b :: L => some (256 * a + b, L)
  | _ => none
def rdText (L : List Int) : Option (ByteArray × List Int) :=
  match rdWord L with
  | some (n, M) => if n.toNat ≤ M.length then some (strOfNums (M.take n.toNat), M.drop n.toNat) else none
  | none => none
abbrev intV (x : Int) : Value := .int .i64 x
abbrev strV (x : ByteArray) : Value := .string x

theorem rdBytes {w : World} {r B : Nat} {L : List Int} (h : RdAt w r B L) : ∀ x ∈ L, 0 ≤ x ∧ x < 256 := by obtain ⟨A, c, h1, h2, h3, h4, h5, h6, h7⟩ := h; exact h7
theorem rdLen {w : World} {r B : Nat} {L : List Int} (h : RdAt w r B L) : L.length ≤ 140737488355328 := by obtain ⟨A, c, h1, h2, h3, h4, h5, h6, h7⟩ := h; omega

set_option maxHeartbeats 1000000 in
theorem octet_calls (w : World) (r B : Nat) (L : List Int) (hR : RdAt w r B L) : Calls Tryd.prog 61 #[.pointer (some ⟨r, 0, none⟩)] w fun e w' => Rd w r B (rdOct L) intV e w' := by
  cases L with
  | nil =>
    have HT := Lib.hid (take_calls w r B [] 1 (by decide) hR)
    clear hR
    go_enter Tryd.func61, Tryd.ntmps61
    go_wp2_with (fail)
    refine HT.out.mono ?_
    rintro e w1 ⟨t, (⟨hn, _⟩ | ⟨hn, rfl⟩)⟩
    · exact absurd hn (by simp)
    · have HE := Lib.hid t
      clear t
      go_wp2_with (fail)
      exact ⟨rfl, HE.out, .inr ⟨rfl, rfl⟩⟩
  | cons x L' =>
    have HT := Lib.hid (take_calls w r B (x :: L') 1 (by decide) hR)
    obtain ⟨hb0, hb1⟩ := rdBytes hR x (by simp)
    clear hR
    go_enter Tryd.func61, Tryd.ntmps61
    go_wp2_with (fail)
    refine HT.out.mono ?_
    rintro e w1 ⟨t, (⟨hn, ⟨A, c, rfl, hr, hc⟩, hR1⟩ | ⟨hn, rfl⟩)⟩
    · obtain ⟨y, hy, hcell⟩ := hr (by simp)
      subst hy
      have hx0 : w1.cell? y = some (.int .u8 x) := by
        have := hcell 0 (by simp)
        have h1 : y.add 0 = y := by simp [Addr.add]
        rw [h1] at this
        simpa [lat] using this
      have HE : Hid (Turn (fun k => k = r) w w1 ∧ RdAt w1 r B L') := ⟨t, hR1⟩
      clear hcell hr t hR1
      go_wp2_with (fail)
      go_ret
      exact ⟨HE.out.1, .inl ⟨x, L', rfl, rfl, HE.out.2⟩⟩
    · exact absurd (by simp) hn

theorem or_word (a b : Int) (ha0 : 0 ≤ a) (ha1 : a < 256) (hb0 : 0 ≤ b) (hb1 : b < 256) : bits .or .i64 (a * 256) b = 256 * a + b := by
  have hw : ∀ n : Int, 0 ≤ n → n < 2 ^ 28 → IntKind.i64.wrap n = n := fun n h0 h1 => by rw [IntKind.wrap_i64]; omega
  rw [bits_join .i64 28 (by decide) hw 8 (a * 256) b (by omega) (by omega) (by omega) hb0 (by omega) (by omega)]
  omega
set_option maxHeartbeats 1000000 in
theorem wat_calls (w : World) (A : Option Addr) (a b : Int) (c : Nat) (hR : Reads .u8 w A [a, b]) (ha : 0 ≤ a ∧ a < 256) (hb : 0 ≤ b ∧ b < 256) (hc : 2 ≤ c) : Calls Tryd.prog 83 #[.slice A 2 c, .int .i64 0] w fun e w' => e = .returned (.tuple #[.int .i64 (256 * a + b), .int .i64 0]) ∧ ∃ n, w' = w.drewN n := by
  obtain ⟨x, rfl, hx⟩ := hR (by simp)
  have h0 : w.cell? x = some (.int .u8 a) := by
    have := hx 0 (by simp)
    have h1 : x.add 0 = x := by simp [Addr.add]
    rw [h1] at this
    exact this
  have h1 : w.cell? (x.add 1) = some (.int .u8 b) := hx 1 (by simp)
  have h1' := Var.add_cell h1 (by decide)
  obtain ⟨ha0, ha1⟩ := ha
  obtain ⟨hb0, hb1⟩ := hb
  have hor := or_word a b ha0 ha1 hb0 hb1
  clear hx hR
  go_enter Tryd.func83, Tryd.ntmps83
  go_wp2_with (fail)
  go_quiet (fail)
  go_wp2_with (fail)
  go_ret2
  exact ⟨rfl, _, rfl⟩

set_option maxHeartbeats 1000000 in
theorem rword_calls (w : World) (r B : Nat) (L : List Int) (hR : RdAt w r B L) : Calls Tryd.prog 63 #[.pointer (some ⟨r, 0, none⟩)] w fun e w' => Rd w r B (rdWord L) intV e w' := by
  have HT := Lib.hid (take_calls w r B L 2 (by decide) hR)
  by_cases hl : 2 ≤ L.length
  · obtain ⟨a, b, M, rfl⟩ : ∃ a b M, L = a :: b :: M := by
      match L, hl with
      | a :: b :: M, _ => exact ⟨a, b, M, rfl⟩
    have ha := rdBytes hR a (by simp)
    have hb := rdBytes hR b (by simp)
    clear hR hl
    go_enter Tryd.func63, Tryd.ntmps63
    go_wp2_with (fail)
    refine HT.out.mono ?_
    rintro e w1 ⟨t, (⟨hn, ⟨A, c, rfl, hr, hc⟩, hR1⟩ | ⟨hn, rfl⟩)⟩
    · have HE : Hid (Turn (fun k => k = r) w w1 ∧ RdAt w1 r B M) := ⟨t, hR1⟩
      have HW := Lib.hid (wat_calls w1 A a b c hr ha hb hc)
      clear hr t hR1
      go_wp2_with (fail)
      refine HW.out.mono ?_
      rintro e w2 ⟨rfl, n, rfl⟩
      go_wp2_with (fail)
      go_ret
      exact ⟨HE.out.1.trans (Turn.drewN (Turn.refl _ _) n), .inl ⟨256 * a + b, M, rfl, rfl, HE.out.2⟩⟩
    · exact absurd (by simp) hn
  · have hN : Hid (rdWord L = none) := by
      match L, hl with
      | [], _ => exact rfl
      | [a], _ => exact rfl
      | a :: b :: M, hl => exact absurd (by simp) hl
    have HL := Lib.hid hl
    clear hR hl
    go_enter Tryd.func63, Tryd.ntmps63
    go_wp2_with (fail)
    refine HT.out.mono ?_
    rintro e w1 ⟨t, (⟨hn, _⟩ | ⟨hn, rfl⟩)⟩
    · exact absurd hn HL.out
    · have HE := Lib.hid t
      clear t
      go_wp2_with (fail)
      exact ⟨rfl, HE.out, .inr ⟨hN.out, rfl⟩⟩

theorem rdWord_rest {L M : List Int} {n : Int} (h : rdWord L = some (n, M)) (hb : ∀ x ∈ L, 0 ≤ x ∧ x < 256) : 0 ≤ n ∧ n ≤ 65535 := by
  match L, h with
  | a :: b :: L', h =>
    have ha := hb a (by simp)
    have hb := hb b (by simp)
    simp [rdWord] at h
    omega

set_option maxHeartbeats 1000000 in
theorem rtext_calls (w : World) (r B : Nat) (L : List Int) (hR : RdAt w r B L) : Calls Tryd.prog 62 #[.pointer (some ⟨r, 0, none⟩)] w fun e w' => Rd w r B (rdText L) strV e w' := by
  have HW := Lib.hid (rword_calls w r B L hR)
  have hby := Lib.hid (rdBytes hR)
  clear hR
  cases hwo : rdWord L with
  | none =>
    have hN : Hid (rdText L = none) := by rw [Hid, rdText, hwo]
    rw [hwo] at HW
    go_enter Tryd.func62, Tryd.ntmps62
    go_wp2_with (fail)
    refine HW.out.mono ?_
    rintro e w1 ⟨t, (⟨v, L', h, _⟩ | ⟨_, rfl⟩)⟩
    · cases h
    · have HE := Lib.hid t
      clear t
      go_wp2_with (fail)
      exact ⟨rfl, HE.out, .inr ⟨hN.out, rfl⟩⟩
  | some q =>
    obtain ⟨n, M⟩ := q
    obtain ⟨h0, h1⟩ := rdWord_rest hwo hby.out
    obtain ⟨k, rfl⟩ : ∃ k : Nat, n = (k : Int) := ⟨n.toNat, by omega⟩
    have hT : Hid (rdText L = if k ≤ M.length then some (strOfNums (M.take k), M.drop k) else none) := by rw [Hid, rdText, hwo]; rfl
    rw [hwo] at HW
    go_enter Tryd.func62, Tryd.ntmps62
    go_wp2_with (fail)
    refine HW.out.mono ?_
    rintro e w1 ⟨t, (⟨v, L', h, rfl, hR1⟩ | ⟨h, _⟩)⟩
    · cases h
      have HTK := Lib.hid (take_calls w1 r B M k (by omega) hR1)
      have HE := Lib.hid t
      clear t hR1
      go_wp2_with (fail)
      refine HTK.out.mono ?_
      rintro e w2 ⟨t2, (⟨hn, ⟨A, c, rfl, hr, hc⟩, hR2⟩ | ⟨hn, rfl⟩)⟩
      · have hl : k = (M.take k).length := by rw [List.length_take]; omega
        have hcv := conv_reads (P := Tryd.prog) (W := w2) (src := 22) (dst := 9) (e := 5) (A := A) (n := k) (c := c) (L := M.take k) Tryd.underlying22 Tryd.underlying5 Tryd.underlying9 hl hr
        have HE2 := Lib.hid (And.intro (HE.out.trans t2) hR2)
        have HN := Lib.hid hn
        clear t2 hr hR2 hn hl
        go_wp2_with (fail)
        go_ret
        exact ⟨HE2.out.1, .inl ⟨_, _, by rw [hT.out, if_pos HN.out], rfl, HE2.out.2⟩⟩
      · have HE2 := Lib.hid (HE.out.trans t2)
        have HN := Lib.hid hn
        clear t2 hn
        go_wp2_with (fail)
        exact ⟨rfl, HE2.out, .inr ⟨by rw [hT.out, if_neg HN.out], rfl⟩⟩
    · cases h
end Pk
end Go.Proofs.YteigakkghkjakaaDoor

namespace Go.Proofs.YteigakkghkjakaaDoor
open Go.RowKit
set_option linter.unusedVariables false
set_option linter.unusedSimpArgs false
namespace Pk
open Utf (nums nums_length nums_bytes IsStr)
open Var (BT)

def flagB (f m : Int) : Bool := decide (0 < bits .and .i64 f m)
def con9 (p : Pkt) (L : List Int) : Option (Pkt × List Int) := if p.hpass then (rdText L).bind fun x => some ({ p with pass := x.1 }, x.2) else some (p, L)
def con8 (p : Pkt) (L : List Int) : Option (Pkt × List Int) := if p.huser then (rdText L).bind fun x => con9 { p with user := x.1 } x.2 else con9 p L
def con7 (p : Pkt) (L : List Int) : Option (Pkt × List Int) := (rdText L).bind fun x => con8 { p with payload := x.1 } x.2
def con6 (p : Pkt) (L : List Int) : Option (Pkt × List Int) := (rdText L).bind fun x => con7 { p with topic := x.1 } x.2
def con5 (p : Pkt) (f : Int) (L : List Int) : Option (Pkt × List Int) :=
  if p.will then con6 { p with topic := ⟨#[]⟩, payload := ⟨#[]⟩, qos := bits .and .i64 (f / 8) 3, retain := flagB f 32 } L else con8 p L
def con4 (p : Pkt) (f : Int) (L : List Int) : Option (Pkt × List Int) := (rdText L).bind fun x => con5 { p with client := x.1 } f x.2
def con3 (p : Pkt) (f : Int) (L : List Int) : Option (Pkt × List Int) := (rdWord L).bind fun x => con4 { p with alive := x.1 } f x.2
def Pkt.flag (p : Pkt) (f : Int) : Pkt := { p with clean := flagB f 2, will := flagB f 4, hpass := flagB f 64, huser := flagB f 128 }
def con2 (p : Pkt) (L : List Int) : Option (Pkt × List Int) := (rdOct L).bind fun x => con3 (p.flag x.1) x.1 x.2
def con1 (p : Pkt) (L : List Int) : Option (Pkt × List Int) := (rdOct L).bind fun x => if x.1 = 4 then con2 p x.2 else none
def rdCon (p : Pkt) (L : List Int) : Option (Pkt × List Int) := (rdText L).bind fun x => if x.1.toList = [77, 81, 84, 84] then con1 p x.2 else none

theorem RdAt.other {w w' : World} {r B : Nat} {L : List Int} {S : Nat → Prop} (h : RdAt w r B L) (t : Turn S w w') (hS : ∀ k, S k → B ≤ k ∧ k ≠ r) : RdAt w' r B L := by
  obtain ⟨A, c, h1, h2, h3, h4, h5, h6, h7⟩ := h
  refine ⟨A, c, by rw [t.block r (heap_lt h1) (fun hx => (hS r hx).2 rfl)]; exact h1, h2, h3, reads_turn h4 t (fun x hx hs => ?_), h5, h6, h7⟩
  have := h6.2 x hx
  have := (hS _ hs).1
  omega

/-- Where a reading stands. -/
structure RS (w W : World) (r g B : Nat) (p : Pkt) (L : List Int) : Prop where
  turn : Turn (fun k => k = r ∨ k = g) w W
  rd : RdAt W r B L
  pk : PkAt W g p
  ne : r ≠ g
  bg : B ≤ g
theorem RS.read {w W W' : World} {r g B : Nat} {p : Pkt} {L L' : List Int} (h : RS w W r g B p L) (t : Turn (fun k => k = r) W W') (hR : RdAt W' r B L') : RS w W' r g B p L' :=
  ⟨h.turn.trans (t.mono (fun _ _ e => .inl e)), hR, h.pk.keep t (fun e => h.ne e.symm), h.ne, h.bg⟩
theorem RS.fail {w W W' : World} {r g B : Nat} {p : Pkt} {L : List Int} (h : RS w W r g B p L) (t : Turn (fun k => k = r) W W') : Turn (fun k => k = r ∨ k = g) w W' :=
  h.turn.trans (t.mono (fun _ _ e => .inl e))
theorem RS.set {w W : World} {r g B : Nat} {p : Pkt} {L : List Int} (h : RS w W r g B p L) (i : Nat) (v : Value) (q : Pkt) (hq : p.cells.setIfInBounds i v = q.cells) : RS w (W.setCell ⟨g, i, none⟩ v) r g B q L :=
  ⟨h.turn.trans (Turn.setCell W v (.inr rfl)), h.rd.other (Turn.setCell (S := fun k => k = g) W v rfl) (fun k e => ⟨by have := h.bg; omega, fun e' => h.ne (by omega)⟩), h.pk.set i v q hq, h.ne, h.bg⟩

def RdPkt (w : World) (r g B : Nat) (o : Option (Pkt × List Int)) (e : Ending) (w' : World) : Prop :=
  Turn (fun k => k = r ∨ k = g) w w' ∧ ((∃ p L, o = some (p, L) ∧ e = .returned (.tuple #[]) ∧ PkAt w' g p ∧ RdAt w' r B L) ∨ (o = none ∧ e = badP))
theorem str_ne' {s t : ByteArray} (h : ¬ s.toList = t.toList) : (s.toList == t.toList) = false := by simpa using h

set_option maxRecDepth 100000 in
set_option maxHeartbeats 4000000 in
theorem rcon_calls (w : World) (r g B : Nat) (p : Pkt) (L : List Int) (h : RS w w r g B p L) : Calls Tryd.prog 60 #[.pointer (some ⟨r, 0, none⟩), .pointer (some ⟨g, 0, none⟩)] w fun e w' => RdPkt w r g B (rdCon p L) e w' := by
  have H0 := Lib.hid h
  clear h
  obtain ⟨o, ho⟩ : ∃ o, Hid (o = rdCon p L) := ⟨_, rfl⟩
  rw [← ho.out]
  rw [rdCon] at ho
  go_enter Tryd.func60, Tryd.ntmps60
  go_wp2_with (fail)
  refine (rtext_calls w r B L H0.out.rd).mono ?_
  rintro e W1 ⟨t, (⟨s, L1, hs, rfl, hR⟩ | ⟨hs, rfl⟩)⟩
  · rw [hs] at ho
    have H1 : Hid (RS w W1 r g B p L1) := H0.out.read t hR
    rw [Option.bind_some] at ho
    by_cases hm : s.toList = [77, 81, 84, 84]
    · have hm1 : (s.toList == [77, 81, 84, 84]) = true := by simpa using hm
      rw [if_pos hm, con1] at ho
      clear hm t hR hs
      go_wp2_with (fail)
      refine (need_yes _).mono ?_
      rintro e w' ⟨rfl, rfl⟩
      go_wp2_with (fail)
      refine (octet_calls W1 r B L1 H1.out.rd).mono ?_
      rintro e W2 ⟨t, (⟨v, L2, hs, rfl, hR⟩ | ⟨hs, rfl⟩)⟩
      · rw [hs] at ho
        have H2 : Hid (RS w W2 r g B p L2) := H1.out.read t hR
        rw [Option.bind_some] at ho
        by_cases hv : v = 4
        · have hv1 : (v == 4) = true := by simpa using hv
          rw [if_pos hv, con2] at ho
          clear t hR hs
          subst hv
          go_wp2_with (fail)
          refine (need_yes _).mono ?_
          rintro e w' ⟨rfl, rfl⟩
          go_wp2_with (fail)
          refine (octet_calls W2 r B L2 H2.out.rd).mono ?_
          rintro e W3 ⟨t, (⟨f, L3, hs, rfl, hR⟩ | ⟨hs, rfl⟩)⟩
          · rw [hs] at ho
            have H3 : Hid (RS w W3 r g B p L3) := H2.out.read t hR
            rw [Option.bind_some] at ho
            rw [con3] at ho
            obtain ⟨hf0, hf1⟩ : 0 ≤ f ∧ f < 256 := by
              have := rdBytes H2.out.rd f
              cases L2 with
              | nil => cases hs
              | cons y M => cases hs; exact this (by simp)
            clear t hR hs
            have k8 : W3.cell? ⟨g, 8, none⟩ = some (.bool p.clean) := H3.out.pk.cell 8
            have k10 : W3.cell? ⟨g, 10, none⟩ = some (.bool p.will) := H3.out.pk.cell 10
            have k11 : W3.cell? ⟨g, 11, none⟩ = some (.bool p.huser) := H3.out.pk.cell 11
            have k12 : W3.cell? ⟨g, 12, none⟩ = some (.bool p.hpass) := H3.out.pk.cell 12
            have z8 := H3.out.pk.frozen 8
            have z10 := H3.out.pk.frozen 10
            have z11 := H3.out.pk.frozen 11
            have z12 := H3.out.pk.frozen 12
            obtain ⟨b2, hb2⟩ : ∃ b, Hid (b = flagB f 2) := ⟨_, rfl⟩
            obtain ⟨b4, hb4⟩ : ∃ b, Hid (b = flagB f 4) := ⟨_, rfl⟩
            obtain ⟨b32, hb32⟩ : ∃ b, Hid (b = flagB f 32) := ⟨_, rfl⟩
            obtain ⟨b64, hb64⟩ : ∃ b, Hid (b = flagB f 64) := ⟨_, rfl⟩
            obtain ⟨b128, hb128⟩ : ∃ b, Hid (b = flagB f 128) := ⟨_, rfl⟩
            have e2 : decide (0 < bits .and .i64 f 2) = b2 := hb2.out.symm
            have e4 : decide (0 < bits .and .i64 f 4) = b4 := hb4.out.symm
            have e32 : decide (0 < bits .and .i64 f 32) = b32 := hb32.out.symm
            have e64 : decide (0 < bits .and .i64 f 64) = b64 := hb64.out.symm
            have e128 : decide (0 < bits .and .i64 f 128) = b128 := hb128.out.symm
            obtain ⟨q5v, hq5v⟩ : ∃ x, x = bits .and .i64 (f / 8) 3 := ⟨_, rfl⟩
            have eq5 : bits .and .i64 (f / 8) 3 = q5v := hq5v.symm
            clear hq5v
            obtain ⟨q, hq⟩ : ∃ q, Hid (q = p.flag f) := ⟨_, rfl⟩
            have HS : Hid (RS w ((((W3.setCell ⟨g, 8, none⟩ (.bool b2)).setCell ⟨g, 10, none⟩ (.bool b4)).setCell ⟨g, 12, none⟩ (.bool b64)).setCell ⟨g, 11, none⟩ (.bool b128)) r g B q L3) := by
              rw [hq.out, hb2.out, hb4.out, hb64.out, hb128.out]
              exact (((H3.out.set 8 _ { p with clean := flagB f 2 } rfl).set 10 _ { p with clean := flagB f 2, will := flagB f 4 } rfl).set 12 _ { p with clean := flagB f 2, will := flagB f 4, hpass := flagB f 64 } rfl).set 11 _ (p.flag f) rfl
            rw [← hq.out] at ho
            have hqw : Hid (q.will = b4) := by rw [hq.out, hb4.out]; exact rfl
            have hqu : Hid (q.huser = b128) := by rw [hq.out, hb128.out]; exact rfl
            have hqp : Hid (q.hpass = b64) := by rw [hq.out, hb64.out]; exact rfl
            go_wp2_with (fail)
            generalize hWs : (((W3.setCell ⟨g, 8, none⟩ (.bool b2)).setCell ⟨g, 10, none⟩ (.bool b4)).setCell ⟨g, 12, none⟩ (.bool b64)).setCell ⟨g, 11, none⟩ (.bool b128) = Ws at HS ⊢
            clear hWs k8 k10 k11 k12 z8 z10 z11 z12 e2 e4 e64 e128
            refine (rword_calls Ws r B L3 HS.out.rd).mono ?_
            rintro e W4 ⟨t, (⟨al, L4, hs, rfl, hR⟩ | ⟨hs, rfl⟩)⟩
            · rw [hs] at ho
              have H4 : Hid (RS w W4 r g B q L4) := HS.out.read t hR
              rw [Option.bind_some] at ho
              rw [con4] at ho
              have y9 : W4.cell? ⟨g, 9, none⟩ = some (.int .i64 q.alive) := H4.out.pk.cell 9
              have z9 := H4.out.pk.frozen 9
              have HS4 : Hid (RS w (W4.setCell ⟨g, 9, none⟩ (.int .i64 al)) r g B { q with alive := al } L4) := H4.out.set 9 _ _ rfl
              clear t hR hs
              go_wp2_with (fail)
              generalize hWs4 : W4.setCell ⟨g, 9, none⟩ (.int .i64 al) = Ws4 at HS4 ⊢
              clear hWs4 y9 z9
              refine (rtext_calls Ws4 r B L4 HS4.out.rd).mono ?_
              rintro e W5 ⟨t, (⟨cl, L5, hs, rfl, hR⟩ | ⟨hs, rfl⟩)⟩
              · rw [hs] at ho
                have H5 : Hid (RS w W5 r g B { q with alive := al } L5) := HS4.out.read t hR
                rw [Option.bind_some] at ho
                rw [con5] at ho
                have y7 : W5.cell? ⟨g, 7, none⟩ = some (.string q.client) := H5.out.pk.cell 7
                have z7 := H5.out.pk.frozen 7
                obtain ⟨q5, hq5⟩ : ∃ x : Pkt, Hid (x = { q with alive := al, client := cl }) := ⟨_, rfl⟩
                have HS5 : Hid (RS w (W5.setCell ⟨g, 7, none⟩ (.string cl)) r g B q5 L5) := by rw [hq5.out]; exact H5.out.set 7 _ _ rfl
                have hqw5 : Hid (q5.will = b4) := by rw [hq5.out]; exact hqw.out
                have hqu5 : Hid (q5.huser = b128) := by rw [hq5.out]; exact hqu.out
                have hqp5 : Hid (q5.hpass = b64) := by rw [hq5.out]; exact hqp.out
                have ho5 : Hid (o = if q5.will then con6 { q5 with topic := ⟨#[]⟩, payload := ⟨#[]⟩, qos := bits .and .i64 (f / 8) 3, retain := flagB f 32 } L5 else con8 q5 L5) := by rw [hq5.out]; exact ho.out
                clear t hR hs ho
                rw [eq5, ← hb32.out] at ho5
                have x10 : W5.cell? ⟨g, 10, none⟩ = some (.bool b4) := by rw [← hqw.out]; exact H5.out.pk.cell 10
                have x3 : W5.cell? ⟨g, 3, none⟩ = some (.string q.topic) := H5.out.pk.cell 3
                have x4 : W5.cell? ⟨g, 4, none⟩ = some (.string q.payload) := H5.out.pk.cell 4
                have x5 : W5.cell? ⟨g, 5, none⟩ = some (.int .i64 q.qos) := H5.out.pk.cell 5
                have x6 : W5.cell? ⟨g, 6, none⟩ = some (.bool q.retain) := H5.out.pk.cell 6
                have x11 : W5.cell? ⟨g, 11, none⟩ = some (.bool b128) := by rw [← hqu.out]; exact H5.out.pk.cell 11
                have x12 : W5.cell? ⟨g, 12, none⟩ = some (.bool b64) := by rw [← hqp.out]; exact H5.out.pk.cell 12
                have z3 := H5.out.pk.frozen 3
                have z4 := H5.out.pk.frozen 4
                have z5 := H5.out.pk.frozen 5
                have z6 := H5.out.pk.frozen 6
                have HQU := hqu5
                have HQP := hqp5
                cases b4 with
                | true =>
                  rw [if_pos hqw5.out] at ho5
                  obtain ⟨q6, hq6⟩ : ∃ x : Pkt, Hid (x = { q5 with topic := ⟨#[]⟩, payload := ⟨#[]⟩, qos := q5v, retain := b32 }) := ⟨_, rfl⟩
                  rw [← hq6.out, con6] at ho5
                  have HS6 : Hid (RS w (((((W5.setCell ⟨g, 7, none⟩ (.string cl)).setCell ⟨g, 3, none⟩ (.string ⟨#[]⟩)).setCell ⟨g, 4, none⟩ (.string ⟨#[]⟩)).setCell ⟨g, 5, none⟩ (.int .i64 q5v)).setCell ⟨g, 6, none⟩ (.bool b32)) r g B q6 L5) := by
                    rw [hq6.out]
                    exact (((HS5.out.set 3 _ { q5 with topic := ⟨#[]⟩ } rfl).set 4 _ { q5 with topic := ⟨#[]⟩, payload := ⟨#[]⟩ } rfl).set 5 _ { q5 with topic := ⟨#[]⟩, payload := ⟨#[]⟩, qos := q5v } rfl).set 6 _ _ rfl
                  have hqu6 : Hid (q6.huser = b128) := by rw [hq6.out]; exact hqu5.out
                  have hqp6 : Hid (q6.hpass = b64) := by rw [hq6.out]; exact hqp5.out
                  have ho := ho5
                  clear ho5
                  go_wp2_with (fail)
                  generalize hWs6 : ((((W5.setCell ⟨g, 7, none⟩ (.string cl)).setCell ⟨g, 3, none⟩ (.string ⟨#[]⟩)).setCell ⟨g, 4, none⟩ (.string ⟨#[]⟩)).setCell ⟨g, 5, none⟩ (.int .i64 q5v)).setCell ⟨g, 6, none⟩ (.bool b32) = Ws6 at HS6 ⊢
                  clear hWs6 HS5 y7 z7 x10 x3 x4 x5 x6 x11 x12 z3 z4 z5 z6
                  refine (rtext_calls Ws6 r B L5 HS6.out.rd).mono ?_
                  rintro e W6 ⟨t, (⟨tp, L6, hs, rfl, hR⟩ | ⟨hs, rfl⟩)⟩
                  · rw [hs] at ho
                    have H6 : Hid (RS w W6 r g B q6 L6) := HS6.out.read t hR
                    rw [Option.bind_some] at ho
                    rw [con7] at ho
                    have t3 : W6.cell? ⟨g, 3, none⟩ = some (.string q6.topic) := H6.out.pk.cell 3
                    have s3 := H6.out.pk.frozen 3
                    have HS7 : Hid (RS w (W6.setCell ⟨g, 3, none⟩ (.string tp)) r g B { q6 with topic := tp } L6) := H6.out.set 3 _ _ rfl
                    clear t hR hs
                    go_wp2_with (fail)
                    generalize hWs7 : W6.setCell ⟨g, 3, none⟩ (.string tp) = Ws7 at HS7 ⊢
                    clear hWs7 t3 s3
                    refine (rtext_calls Ws7 r B L6 HS7.out.rd).mono ?_
                    rintro e W7 ⟨t, (⟨py, L7, hs, rfl, hR⟩ | ⟨hs, rfl⟩)⟩
                    · rw [hs] at ho
                      have H7 : Hid (RS w W7 r g B { q6 with topic := tp } L7) := HS7.out.read t hR
                      rw [Option.bind_some] at ho
                      have t4 : W7.cell? ⟨g, 4, none⟩ = some (.string q6.payload) := H7.out.pk.cell 4
                      have s4 := H7.out.pk.frozen 4
                      obtain ⟨q8, hq8⟩ : ∃ x : Pkt, Hid (x = { q6 with topic := tp, payload := py }) := ⟨_, rfl⟩
                      have HS8 : Hid (RS w (W7.setCell ⟨g, 4, none⟩ (.string py)) r g B q8 L7) := by rw [hq8.out]; exact H7.out.set 4 _ _ rfl
                      have HQU : Hid (q8.huser = b128) := by rw [hq8.out]; exact hqu6.out
                      have HQP : Hid (q8.hpass = b64) := by rw [hq8.out]; exact hqp6.out
                      have ho8 : Hid (o = con8 q8 L7) := by rw [hq8.out]; exact ho.out
                      have ho := ho8
                      clear t hR hs ho8
                      rw [con8] at ho
                      cases b128 with
                      | true =>
                        rw [if_pos HQU.out] at ho
                        have u11 : (W7.setCell ⟨g, 4, none⟩ (.string py)).cell? ⟨g, 11, none⟩ = some (.bool true) := by rw [← HQU.out]; exact HS8.out.pk.cell 11
                        go_wp2_with (fail)
                        refine (rtext_calls (W7.setCell ⟨g, 4, none⟩ (.string py)) r B L7 HS8.out.rd).mono ?_
                        rintro e W8 ⟨t, (⟨us8, L8, hs, rfl, hR⟩ | ⟨hs, rfl⟩)⟩
                        · rw [hs] at ho
                          have H8 : Hid (RS w W8 r g B q8 L8) := HS8.out.read t hR
                          rw [Option.bind_some] at ho
                          have v13 : W8.cell? ⟨g, 13, none⟩ = some (.string q8.user) := H8.out.pk.cell 13
                          have z13 := H8.out.pk.frozen 13
                          obtain ⟨qu, hqu⟩ : ∃ x : Pkt, Hid (x = { q8 with user := us8 }) := ⟨_, rfl⟩
                          have HU : Hid (RS w (W8.setCell ⟨g, 13, none⟩ (.string us8)) r g B qu L8) := by rw [hqu.out]; exact H8.out.set 13 _ _ rfl
                          have HQP : Hid (qu.hpass = b64) := by rw [hqu.out]; exact HQP.out
                          have ho1 : Hid (o = con9 qu L8) := by rw [hqu.out]; exact ho.out
                          have ho := ho1
                          clear t hR hs ho1
                          rw [con9] at ho
                          cases b64 with
                          | true =>
                            rw [if_pos HQP.out] at ho
                            have v12 : (W8.setCell ⟨g, 13, none⟩ (.string us8)).cell? ⟨g, 12, none⟩ = some (.bool true) := by rw [← HQP.out]; exact HU.out.pk.cell 12
                            go_wp2_with (fail)
                            refine (rtext_calls (W8.setCell ⟨g, 13, none⟩ (.string us8)) r B L8 HU.out.rd).mono ?_
                            rintro e W9 ⟨t, (⟨pw9, L9, hs, rfl, hR⟩ | ⟨hs, rfl⟩)⟩
                            · rw [hs] at ho
                              have H9 : Hid (RS w W9 r g B qu L9) := HU.out.read t hR
                              rw [Option.bind_some] at ho
                              have v14 : W9.cell? ⟨g, 14, none⟩ = some (.string qu.pass) := H9.out.pk.cell 14
                              have z14 := H9.out.pk.frozen 14
                              have HE : Hid (RS w (W9.setCell ⟨g, 14, none⟩ (.string pw9)) r g B { qu with pass := pw9 } L9) := H9.out.set 14 _ _ rfl
                              clear t hR hs
                              go_wp2_with (fail)
                              go_end0
                              exact ⟨HE.out.turn, .inl ⟨_, _, ho.out, rfl, HE.out.pk, HE.out.rd⟩⟩
                            · rw [hs] at ho
                              rw [Option.bind_none] at ho
                              have HF := Lib.hid (HU.out.fail t)
                              clear t hs
                              go_wp2_with (fail)
                              exact ⟨rfl, HF.out, .inr ⟨ho.out, rfl⟩⟩
                          | false =>
                            rw [if_neg (by rw [HQP.out]; decide)] at ho
                            have v12 : (W8.setCell ⟨g, 13, none⟩ (.string us8)).cell? ⟨g, 12, none⟩ = some (.bool false) := by rw [← HQP.out]; exact HU.out.pk.cell 12
                            go_wp2_with (fail)
                            go_end0
                            exact ⟨HU.out.turn, .inl ⟨_, _, ho.out, rfl, HU.out.pk, HU.out.rd⟩⟩
                        · rw [hs] at ho
                          rw [Option.bind_none] at ho
                          have HF := Lib.hid (HS8.out.fail t)
                          clear t hs
                          go_wp2_with (fail)
                          exact ⟨rfl, HF.out, .inr ⟨ho.out, rfl⟩⟩
                      | false =>
                        rw [if_neg (by rw [HQU.out]; decide)] at ho
                        have u11 : (W7.setCell ⟨g, 4, none⟩ (.string py)).cell? ⟨g, 11, none⟩ = some (.bool false) := by rw [← HQU.out]; exact HS8.out.pk.cell 11
                        rw [con9] at ho
                        cases b64 with
                        | true =>
                          rw [if_pos HQP.out] at ho
                          have v12 : (W7.setCell ⟨g, 4, none⟩ (.string py)).cell? ⟨g, 12, none⟩ = some (.bool true) := by rw [← HQP.out]; exact HS8.out.pk.cell 12
                          go_wp2_with (fail)
                          refine (rtext_calls (W7.setCell ⟨g, 4, none⟩ (.string py)) r B L7 HS8.out.rd).mono ?_
                          rintro e W10 ⟨t, (⟨pw10, L10, hs, rfl, hR⟩ | ⟨hs, rfl⟩)⟩
                          · rw [hs] at ho
                            have H10 : Hid (RS w W10 r g B q8 L10) := HS8.out.read t hR
                            rw [Option.bind_some] at ho
                            have v14 : W10.cell? ⟨g, 14, none⟩ = some (.string q8.pass) := H10.out.pk.cell 14
                            have z14 := H10.out.pk.frozen 14
                            have HE : Hid (RS w (W10.setCell ⟨g, 14, none⟩ (.string pw10)) r g B { q8 with pass := pw10 } L10) := H10.out.set 14 _ _ rfl
                            clear t hR hs
                            go_wp2_with (fail)
                            go_end0
                            exact ⟨HE.out.turn, .inl ⟨_, _, ho.out, rfl, HE.out.pk, HE.out.rd⟩⟩
                          · rw [hs] at ho
                            rw [Option.bind_none] at ho
                            have HF := Lib.hid (HS8.out.fail t)
                            clear t hs
                            go_wp2_with (fail)
                            exact ⟨rfl, HF.out, .inr ⟨ho.out, rfl⟩⟩
                        | false =>
                          rw [if_neg (by rw [HQP.out]; decide)] at ho
                          have v12 : (W7.setCell ⟨g, 4, none⟩ (.string py)).cell? ⟨g, 12, none⟩ = some (.bool false) := by rw [← HQP.out]; exact HS8.out.pk.cell 12
                          go_wp2_with (fail)
                          go_end0
                          exact ⟨HS8.out.turn, .inl ⟨_, _, ho.out, rfl, HS8.out.pk, HS8.out.rd⟩⟩
                    · rw [hs] at ho
                      rw [Option.bind_none] at ho
                      have HF := Lib.hid (HS7.out.fail t)
                      clear t hs
                      go_wp2_with (fail)
                      exact ⟨rfl, HF.out, .inr ⟨ho.out, rfl⟩⟩
                  · rw [hs] at ho
                    rw [Option.bind_none] at ho
                    have HF := Lib.hid (HS6.out.fail t)
                    clear t hs
                    go_wp2_with (fail)
                    exact ⟨rfl, HF.out, .inr ⟨ho.out, rfl⟩⟩
                | false =>
                  rw [if_neg (by rw [hqw5.out]; decide)] at ho5
                  have ho := ho5
                  clear ho5 x3 x4 x5 x6 z3 z4 z5 z6
                  rw [con8] at ho
                  cases b128 with
                  | true =>
                    rw [if_pos HQU.out] at ho
                    have u11 : (W5.setCell ⟨g, 7, none⟩ (.string cl)).cell? ⟨g, 11, none⟩ = some (.bool true) := by rw [← HQU.out]; exact HS5.out.pk.cell 11
                    go_wp2_with (fail)
                    refine (rtext_calls (W5.setCell ⟨g, 7, none⟩ (.string cl)) r B L5 HS5.out.rd).mono ?_
                    rintro e W11 ⟨t, (⟨us11, L11, hs, rfl, hR⟩ | ⟨hs, rfl⟩)⟩
                    · rw [hs] at ho
                      have H11 : Hid (RS w W11 r g B q5 L11) := HS5.out.read t hR
                      rw [Option.bind_some] at ho
                      have v13 : W11.cell? ⟨g, 13, none⟩ = some (.string q5.user) := H11.out.pk.cell 13
                      have z13 := H11.out.pk.frozen 13
                      obtain ⟨qu, hqu⟩ : ∃ x : Pkt, Hid (x = { q5 with user := us11 }) := ⟨_, rfl⟩
                      have HU : Hid (RS w (W11.setCell ⟨g, 13, none⟩ (.string us11)) r g B qu L11) := by rw [hqu.out]; exact H11.out.set 13 _ _ rfl
                      have HQP : Hid (qu.hpass = b64) := by rw [hqu.out]; exact HQP.out
                      have ho1 : Hid (o = con9 qu L11) := by rw [hqu.out]; exact ho.out
                      have ho := ho1
                      clear t hR hs ho1
                      rw [con9] at ho
                      cases b64 with
                      | true =>
                        rw [if_pos HQP.out] at ho
                        have v12 : (W11.setCell ⟨g, 13, none⟩ (.string us11)).cell? ⟨g, 12, none⟩ = some (.bool true) := by rw [← HQP.out]; exact HU.out.pk.cell 12
                        go_wp2_with (fail)
                        refine (rtext_calls (W11.setCell ⟨g, 13, none⟩ (.string us11)) r B L11 HU.out.rd).mono ?_
                        rintro e W12 ⟨t, (⟨pw12, L12, hs, rfl, hR⟩ | ⟨hs, rfl⟩)⟩
                        · rw [hs] at ho
                          have H12 : Hid (RS w W12 r g B qu L12) := HU.out.read t hR
                          rw [Option.bind_some] at ho
                          have v14 : W12.cell? ⟨g, 14, none⟩ = some (.string qu.pass) := H12.out.pk.cell 14
                          have z14 := H12.out.pk.frozen 14
                          have HE : Hid (RS w (W12.setCell ⟨g, 14, none⟩ (.string pw12)) r g B { qu with pass := pw12 } L12) := H12.out.set 14 _ _ rfl
                          clear t hR hs
                          go_wp2_with (fail)
                          go_end0
                          exact ⟨HE.out.turn, .inl ⟨_, _, ho.out, rfl, HE.out.pk, HE.out.rd⟩⟩
                        · rw [hs] at ho
                          rw [Option.bind_none] at ho
                          have HF := Lib.hid (HU.out.fail t)
                          clear t hs
                          go_wp2_with (fail)
                          exact ⟨rfl, HF.out, .inr ⟨ho.out, rfl⟩⟩
                      | false =>
                        rw [if_neg (by rw [HQP.out]; decide)] at ho
                        have v12 : (W11.setCell ⟨g, 13, none⟩ (.string us11)).cell? ⟨g, 12, none⟩ = some (.bool false) := by rw [← HQP.out]; exact HU.out.pk.cell 12
                        go_wp2_with (fail)
                        go_end0
                        exact ⟨HU.out.turn, .inl ⟨_, _, ho.out, rfl, HU.out.pk, HU.out.rd⟩⟩
                    · rw [hs] at ho
                      rw [Option.bind_none] at ho
                      have HF := Lib.hid (HS5.out.fail t)
                      clear t hs
                      go_wp2_with (fail)
                      exact ⟨rfl, HF.out, .inr ⟨ho.out, rfl⟩⟩
                  | false =>
                    rw [if_neg (by rw [HQU.out]; decide)] at ho
                    have u11 : (W5.setCell ⟨g, 7, none⟩ (.string cl)).cell? ⟨g, 11, none⟩ = some (.bool false) := by rw [← HQU.out]; exact HS5.out.pk.cell 11
                    rw [con9] at ho
                    cases b64 with
                    | true =>
                      rw [if_pos HQP.out] at ho
                      have v12 : (W5.setCell ⟨g, 7, none⟩ (.string cl)).cell? ⟨g, 12, none⟩ = some (.bool true) := by rw [← HQP.out]; exact HS5.out.pk.cell 12
                      go_wp2_with (fail)
                      refine (rtext_calls (W5.setCell ⟨g, 7, none⟩ (.string cl)) r B L5 HS5.out.rd).mono ?_
                      rintro e W13 ⟨t, (⟨pw13, L13, hs, rfl, hR⟩ | ⟨hs, rfl⟩)⟩
                      · rw [hs] at ho
                        have H13 : Hid (RS w W13 r g B q5 L13) := HS5.out.read t hR
                        rw [Option.bind_some] at ho
                        have v14 : W13.cell? ⟨g, 14, none⟩ = some (.string q5.pass) := H13.out.pk.cell 14
                        have z14 := H13.out.pk.frozen 14
                        have HE : Hid (RS w (W13.setCell ⟨g, 14, none⟩ (.string pw13)) r g B { q5 with pass := pw13 } L13) := H13.out.set 14 _ _ rfl
                        clear t hR hs
                        go_wp2_with (fail)
                        go_end0
                        exact ⟨HE.out.turn, .inl ⟨_, _, ho.out, rfl, HE.out.pk, HE.out.rd⟩⟩
                      · rw [hs] at ho
                        rw [Option.bind_none] at ho
                        have HF := Lib.hid (HS5.out.fail t)
                        clear t hs
                        go_wp2_with (fail)
                        exact ⟨rfl, HF.out, .inr ⟨ho.out, rfl⟩⟩
                    | false =>
                      rw [if_neg (by rw [HQP.out]; decide)] at ho
                      have v12 : (W5.setCell ⟨g, 7, none⟩ (.string cl)).cell? ⟨g, 12, none⟩ = some (.bool false) := by rw [← HQP.out]; exact HS5.out.pk.cell 12
                      go_wp2_with (fail)
                      go_end0
                      exact ⟨HS5.out.turn, .inl ⟨_, _, ho.out, rfl, HS5.out.pk, HS5.out.rd⟩⟩
              · rw [hs] at ho
                rw [Option.bind_none] at ho
                have HF := Lib.hid (HS4.out.fail t)
                clear t hs
                go_wp2_with (fail)
                exact ⟨rfl, HF.out, .inr ⟨ho.out, rfl⟩⟩
            · rw [hs] at ho
              rw [Option.bind_none] at ho
              have HF := Lib.hid (HS.out.fail t)
              clear t hs
              go_wp2_with (fail)
              exact ⟨rfl, HF.out, .inr ⟨ho.out, rfl⟩⟩
          · rw [hs] at ho
            rw [Option.bind_none] at ho
            have HF := Lib.hid (H2.out.fail t)
            clear t hs
            go_wp2_with (fail)
            exact ⟨rfl, HF.out, .inr ⟨ho.out, rfl⟩⟩
        · have hv1 : (v == 4) = false := by simpa using hv
          rw [if_neg hv] at ho
          clear hv t hR hs
          go_wp2_with (fail)
          refine (need_no _).mono ?_
          rintro e w' ⟨rfl, rfl⟩
          go_wp2_with (fail)
          exact ⟨rfl, H2.out.turn, .inr ⟨ho.out, rfl⟩⟩
      · rw [hs] at ho
        rw [Option.bind_none] at ho
        have HF := Lib.hid (H1.out.fail t)
        clear t hs
        go_wp2_with (fail)
        exact ⟨rfl, HF.out, .inr ⟨ho.out, rfl⟩⟩
    · have hm1 : (s.toList == [77, 81, 84, 84]) = false := by simpa using hm
      rw [if_neg hm] at ho
      clear hm t hR hs
      go_wp2_with (fail)
      refine (need_no _).mono ?_
      rintro e w' ⟨rfl, rfl⟩
      go_wp2_with (fail)
      exact ⟨rfl, H1.out.turn, .inr ⟨ho.out, rfl⟩⟩
  · rw [hs] at ho
    rw [Option.bind_none] at ho
    have HF := Lib.hid (H0.out.fail t)
    clear t hs
    go_wp2_with (fail)
    exact ⟨rfl, HF.out, .inr ⟨ho.out, rfl⟩⟩
end Pk
end Go.Proofs.YteigakkghkjakaaDoor

namespace Go.Proofs.YteigakkghkjakaaDoor
open Go.RowKit
set_option linter.unusedVariables false
set_option linter.unusedSimpArgs false
namespace Pk
open Utf (nums nums_length nums_bytes IsStr)
open Var (BT)

def zeroP : Pkt := ⟨0, false, 0, ⟨#[]⟩, ⟨#[]⟩, 0, false, ⟨#[]⟩, false, 0, false, false, false, ⟨#[]⟩, ⟨#[]⟩, false, nilV, nilV⟩
def typeP (t : Int) : Pkt := { zeroP with ty := t }

theorem cells_one (p : Pkt) (hc : p.codes.oneCell' = true) (hs : p.subs.oneCell' = true) : ∀ v ∈ p.cells.toList, v.oneCell' = true := by
  intro v hv
  simp [Pkt.cells] at hv
  rcases hv with h | h | h | h | h | h | h | h | h | h | h | h | h | h | h | h | h | h <;> subst h <;> first | rfl | assumption
theorem store_pkt (W : World) (g : Nat) (p q : Pkt) (h : PkAt W g q) (hc : p.codes.oneCell' = true) (hs : p.subs.oneCell' = true) : ∃ W', (Instr.storeAt PT (.pointer (some ⟨g, 0, none⟩)) (.agg p.cells)).run Tryd.prog W = .ok () W' ∧ PkAt W' g p ∧ Turn (fun k => k = g) W W' := by
  have hl := run_storeCells_from (P := Tryd.prog) g PT p.cells.toList 0 q.cells W h (by simp [Pkt.cells]) (cells_one p hc hs)
  have h2 : (sizeOf PT).run Tryd.prog W = .ok 18 W := by kernel_rfl
  have hsz : (Value.agg p.cells).cells.size = 18 := rfl
  rw [List.take_zero, List.nil_append, Array.toArray_toList] at hl
  refine ⟨W.setRow g p.cells, ?_, ?_, ?_⟩
  · unfold Instr.storeAt storeVar
    simp only [Instr.sureAddr, Sem.run_bind, Sem.run_pure, Result.andThen_ok, h2, hsz]
    exact hl
  · exact setRow_heap W g q.cells p.cells PT (0, 0) h
  · exact ⟨rfl, rfl, rfl, by simp [World.setRow], fun k hk hn => setRow_other W g k _ hn⟩
/-- The whole packet stored, as an operation. -/
theorem wp_store_pkt {ops : Array Oper} {rest : List Oper} {o : Oper} {a : Act} {W : World} {Q : Exit → Act → World → Prop} {x y : Operand} {g : Nat} (p q : Pkt) (hgd : o.guard = none) (ho : o.op = .store PT x y) (hx : a.eval x = .pointer (some ⟨g, 0, none⟩)) (hy : a.eval y = .agg p.cells) (h : PkAt W g q) (hc : p.codes.oneCell' = true) (hs : p.subs.oneCell' = true)
    (hK : ∀ W', Hid (PkAt W' g p) → Turn (fun k => k = g) W W' → wpList Tryd.prog ops Q rest (a.put o.dst undef) W') : wpList Tryd.prog ops Q (o :: rest) a W := by
  refine BigFrame.wpList_want (wanted_free hgd) (fun K hK' => ?_)
  obtain ⟨W', h1, h2, h3⟩ := store_pkt W g p q h hc hs
  unfold Oper.wp
  have he : (execOp a.eval o).run Tryd.prog W = .ok .skip W' := by
    unfold execOp
    rw [ho]
    show ((Instr.storeAt PT (a.eval x) (a.eval y)) >>= fun _ => pure Next.skip).run Tryd.prog W = _
    rw [Sem.run_bind, hx, hy, h1]; rfl
  rw [he, Oper.upon_skip]
  exact hK' _ _ (hK W' h2 h3)

def subCells (D : List (ByteArray × Int)) : List Value := (D.map fun s => [.string s.1, .int .i64 s.2]).flatten
def rdSubs : Nat → Int → List Int → Option (List (ByteArray × Int))
  | 0, _, L => if L = [] then some [] else none
  | k + 1, ty, L => if L = [] then some [] else (rdText L).bind fun s => if ty = 8 then (rdOct s.2).bind fun q => (rdSubs k ty q.2).map fun D => (s.1, q.1) :: D else (rdSubs k ty s.2).map fun D => (s.1, 0) :: D
def pub3 (f : Int) (t : ByteArray) (L : List Int) : Option (Pkt × List Int × List (ByteArray × Int)) :=
  if 0 < bits .and .i64 (f / 2) 3 then (rdWord L).bind fun x => some ({ typeP 3 with dup := flagB f 8, topic := t, qos := bits .and .i64 (f / 2) 3, retain := flagB f 1, id := x.1, payload := strOfNums x.2 }, [], [])
  else some ({ typeP 3 with dup := flagB f 8, topic := t, qos := bits .and .i64 (f / 2) 3, retain := flagB f 1, payload := strOfNums L }, [], [])
def rdPkt (f : Int) (L : List Int) : Option (Pkt × List Int × List (ByteArray × Int)) :=
  if f / 16 = 1 then (rdCon (typeP 1) L).bind fun x => some (x.1, [], [])
  else if f / 16 = 2 then (rdOct L).bind fun a => (rdOct a.2).bind fun b => some ({ typeP 2 with present := a.1 == 1 }, [b.1], [])
  else if f / 16 = 3 then (rdText L).bind fun t => pub3 f t.1 t.2
  else if f / 16 = 12 ∨ f / 16 = 13 ∨ f / 16 = 14 then some (typeP (f / 16), [], [])
  else (rdWord L).bind fun x => if f / 16 = 9 then some ({ typeP 9 with id := x.1 }, x.2, [])
    else if f / 16 = 8 ∨ f / 16 = 10 then (rdSubs x.2.length (f / 16) x.2).bind fun D => some ({ typeP (f / 16) with id := x.1 }, [], D)
    else some ({ typeP (f / 16) with id := x.1 }, [], [])
def Pkt.rows (p : Pkt) (vc vs : Value) : Pkt := { p with codes := vc, subs := vs }
theorem rows_self (p : Pkt) {vc vs : Value} (h1 : p.codes = vc) (h2 : p.subs = vs) : p.rows vc vs = p := by
  subst h1 h2
  cases p
  rfl
def ReadPost (w : World) (r : Nat) (o : Option (Pkt × List Int × List (ByteArray × Int))) (e : Ending) (w' : World) : Prop :=
  Turn (fun k => k = r) w w' ∧ ((∃ p C D vc vs, o = some (p, C, D) ∧ e = .returned (.agg (p.rows vc vs).cells) ∧ OwnInts w' w.heap.size 3 .i64 vc C ∧ w'.ownsRow w.heap.size 76 2 vs D.length (subCells D)) ∨ (o = none ∧ e = badP))

theorem read_results (W : World) (v : Nat) (p : Pkt) (tmps : Array Value) (hv : tmps.getD 4 undef = .pointer (some ⟨v, 0, none⟩)) (h : PkAt W v p) : (results Tryd.f34 tmps).run Tryd.prog W = .ok (.agg p.cells) W := by
  have hl := load_pkt W v p h
  unfold Instr.loadAt at hl
  simp only [Instr.sureAddr, Sem.run_bind, Sem.run_pure, Result.andThen_ok] at hl
  simp only [results, Tryd.results34]
  have hv' : tmps[4]?.getD undef = .pointer (some ⟨v, 0, none⟩) := by rw [← hv]; simp
  simp [hv', asAddr, hl]

/-- Where read stands: W1 is the world behind its own two packets; v the result's block, g the packet's. -/
structure RQ (w W1 W : World) (r g v B : Nat) (p : Pkt) (L : List Int) : Prop where
  rs : RS W1 W r g B p L
  gw : g = w.heap.size + 1
  vw : v = w.heap.size
  rw_ : r < w.heap.size
  w1 : Below w.heap.size w W1
  res : PkAt W1 v zeroP
theorem RS.old {w W W' : World} {r g B : Nat} {p : Pkt} {L : List Int} (h : RS w W r g B p L) (b : Below W.heap.size W W') : RS w W' r g B p L :=
  ⟨h.turn.trans (Turn.of_below b), h.rd.keep b, h.pk.keep (Turn.of_below (S := fun _ => False) b) (fun h => h), h.ne, h.bg⟩
theorem RQ.big {w W1 W : World} {r g v B : Nat} {p : Pkt} {L : List Int} (h : RQ w W1 W r g v B p L) : w.heap.size + 2 ≤ W.heap.size := by
  have := h.rs.pk.lt; have := h.gw; omega
theorem RQ.resAt {w W1 W : World} {r g v B : Nat} {p : Pkt} {L : List Int} (h : RQ w W1 W r g v B p L) : PkAt W v zeroP :=
  h.res.keep h.rs.turn (fun e => by have := h.gw; have := h.vw; have := h.rw_; omega)
theorem RQ.next {w W1 W W' : World} {r g v B : Nat} {p p' : Pkt} {L L' : List Int} (h : RQ w W1 W r g v B p L) (hs : RS W1 W' r g B p' L') : RQ w W1 W' r g v B p' L' := ⟨hs, h.gw, h.vw, h.rw_, h.w1, h.res⟩
theorem turn_of {w W1 W : World} {r g : Nat} (h1 : Below w.heap.size w W1) (hg : g = w.heap.size + 1) (t : Turn (fun k => k = r ∨ k = g) W1 W) : Turn (fun k => k = r) w W :=
  (Turn.of_below h1).then t (fun i hi hx => by rcases hx with e | e; exact e; omega)
theorem RQ.turn {w W1 W : World} {r g v B : Nat} {p : Pkt} {L : List Int} (h : RQ w W1 W r g v B p L) : Turn (fun k => k = r) w W := turn_of h.w1 h.gw h.rs.turn
theorem own_nilSub (W : World) (base : Nat) : W.ownsRow base 76 2 (.slice none 0 0) 0 (subCells []) := ⟨by simp [subCells], .inl ⟨rfl, rfl⟩⟩
end Pk
end Go.Proofs.YteigakkghkjakaaDoor

namespace Go.Proofs.YteigakkghkjakaaDoor
open Go.RowKit
set_option linter.unusedVariables false
set_option linter.unusedSimpArgs false
namespace Pk
open Utf (nums nums_length nums_bytes IsStr)
open Var (BT)

theorem con9_rows {p q : Pkt} {L M : List Int} (h : con9 p L = some (q, M)) : q.codes = p.codes ∧ q.subs = p.subs ∧ q.ty = p.ty := by
  unfold con9 at h
  split at h
  · cases hr : rdText L with
    | none => rw [hr] at h; cases h
    | some x => rw [hr] at h; cases h; exact ⟨rfl, rfl, rfl⟩
  · cases h; exact ⟨rfl, rfl, rfl⟩
theorem con8_rows {p q : Pkt} {L M : List Int} (h : con8 p L = some (q, M)) : q.codes = p.codes ∧ q.subs = p.subs ∧ q.ty = p.ty := by
  unfold con8 at h
  split at h
  · cases hr : rdText L with
    | none => rw [hr] at h; cases h
    | some x => rw [hr, Option.bind_some] at h; have := con9_rows h; exact this
  · have := con9_rows h; exact this
theorem con6_rows {p q : Pkt} {L M : List Int} (h : con6 p L = some (q, M)) : q.codes = p.codes ∧ q.subs = p.subs ∧ q.ty = p.ty := by
  unfold con6 at h
  cases hr : rdText L with
  | none => rw [hr] at h; cases h
  | some x =>
    rw [hr, Option.bind_some] at h
    unfold con7 at h
    cases hr2 : rdText x.2 with
    | none => rw [hr2] at h; cases h
    | some y => rw [hr2, Option.bind_some] at h; have := con8_rows h; exact this
theorem con5_rows {p q : Pkt} {f : Int} {L M : List Int} (h : con5 p f L = some (q, M)) : q.codes = p.codes ∧ q.subs = p.subs ∧ q.ty = p.ty := by
  unfold con5 at h
  split at h
  · have := con6_rows h; exact this
  · have := con8_rows h; exact this
theorem rdCon_all {p q : Pkt} {L M : List Int} (h : rdCon p L = some (q, M)) : q.codes = p.codes ∧ q.subs = p.subs ∧ q.ty = p.ty := by
  unfold rdCon at h
  cases h1 : rdText L with
  | none => rw [h1] at h; cases h
  | some x =>
    rw [h1, Option.bind_some] at h
    split at h
    · unfold con1 at h
      cases h2 : rdOct x.2 with
      | none => rw [h2] at h; cases h
      | some y =>
        rw [h2, Option.bind_some] at h
        split at h
        · unfold con2 at h
          cases h3 : rdOct y.2 with
          | none => rw [h3] at h; cases h
          | some z =>
            rw [h3, Option.bind_some] at h
            unfold con3 at h
            cases h4 : rdWord z.2 with
            | none => rw [h4] at h; cases h
            | some u =>
              rw [h4, Option.bind_some] at h
              unfold con4 at h
              cases h5 : rdText u.2 with
              | none => rw [h5] at h; cases h
              | some t => rw [h5, Option.bind_some] at h; have := con5_rows h; exact this
        · cases h
    · cases h
theorem rdCon_rows {t : Int} {q : Pkt} {L M : List Int} (h : rdCon (typeP t) L = some (q, M)) : q.codes = nilV ∧ q.subs = nilV := ⟨(rdCon_all h).1, (rdCon_all h).2.1⟩

abbrev zeroC : Array Value := #[.int .i64 0, .bool false, .int .i64 0, .string ⟨#[]⟩, .string ⟨#[]⟩, .int .i64 0, .bool false, .string ⟨#[]⟩, .bool false, .int .i64 0, .bool false, .bool false, .bool false, .string ⟨#[]⟩, .string ⟨#[]⟩, .bool false, .slice none 0 0, .slice none 0 0]
theorem kShr4 {W : World} {x y : Operand} (f : Int) (h0 : 0 ≤ f) (h1 : f ≤ 255) : (do eqGuard .shr 3 x y (.int .i64 f) (.int .u64 4); binOp .shr 3 (.int .i64 f) (.int .u64 4) : Sem Value).run Tryd.prog W = .ok (.int .i64 (f / 16)) W := by
  simp [go_sem, eqGuard]
theorem rBuild1 {P : Program} {ev : Operand → Value} {o : Oper} {W : World} {v : Value} {t : TypeId} {i : Nat} {x : Operand} (ho : o.op = .build t #[(i, x)]) (hk : (Instr.build t #[(i, ev x)]).run P W = .ok v W) : (execOp ev o).run P W = .ok (.value v) W :=
  rBuild ho (by have : (#[(i, x)] : Array (Nat × Operand)).map (fun (i, x) => (i, ev x)) = #[(i, ev x)] := by simp
                rw [this]; exact hk)
theorem kBuildP {W : World} (T : Int) : (Instr.build PT #[(0, .int .i64 T)]).run Tryd.prog W = .ok (.agg (typeP T).cells) W := by kernel_rfl
theorem kAllocP (W : World) : (Instr.alloc PT true (.tuple #[])).run Tryd.prog W = .ok (.pointer (some ⟨W.heap.size, 0, none⟩)) (W.alloc (.cells zeroC PT)) := by kernel_rfl
theorem st_alloc {P : Program} {ops : Array Oper} {Q : Exit → Act → World → Prop} {a : Act} {w w' : World} {rest : List Oper} {o : Oper} {t : TypeId} {v : Value} (hw : Region.wanted o (yielded ops a.tmps) = true) (ho : o.op = .alloc t)
    (hr : (Instr.alloc t true (.tuple #[])).run P w = .ok v w') (h : wpList P ops Q rest (a.put o.dst v) w') : wpList P ops Q (o :: rest) a w := by
  unfold wpList
  rw [if_pos hw]
  left
  unfold Oper.wp
  have he : (execOp a.eval o).run P w = .ok (.value v) w' := by
    unfold execOp
    rw [ho]
    show ((Instr.alloc t true (.tuple #[])) >>= fun v => pure (Next.value v)).run P w = _
    rw [Sem.run_bind, hr]; rfl
  rw [he]
  exact h

set_option maxRecDepth 100000 in
set_option maxHeartbeats 2000000 in
theorem read_none (w : World) (r B : Nat) (f T : Int) (L : List Int) (hf : 0 ≤ f ∧ f ≤ 255) (hTf : T = f / 16) (h : RdAt w r B L) (hLb : L.length ≤ 1000000000000) (hT : T = 12 ∨ T = 13 ∨ T = 14) : Calls Tryd.prog 34 #[.pointer (some ⟨r, 0, none⟩), .int .i64 f] w fun e w' => ReadPost w r (rdPkt f L) e w' := by
  obtain ⟨hf0, hf1⟩ := hf
  obtain ⟨g, hg⟩ : ∃ g, Hid (g = (w.alloc (.cells zeroC PT)).heap.size) := ⟨_, rfl⟩
  obtain ⟨v, hv⟩ : ∃ v, Hid (v = w.heap.size) := ⟨_, rfl⟩
  have hgw : Hid (g = w.heap.size + 1) := by rw [hg.out, Hid]; simp
  obtain ⟨o, ho⟩ : ∃ o, Hid (o = rdPkt f L) := ⟨_, rfl⟩
  rw [← ho.out]
  unfold rdPkt at ho
  rw [← hTf] at ho
  go_enter Tryd.func34, Tryd.ntmps34
  go_upto_region 1 with (fail)
  refine wp_region_lit ?_
  refine st_val (.int .i64 f) (wanted_free rfl) (by exact rMove (x := .tmp 1) rfl) ?_
  refine st_val (.int .i64 T) (wanted_free rfl) (by rw [hTf]; exact rBin (x := .tmp 7) (y := .const (.int .u64 4)) rfl (kShr4 f hf0 hf1)) ?_
  refine st_val (.agg (typeP T).cells) (wanted_free rfl) (by exact rBuild1 (x := .tmp 8) rfl (kBuildP T)) ?_
  refine st_alloc (wanted_free rfl) rfl (by exact kAllocP _) ?_
  refine wp_store_pkt (g := (w.alloc (.cells zeroC PT)).heap.size) (typeP T) zeroP rfl rfl rfl rfl (by exact heap_new _ _) rfl rfl ?_
  intro W1 HP1 t1
  refine wpList_nil ?_
  simp only [Exit.then, Act.put, List.setIfInBounds_toArray, List.set_cons_zero, List.set_cons_succ]
  rw [← hg.out, ← hv.out]
  rw [← hg.out] at t1 HP1
  have hH : Hid (RQ w W1 W1 r g v B (typeP T) L) := by
    have hz : (w.alloc (.cells zeroC PT)).heap.size = w.heap.size + 1 := by simp
    have hb0 : Below w.heap.size w ((w.alloc (.cells zeroC PT)).alloc (.cells zeroP.cells PT)) := Below.alloc (Below.alloc (Below.refl _ _) (Nat.le_refl _) _) (by simp) _
    have hb : Below w.heap.size w W1 := hb0.trans (t1.toBelow (by simp; omega) (fun k hk e => by have := hgw.out; omega))
    have hB := h
    obtain ⟨_, _, _, _, _, _, _, hb6, _⟩ := hB
    have hlt := h.lt
    refine ⟨⟨Turn.refl _ _, h.keep hb, HP1.out, by rw [hgw.out]; omega, by rw [hgw.out]; have := hb6.1; omega⟩, hgw.out, hv.out, hlt, hb, ?_⟩
    have hres : PkAt ((w.alloc (.cells zeroC PT)).alloc (.cells zeroP.cells PT)) v zeroP := by
      unfold PkAt
      rw [hv.out, heap_old _ _ _ (by simp)]
      exact heap_new _ _
    exact hres.keep t1 (fun e => by have := hgw.out; have := hv.out; omega)
  clear t1 HP1 h hTf
  have k0 : W1.cell? ⟨g, 0, none⟩ = some (.int .i64 T) := hH.out.rs.pk.cell 0
  have ho : Hid (o = some (typeP T, [], [])) := by rw [ho.out, if_neg (by omega), if_neg (by omega), if_neg (by omega), if_pos hT]; exact rfl
  rcases hT with e | e | e <;> subst e
  all_goals
    have HOC : Hid (OwnInts W1 (w.heap.size + 2) 3 .i64 nilV []) := OwnInts.nil _ _ _ _
    have HOS : Hid ((W1).ownsRow (w.heap.size + 2) 76 2 nilV ([] : List (ByteArray × Int)).length (subCells [])) := own_nilSub _ _
    have HV := Lib.hid hH.out.resAt
    have HTU := Lib.hid hH.out.turn
    go_upto_region 25 with (fail)
    rename_i hKont
    refine wp_region_lit (wp_load_pkt (p := (typeP _)) rfl rfl (by rfl) hH.out.rs.pk ?_)
    refine wp_store_pkt (typeP _) zeroP rfl rfl (by rfl) (by rfl) HV.out (by rfl) (by rfl) ?_
    intro Wf HPf tf
    refine wpList_nil (hKont _ _ (wp_ret ?_))
    exact ⟨rfl, _, read_results Wf v (typeP _) _ rfl HPf.out, HTU.out.then tf (fun i hi e => by have := hv.out; omega), .inl ⟨typeP _, [], [], _, _, ho.out, rfl, oi_mono (HOC.out.turn tf (fun j hj e => by have := (own_block_ge HOC.out j hj).1; have := hv.out; omega)) (by omega) rfl, own_mono (own_turn HOS.out tf (fun j hj e => by have := (own_block_ge HOS.out j hj).1; have := hv.out; omega)) (by omega)⟩⟩
set_option maxRecDepth 100000 in
set_option maxHeartbeats 2000000 in
theorem read_connect (w : World) (r B : Nat) (f T : Int) (L : List Int) (hf : 0 ≤ f ∧ f ≤ 255) (hTf : T = f / 16) (h : RdAt w r B L) (hLb : L.length ≤ 1000000000000) (hT : T = 1) : Calls Tryd.prog 34 #[.pointer (some ⟨r, 0, none⟩), .int .i64 f] w fun e w' => ReadPost w r (rdPkt f L) e w' := by
  obtain ⟨hf0, hf1⟩ := hf
  obtain ⟨g, hg⟩ : ∃ g, Hid (g = (w.alloc (.cells zeroC PT)).heap.size) := ⟨_, rfl⟩
  obtain ⟨v, hv⟩ : ∃ v, Hid (v = w.heap.size) := ⟨_, rfl⟩
  have hgw : Hid (g = w.heap.size + 1) := by rw [hg.out, Hid]; simp
  obtain ⟨o, ho⟩ : ∃ o, Hid (o = rdPkt f L) := ⟨_, rfl⟩
  rw [← ho.out]
  unfold rdPkt at ho
  rw [← hTf] at ho
  go_enter Tryd.func34, Tryd.ntmps34
  go_upto_region 1 with (fail)
  refine wp_region_lit ?_
  refine st_val (.int .i64 f) (wanted_free rfl) (by exact rMove (x := .tmp 1) rfl) ?_
  refine st_val (.int .i64 T) (wanted_free rfl) (by rw [hTf]; exact rBin (x := .tmp 7) (y := .const (.int .u64 4)) rfl (kShr4 f hf0 hf1)) ?_
  refine st_val (.agg (typeP T).cells) (wanted_free rfl) (by exact rBuild1 (x := .tmp 8) rfl (kBuildP T)) ?_
  refine st_alloc (wanted_free rfl) rfl (by exact kAllocP _) ?_
  refine wp_store_pkt (g := (w.alloc (.cells zeroC PT)).heap.size) (typeP T) zeroP rfl rfl rfl rfl (by exact heap_new _ _) rfl rfl ?_
  intro W1 HP1 t1
  refine wpList_nil ?_
  simp only [Exit.then, Act.put, List.setIfInBounds_toArray, List.set_cons_zero, List.set_cons_succ]
  rw [← hg.out, ← hv.out]
  rw [← hg.out] at t1 HP1
  have hH : Hid (RQ w W1 W1 r g v B (typeP T) L) := by
    have hz : (w.alloc (.cells zeroC PT)).heap.size = w.heap.size + 1 := by simp
    have hb0 : Below w.heap.size w ((w.alloc (.cells zeroC PT)).alloc (.cells zeroP.cells PT)) := Below.alloc (Below.alloc (Below.refl _ _) (Nat.le_refl _) _) (by simp) _
    have hb : Below w.heap.size w W1 := hb0.trans (t1.toBelow (by simp; omega) (fun k hk e => by have := hgw.out; omega))
    have hB := h
    obtain ⟨_, _, _, _, _, _, _, hb6, _⟩ := hB
    have hlt := h.lt
    refine ⟨⟨Turn.refl _ _, h.keep hb, HP1.out, by rw [hgw.out]; omega, by rw [hgw.out]; have := hb6.1; omega⟩, hgw.out, hv.out, hlt, hb, ?_⟩
    have hres : PkAt ((w.alloc (.cells zeroC PT)).alloc (.cells zeroP.cells PT)) v zeroP := by
      unfold PkAt
      rw [hv.out, heap_old _ _ _ (by simp)]
      exact heap_new _ _
    exact hres.keep t1 (fun e => by have := hgw.out; have := hv.out; omega)
  clear t1 HP1 h hTf
  have k0 : W1.cell? ⟨g, 0, none⟩ = some (.int .i64 T) := hH.out.rs.pk.cell 0
  rw [if_pos hT] at ho
  subst hT
  go_wp2_with (fail)
  refine (rcon_calls W1 r g B (typeP 1) L hH.out.rs).mono ?_
  rintro e W2 ⟨t, (⟨p, L2, hs, rfl, hp, hR⟩ | ⟨hs, rfl⟩)⟩
  · rw [hs, Option.bind_some] at ho
    have H2 : Hid (RQ w W1 W2 r g v B p L2) := hH.out.next ⟨t, hR, hp, hH.out.rs.ne, hH.out.rs.bg⟩
    obtain ⟨hpc, hps⟩ := rdCon_rows hs
    clear t hR hp hs
    have HPE : True := trivial
    have HOC : Hid (OwnInts W2 (w.heap.size + 2) 3 .i64 nilV []) := OwnInts.nil _ _ _ _
    have HOS : Hid ((W2).ownsRow (w.heap.size + 2) 76 2 nilV ([] : List (ByteArray × Int)).length (subCells [])) := own_nilSub _ _
    have HV := Lib.hid H2.out.resAt
    have HTU := Lib.hid H2.out.turn
    go_upto_region 25 with (fail)
    rename_i hKont
    refine wp_region_lit (wp_load_pkt (p := p) rfl rfl (by rfl) H2.out.rs.pk ?_)
    refine wp_store_pkt p zeroP rfl rfl (by rfl) (by rfl) HV.out (by rw [hpc]; rfl) (by rw [hps]; rfl) ?_
    intro Wf HPf tf
    refine wpList_nil (hKont _ _ (wp_ret ?_))
    exact ⟨rfl, _, read_results Wf v p _ rfl HPf.out, HTU.out.then tf (fun i hi e => by have := hv.out; omega), .inl ⟨p, [], [], _, _, ho.out, by rw [rows_self p (vc := nilV) (vs := nilV) hpc hps], oi_mono (HOC.out.turn tf (fun j hj e => by have := (own_block_ge HOC.out j hj).1; have := hv.out; omega)) (by omega) rfl, own_mono (own_turn HOS.out tf (fun j hj e => by have := (own_block_ge HOS.out j hj).1; have := hv.out; omega)) (by omega)⟩⟩
  · rw [hs, Option.bind_none] at ho
    have HF : Hid (Turn (fun k => k = r) w W2) := turn_of hH.out.w1 hgw.out t
    clear t hs
    go_wp2_with (fail)
    exact ⟨rfl, HF.out, .inr ⟨ho.out, rfl⟩⟩
set_option maxRecDepth 100000 in
set_option maxHeartbeats 2000000 in
theorem read_connack (w : World) (r B : Nat) (f T : Int) (L : List Int) (hf : 0 ≤ f ∧ f ≤ 255) (hTf : T = f / 16) (h : RdAt w r B L) (hLb : L.length ≤ 1000000000000) (hT : T = 2) : Calls Tryd.prog 34 #[.pointer (some ⟨r, 0, none⟩), .int .i64 f] w fun e w' => ReadPost w r (rdPkt f L) e w' := by
  obtain ⟨hf0, hf1⟩ := hf
  obtain ⟨g, hg⟩ : ∃ g, Hid (g = (w.alloc (.cells zeroC PT)).heap.size) := ⟨_, rfl⟩
  obtain ⟨v, hv⟩ : ∃ v, Hid (v = w.heap.size) := ⟨_, rfl⟩
  have hgw : Hid (g = w.heap.size + 1) := by rw [hg.out, Hid]; simp
  obtain ⟨o, ho⟩ : ∃ o, Hid (o = rdPkt f L) := ⟨_, rfl⟩
  rw [← ho.out]
  unfold rdPkt at ho
  rw [← hTf] at ho
  go_enter Tryd.func34, Tryd.ntmps34
  go_upto_region 1 with (fail)
  refine wp_region_lit ?_
  refine st_val (.int .i64 f) (wanted_free rfl) (by exact rMove (x := .tmp 1) rfl) ?_
  refine st_val (.int .i64 T) (wanted_free rfl) (by rw [hTf]; exact rBin (x := .tmp 7) (y := .const (.int .u64 4)) rfl (kShr4 f hf0 hf1)) ?_
  refine st_val (.agg (typeP T).cells) (wanted_free rfl) (by exact rBuild1 (x := .tmp 8) rfl (kBuildP T)) ?_
  refine st_alloc (wanted_free rfl) rfl (by exact kAllocP _) ?_
  refine wp_store_pkt (g := (w.alloc (.cells zeroC PT)).heap.size) (typeP T) zeroP rfl rfl rfl rfl (by exact heap_new _ _) rfl rfl ?_
  intro W1 HP1 t1
  refine wpList_nil ?_
  simp only [Exit.then, Act.put, List.setIfInBounds_toArray, List.set_cons_zero, List.set_cons_succ]
  rw [← hg.out, ← hv.out]
  rw [← hg.out] at t1 HP1
  have hH : Hid (RQ w W1 W1 r g v B (typeP T) L) := by
    have hz : (w.alloc (.cells zeroC PT)).heap.size = w.heap.size + 1 := by simp
    have hb0 : Below w.heap.size w ((w.alloc (.cells zeroC PT)).alloc (.cells zeroP.cells PT)) := Below.alloc (Below.alloc (Below.refl _ _) (Nat.le_refl _) _) (by simp) _
    have hb : Below w.heap.size w W1 := hb0.trans (t1.toBelow (by simp; omega) (fun k hk e => by have := hgw.out; omega))
    have hB := h
    obtain ⟨_, _, _, _, _, _, _, hb6, _⟩ := hB
    have hlt := h.lt
    refine ⟨⟨Turn.refl _ _, h.keep hb, HP1.out, by rw [hgw.out]; omega, by rw [hgw.out]; have := hb6.1; omega⟩, hgw.out, hv.out, hlt, hb, ?_⟩
    have hres : PkAt ((w.alloc (.cells zeroC PT)).alloc (.cells zeroP.cells PT)) v zeroP := by
      unfold PkAt
      rw [hv.out, heap_old _ _ _ (by simp)]
      exact heap_new _ _
    exact hres.keep t1 (fun e => by have := hgw.out; have := hv.out; omega)
  clear t1 HP1 h hTf
  have k0 : W1.cell? ⟨g, 0, none⟩ = some (.int .i64 T) := hH.out.rs.pk.cell 0
  rw [if_neg (by omega), if_pos hT] at ho
  subst hT
  have k15 : W1.cell? ⟨g, 15, none⟩ = some (.bool false) := hH.out.rs.pk.cell 15
  go_wp2_with (fail)
  refine (octet_calls W1 r B L hH.out.rs.rd).mono ?_
  rintro e W2 ⟨t, (⟨a, L2, hs, rfl, hR⟩ | ⟨hs, rfl⟩)⟩
  · rw [hs, Option.bind_some] at ho
    have H2 : Hid (RQ w W1 W2 r g v B (typeP 2) L2) := hH.out.next (hH.out.rs.read t hR)
    clear t hR hs k15
    have k15 : W2.cell? ⟨g, 15, none⟩ = some (.bool false) := H2.out.rs.pk.cell 15
    have f15 := H2.out.rs.pk.frozen 15
    have H3 : Hid (RQ w W1 (W2.setCell ⟨g, 15, none⟩ (.bool (a == 1))) r g v B { typeP 2 with present := a == 1 } L2) := H2.out.next (H2.out.rs.set 15 _ _ rfl)
    go_wp2_with (fail)
    generalize W2.setCell ⟨g, 15, none⟩ (.bool (a == 1)) = W3 at H3 ⊢
    clear k15 f15
    refine (octet_calls W3 r B L2 H3.out.rs.rd).mono ?_
    rintro e W4 ⟨t, (⟨b, L4, hs, rfl, hR⟩ | ⟨hs, rfl⟩)⟩
    · rw [hs, Option.bind_some] at ho
      have H4 : Hid (RQ w W1 W4 r g v B { typeP 2 with present := a == 1 } L4) := H3.out.next (H3.out.rs.read t hR)
      clear t hR hs
      have k16 : (W4.alloc (.cells #[.int .i64 b] 3)).cell? ⟨g, 16, none⟩ = some nilV := (H4.out.rs.old (Below.alloc (Below.refl _ _) (Nat.le_refl _) _)).pk.cell 16
      have f16 := (H4.out.rs.old (Below.alloc (Below.refl _ _) (Nat.le_refl _) (.cells #[.int .i64 b] 3))).pk.frozen 16
      have k16' : W4.cell? ⟨g, 16, none⟩ = some (.slice none 0 0) := H4.out.rs.pk.cell 16
      have f16' := H4.out.rs.pk.frozen 16
      have HBIG := Lib.hid H4.out.big
      have H5 : Hid (RQ w W1 ((W4.alloc (.cells #[.int .i64 b] 3)).setCell ⟨g, 16, none⟩ (.slice (some ⟨W4.heap.size, 0, none⟩) 1 1)) r g v B { typeP 2 with present := a == 1, codes := .slice (some ⟨W4.heap.size, 0, none⟩) 1 1 } L4) :=
        H4.out.next ((H4.out.rs.old (Below.alloc (Below.refl _ _) (Nat.le_refl _) _)).set 16 _ _ rfl)
      have HOC : Hid (OwnInts ((W4.alloc (.cells #[.int .i64 b] 3)).setCell ⟨g, 16, none⟩ (.slice (some ⟨W4.heap.size, 0, none⟩) 1 1)) (w.heap.size + 2) 3 .i64 (.slice (some ⟨W4.heap.size, 0, none⟩) 1 1) [b]) :=
        OwnInts.turn (own_of_heap (cur := #[.int .i64 b]) (heap_new W4 _) HBIG.out rfl (Nat.le_refl _) (by decide) rfl rfl) (Turn.setCell (S := fun k => k = g) _ _ rfl) (fun j hj e => by injection hj with hj; have h1 := HBIG.out; have h2 := hgw.out; simp at hj; omega)
      have HOS : Hid (((W4.alloc (.cells #[.int .i64 b] 3)).setCell ⟨g, 16, none⟩ (.slice (some ⟨W4.heap.size, 0, none⟩) 1 1)).ownsRow (w.heap.size + 2) 76 2 nilV ([] : List (ByteArray × Int)).length (subCells [])) := own_nilSub _ _
      have HV := Lib.hid H5.out.resAt
      have HTU := Lib.hid H5.out.turn
      go_upto_region 25 with (fail)
      rename_i hKont
      refine wp_region_lit (wp_load_pkt (p := { typeP 2 with present := a == 1, codes := .slice (some ⟨W4.heap.size, 0, none⟩) 1 1 }) rfl rfl (by rfl) H5.out.rs.pk ?_)
      refine wp_store_pkt { typeP 2 with present := a == 1, codes := .slice (some ⟨W4.heap.size, 0, none⟩) 1 1 } zeroP rfl rfl (by rfl) (by rfl) HV.out (by rfl) (by rfl) ?_
      intro Wf HPf tf
      refine wpList_nil (hKont _ _ (wp_ret ?_))
      exact ⟨rfl, _, read_results Wf v { typeP 2 with present := a == 1, codes := .slice (some ⟨W4.heap.size, 0, none⟩) 1 1 } _ rfl HPf.out, HTU.out.then tf (fun i hi e => by have := hv.out; omega), .inl ⟨{ typeP 2 with present := a == 1 }, [b], [], _, _, ho.out, rfl, oi_mono (HOC.out.turn tf (fun j hj e => by have := (own_block_ge HOC.out j hj).1; have := hv.out; omega)) (by omega) rfl, own_mono (own_turn HOS.out tf (fun j hj e => by have := (own_block_ge HOS.out j hj).1; have := hv.out; omega)) (by omega)⟩⟩
    · rw [hs, Option.bind_none] at ho
      have HF : Hid (Turn (fun k => k = r) w _) := turn_of H3.out.w1 hgw.out (H3.out.rs.fail t)
      clear t hs
      go_wp2_with (fail)
      exact ⟨rfl, HF.out, .inr ⟨ho.out, rfl⟩⟩
  · rw [hs, Option.bind_none] at ho
    have HF : Hid (Turn (fun k => k = r) w _) := turn_of hH.out.w1 hgw.out (hH.out.rs.fail t)
    clear t hs
    go_wp2_with (fail)
    exact ⟨rfl, HF.out, .inr ⟨ho.out, rfl⟩⟩
set_option maxRecDepth 100000 in
set_option maxHeartbeats 2000000 in
theorem read_publish (w : World) (r B : Nat) (f T : Int) (L : List Int) (hf : 0 ≤ f ∧ f ≤ 255) (hTf : T = f / 16) (h : RdAt w r B L) (hLb : L.length ≤ 1000000000000) (hT : T = 3) : Calls Tryd.prog 34 #[.pointer (some ⟨r, 0, none⟩), .int .i64 f] w fun e w' => ReadPost w r (rdPkt f L) e w' := by
  obtain ⟨hf0, hf1⟩ := hf
  obtain ⟨g, hg⟩ : ∃ g, Hid (g = (w.alloc (.cells zeroC PT)).heap.size) := ⟨_, rfl⟩
  obtain ⟨v, hv⟩ : ∃ v, Hid (v = w.heap.size) := ⟨_, rfl⟩
  have hgw : Hid (g = w.heap.size + 1) := by rw [hg.out, Hid]; simp
  obtain ⟨o, ho⟩ : ∃ o, Hid (o = rdPkt f L) := ⟨_, rfl⟩
  rw [← ho.out]
  unfold rdPkt at ho
  rw [← hTf] at ho
  go_enter Tryd.func34, Tryd.ntmps34
  go_upto_region 1 with (fail)
  refine wp_region_lit ?_
  refine st_val (.int .i64 f) (wanted_free rfl) (by exact rMove (x := .tmp 1) rfl) ?_
  refine st_val (.int .i64 T) (wanted_free rfl) (by rw [hTf]; exact rBin (x := .tmp 7) (y := .const (.int .u64 4)) rfl (kShr4 f hf0 hf1)) ?_
  refine st_val (.agg (typeP T).cells) (wanted_free rfl) (by exact rBuild1 (x := .tmp 8) rfl (kBuildP T)) ?_
  refine st_alloc (wanted_free rfl) rfl (by exact kAllocP _) ?_
  refine wp_store_pkt (g := (w.alloc (.cells zeroC PT)).heap.size) (typeP T) zeroP rfl rfl rfl rfl (by exact heap_new _ _) rfl rfl ?_
  intro W1 HP1 t1
  refine wpList_nil ?_
  simp only [Exit.then, Act.put, List.setIfInBounds_toArray, List.set_cons_zero, List.set_cons_succ]
  rw [← hg.out, ← hv.out]
  rw [← hg.out] at t1 HP1
  have hH : Hid (RQ w W1 W1 r g v B (typeP T) L) := by
    have hz : (w.alloc (.cells zeroC PT)).heap.size = w.heap.size + 1 := by simp
    have hb0 : Below w.heap.size w ((w.alloc (.cells zeroC PT)).alloc (.cells zeroP.cells PT)) := Below.alloc (Below.alloc (Below.refl _ _) (Nat.le_refl _) _) (by simp) _
    have hb : Below w.heap.size w W1 := hb0.trans (t1.toBelow (by simp; omega) (fun k hk e => by have := hgw.out; omega))
    have hB := h
    obtain ⟨_, _, _, _, _, _, _, hb6, _⟩ := hB
    have hlt := h.lt
    refine ⟨⟨Turn.refl _ _, h.keep hb, HP1.out, by rw [hgw.out]; omega, by rw [hgw.out]; have := hb6.1; omega⟩, hgw.out, hv.out, hlt, hb, ?_⟩
    have hres : PkAt ((w.alloc (.cells zeroC PT)).alloc (.cells zeroP.cells PT)) v zeroP := by
      unfold PkAt
      rw [hv.out, heap_old _ _ _ (by simp)]
      exact heap_new _ _
    exact hres.keep t1 (fun e => by have := hgw.out; have := hv.out; omega)
  clear t1 HP1 h hTf
  have k0 : W1.cell? ⟨g, 0, none⟩ = some (.int .i64 T) := hH.out.rs.pk.cell 0
  rw [if_neg (by omega), if_neg (by omega), if_pos hT] at ho
  subst hT
  obtain ⟨d8, hd8⟩ : ∃ b, Hid (b = flagB f 8) := ⟨_, rfl⟩
  obtain ⟨d1, hd1⟩ : ∃ b, Hid (b = flagB f 1) := ⟨_, rfl⟩
  obtain ⟨q3, hq3⟩ : ∃ x, x = bits .and .i64 (f / 2) 3 := ⟨_, rfl⟩
  have e8 : decide (0 < bits .and .i64 f 8) = d8 := hd8.out.symm
  have e1 : decide (0 < bits .and .i64 f 1) = d1 := hd1.out.symm
  have eq3 : bits .and .i64 (f / 2) 3 = q3 := hq3.symm
  clear hq3
  have k1 : W1.cell? ⟨g, 1, none⟩ = some (.bool false) := hH.out.rs.pk.cell 1
  have f1 := hH.out.rs.pk.frozen 1
  have HS : Hid (RQ w W1 (W1.setCell ⟨g, 1, none⟩ (.bool d8)) r g v B { typeP 3 with dup := d8 } L) := hH.out.next (hH.out.rs.set 1 _ _ rfl)
  go_wp2_with (fail)
  generalize hWs : W1.setCell ⟨g, 1, none⟩ (.bool d8) = Ws at HS ⊢
  clear k1 f1 k0 hWs
  refine (rtext_calls Ws r B L HS.out.rs.rd).mono ?_
  rintro e W2 ⟨t, (⟨tp, L2, hs, rfl, hR⟩ | ⟨hs, rfl⟩)⟩
  · rw [hs, Option.bind_some] at ho
    unfold pub3 at ho
    rw [eq3, ← hd8.out, ← hd1.out] at ho
    have H2 : Hid (RQ w W1 W2 r g v B { typeP 3 with dup := d8 } L2) := HS.out.next (HS.out.rs.read t hR)
    clear t hR hs
    have x3 : W2.cell? ⟨g, 3, none⟩ = some (.string ⟨#[]⟩) := H2.out.rs.pk.cell 3
    have x4 : W2.cell? ⟨g, 4, none⟩ = some (.string ⟨#[]⟩) := H2.out.rs.pk.cell 4
    have x5 : W2.cell? ⟨g, 5, none⟩ = some (.int .i64 0) := H2.out.rs.pk.cell 5
    have x6 : W2.cell? ⟨g, 6, none⟩ = some (.bool false) := H2.out.rs.pk.cell 6
    have z3 := H2.out.rs.pk.frozen 3
    have z4 := H2.out.rs.pk.frozen 4
    have z5 := H2.out.rs.pk.frozen 5
    have z6 := H2.out.rs.pk.frozen 6
    obtain ⟨q, hqe⟩ : ∃ x : Pkt, Hid (x = { typeP 3 with dup := d8, topic := tp, qos := q3, retain := d1 }) := ⟨_, rfl⟩
    have H3 : Hid (RQ w W1 ((((W2.setCell ⟨g, 3, none⟩ (.string tp)).setCell ⟨g, 4, none⟩ (.string ⟨#[]⟩)).setCell ⟨g, 5, none⟩ (.int .i64 q3)).setCell ⟨g, 6, none⟩ (.bool d1)) r g v B q L2) := by
      rw [hqe.out]
      exact H2.out.next ((((H2.out.rs.set 3 (.string tp) { typeP 3 with dup := d8, topic := tp } rfl).set 4 (.string ⟨#[]⟩) { typeP 3 with dup := d8, topic := tp } rfl).set 5 (.int .i64 q3) { typeP 3 with dup := d8, topic := tp, qos := q3 } rfl).set 6 _ _ rfl)
    have hcod : Hid (q.codes = nilV ∧ q.subs = nilV) := by rw [hqe.out]; exact ⟨rfl, rfl⟩
    go_upto_region 19 with (fail)
    generalize hW3 : (((W2.setCell ⟨g, 3, none⟩ (.string tp)).setCell ⟨g, 4, none⟩ (.string ⟨#[]⟩)).setCell ⟨g, 5, none⟩ (.int .i64 q3)).setCell ⟨g, 6, none⟩ (.bool d1) = W3 at H3 ⊢
    clear hW3 x3 x4 x5 x6 z3 z4 z5 z6
    have hq5 : Hid (q.qos = q3) := by rw [hqe.out]; exact rfl
    have y5 : W3.cell? ⟨g, 5, none⟩ = some (.int .i64 q3) := by rw [← hq5.out]; exact H3.out.rs.pk.cell 5
    by_cases hz : 0 < q3
    · have hdz : decide (0 < q3) = true := decide_eq_true hz
      rw [if_pos hz] at ho
      clear hz
      go_wp2_with (fail)
      refine (rword_calls W3 r B L2 H3.out.rs.rd).mono ?_
      rintro e W4 ⟨t, (⟨id, L4, hs, rfl, hR⟩ | ⟨hs, rfl⟩)⟩
      · rw [hs, Option.bind_some] at ho
        have H4 : Hid (RQ w W1 W4 r g v B q L4) := H3.out.next (H3.out.rs.read t hR)
        clear t hR hs
        have y2 : W4.cell? ⟨g, 2, none⟩ = some (.int .i64 q.id) := H4.out.rs.pk.cell 2
        have s2 := H4.out.rs.pk.frozen 2
        obtain ⟨q4, hq4⟩ : ∃ x : Pkt, Hid (x = { q with id := id }) := ⟨_, rfl⟩
        have H5 : Hid (RQ w W1 (W4.setCell ⟨g, 2, none⟩ (.int .i64 id)) r g v B q4 L4) := by rw [hq4.out]; exact H4.out.next (H4.out.rs.set 2 _ _ rfl)
        have hcod2 : Hid (q4.codes = nilV ∧ q4.subs = nilV) := by rw [hq4.out]; exact hcod.out
        have hoo : Hid (o = some ({ q4 with payload := strOfNums L4 }, [], [])) := by rw [ho.out, hq4.out, hqe.out]; exact rfl
        go_upto_region 21 with (fail)
        generalize hW5 : W4.setCell ⟨g, 2, none⟩ (.int .i64 id) = W5 at H5 ⊢
        clear hW5 y2 s2 y5
        obtain ⟨Ar, cr, hr0, hrc, hrb, _, _, _, _⟩ := H5.out.rs.rd
        have kr : W5.cell? ⟨r, 0, none⟩ = some (.slice Ar L4.length cr) := by rw [cell_heap hr0]; exact rfl
        have hrl : (L4.length : Int) ≤ 140737488355328 := by omega
        have HTK := Lib.hid (take_calls W5 r B L4 L4.length hrl H5.out.rs.rd)
        clear hr0 hrc hrb
        go_wp2_with (fail)
        refine HTK.out.mono ?_
        rintro e W9 ⟨t9, (⟨_, ⟨A9, c9, rfl, hr9, _⟩, hR9⟩ | ⟨hn9, _⟩)⟩
        · rw [List.take_length] at hr9
          have hcv := conv_reads (P := Tryd.prog) (W := W9) (src := 22) (dst := 9) (e := 5) (A := A9) (n := L4.length) (c := c9) (L := L4) Tryd.underlying22 Tryd.underlying5 Tryd.underlying9 rfl hr9
          have H9 : Hid (RQ w W1 W9 r g v B q4 (L4.drop L4.length)) := H5.out.next (H5.out.rs.read t9 hR9)
          have u4 : W9.cell? ⟨g, 4, none⟩ = some (.string q4.payload) := H9.out.rs.pk.cell 4
          have g4 := H9.out.rs.pk.frozen 4
          obtain ⟨pl, hpl⟩ : ∃ x, Hid (x = strOfNums L4) := ⟨_, rfl⟩
          rw [← hpl.out] at hcv
          have HE : Hid (RQ w W1 (W9.setCell ⟨g, 4, none⟩ (.string pl)) r g v B { q4 with payload := pl } (L4.drop L4.length)) := H9.out.next (H9.out.rs.set 4 _ _ rfl)
          clear t9 hr9 hR9 HTK kr
          have HOC : Hid (OwnInts (W9.setCell ⟨g, 4, none⟩ (.string pl)) (w.heap.size + 2) 3 .i64 nilV []) := OwnInts.nil _ _ _ _
          have HOS : Hid ((W9.setCell ⟨g, 4, none⟩ (.string pl)).ownsRow (w.heap.size + 2) 76 2 nilV ([] : List (ByteArray × Int)).length (subCells [])) := own_nilSub _ _
          have HV := Lib.hid HE.out.resAt
          have HTU := Lib.hid HE.out.turn
          go_upto_region 25 with (fail)
          rename_i hKont
          refine wp_region_lit (wp_load_pkt (p := { q4 with payload := pl }) rfl rfl (by rfl) HE.out.rs.pk ?_)
          refine wp_store_pkt { q4 with payload := pl } zeroP rfl rfl (by rfl) (by rfl) HV.out (by rw [hcod2.out.1]; rfl) (by rw [hcod2.out.2]; rfl) ?_
          intro Wf HPf tf
          refine wpList_nil (hKont _ _ (wp_ret ?_))
          exact ⟨rfl, _, read_results Wf v { q4 with payload := pl } _ rfl HPf.out, HTU.out.then tf (fun i hi e => by have := hv.out; omega), .inl ⟨{ q4 with payload := pl }, [], [], _, _, by rw [hpl.out]; exact hoo.out, by rw [rows_self { q4 with payload := pl } (vc := nilV) (vs := nilV) hcod2.out.1 hcod2.out.2], oi_mono (HOC.out.turn tf (fun j hj e => by have := (own_block_ge HOC.out j hj).1; have := hv.out; omega)) (by omega) rfl, own_mono (own_turn HOS.out tf (fun j hj e => by have := (own_block_ge HOS.out j hj).1; have := hv.out; omega)) (by omega)⟩⟩
        · exact absurd (Nat.le_refl _) hn9
      · rw [hs, Option.bind_none] at ho
        have HF : Hid (Turn (fun k => k = r) w _) := turn_of H3.out.w1 hgw.out (H3.out.rs.fail t)
        clear t hs
        go_wp2_with (fail)
        exact ⟨rfl, HF.out, .inr ⟨ho.out, rfl⟩⟩
    · have hdz : decide (0 < q3) = false := decide_eq_false hz
      rw [if_neg hz] at ho
      clear hz
      have hoo : Hid (o = some ({ q with payload := strOfNums L2 }, [], [])) := by rw [ho.out, hqe.out]; exact rfl
      go_upto_region 21 with (fail)
      clear y5
      obtain ⟨Ar, cr, hr0, hrc, hrb, _, _, _, _⟩ := H3.out.rs.rd
      have kr : W3.cell? ⟨r, 0, none⟩ = some (.slice Ar L2.length cr) := by rw [cell_heap hr0]; exact rfl
      have hrl : (L2.length : Int) ≤ 140737488355328 := by omega
      have HTK := Lib.hid (take_calls W3 r B L2 L2.length hrl H3.out.rs.rd)
      clear hr0 hrc hrb
      go_wp2_with (fail)
      refine HTK.out.mono ?_
      rintro e W9 ⟨t9, (⟨_, ⟨A9, c9, rfl, hr9, _⟩, hR9⟩ | ⟨hn9, _⟩)⟩
      · rw [List.take_length] at hr9
        have hcv := conv_reads (P := Tryd.prog) (W := W9) (src := 22) (dst := 9) (e := 5) (A := A9) (n := L2.length) (c := c9) (L := L2) Tryd.underlying22 Tryd.underlying5 Tryd.underlying9 rfl hr9
        have H9 : Hid (RQ w W1 W9 r g v B q (L2.drop L2.length)) := H3.out.next (H3.out.rs.read t9 hR9)
        have u4 : W9.cell? ⟨g, 4, none⟩ = some (.string q.payload) := H9.out.rs.pk.cell 4
        have g4 := H9.out.rs.pk.frozen 4
        obtain ⟨pl, hpl⟩ : ∃ x, Hid (x = strOfNums L2) := ⟨_, rfl⟩
        rw [← hpl.out] at hcv
        have HE : Hid (RQ w W1 (W9.setCell ⟨g, 4, none⟩ (.string pl)) r g v B { q with payload := pl } (L2.drop L2.length)) := H9.out.next (H9.out.rs.set 4 _ _ rfl)
        clear t9 hr9 hR9 HTK kr
        have HOC : Hid (OwnInts (W9.setCell ⟨g, 4, none⟩ (.string pl)) (w.heap.size + 2) 3 .i64 nilV []) := OwnInts.nil _ _ _ _
        have HOS : Hid ((W9.setCell ⟨g, 4, none⟩ (.string pl)).ownsRow (w.heap.size + 2) 76 2 nilV ([] : List (ByteArray × Int)).length (subCells [])) := own_nilSub _ _
        have HV := Lib.hid HE.out.resAt
        have HTU := Lib.hid HE.out.turn
        go_upto_region 25 with (fail)
        rename_i hKont
        refine wp_region_lit (wp_load_pkt (p := { q with payload := pl }) rfl rfl (by rfl) HE.out.rs.pk ?_)
        refine wp_store_pkt { q with payload := pl } zeroP rfl rfl (by rfl) (by rfl) HV.out (by rw [hcod.out.1]; rfl) (by rw [hcod.out.2]; rfl) ?_
        intro Wf HPf tf
        refine wpList_nil (hKont _ _ (wp_ret ?_))
        exact ⟨rfl, _, read_results Wf v { q with payload := pl } _ rfl HPf.out, HTU.out.then tf (fun i hi e => by have := hv.out; omega), .inl ⟨{ q with payload := pl }, [], [], _, _, by rw [hpl.out]; exact hoo.out, by rw [rows_self { q with payload := pl } (vc := nilV) (vs := nilV) hcod.out.1 hcod.out.2], oi_mono (HOC.out.turn tf (fun j hj e => by have := (own_block_ge HOC.out j hj).1; have := hv.out; omega)) (by omega) rfl, own_mono (own_turn HOS.out tf (fun j hj e => by have := (own_block_ge HOS.out j hj).1; have := hv.out; omega)) (by omega)⟩⟩
      · exact absurd (Nat.le_refl _) hn9
  · rw [hs, Option.bind_none] at ho
    have HF : Hid (Turn (fun k => k = r) w _) := turn_of HS.out.w1 hgw.out (HS.out.rs.fail t)
    clear t hs
    go_wp2_with (fail)
    exact ⟨rfl, HF.out, .inr ⟨ho.out, rfl⟩⟩
end Pk
end Go.Proofs.YteigakkghkjakaaDoor

/- The reference's reader: byte1, word, text, digit. The reference's reader: connectRead. The reference's Parse: what it reads, in plain words. -/
import Derived.Test.YteigakkghkjakaaDoorPlD
import Derived.Test.YteigakkghkjakaaDoorPlO
namespace Go.Proofs.YteigakkghkjakaaDoor
open Go.RowKit Go.ChangeShapes
set_option linter.unusedVariables false
set_option linter.unusedSimpArgs false
namespace Ref
open Utf (nums nums_length nums_bytes IsStr nums_str)
open Var (BT)
open Pk

abbrev RRT : TypeId := 71
/-- Block r is a reader with the bytes L; bad: it could not read. -/
def RrAt (w : World) (r B : Nat) (L : List Int) (b : Bool) : Prop := ∃ A c, w.heap[r]? = some (.cells #[.slice A L.length c, .bool b] RRT (0, 0)) ∧ L.length ≤ c ∧ (c ≤ 9223372036854775807 ∧ L.length ≤ 140737488355328) ∧ Reads .u8 w A L ∧ (A = none → c = 0) ∧ (B ≤ r ∧ ∀ x, A = some x → x.block < B) ∧ ∀ x ∈ L, 0 ≤ x ∧ x < 256
abbrev RSt := List Int × Bool
def r1 : RSt → Int × RSt
  | (x :: M, b) => (x, (M, b))
  | ([], _) => (0, ([], true))
def rW (s : RSt) : Int × RSt := (256 * (r1 s).1 + (r1 (r1 s).2).1, (r1 (r1 s).2).2)
def rT (s : RSt) : ByteArray × RSt :=
  if (rW s).2.1.length < (rW s).1.toNat then (⟨#[]⟩, ((rW s).2.1, true)) else (strOfNums ((rW s).2.1.take (rW s).1.toNat), ((rW s).2.1.drop (rW s).1.toNat, (rW s).2.2))

theorem RrAt.keep {w w' : World} {r B : Nat} {L : List Int} {b : Bool} (h : RrAt w r B L b) (bl : Below w.heap.size w w') : RrAt w' r B L b := by
  obtain ⟨A, c, h1, h2, h3, h4, h5⟩ := h
  exact ⟨A, c, by rw [bl.block _ (heap_lt h1)]; exact h1, h2, h3, h4.keep bl, h5⟩
theorem RrAt.lt {w : World} {r B : Nat} {L : List Int} {b : Bool} (h : RrAt w r B L b) : r < w.heap.size := by obtain ⟨A, c, h1, _⟩ := h; exact heap_lt h1
theorem RrAt.other {w w' : World} {r B : Nat} {L : List Int} {b : Bool} {S : Nat → Prop} (h : RrAt w r B L b) (t : Turn S w w') (hS : ∀ k, S k → B ≤ k ∧ k ≠ r) : RrAt w' r B L b := by
  obtain ⟨A, c, h1, h2, h3, h4, h5, h6, h7⟩ := h
  refine ⟨A, c, by rw [t.block r (heap_lt h1) (fun hx => (hS r hx).2 rfl)]; exact h1, h2, h3, reads_turn h4 t (fun x hx hs => ?_), h5, h6, h7⟩
  have := h6.2 x hx
  have := (hS _ hs).1
  omega
theorem RrAt.bytes {w : World} {r B : Nat} {L : List Int} {b : Bool} (h : RrAt w r B L b) : ∀ x ∈ L, 0 ≤ x ∧ x < 256 := by obtain ⟨A, c, h1, h2, h3, h4, h5, h6, h7⟩ := h; exact h7
theorem RrAt.len {w : World} {r B : Nat} {L : List Int} {b : Bool} (h : RrAt w r B L b) : L.length ≤ 140737488355328 := by obtain ⟨A, c, h1, h2, h3, h4, h5, h6, h7⟩ := h; omega

/-- What a method of the reader does. -/
def Rr {V : Type} (w : World) (r B : Nat) (x : V × RSt) (enc : V → Value) (e : Ending) (w' : World) : Prop :=
  Turn (fun k => k = r) w w' ∧ e = .returned (enc x.1) ∧ RrAt w' r B x.2.1 x.2.2

theorem rr_set {w : World} {r B : Nat} {A A' : Option Addr} {L : List Int} {b : Bool} {c m c' : Nat} {L' : List Int} (h1 : w.heap[r]? = some (.cells #[.slice A L.length c, .bool b] RRT (0, 0))) (hm : m = L'.length) (hc : L'.length ≤ c') (hb : c' ≤ 9223372036854775807 ∧ L'.length ≤ 140737488355328) (hR : Reads .u8 w A' L') (h6 : B ≤ r ∧ ∀ x, A' = some x → x.block < B) (hN : A' = none → c' = 0) (h7 : ∀ x ∈ L', 0 ≤ x ∧ x < 256) : RrAt (w.setCell ⟨r, 0, none⟩ (.slice A' m c')) r B L' b := by
  subst hm
  exact ⟨A', c', heap_set_same w r 0 _ h1, hc, hb, reads_turn hR (Turn.setCell (S := fun k => k = r) w _ rfl) (ne_r h6), hN, h6, h7⟩
theorem rr_bad {w : World} {r B : Nat} {L : List Int} {b : Bool} (h : RrAt w r B L b) : RrAt (w.setCell ⟨r, 1, none⟩ (.bool true)) r B L true := by
  obtain ⟨A, c, h1, h2, h3, h4, h5, h6, h7⟩ := h
  exact ⟨A, c, heap_set_same w r 1 _ h1, h2, h3, reads_turn h4 (Turn.setCell (S := fun k => k = r) w _ rfl) (ne_r h6), h5, h6, h7⟩
/-- The reader's bytes from n on, set. -/
theorem rr_drop {w : World} {r B : Nat} {A : Option Addr} {L : List Int} {b : Bool} {c n : Nat} (h1 : w.heap[r]? = some (.cells #[.slice A L.length c, .bool b] RRT (0, 0))) (h2 : L.length ≤ c) (h3 : c ≤ 9223372036854775807 ∧ L.length ≤ 140737488355328) (h4 : Reads .u8 w A L) (h5 : A = none → c = 0) (h6 : B ≤ r ∧ ∀ x, A = some x → x.block < B) (h7 : ∀ x ∈ L, 0 ≤ x ∧ x < 256) (hn : n ≤ L.length) (x : Addr) (hA : A = some x) (hcn : c ≠ n) : RrAt (w.setCell ⟨r, 0, none⟩ (.slice (some (x.add n)) (L.length - n) (c - n))) r B (L.drop n) b := by
  subst hA
  have hln : (L.drop n).length = L.length - n := List.length_drop
  exact rr_set h1 hln.symm (by omega) (by omega) (reads_drop n h4) ⟨h6.1, fun y hy => by cases hy; rw [add_block]; exact h6.2 x rfl⟩ (fun h => by cases h) (drop_bytes n h7)
theorem rr_drop0 {w : World} {r B : Nat} {A : Option Addr} {L : List Int} {b : Bool} {c n : Nat} (h1 : w.heap[r]? = some (.cells #[.slice A L.length c, .bool b] RRT (0, 0))) (h3 : c ≤ 9223372036854775807 ∧ L.length ≤ 140737488355328) (h6 : B ≤ r ∧ ∀ x, A = some x → x.block < B) (hn : L.length ≤ n) : RrAt (w.setCell ⟨r, 0, none⟩ (.slice A 0 0)) r B (L.drop n) b := by
  have hd0 : L.drop n = [] := by apply List.drop_eq_nil_of_le; omega
  rw [hd0]
  exact rr_set h1 rfl (Nat.le_refl _) (by simp) (fun h => absurd h (by simp)) h6 (fun _ => rfl) (fun x hx => by cases hx)

set_option maxRecDepth 100000 in
set_option maxHeartbeats 1000000 in
theorem byte1_calls (w : World) (r B : Nat) (s : RSt) (hR : RrAt w r B s.1 s.2) : Calls Tryd.prog 40 #[.pointer (some ⟨r, 0, none⟩)] w fun e w' => Rr w r B (r1 s) intV e w' := by
  obtain ⟨L, b⟩ := s
  have hR : RrAt w r B L b := hR
  have HR := Lib.hid hR
  obtain ⟨A, c, h1, h2, h3, h4, h5, h6, h7⟩ := hR
  have k0 : w.cell? ⟨r, 0, none⟩ = some (.slice A L.length c) := by rw [cell_heap h1]; rfl
  have f0 : w.frozen? ⟨r, 0, none⟩ = false := frozen_heap h1
  have k1 : w.cell? ⟨r, 1, none⟩ = some (.bool b) := by rw [cell_heap h1]; rfl
  have f1 : w.frozen? ⟨r, 1, none⟩ = false := frozen_heap h1
  have H1 := Lib.hid h1
  have H3 := Lib.hid h3
  have H4 := Lib.hid h4
  have H5 := Lib.hid h5
  have H6 := Lib.hid h6
  have H7 := Lib.hid h7
  cases L with
  | nil =>
    clear h1 h4 h5 h6 h7
    go_enter Tryd.func40, Tryd.ntmps40
    go_wp2_with (fail)
    go_ret
    exact ⟨Turn.setCell (S := fun k => k = r) w (p := ⟨r, 1, none⟩) _ rfl, rfl, rr_bad HR.out⟩
  | cons x L' =>
    obtain ⟨y, rfl, hcell⟩ := h4 (by simp)
    have hx0 : w.cell? y = some (.int .u8 x) := by
      have := hcell 0 (by simp)
      have h1 : y.add 0 = y := by simp [Addr.add]
      rw [h1] at this
      simpa [lat] using this
    obtain ⟨hb0, hb1⟩ := h7 x (by simp)
    have hlb : (L'.length : Int) ≤ 140737488355328 := by have := h3.2; rw [List.length_cons] at this; omega
    clear h1 h4 h5 h6 h7 hcell
    by_cases hcn : c = 1
    · subst hcn
      have hl1 : L'.length = 0 := by simp at h2; simp [h2]
      go_enter Tryd.func40, Tryd.ntmps40
      go_wp2_with (fail)
      go_ret
      exact ⟨Turn.setCell (S := fun k => k = r) w (p := ⟨r, 0, none⟩) _ rfl, rfl, rr_drop0 (n := 1) H1.out H3.out H6.out (by simp [hl1])⟩
    · go_enter Tryd.func40, Tryd.ntmps40
      go_wp2_with (fail)
      go_ret
      exact ⟨Turn.setCell (S := fun k => k = r) w (p := ⟨r, 0, none⟩) _ rfl, rfl, rr_drop (n := 1) H1.out h2 H3.out H4.out H5.out H6.out H7.out (by simp) y rfl hcn⟩
theorem r1_range {w : World} {r B : Nat} {s : RSt} (h : RrAt w r B s.1 s.2) : 0 ≤ (r1 s).1 ∧ (r1 s).1 < 256 := by
  obtain ⟨L, b⟩ := s
  cases L with
  | nil => simp [r1]
  | cons x L' => exact h.bytes x (by simp)
set_option maxRecDepth 100000 in
set_option maxHeartbeats 1000000 in
theorem rword10_calls (w : World) (r B : Nat) (s : RSt) (hR : RrAt w r B s.1 s.2) : Calls Tryd.prog 42 #[.pointer (some ⟨r, 0, none⟩)] w fun e w' => Rr w r B (rW s) intV e w' := by
  have H := Lib.hid hR
  obtain ⟨p, hp⟩ : ∃ p, Hid (p = r1 s) := ⟨_, rfl⟩
  obtain ⟨a0, a1⟩ := r1_range hR
  obtain ⟨q, hq⟩ : ∃ q, Hid (q = r1 p.2) := ⟨_, rfl⟩
  have hW : Hid (rW s = (256 * p.1 + q.1, q.2)) := by rw [hq.out, hp.out]; rfl
  rw [hW.out]
  rw [← hp.out] at a0 a1
  obtain ⟨p1, s1⟩ := p
  clear hR
  go_enter Tryd.func42, Tryd.ntmps42
  go_wp2_with (fail)
  refine (byte1_calls w r B s H.out).mono ?_
  rintro e w1 ⟨t, rfl, hR1⟩
  rw [← hp.out] at hR1 ⊢
  have H1 := Lib.hid hR1
  have HT := Lib.hid t
  obtain ⟨b0, b1⟩ := r1_range hR1
  rw [← hq.out] at b0 b1
  obtain ⟨q1, s2⟩ := q
  clear hR1 t
  go_wp2_with (fail)
  refine (byte1_calls w1 r B s1 H1.out).mono ?_
  rintro e w2 ⟨t, rfl, hR2⟩
  rw [← hq.out] at hR2 ⊢
  have H2 := Lib.hid hR2
  have HT2 := Lib.hid (HT.out.trans t)
  clear hR2 t
  go_wp2_with (fail)
  go_ret
  exact ⟨HT2.out, rfl, H2.out⟩
theorem rW_range {w : World} {r B : Nat} {s : RSt} (h : RrAt w r B s.1 s.2) : 0 ≤ (rW s).1 ∧ (rW s).1 ≤ 65535 := by
  have h1 := r1_range h
  have h2 : 0 ≤ (r1 (r1 s).2).1 ∧ (r1 (r1 s).2).1 < 256 := by
    obtain ⟨L, b⟩ := s
    match L, h with
    | [], h => simp [r1]
    | [x], h => simp [r1]
    | x :: y :: M, h => exact h.bytes y (by simp)
  show 0 ≤ 256 * (r1 s).1 + (r1 (r1 s).2).1 ∧ 256 * (r1 s).1 + (r1 (r1 s).2).1 ≤ 65535
  omega
set_option maxRecDepth 100000 in
set_option maxHeartbeats 1000000 in
theorem rtext10_calls (w : World) (r B : Nat) (s : RSt) (hR : RrAt w r B s.1 s.2) : Calls Tryd.prog 41 #[.pointer (some ⟨r, 0, none⟩)] w fun e w' => Rr w r B (rT s) strV e w' := by
  have H := Lib.hid hR
  obtain ⟨p, hp⟩ : ∃ p, Hid (p = rW s) := ⟨_, rfl⟩
  obtain ⟨a0, a1⟩ := rW_range hR
  rw [← hp.out] at a0 a1
  obtain ⟨n, L, b⟩ := p
  obtain ⟨k, rfl⟩ : ∃ k : Nat, n = (k : Int) := ⟨n.toNat, by simp at a0; omega⟩
  obtain ⟨o, ho⟩ : ∃ o, Hid (o = rT s) := ⟨_, rfl⟩
  rw [← ho.out]
  have hT : Hid (o = if L.length < k then (⟨#[]⟩, (L, true)) else (strOfNums (L.take k), (L.drop k, b))) := by rw [ho.out, Hid, rT, ← hp.out]; rfl
  simp only at a0 a1
  clear hR
  go_enter Tryd.func41, Tryd.ntmps41
  go_wp2_with (fail)
  refine (rword10_calls w r B s H.out).mono ?_
  rintro e w1 ⟨t, rfl, hR1⟩
  rw [← hp.out] at hR1 ⊢
  have HR1 := Lib.hid hR1
  have HT := Lib.hid t
  obtain ⟨A, c, h1, h2, h3, h4, h5, h6, h7⟩ := hR1
  have k0 : w1.cell? ⟨r, 0, none⟩ = some (.slice A L.length c) := by rw [cell_heap h1]; rfl
  have f0 : w1.frozen? ⟨r, 0, none⟩ = false := frozen_heap h1
  have k1 : w1.cell? ⟨r, 1, none⟩ = some (.bool b) := by rw [cell_heap h1]; rfl
  have f1 : w1.frozen? ⟨r, 1, none⟩ = false := frozen_heap h1
  have H1 := Lib.hid h1
  have H3 := Lib.hid h3
  have H4 := Lib.hid h4
  have H5 := Lib.hid h5
  have H6 := Lib.hid h6
  have H7 := Lib.hid h7
  have hlb : (L.length : Int) ≤ 140737488355328 := by have := h3.2; simp at this; omega
  simp only at h2
  clear h1 h4 h5 h6 h7 t
  by_cases hlt : L.length < k
  · have hd : decide (L.length < k) = true := decide_eq_true hlt
    rw [if_pos hlt] at hT
    go_wp2_with (fail)
    go_ret
    refine ⟨HT.out.trans (Turn.setCell (S := fun k => k = r) w1 (p := ⟨r, 1, none⟩) _ rfl), ?_, ?_⟩
    · rw [hT.out]; rfl
    · rw [hT.out]; exact rr_bad HR1.out
  · have hd : decide (L.length < k) = false := decide_eq_false hlt
    rw [if_neg hlt] at hT
    have hkl : k ≤ L.length := by omega
    have hkc : k ≤ c := by omega
    have hl : k = (L.take k).length := by rw [List.length_take]; omega
    have hcv := conv_reads (P := Tryd.prog) (W := w1) (src := 22) (dst := 9) (e := 5) (A := A) (n := k) (c := c) (L := L.take k) Tryd.underlying22 Tryd.underlying5 Tryd.underlying9 hl (reads_take k H4.out)
    by_cases hcn : c = k
    · subst hcn
      clear hl
      go_wp2_with (fail)
      go_ret
      refine ⟨HT.out.trans (Turn.setCell (S := fun k => k = r) w1 (p := ⟨r, 0, none⟩) _ rfl), ?_, ?_⟩
      · rw [hT.out]; rfl
      · rw [hT.out]
        have hz : L.length - c = 0 := by omega
        have := rr_drop0 (n := c) H1.out H3.out H6.out (by omega)
        simpa [hz] using this
    · cases A with
      | none => exact absurd (H5.out rfl) (by omega)
      | some x =>
        clear hl
        go_wp2_with (fail)
        go_ret
        refine ⟨HT.out.trans (Turn.setCell (S := fun k => k = r) w1 (p := ⟨r, 0, none⟩) _ rfl), by rw [hT.out]; rfl, ?_⟩
        rw [hT.out]
        exact rr_drop (n := k) H1.out h2 H3.out H4.out H5.out H6.out H7.out hkl x rfl hcn
/-- A digit of a number, in the base two. -/
def digitB (n m : Int) : Bool := n / m % 2 == 1
theorem digit_calls (w : World) (n m : Int) (h0 : 0 ≤ n) (h1 : n ≤ 255) (hm : m = 1 ∨ m = 2 ∨ m = 4 ∨ m = 8 ∨ m = 32 ∨ m = 64 ∨ m = 128) : Calls Tryd.prog 39 #[.int .i64 n, .int .i64 m] w fun e w' => e = .returned (.bool (digitB n m)) ∧ w = w' := by
  rcases hm with h | h | h | h | h | h | h <;> subst h
  all_goals
    go_enter Tryd.func39, Tryd.ntmps39
    go_wp2_with (fail)
    go_ret
    exact ⟨by simp [digitB], rfl⟩
end Ref
end Go.Proofs.YteigakkghkjakaaDoor

namespace Go.Proofs.YteigakkghkjakaaDoor
open Go.RowKit Go.ChangeShapes
set_option linter.unusedVariables false
set_option linter.unusedSimpArgs false
namespace Ref
open Utf (nums nums_length nums_bytes IsStr nums_str)
open Var (BT)
open Pk

def k9 (p : Pkt) (s : RSt) : Pkt × RSt := if p.hpass then ({ p with pass := (rT s).1 }, (rT s).2) else (p, s)
def k8 (p : Pkt) (s : RSt) : Pkt × RSt := if p.huser then k9 { p with user := (rT s).1 } (rT s).2 else k9 p s
def k7 (p : Pkt) (s : RSt) : Pkt × RSt := k8 { p with payload := (rT s).1 } (rT s).2
def k6 (p : Pkt) (s : RSt) : Pkt × RSt := k7 { p with topic := (rT s).1 } (rT s).2
def k5 (p : Pkt) (f : Int) (s : RSt) : Pkt × RSt := if p.will then k6 { p with topic := ⟨#[]⟩, payload := ⟨#[]⟩, qos := f / 8 % 4, retain := digitB f 32 } s else k8 p s
def k4 (p : Pkt) (f : Int) (s : RSt) : Pkt × RSt := k5 { p with client := (rT s).1 } f (rT s).2
def k3 (p : Pkt) (f : Int) (s : RSt) : Pkt × RSt := k4 { p with alive := (rW s).1 } f (rW s).2
def _root_.Go.Proofs.YteigakkghkjakaaDoor.Pk.Pkt.flagR (p : Pkt) (f : Int) : Pkt := { p with clean := digitB f 2, will := digitB f 4, hpass := digitB f 64, huser := digitB f 128 }
def k2 (p : Pkt) (s : RSt) : Pkt × RSt := k3 (p.flagR (r1 s).1) (r1 s).1 (r1 s).2
def k1 (p : Pkt) (s : RSt) : Pkt × RSt := k2 p (r1 s).2
def rConR (p : Pkt) (s : RSt) : Pkt × RSt := k1 p (rT s).2

theorem rT_at (w : World) (r B : Nat) (s : RSt) (v : ByteArray) (s' : RSt) (hv : rT s = (v, s')) (hR : RrAt w r B s.1 s.2) : Calls Tryd.prog 41 #[.pointer (some ⟨r, 0, none⟩)] w fun e w' => Turn (fun k => k = r) w w' ∧ e = .returned (.string v) ∧ RrAt w' r B s'.1 s'.2 := by
  have := rtext10_calls w r B s hR
  unfold Rr at this
  rw [hv] at this
  exact this
theorem rW_at (w : World) (r B : Nat) (s : RSt) (v : Int) (s' : RSt) (hv : rW s = (v, s')) (hR : RrAt w r B s.1 s.2) : Calls Tryd.prog 42 #[.pointer (some ⟨r, 0, none⟩)] w fun e w' => Turn (fun k => k = r) w w' ∧ e = .returned (.int .i64 v) ∧ RrAt w' r B s'.1 s'.2 := by
  have := rword10_calls w r B s hR
  unfold Rr at this
  rw [hv] at this
  exact this
theorem r1_at (w : World) (r B : Nat) (s : RSt) (v : Int) (s' : RSt) (hv : r1 s = (v, s')) (hR : RrAt w r B s.1 s.2) : Calls Tryd.prog 40 #[.pointer (some ⟨r, 0, none⟩)] w fun e w' => Turn (fun k => k = r) w w' ∧ e = .returned (.int .i64 v) ∧ RrAt w' r B s'.1 s'.2 := by
  have := byte1_calls w r B s hR
  unfold Rr at this
  rw [hv] at this
  exact this
theorem digit_at (w : World) (n m : Int) (b : Bool) (hb : digitB n m = b) (h0 : 0 ≤ n) (h1 : n ≤ 255) (hm : m = 1 ∨ m = 2 ∨ m = 4 ∨ m = 8 ∨ m = 32 ∨ m = 64 ∨ m = 128) : Calls Tryd.prog 39 #[.int .i64 n, .int .i64 m] w fun e w' => e = .returned (.bool b) ∧ w = w' := hb ▸ digit_calls w n m h0 h1 hm

/-- Where a reading stands: the packet in block g, the answer's block is v. -/
structure RC (w W : World) (r g v B : Nat) (p : Pkt) (s : RSt) : Prop where
  turn : Turn (fun k => k = r) w W
  rd : RrAt W r B s.1 s.2
  pk : PkAt W g p
  res : PkAt W v zeroP
  gw : g = w.heap.size
  vw : v = w.heap.size + 1
  rlt : r < w.heap.size
  br : B ≤ r
theorem RC.read {w W W' : World} {r g v B : Nat} {p : Pkt} {s s' : RSt} (h : RC w W r g v B p s) (t : Turn (fun k => k = r) W W') (hR : RrAt W' r B s'.1 s'.2) : RC w W' r g v B p s' :=
  ⟨h.turn.trans t, hR, h.pk.keep t (fun e => by have := h.gw; have := h.rlt; omega), h.res.keep t (fun e => by have := h.vw; have := h.rlt; omega), h.gw, h.vw, h.rlt, h.br⟩
theorem RC.set {w W : World} {r g v B : Nat} {p : Pkt} {s : RSt} (h : RC w W r g v B p s) (i : Nat) (x : Value) (q : Pkt) (hq : p.cells.setIfInBounds i x = q.cells) : RC w (W.setCell ⟨g, i, none⟩ x) r g v B q s := by
  have t : Turn (fun k => k = g) W (W.setCell ⟨g, i, none⟩ x) := Turn.setCell W x rfl
  have h1 := h.gw
  have h2 := h.vw
  have h3 := h.rlt
  have h4 := h.br
  exact ⟨h.turn.then t (fun k hk e => by omega), h.rd.other t (fun k e => by omega), h.pk.set i x q hq, h.res.keep t (by omega), h1, h2, h3, h4⟩
theorem rcon_results (W : World) (v : Nat) (p : Pkt) (tmps : Array Value) (hv : tmps.getD 4 undef = .pointer (some ⟨v, 0, none⟩)) (h : PkAt W v p) : (results Tryd.f38 tmps).run Tryd.prog W = .ok (.agg p.cells) W := by
  have hl := load_pkt W v p h
  unfold Instr.loadAt at hl
  simp only [Instr.sureAddr, Sem.run_bind, Sem.run_pure, Result.andThen_ok] at hl
  simp only [results, Tryd.results38]
  have hv' : tmps[4]?.getD undef = .pointer (some ⟨v, 0, none⟩) := by rw [← hv]; simp
  simp [hv', asAddr, hl]

set_option maxRecDepth 100000 in
set_option maxHeartbeats 4000000 in
theorem conread_calls (w : World) (r B : Nat) (p : Pkt) (s : RSt) (hcs : p.codes = nilV ∧ p.subs = nilV) (hR : RrAt w r B s.1 s.2) (hB : B ≤ r) : Calls Tryd.prog 38 #[.pointer (some ⟨r, 0, none⟩), .agg p.cells] w fun e w' => Turn (fun k => k = r) w w' ∧ e = .returned (.agg (rConR p s).1.cells) ∧ RrAt w' r B (rConR p s).2.1 (rConR p s).2.2 := by
  obtain ⟨W0, hW0⟩ : ∃ W, Hid (W = (w.alloc (.cells p.cells PT)).alloc (.cells zeroC PT)) := ⟨_, rfl⟩
  obtain ⟨g, hg⟩ : ∃ g, Hid (g = w.heap.size) := ⟨_, rfl⟩
  obtain ⟨v, hv⟩ : ∃ v, Hid (v = w.heap.size + 1) := ⟨_, rfl⟩
  have hsz : (w.alloc (.cells p.cells PT)).heap.size = w.heap.size + 1 := by simp
  have H0 : Hid (RC w W0 r g v B p s) := by
    have hb : Below w.heap.size w W0 := by rw [hW0.out]; exact Below.alloc (Below.alloc (Below.refl _ _) (Nat.le_refl _) _) (by simp) _
    refine ⟨Turn.of_below hb, hR.keep hb, ?_, ?_, hg.out, hv.out, hR.lt, hB⟩
    · rw [hW0.out, hg.out]; exact (box_at w p).keep (Turn.alloc (S := fun _ => False) _ _) (fun h => h)
    · rw [hW0.out, hv.out, ← hsz]; exact heap_new _ _
  obtain ⟨o, ho⟩ : ∃ o, Hid (o = rConR p s) := ⟨_, rfl⟩
  rw [← ho.out]
  rw [rConR] at ho
  clear hR hsz
  go_enter Tryd.func38, Tryd.ntmps38
  go_upto_region 1 with (fail)
  rw [show (w.alloc (.cells p.cells PT)).alloc (.cells zeroC PT) = W0 from hW0.out.symm, ← hv.out, ← hg.out]
  clear hW0
  go_wp2_with (fail)
  obtain ⟨⟨sm, s1⟩, hs⟩ : ∃ x, rT s = x := ⟨_, rfl⟩
  refine (rT_at W0 r B s sm s1 hs H0.out.rd).mono ?_
  rintro e W1 ⟨t, rfl, hR⟩
  rw [hs] at ho
  dsimp only at ho
  have H1 : Hid (RC w W1 r g v B p s1) := H0.out.read t hR
  clear t hR
  rw [k1] at ho
  clear hs
  go_wp2_with (fail)
  obtain ⟨⟨lv, s2⟩, hs⟩ : ∃ x, r1 s1 = x := ⟨_, rfl⟩
  refine (r1_at W1 r B s1 lv s2 hs H1.out.rd).mono ?_
  rintro e W2 ⟨t, rfl, hR⟩
  rw [hs] at ho
  dsimp only at ho
  have H2 : Hid (RC w W2 r g v B p s2) := H1.out.read t hR
  clear t hR
  rw [k2] at ho
  clear hs
  go_wp2_with (fail)
  have hfr := r1_range H2.out.rd
  obtain ⟨⟨f, s3⟩, hs⟩ : ∃ x, r1 s2 = x := ⟨_, rfl⟩
  refine (r1_at W2 r B s2 f s3 hs H2.out.rd).mono ?_
  rintro e W3 ⟨t, rfl, hR⟩
  rw [hs] at ho
  dsimp only at ho
  have H3 : Hid (RC w W3 r g v B p s3) := H2.out.read t hR
  clear t hR
  rw [hs] at hfr
  obtain ⟨hf0, hf1'⟩ : 0 ≤ f ∧ f < 256 := hfr
  have hf1 : f ≤ 255 := by omega
  clear hs hf1'
  rw [k3] at ho
  have k8 : W3.cell? ⟨g, 8, none⟩ = some (.bool p.clean) := H3.out.pk.cell 8
  have k10 : W3.cell? ⟨g, 10, none⟩ = some (.bool p.will) := H3.out.pk.cell 10
  have k11 : W3.cell? ⟨g, 11, none⟩ = some (.bool p.huser) := H3.out.pk.cell 11
  have k12 : W3.cell? ⟨g, 12, none⟩ = some (.bool p.hpass) := H3.out.pk.cell 12
  have z8 := H3.out.pk.frozen 8
  have z10 := H3.out.pk.frozen 10
  have z11 := H3.out.pk.frozen 11
  have z12 := H3.out.pk.frozen 12
  obtain ⟨b2, hb2⟩ : ∃ b, digitB f 2 = b := ⟨_, rfl⟩
  obtain ⟨b4, hb4⟩ : ∃ b, digitB f 4 = b := ⟨_, rfl⟩
  obtain ⟨b32, hb32⟩ : ∃ b, digitB f 32 = b := ⟨_, rfl⟩
  obtain ⟨b64, hb64⟩ : ∃ b, digitB f 64 = b := ⟨_, rfl⟩
  obtain ⟨b128, hb128⟩ : ∃ b, digitB f 128 = b := ⟨_, rfl⟩
  obtain ⟨q, hq⟩ : ∃ q, Hid (q = p.flagR f) := ⟨_, rfl⟩
  have HS : Hid (RC w ((((W3.setCell ⟨g, 8, none⟩ (.bool b2)).setCell ⟨g, 10, none⟩ (.bool b4)).setCell ⟨g, 12, none⟩ (.bool b64)).setCell ⟨g, 11, none⟩ (.bool b128)) r g v B q s3) := by
    rw [hq.out, ← hb2, ← hb4, ← hb64, ← hb128]
    exact (((H3.out.set 8 _ { p with clean := digitB f 2 } rfl).set 10 _ { p with clean := digitB f 2, will := digitB f 4 } rfl).set 12 _ { p with clean := digitB f 2, will := digitB f 4, hpass := digitB f 64 } rfl).set 11 _ (p.flagR f) rfl
  rw [← hq.out] at ho
  have hqw : Hid (q.will = b4) := by rw [hq.out, ← hb4]; exact rfl
  have hqu : Hid (q.huser = b128) := by rw [hq.out, ← hb128]; exact rfl
  have hqp : Hid (q.hpass = b64) := by rw [hq.out, ← hb64]; exact rfl
  have hqc : Hid (q.codes = nilV ∧ q.subs = nilV) := by rw [hq.out]; exact hcs
  have HD2 := Lib.hid hb2
  have HD4 := Lib.hid hb4
  have HD32 := Lib.hid hb32
  have HD64 := Lib.hid hb64
  have HD128 := Lib.hid hb128
  clear hb2 hb4 hb32 hb64 hb128
  go_wp2_with (fail)
  refine (digit_at _ f 2 b2 HD2.out hf0 hf1 (by decide)).mono ?_
  rintro e w' ⟨rfl, rfl⟩
  go_wp2_with (fail)
  refine (digit_at _ f 4 b4 HD4.out hf0 hf1 (by decide)).mono ?_
  rintro e w' ⟨rfl, rfl⟩
  go_wp2_with (fail)
  refine (digit_at _ f 64 b64 HD64.out hf0 hf1 (by decide)).mono ?_
  rintro e w' ⟨rfl, rfl⟩
  go_wp2_with (fail)
  refine (digit_at _ f 128 b128 HD128.out hf0 hf1 (by decide)).mono ?_
  rintro e w' ⟨rfl, rfl⟩
  go_wp2_with (fail)
  generalize hWs : (((W3.setCell ⟨g, 8, none⟩ (.bool b2)).setCell ⟨g, 10, none⟩ (.bool b4)).setCell ⟨g, 12, none⟩ (.bool b64)).setCell ⟨g, 11, none⟩ (.bool b128) = Ws at HS ⊢
  clear hWs k8 k10 k11 k12 z8 z10 z11 z12
  obtain ⟨⟨al, s4⟩, hs⟩ : ∃ x, rW s3 = x := ⟨_, rfl⟩
  refine (rW_at Ws r B s3 al s4 hs HS.out.rd).mono ?_
  rintro e W4 ⟨t, rfl, hR⟩
  rw [hs] at ho
  dsimp only at ho
  have H4 : Hid (RC w W4 r g v B q s4) := HS.out.read t hR
  clear t hR
  rw [k4] at ho
  clear hs
  have y9 : W4.cell? ⟨g, 9, none⟩ = some (.int .i64 q.alive) := H4.out.pk.cell 9
  have z9 := H4.out.pk.frozen 9
  have HS4 : Hid (RC w (W4.setCell ⟨g, 9, none⟩ (.int .i64 al)) r g v B { q with alive := al } s4) := H4.out.set 9 _ _ rfl
  go_wp2_with (fail)
  generalize hWs4 : W4.setCell ⟨g, 9, none⟩ (.int .i64 al) = Ws4 at HS4 ⊢
  clear hWs4 y9 z9
  obtain ⟨⟨cl, s5⟩, hs⟩ : ∃ x, rT s4 = x := ⟨_, rfl⟩
  refine (rT_at Ws4 r B s4 cl s5 hs HS4.out.rd).mono ?_
  rintro e W5 ⟨t, rfl, hR⟩
  rw [hs] at ho
  dsimp only at ho
  have H5 : Hid (RC w W5 r g v B { q with alive := al } s5) := HS4.out.read t hR
  clear t hR
  rw [k5] at ho
  clear hs
  have y7 : W5.cell? ⟨g, 7, none⟩ = some (.string q.client) := H5.out.pk.cell 7
  have z7 := H5.out.pk.frozen 7
  obtain ⟨q5, hq5⟩ : ∃ x : Pkt, Hid (x = { q with alive := al, client := cl }) := ⟨_, rfl⟩
  have HS5 : Hid (RC w (W5.setCell ⟨g, 7, none⟩ (.string cl)) r g v B q5 s5) := by rw [hq5.out]; exact H5.out.set 7 _ _ rfl
  have hqw5 : Hid (q5.will = b4) := by rw [hq5.out]; exact hqw.out
  have hqu5 : Hid (q5.huser = b128) := by rw [hq5.out]; exact hqu.out
  have hqp5 : Hid (q5.hpass = b64) := by rw [hq5.out]; exact hqp.out
  have HQC : Hid (q5.codes = nilV ∧ q5.subs = nilV) := by rw [hq5.out]; exact hqc.out
  have ho5 : Hid (o = if q5.will then k6 { q5 with topic := ⟨#[]⟩, payload := ⟨#[]⟩, qos := f / 8 % 4, retain := digitB f 32 } s5 else Ref.k8 q5 s5) := by rw [hq5.out]; exact ho.out
  clear ho
  rw [HD32.out] at ho5
  obtain ⟨q5v, hq5v⟩ : ∃ x, Hid (x = f / 8 % 4) := ⟨_, rfl⟩
  rw [← hq5v.out] at ho5
  have x10 : (W5.setCell ⟨g, 7, none⟩ (.string cl)).cell? ⟨g, 10, none⟩ = some (.bool b4) := by rw [← hqw5.out]; exact HS5.out.pk.cell 10
  have HQU := hqu5
  have HQP := hqp5
  go_upto_region 10 with (fail)
  generalize hWs5 : W5.setCell ⟨g, 7, none⟩ (.string cl) = Ws5 at HS5 x10 ⊢
  clear hWs5 y7 z7
  cases b4 with
  | true =>
    rw [if_pos hqw5.out] at ho5
    obtain ⟨q6, hq6⟩ : ∃ x : Pkt, Hid (x = { q5 with topic := ⟨#[]⟩, payload := ⟨#[]⟩, qos := q5v, retain := b32 }) := ⟨_, rfl⟩
    rw [← hq6.out, k6] at ho5
    have HS6 : Hid (RC w ((((Ws5.setCell ⟨g, 3, none⟩ (.string ⟨#[]⟩)).setCell ⟨g, 4, none⟩ (.string ⟨#[]⟩)).setCell ⟨g, 5, none⟩ (.int .i64 q5v)).setCell ⟨g, 6, none⟩ (.bool b32)) r g v B q6 s5) := by
      rw [hq6.out]
      exact (((HS5.out.set 3 _ { q5 with topic := ⟨#[]⟩ } rfl).set 4 _ { q5 with topic := ⟨#[]⟩, payload := ⟨#[]⟩ } rfl).set 5 _ { q5 with topic := ⟨#[]⟩, payload := ⟨#[]⟩, qos := q5v } rfl).set 6 _ _ rfl
    have hqu6 : Hid (q6.huser = b128) := by rw [hq6.out]; exact hqu5.out
    have hqp6 : Hid (q6.hpass = b64) := by rw [hq6.out]; exact hqp5.out
    have HQC6 : Hid (q6.codes = nilV ∧ q6.subs = nilV) := by rw [hq6.out]; exact HQC.out
    have ho := ho5
    clear ho5
    have x3 : Ws5.cell? ⟨g, 3, none⟩ = some (.string q5.topic) := HS5.out.pk.cell 3
    have x4 : Ws5.cell? ⟨g, 4, none⟩ = some (.string q5.payload) := HS5.out.pk.cell 4
    have x5 : Ws5.cell? ⟨g, 5, none⟩ = some (.int .i64 q5.qos) := HS5.out.pk.cell 5
    have x6 : Ws5.cell? ⟨g, 6, none⟩ = some (.bool q5.retain) := HS5.out.pk.cell 6
    have z3 := HS5.out.pk.frozen 3
    have z4 := HS5.out.pk.frozen 4
    have z5 := HS5.out.pk.frozen 5
    have z6 := HS5.out.pk.frozen 6
    have hdv : f / 8 % 4 = q5v := hq5v.out.symm
    clear hq5v
    go_wp2_with (fail)
    refine (digit_at _ f 32 b32 HD32.out hf0 hf1 (by decide)).mono ?_
    rintro e w' ⟨rfl, rfl⟩
    go_wp2_with (fail)
    generalize hWs6 : (((Ws5.setCell ⟨g, 3, none⟩ (.string ⟨#[]⟩)).setCell ⟨g, 4, none⟩ (.string ⟨#[]⟩)).setCell ⟨g, 5, none⟩ (.int .i64 q5v)).setCell ⟨g, 6, none⟩ (.bool b32) = Ws6 at HS6 ⊢
    clear hWs6 HS5 x10 x3 x4 x5 x6 z3 z4 z5 z6
    obtain ⟨⟨tp, s6⟩, hs⟩ : ∃ x, rT s5 = x := ⟨_, rfl⟩
    refine (rT_at Ws6 r B s5 tp s6 hs HS6.out.rd).mono ?_
    rintro e W6 ⟨t, rfl, hR⟩
    rw [hs] at ho
    dsimp only at ho
    have H6 : Hid (RC w W6 r g v B q6 s6) := HS6.out.read t hR
    clear t hR
    rw [k7] at ho
    clear hs
    have t3 : W6.cell? ⟨g, 3, none⟩ = some (.string q6.topic) := H6.out.pk.cell 3
    have s3' := H6.out.pk.frozen 3
    obtain ⟨q7, hq7⟩ : ∃ x : Pkt, Hid (x = { q6 with topic := tp }) := ⟨_, rfl⟩
    have HS7 : Hid (RC w (W6.setCell ⟨g, 3, none⟩ (.string tp)) r g v B q7 s6) := by rw [hq7.out]; exact H6.out.set 3 _ _ rfl
    go_wp2_with (fail)
    generalize hWs7 : W6.setCell ⟨g, 3, none⟩ (.string tp) = Ws7 at HS7 ⊢
    clear hWs7 t3 s3'
    obtain ⟨⟨py, s7⟩, hs⟩ : ∃ x, rT s6 = x := ⟨_, rfl⟩
    refine (rT_at Ws7 r B s6 py s7 hs HS7.out.rd).mono ?_
    rintro e W7 ⟨t, rfl, hR⟩
    rw [hs] at ho
    dsimp only at ho
    have H7 : Hid (RC w W7 r g v B q7 s7) := HS7.out.read t hR
    clear t hR
    clear hs
    have t4 : W7.cell? ⟨g, 4, none⟩ = some (.string q7.payload) := H7.out.pk.cell 4
    have s4' := H7.out.pk.frozen 4
    obtain ⟨q8, hq8⟩ : ∃ x : Pkt, Hid (x = { q7 with payload := py }) := ⟨_, rfl⟩
    have HS8 : Hid (RC w (W7.setCell ⟨g, 4, none⟩ (.string py)) r g v B q8 s7) := by rw [hq8.out]; exact H7.out.set 4 _ _ rfl
    have HQU : Hid (q8.huser = b128) := by rw [hq8.out, hq7.out]; exact hqu6.out
    have HQP : Hid (q8.hpass = b64) := by rw [hq8.out, hq7.out]; exact hqp6.out
    have HQC : Hid (q8.codes = nilV ∧ q8.subs = nilV) := by rw [hq8.out, hq7.out]; exact HQC6.out
    have ho8 : Hid (o = Ref.k8 q8 s7) := by rw [hq8.out, hq7.out]; exact ho.out
    have ho := ho8
    clear ho8
    go_upto_region 14 with (fail)
    generalize hWs8 : W7.setCell ⟨g, 4, none⟩ (.string py) = Ws8 at HS8 ⊢
    clear hWs8 t4 s4'
    rw [Ref.k8] at ho
    cases b128 with
    | true =>
      rw [if_pos HQU.out] at ho
      have u11 : Ws8.cell? ⟨g, 11, none⟩ = some (.bool true) := by rw [← HQU.out]; exact HS8.out.pk.cell 11
      go_wp2_with (fail)
      obtain ⟨⟨us, s8⟩, hs⟩ : ∃ x, rT s7 = x := ⟨_, rfl⟩
      refine (rT_at Ws8 r B s7 us s8 hs HS8.out.rd).mono ?_
      rintro e W8 ⟨t, rfl, hR⟩
      rw [hs] at ho
      dsimp only at ho
      have H8 : Hid (RC w W8 r g v B q8 s8) := HS8.out.read t hR
      clear t hR
      clear hs u11
      have v13 : W8.cell? ⟨g, 13, none⟩ = some (.string q8.user) := H8.out.pk.cell 13
      have z13 := H8.out.pk.frozen 13
      obtain ⟨qu, hqu⟩ : ∃ x : Pkt, Hid (x = { q8 with user := us }) := ⟨_, rfl⟩
      have HU : Hid (RC w (W8.setCell ⟨g, 13, none⟩ (.string us)) r g v B qu s8) := by rw [hqu.out]; exact H8.out.set 13 _ _ rfl
      have HQP : Hid (qu.hpass = b64) := by rw [hqu.out]; exact HQP.out
      have HQC : Hid (qu.codes = nilV ∧ qu.subs = nilV) := by rw [hqu.out]; exact HQC.out
      rw [← hqu.out] at ho
      go_upto_region 16 with (fail)
      generalize hWu : W8.setCell ⟨g, 13, none⟩ (.string us) = Wu at HU ⊢
      clear hWu v13 z13
      rw [k9] at ho
      cases b64 with
      | true =>
        rw [if_pos HQP.out] at ho
        have v12 : Wu.cell? ⟨g, 12, none⟩ = some (.bool true) := by rw [← HQP.out]; exact HU.out.pk.cell 12
        go_wp2_with (fail)
        obtain ⟨⟨pw, s9⟩, hs⟩ : ∃ x, rT s8 = x := ⟨_, rfl⟩
        refine (rT_at Wu r B s8 pw s9 hs HU.out.rd).mono ?_
        rintro e W9 ⟨t, rfl, hR⟩
        rw [hs] at ho
        dsimp only at ho
        have H9 : Hid (RC w W9 r g v B qu s9) := HU.out.read t hR
        clear t hR
        clear hs v12
        have v14 : W9.cell? ⟨g, 14, none⟩ = some (.string qu.pass) := H9.out.pk.cell 14
        have z14 := H9.out.pk.frozen 14
        obtain ⟨qf, hqf⟩ : ∃ x : Pkt, Hid (x = { qu with pass := pw }) := ⟨_, rfl⟩
        have HF : Hid (RC w (W9.setCell ⟨g, 14, none⟩ (.string pw)) r g v B qf s9) := by rw [hqf.out]; exact H9.out.set 14 _ _ rfl
        have HQC1 : Hid (qf.codes = nilV ∧ qf.subs = nilV) := by rw [hqf.out]; exact HQC.out
        rw [← hqf.out] at ho
        go_upto_region 18 with (fail)
        rename_i hKont
        refine wp_region_lit (wp_load_pkt (p := qf) rfl rfl (by rfl) HF.out.pk ?_)
        refine wp_store_pkt qf zeroP rfl rfl (by rfl) (by rfl) HF.out.res (by rw [HQC1.out.1]; rfl) (by rw [HQC1.out.2]; rfl) ?_
        intro Wf HPf tf
        refine wpList_nil (hKont _ _ (wp_ret ?_))
        have HE := Lib.hid HF.out
        exact ⟨rfl, _, rcon_results Wf v _ _ rfl HPf.out, HE.out.turn.then tf (fun i hi e => by have := hv.out; omega), by rw [ho.out], by rw [ho.out]; exact HE.out.rd.other tf (fun k e => by have := HE.out.br; have := HE.out.rlt; have := HE.out.vw; omega)⟩
      | false =>
        rw [if_neg (by rw [HQP.out]; decide)] at ho
        have v12 : Wu.cell? ⟨g, 12, none⟩ = some (.bool false) := by rw [← HQP.out]; exact HU.out.pk.cell 12
        go_upto_region 18 with (fail)
        rename_i hKont
        refine wp_region_lit (wp_load_pkt (p := qu) rfl rfl (by rfl) HU.out.pk ?_)
        refine wp_store_pkt qu zeroP rfl rfl (by rfl) (by rfl) HU.out.res (by rw [HQC.out.1]; rfl) (by rw [HQC.out.2]; rfl) ?_
        intro Wf HPf tf
        refine wpList_nil (hKont _ _ (wp_ret ?_))
        have HE := Lib.hid HU.out
        exact ⟨rfl, _, rcon_results Wf v _ _ rfl HPf.out, HE.out.turn.then tf (fun i hi e => by have := hv.out; omega), by rw [ho.out], by rw [ho.out]; exact HE.out.rd.other tf (fun k e => by have := HE.out.br; have := HE.out.rlt; have := HE.out.vw; omega)⟩
    | false =>
      rw [if_neg (by rw [HQU.out]; decide)] at ho
      have u11 : Ws8.cell? ⟨g, 11, none⟩ = some (.bool false) := by rw [← HQU.out]; exact HS8.out.pk.cell 11
      rw [k9] at ho
      cases b64 with
      | true =>
        rw [if_pos HQP.out] at ho
        have v12 : Ws8.cell? ⟨g, 12, none⟩ = some (.bool true) := by rw [← HQP.out]; exact HS8.out.pk.cell 12
        go_wp2_with (fail)
        obtain ⟨⟨pw, s10⟩, hs⟩ : ∃ x, rT s7 = x := ⟨_, rfl⟩
        refine (rT_at Ws8 r B s7 pw s10 hs HS8.out.rd).mono ?_
        rintro e W10 ⟨t, rfl, hR⟩
        rw [hs] at ho
        dsimp only at ho
        have H10 : Hid (RC w W10 r g v B q8 s10) := HS8.out.read t hR
        clear t hR
        clear hs v12
        have v14 : W10.cell? ⟨g, 14, none⟩ = some (.string q8.pass) := H10.out.pk.cell 14
        have z14 := H10.out.pk.frozen 14
        obtain ⟨qf, hqf⟩ : ∃ x : Pkt, Hid (x = { q8 with pass := pw }) := ⟨_, rfl⟩
        have HF : Hid (RC w (W10.setCell ⟨g, 14, none⟩ (.string pw)) r g v B qf s10) := by rw [hqf.out]; exact H10.out.set 14 _ _ rfl
        have HQC1 : Hid (qf.codes = nilV ∧ qf.subs = nilV) := by rw [hqf.out]; exact HQC.out
        rw [← hqf.out] at ho
        go_upto_region 18 with (fail)
        rename_i hKont
        refine wp_region_lit (wp_load_pkt (p := qf) rfl rfl (by rfl) HF.out.pk ?_)
        refine wp_store_pkt qf zeroP rfl rfl (by rfl) (by rfl) HF.out.res (by rw [HQC1.out.1]; rfl) (by rw [HQC1.out.2]; rfl) ?_
        intro Wf HPf tf
        refine wpList_nil (hKont _ _ (wp_ret ?_))
        have HE := Lib.hid HF.out
        exact ⟨rfl, _, rcon_results Wf v _ _ rfl HPf.out, HE.out.turn.then tf (fun i hi e => by have := hv.out; omega), by rw [ho.out], by rw [ho.out]; exact HE.out.rd.other tf (fun k e => by have := HE.out.br; have := HE.out.rlt; have := HE.out.vw; omega)⟩
      | false =>
        rw [if_neg (by rw [HQP.out]; decide)] at ho
        have v12 : Ws8.cell? ⟨g, 12, none⟩ = some (.bool false) := by rw [← HQP.out]; exact HS8.out.pk.cell 12
        go_upto_region 18 with (fail)
        rename_i hKont
        refine wp_region_lit (wp_load_pkt (p := q8) rfl rfl (by rfl) HS8.out.pk ?_)
        refine wp_store_pkt q8 zeroP rfl rfl (by rfl) (by rfl) HS8.out.res (by rw [HQC.out.1]; rfl) (by rw [HQC.out.2]; rfl) ?_
        intro Wf HPf tf
        refine wpList_nil (hKont _ _ (wp_ret ?_))
        have HE := Lib.hid HS8.out
        exact ⟨rfl, _, rcon_results Wf v _ _ rfl HPf.out, HE.out.turn.then tf (fun i hi e => by have := hv.out; omega), by rw [ho.out], by rw [ho.out]; exact HE.out.rd.other tf (fun k e => by have := HE.out.br; have := HE.out.rlt; have := HE.out.vw; omega)⟩
  | false =>
    rw [if_neg (by rw [hqw5.out]; decide)] at ho5
    have ho := ho5
    clear ho5
    rw [Ref.k8] at ho
    cases b128 with
    | true =>
      rw [if_pos HQU.out] at ho
      have u11 : Ws5.cell? ⟨g, 11, none⟩ = some (.bool true) := by rw [← HQU.out]; exact HS5.out.pk.cell 11
      go_wp2_with (fail)
      obtain ⟨⟨us, s11⟩, hs⟩ : ∃ x, rT s5 = x := ⟨_, rfl⟩
      refine (rT_at Ws5 r B s5 us s11 hs HS5.out.rd).mono ?_
      rintro e W11 ⟨t, rfl, hR⟩
      rw [hs] at ho
      dsimp only at ho
      have H11 : Hid (RC w W11 r g v B q5 s11) := HS5.out.read t hR
      clear t hR
      clear hs u11
      have v13 : W11.cell? ⟨g, 13, none⟩ = some (.string q5.user) := H11.out.pk.cell 13
      have z13 := H11.out.pk.frozen 13
      obtain ⟨qu, hqu⟩ : ∃ x : Pkt, Hid (x = { q5 with user := us }) := ⟨_, rfl⟩
      have HU : Hid (RC w (W11.setCell ⟨g, 13, none⟩ (.string us)) r g v B qu s11) := by rw [hqu.out]; exact H11.out.set 13 _ _ rfl
      have HQP : Hid (qu.hpass = b64) := by rw [hqu.out]; exact HQP.out
      have HQC : Hid (qu.codes = nilV ∧ qu.subs = nilV) := by rw [hqu.out]; exact HQC.out
      rw [← hqu.out] at ho
      go_upto_region 16 with (fail)
      generalize hWu : W11.setCell ⟨g, 13, none⟩ (.string us) = Wu at HU ⊢
      clear hWu v13 z13
      rw [k9] at ho
      cases b64 with
      | true =>
        rw [if_pos HQP.out] at ho
        have v12 : Wu.cell? ⟨g, 12, none⟩ = some (.bool true) := by rw [← HQP.out]; exact HU.out.pk.cell 12
        go_wp2_with (fail)
        obtain ⟨⟨pw, s12⟩, hs⟩ : ∃ x, rT s11 = x := ⟨_, rfl⟩
        refine (rT_at Wu r B s11 pw s12 hs HU.out.rd).mono ?_
        rintro e W12 ⟨t, rfl, hR⟩
        rw [hs] at ho
        dsimp only at ho
        have H12 : Hid (RC w W12 r g v B qu s12) := HU.out.read t hR
        clear t hR
        clear hs v12
        have v14 : W12.cell? ⟨g, 14, none⟩ = some (.string qu.pass) := H12.out.pk.cell 14
        have z14 := H12.out.pk.frozen 14
        obtain ⟨qf, hqf⟩ : ∃ x : Pkt, Hid (x = { qu with pass := pw }) := ⟨_, rfl⟩
        have HF : Hid (RC w (W12.setCell ⟨g, 14, none⟩ (.string pw)) r g v B qf s12) := by rw [hqf.out]; exact H12.out.set 14 _ _ rfl
        have HQC1 : Hid (qf.codes = nilV ∧ qf.subs = nilV) := by rw [hqf.out]; exact HQC.out
        rw [← hqf.out] at ho
        go_upto_region 18 with (fail)
        rename_i hKont
        refine wp_region_lit (wp_load_pkt (p := qf) rfl rfl (by rfl) HF.out.pk ?_)
        refine wp_store_pkt qf zeroP rfl rfl (by rfl) (by rfl) HF.out.res (by rw [HQC1.out.1]; rfl) (by rw [HQC1.out.2]; rfl) ?_
        intro Wf HPf tf
        refine wpList_nil (hKont _ _ (wp_ret ?_))
        have HE := Lib.hid HF.out
        exact ⟨rfl, _, rcon_results Wf v _ _ rfl HPf.out, HE.out.turn.then tf (fun i hi e => by have := hv.out; omega), by rw [ho.out], by rw [ho.out]; exact HE.out.rd.other tf (fun k e => by have := HE.out.br; have := HE.out.rlt; have := HE.out.vw; omega)⟩
      | false =>
        rw [if_neg (by rw [HQP.out]; decide)] at ho
        have v12 : Wu.cell? ⟨g, 12, none⟩ = some (.bool false) := by rw [← HQP.out]; exact HU.out.pk.cell 12
        go_upto_region 18 with (fail)
        rename_i hKont
        refine wp_region_lit (wp_load_pkt (p := qu) rfl rfl (by rfl) HU.out.pk ?_)
        refine wp_store_pkt qu zeroP rfl rfl (by rfl) (by rfl) HU.out.res (by rw [HQC.out.1]; rfl) (by rw [HQC.out.2]; rfl) ?_
        intro Wf HPf tf
        refine wpList_nil (hKont _ _ (wp_ret ?_))
        have HE := Lib.hid HU.out
        exact ⟨rfl, _, rcon_results Wf v _ _ rfl HPf.out, HE.out.turn.then tf (fun i hi e => by have := hv.out; omega), by rw [ho.out], by rw [ho.out]; exact HE.out.rd.other tf (fun k e => by have := HE.out.br; have := HE.out.rlt; have := HE.out.vw; omega)⟩
    | false =>
      rw [if_neg (by rw [HQU.out]; decide)] at ho
      have u11 : Ws5.cell? ⟨g, 11, none⟩ = some (.bool false) := by rw [← HQU.out]; exact HS5.out.pk.cell 11
      rw [k9] at ho
      cases b64 with
      | true =>
        rw [if_pos HQP.out] at ho
        have v12 : Ws5.cell? ⟨g, 12, none⟩ = some (.bool true) := by rw [← HQP.out]; exact HS5.out.pk.cell 12
        go_wp2_with (fail)
        obtain ⟨⟨pw, s13⟩, hs⟩ : ∃ x, rT s5 = x := ⟨_, rfl⟩
        refine (rT_at Ws5 r B s5 pw s13 hs HS5.out.rd).mono ?_
        rintro e W13 ⟨t, rfl, hR⟩
        rw [hs] at ho
        dsimp only at ho
        have H13 : Hid (RC w W13 r g v B q5 s13) := HS5.out.read t hR
        clear t hR
        clear hs v12
        have v14 : W13.cell? ⟨g, 14, none⟩ = some (.string q5.pass) := H13.out.pk.cell 14
        have z14 := H13.out.pk.frozen 14
        obtain ⟨qf, hqf⟩ : ∃ x : Pkt, Hid (x = { q5 with pass := pw }) := ⟨_, rfl⟩
        have HF : Hid (RC w (W13.setCell ⟨g, 14, none⟩ (.string pw)) r g v B qf s13) := by rw [hqf.out]; exact H13.out.set 14 _ _ rfl
        have HQC1 : Hid (qf.codes = nilV ∧ qf.subs = nilV) := by rw [hqf.out]; exact HQC.out
        rw [← hqf.out] at ho
        go_upto_region 18 with (fail)
        rename_i hKont
        refine wp_region_lit (wp_load_pkt (p := qf) rfl rfl (by rfl) HF.out.pk ?_)
        refine wp_store_pkt qf zeroP rfl rfl (by rfl) (by rfl) HF.out.res (by rw [HQC1.out.1]; rfl) (by rw [HQC1.out.2]; rfl) ?_
        intro Wf HPf tf
        refine wpList_nil (hKont _ _ (wp_ret ?_))
        have HE := Lib.hid HF.out
        exact ⟨rfl, _, rcon_results Wf v _ _ rfl HPf.out, HE.out.turn.then tf (fun i hi e => by have := hv.out; omega), by rw [ho.out], by rw [ho.out]; exact HE.out.rd.other tf (fun k e => by have := HE.out.br; have := HE.out.rlt; have := HE.out.vw; omega)⟩
      | false =>
        rw [if_neg (by rw [HQP.out]; decide)] at ho
        have v12 : Ws5.cell? ⟨g, 12, none⟩ = some (.bool false) := by rw [← HQP.out]; exact HS5.out.pk.cell 12
        go_upto_region 18 with (fail)
        rename_i hKont
        refine wp_region_lit (wp_load_pkt (p := q5) rfl rfl (by rfl) HS5.out.pk ?_)
        refine wp_store_pkt q5 zeroP rfl rfl (by rfl) (by rfl) HS5.out.res (by rw [HQC.out.1]; rfl) (by rw [HQC.out.2]; rfl) ?_
        intro Wf HPf tf
        refine wpList_nil (hKont _ _ (wp_ret ?_))
        have HE := Lib.hid HS5.out
        exact ⟨rfl, _, rcon_results Wf v _ _ rfl HPf.out, HE.out.turn.then tf (fun i hi e => by have := hv.out; omega), by rw [ho.out], by rw [ho.out]; exact HE.out.rd.other tf (fun k e => by have := HE.out.br; have := HE.out.rlt; have := HE.out.vw; omega)⟩
end Ref
end Go.Proofs.YteigakkghkjakaaDoor

namespace Go.Proofs.YteigakkghkjakaaDoor
open Go.RowKit Go.ChangeShapes
set_option linter.unusedVariables false
set_option linter.unusedSimpArgs false
namespace Ref
open Utf (nums nums_length nums_bytes IsStr nums_str)
open Var (BT info_byte GivesBytes digs digs_length)
open Pk

def rSubs : Nat → Int → RSt → List (ByteArray × Int) × RSt
  | 0, _, s => ([], s)
  | k + 1, ty, s =>
    if s.1 = [] ∨ s.2 = true then ([], s)
    else if ty = 8 then (((rT s).1, (r1 (rT s).2).1) :: (rSubs k ty (r1 (rT s).2).2).1, (rSubs k ty (r1 (rT s).2).2).2)
    else (((rT s).1, 0) :: (rSubs k ty (rT s).2).1, (rSubs k ty (rT s).2).2)
abbrev RPk := Pkt × List Int × List (ByteArray × Int) × RSt
def rPub (f : Int) (t : ByteArray) (s : RSt) : RPk :=
  if 0 < f / 2 % 4 then ({ typeP 3 with dup := digitB f 8, qos := f / 2 % 4, retain := digitB f 1, topic := t, id := (rW s).1, payload := strOfNums (rW s).2.1 }, [], [], (rW s).2)
  else ({ typeP 3 with dup := digitB f 8, qos := f / 2 % 4, retain := digitB f 1, topic := t, payload := strOfNums s.1 }, [], [], s)
def rPktR (f : Int) (s : RSt) : RPk :=
  if f / 16 = 1 then ((rConR (typeP 1) s).1, [], [], (rConR (typeP 1) s).2)
  else if f / 16 = 2 then ({ typeP 2 with present := digitB (r1 s).1 1 }, [(r1 (r1 s).2).1], [], (r1 (r1 s).2).2)
  else if f / 16 = 3 then rPub f (rT s).1 (rT s).2
  else if f / 16 = 4 ∨ f / 16 = 5 ∨ f / 16 = 6 ∨ f / 16 = 7 ∨ f / 16 = 11 then ({ typeP (f / 16) with id := (rW s).1 }, [], [], (rW s).2)
  else if f / 16 = 8 ∨ f / 16 = 10 then ({ typeP (f / 16) with id := (rW s).1 }, [], (rSubs (rW s).2.1.length (f / 16) (rW s).2).1, (rSubs (rW s).2.1.length (f / 16) (rW s).2).2)
  else if f / 16 = 9 then ({ typeP 9 with id := (rW s).1 }, (rW s).2.1, [], ([], (rW s).2.2))
  else (typeP (f / 16), [], [], s)

theorem r1_oct {L M : List Int} {x : Int} {b : Bool} (h : rdOct L = some (x, M)) : r1 (L, b) = (x, (M, b)) := by
  match L, h with
  | y :: N, h => cases h; rfl
theorem rW_word {L M : List Int} {x : Int} {b : Bool} (h : rdWord L = some (x, M)) : rW (L, b) = (x, (M, b)) := by
  match L, h with
  | a :: c :: N, h => cases h; rfl
theorem rT_text {L M : List Int} {x : ByteArray} {b : Bool} (h : rdText L = some (x, M)) : rT (L, b) = (x, (M, b)) := by
  unfold rdText at h
  cases hw : rdWord L with
  | none => rw [hw] at h; cases h
  | some y =>
    obtain ⟨n, N⟩ := y
    rw [hw] at h
    simp only at h
    split at h
    · cases h
      unfold rT
      rw [rW_word hw]
      rw [if_neg (by simp only; omega)]
    · cases h
theorem flag_all : ∀ n : Fin 256, (flagB n.1 1 = digitB n.1 1 ∧ flagB n.1 2 = digitB n.1 2 ∧ flagB n.1 4 = digitB n.1 4 ∧ flagB n.1 8 = digitB n.1 8 ∧ flagB n.1 32 = digitB n.1 32 ∧ flagB n.1 64 = digitB n.1 64 ∧ flagB n.1 128 = digitB n.1 128) ∧ bits .and .i64 ((n.1 : Int) / 8) 3 = (n.1 : Int) / 8 % 4 ∧ bits .and .i64 ((n.1 : Int) / 2) 3 = (n.1 : Int) / 2 % 4 := by decide +kernel
theorem flag_digit (f : Int) (h0 : 0 ≤ f) (h1 : f < 256) : (flagB f 1 = digitB f 1 ∧ flagB f 2 = digitB f 2 ∧ flagB f 4 = digitB f 4 ∧ flagB f 8 = digitB f 8 ∧ flagB f 32 = digitB f 32 ∧ flagB f 64 = digitB f 64 ∧ flagB f 128 = digitB f 128) ∧ bits .and .i64 (f / 8) 3 = f / 8 % 4 ∧ bits .and .i64 (f / 2) 3 = f / 2 % 4 := by
  obtain ⟨k, rfl⟩ : ∃ k : Nat, f = (k : Int) := ⟨f.toNat, by omega⟩
  exact flag_all ⟨k, by omega⟩
theorem c9 {p q : Pkt} {L M : List Int} {b : Bool} (h : con9 p L = some (q, M)) : k9 p (L, b) = (q, (M, b)) := by
  unfold con9 at h
  unfold k9
  split at h
  · rename_i hp
    rw [if_pos hp]
    cases hr : rdText L with
    | none => rw [hr] at h; cases h
    | some x => obtain ⟨s, N⟩ := x; rw [hr] at h; cases h; rw [rT_text hr]
  · rename_i hp
    rw [if_neg hp]
    cases h; rfl
theorem c8 {p q : Pkt} {L M : List Int} {b : Bool} (h : con8 p L = some (q, M)) : k8 p (L, b) = (q, (M, b)) := by
  unfold con8 at h
  unfold k8
  split at h
  · rename_i hp
    rw [if_pos hp]
    cases hr : rdText L with
    | none => rw [hr] at h; cases h
    | some x => obtain ⟨s, N⟩ := x; rw [hr, Option.bind_some] at h; rw [rT_text hr]; exact c9 h
  · rename_i hp
    rw [if_neg hp]
    exact c9 h
theorem c6 {p q : Pkt} {L M : List Int} {b : Bool} (h : con6 p L = some (q, M)) : k6 p (L, b) = (q, (M, b)) := by
  unfold con6 at h
  unfold k6
  cases hr : rdText L with
  | none => rw [hr] at h; cases h
  | some x =>
    obtain ⟨s, N⟩ := x
    rw [hr, Option.bind_some] at h
    rw [rT_text hr]
    unfold con7 at h
    unfold k7
    simp only at h ⊢
    cases hr2 : rdText N with
    | none => rw [hr2] at h; cases h
    | some y => obtain ⟨s2, N2⟩ := y; rw [hr2, Option.bind_some] at h; rw [rT_text hr2]; exact c8 h
theorem cCon {p q : Pkt} {L M : List Int} {b : Bool} (hb : ∀ x ∈ L, 0 ≤ x ∧ x < 256) (h : rdCon p L = some (q, M)) : rConR p (L, b) = (q, (M, b)) := by
  unfold rdCon at h
  unfold rConR
  cases h1 : rdText L with
  | none => rw [h1] at h; cases h
  | some x =>
    obtain ⟨s, N⟩ := x
    have hN : ∀ x ∈ N, 0 ≤ x ∧ x < 256 := by
      unfold rdText at h1
      cases hw : rdWord L with
      | none => rw [hw] at h1; cases h1
      | some y =>
        obtain ⟨n, K⟩ := y
        rw [hw] at h1
        simp only at h1
        split at h1
        · cases h1
          match L, hw with
          | a :: c :: O, hw => cases hw; exact fun x hx => hb x (by simp [List.mem_of_mem_drop hx])
        · cases h1
    rw [h1, Option.bind_some] at h
    rw [rT_text h1]
    simp only at h ⊢
    split at h
    · unfold con1 at h
      unfold k1
      cases h2 : rdOct N with
      | none => rw [h2] at h; cases h
      | some y =>
        obtain ⟨l, O⟩ := y
        have hO : ∀ x ∈ O, 0 ≤ x ∧ x < 256 := by
          match N, h2 with
          | a :: O', h2 => cases h2; exact fun x hx => hN x (by simp [hx])
        rw [h2, Option.bind_some] at h
        rw [r1_oct h2]
        simp only at h ⊢
        split at h
        · unfold con2 at h
          unfold k2
          cases h3 : rdOct O with
          | none => rw [h3] at h; cases h
          | some z =>
            obtain ⟨f, R⟩ := z
            rw [h3, Option.bind_some] at h
            rw [r1_oct h3]
            obtain ⟨hf0, hf1⟩ : 0 ≤ f ∧ f < 256 := by
              match O, h3 with
              | a :: O', h3 => cases h3; exact hO f (by simp)
            obtain ⟨⟨e1, e2, e4, e8, e32, e64, e128⟩, q8, q2⟩ := flag_digit f hf0 hf1
            unfold con3 at h
            unfold k3
            simp only at h ⊢
            have hfl : p.flag f = p.flagR f := by unfold Pkt.flag Pkt.flagR; rw [e2, e4, e64, e128]
            cases h4 : rdWord R with
            | none => rw [h4] at h; cases h
            | some u =>
              obtain ⟨al, R2⟩ := u
              rw [h4, Option.bind_some, hfl] at h
              rw [rW_word h4]
              unfold con4 at h
              unfold k4
              simp only at h ⊢
              cases h5 : rdText R2 with
              | none => rw [h5] at h; cases h
              | some t =>
                obtain ⟨cl, R3⟩ := t
                rw [h5, Option.bind_some] at h
                rw [rT_text h5]
                unfold con5 at h
                unfold k5
                simp only at h ⊢
                rw [e32, q8] at h
                split at h
                · rename_i hw
                  rw [if_pos hw]
                  exact c6 h
                · rename_i hw
                  rw [if_neg hw]
                  exact c8 h
        · cases h
    · cases h
theorem rSubs_end (k : Nat) (ty : Int) (b : Bool) : rSubs k ty ([], b) = ([], ([], b)) := by
  cases k with
  | zero => rfl
  | succ k => rw [rSubs, if_pos (.inl rfl)]
theorem rSubs_of (ty : Int) : ∀ (k : Nat) (L : List Int) (D : List (ByteArray × Int)), rdSubs k ty L = some D → rSubs k ty (L, false) = (D, ([], false)) := by
  intro k
  induction k with
  | zero =>
    intro L D h
    unfold rdSubs at h
    split at h
    · rename_i hL; cases h; subst hL; rfl
    · cases h
  | succ k ih =>
    intro L D h
    unfold rdSubs at h
    split at h
    · rename_i hL; cases h; subst hL; exact rSubs_end _ _ _
    · rename_i hL
      rw [rSubs, if_neg (by simp [hL])]
      cases h1 : rdText L with
      | none => rw [h1] at h; cases h
      | some x =>
        obtain ⟨s, M⟩ := x
        rw [h1, Option.bind_some] at h
        rw [rT_text h1]
        simp only at h ⊢
        by_cases h8 : ty = 8
        · rw [if_pos h8] at h ⊢
          cases h2 : rdOct M with
          | none => rw [h2] at h; cases h
          | some y =>
            obtain ⟨q, N⟩ := y
            rw [h2, Option.bind_some] at h
            rw [r1_oct h2]
            simp only at h ⊢
            cases h3 : rdSubs k ty N with
            | none => rw [h3] at h; cases h
            | some E => rw [h3] at h; cases h; rw [ih N E h3]
        · rw [if_neg h8] at h ⊢
          cases h3 : rdSubs k ty M with
          | none => rw [h3] at h; cases h
          | some E => rw [h3] at h; cases h; rw [ih M E h3]
theorem rPkt_of {f : Int} {L : List Int} {p : Pkt} {C : List Int} {D : List (ByteArray × Int)} (h : rdPkt f L = some (p, C, D)) (h0 : 0 ≤ f) (h1 : f < 256) (ht : 1 ≤ f / 16 ∧ f / 16 ≤ 14) (hb : ∀ x ∈ L, 0 ≤ x ∧ x < 256) (h2 : f / 16 = 2 → lat L 0 = 0 ∨ lat L 0 = 1) : ∃ M, rPktR f (L, false) = (p, C, D, (M, false)) := by
  obtain ⟨⟨e1, e2, e4, e8, e32, e64, e128⟩, q8, q2⟩ := flag_digit f h0 h1
  unfold rdPkt at h
  unfold rPktR
  split at h
  · rename_i ht1
    rw [if_pos ht1]
    cases hr : rdCon (typeP 1) L with
    | none => rw [hr] at h; cases h
    | some x => obtain ⟨q, M⟩ := x; rw [hr, Option.bind_some] at h; cases h; exact ⟨M, by rw [cCon hb hr]⟩
  · rename_i ht1
    rw [if_neg ht1]
    split at h
    · rename_i ht2
      rw [if_pos ht2]
      cases hr : rdOct L with
      | none => rw [hr] at h; cases h
      | some x =>
        obtain ⟨a, M⟩ := x
        rw [hr, Option.bind_some] at h
        cases hr2 : rdOct M with
        | none => rw [hr2] at h; cases h
        | some y =>
          obtain ⟨c, N⟩ := y
          rw [hr2, Option.bind_some] at h
          cases h
          have ha : lat L 0 = a := by
            match L, hr with
            | a' :: M', hr => cases hr; rfl
          have hd : digitB a 1 = (a == 1) := by
            have := h2 ht2
            rw [ha] at this
            rcases this with e | e <;> subst e <;> rfl
          exact ⟨N, by rw [r1_oct hr]; simp only; rw [r1_oct hr2, hd]⟩
    · rename_i ht2
      rw [if_neg ht2]
      split at h
      · rename_i ht3
        rw [if_pos ht3]
        cases hr : rdText L with
        | none => rw [hr] at h; cases h
        | some x =>
          obtain ⟨t, M⟩ := x
          rw [hr, Option.bind_some] at h
          rw [rT_text hr]
          unfold pub3 at h
          unfold rPub
          simp only at h ⊢
          rw [q2, e8, e1] at h
          split at h
          · rename_i hq
            rw [if_pos hq]
            cases hw : rdWord M with
            | none => rw [hw] at h; cases h
            | some y => obtain ⟨n, N⟩ := y; rw [hw, Option.bind_some] at h; cases h; exact ⟨N, by rw [rW_word hw]⟩
          · rename_i hq
            rw [if_neg hq]
            cases h; exact ⟨M, rfl⟩
      · rename_i ht3
        rw [if_neg ht3]
        split at h
        · rename_i ht12
          rw [if_neg (by omega), if_neg (by omega), if_neg (by omega)]
          cases h; exact ⟨L, rfl⟩
        · rename_i ht12
          cases hw : rdWord L with
          | none => rw [hw] at h; cases h
          | some y =>
            obtain ⟨n, N⟩ := y
            rw [hw, Option.bind_some] at h
            rw [rW_word hw]
            simp only at h ⊢
            split at h
            · rename_i ht9
              rw [if_neg (by omega), if_neg (by omega), if_pos ht9]
              cases h; exact ⟨[], rfl⟩
            · rename_i ht9
              split at h
              · rename_i ht8
                rw [if_neg (by omega), if_pos ht8]
                cases hr : rdSubs N.length (f / 16) N with
                | none => rw [hr] at h; cases h
                | some E => rw [hr, Option.bind_some] at h; cases h; exact ⟨[], by rw [rSubs_of _ _ _ _ hr]⟩
              · rename_i ht8
                rw [if_pos (by omega)]
                cases h; exact ⟨N, rfl⟩
/-- What the reference reads of a packet's bytes is that packet. -/
theorem ref_is {L : List Int} {p : Pkt} {C : List Int} {D : List (ByteArray × Int)} (hI : IsPkt L p C D) (hby : ∀ x ∈ L, 0 ≤ x ∧ x < 256) {f : Int} {M : List Int} (hf : lat L 0 = f) (hM : M = bodyB p C D) {q : Pkt} {C' : List Int} {D' : List (ByteArray × Int)} {s : RSt} (hr : rPktR f (M, false) = (q, C', D', s)) (vc vs : Value) (h1 : Pk.rowLen vc = C'.length) (h2 : Pk.rowLen vs = D'.length) :
    s.2 = false ∧ May (q.rows vc vs) C' D' ∧ bytesB (q.rows vc vs) C' D' = L := by
  have hG := hI.2.1.1
  have hL0 : f = 16 * p.ty + flagsN p := by rw [← hf, ← hI.2.2]; rfl
  have hmem : f ∈ L := by
    rw [← hI.2.2]
    rw [hL0]
    simp [bytesB]
  obtain ⟨b0, b1⟩ := hby f hmem
  have hfl : 0 ≤ flagsN p ∧ flagsN p < 16 := by
    unfold flagsN
    split
    · rename_i h3
      have hq := (hG.2.2.1.2.2.1 h3).2.2
      have d := bitN_range p.dup 8 (by decide)
      have r := bitN_range p.retain 1 (by decide)
      omega
    · split <;> omega
  have hdr := (pkt_tell hI).2.1
  have hMb : ∀ x ∈ M, 0 ≤ x ∧ x < 256 := by rw [hM, ← hdr]; exact fun x hx => hby x (List.mem_of_mem_drop hx)
  have hread := read_back p C D hG hI.1
  rw [← hL0, ← hM] at hread
  have htt : f / 16 = p.ty := by rw [hL0]; omega
  obtain ⟨N, hN⟩ := rPkt_of hread b0 b1 (by rw [htt]; exact ⟨hG.1, hG.2.1⟩) hMb (fun h => by
    rw [htt] at h
    rw [hM]
    unfold bodyB
    rw [if_neg (by omega), if_pos h]
    cases p.present
    · exact .inl rfl
    · exact .inr rfl)
  rw [hr] at hN
  injection hN with a1 hN
  injection hN with a2 hN
  injection hN with a3 a4
  subst a4
  have hd := read_is hI hf hM (q := q) (C' := C') (D' := D') (by rw [a1, a2, a3]; exact hread) vc vs h1 h2
  exact ⟨rfl, hd⟩

theorem r1_len (s : RSt) : (r1 s).2.1.length ≤ s.1.length := by
  obtain ⟨L, b⟩ := s
  cases L with
  | nil => exact Nat.le_refl _
  | cons x M => simp [r1]
theorem rW_len (s : RSt) : (rW s).2.1.length ≤ s.1.length := Nat.le_trans (r1_len _) (r1_len s)
theorem rT_len (s : RSt) : (rT s).2.1.length ≤ s.1.length ∧ (rT s).1.size ≤ s.1.length := by
  have h := rW_len s
  unfold rT
  split
  · exact ⟨h, Nat.zero_le _⟩
  · refine ⟨?_, ?_⟩
    · simp only [List.length_drop]; omega
    · simp only [strOfNums_size, List.length_take]; omega
theorem rSubs_len (ty : Int) : ∀ (k : Nat) (s : RSt), (rSubs k ty s).1.length ≤ k := by
  intro k
  induction k with
  | zero => intro s; exact Nat.le_refl _
  | succ k ih =>
    intro s
    rw [rSubs]
    split
    · exact Nat.zero_le _
    · split
      · have := ih (r1 (rT s).2).2; rw [List.length_cons]; omega
      · have := ih (rT s).2; rw [List.length_cons]; omega
/-- A packet's strings are no longer than K. -/
structure Sk (K : Nat) (p : Pkt) : Prop where
  client : p.client.size ≤ K
  user : p.user.size ≤ K
  pass : p.pass.size ≤ K
  topic : p.topic.size ≤ K
  payload : p.payload.size ≤ K
theorem k9_sk {K : Nat} {p : Pkt} {s : RSt} (h : Sk K p) (hs : s.1.length ≤ K) : Sk K (k9 p s).1 := by
  have := rT_len s
  unfold k9
  split
  · exact ⟨h.client, h.user, by show (rT s).1.size ≤ K; omega, h.topic, h.payload⟩
  · exact h
theorem k8_sk {K : Nat} {p : Pkt} {s : RSt} (h : Sk K p) (hs : s.1.length ≤ K) : Sk K (k8 p s).1 := by
  have := rT_len s
  unfold k8
  split
  · exact k9_sk ⟨h.client, by show (rT s).1.size ≤ K; omega, h.pass, h.topic, h.payload⟩ (by omega)
  · exact k9_sk h hs
theorem con_sk {K : Nat} {p : Pkt} {s : RSt} (h : Sk K p) (hs : s.1.length ≤ K) : Sk K (rConR p s).1 := by
  have a1 := (rT_len s).1
  have a2 := r1_len (rT s).2
  have a3 := r1_len (r1 (rT s).2).2
  have a4 := rW_len (r1 (r1 (rT s).2).2).2
  have a5 := rT_len (rW (r1 (r1 (rT s).2).2).2).2
  unfold rConR k1 k2 k3 k4 k5
  split
  · have a6 := rT_len (rT (rW (r1 (r1 (rT s).2).2).2).2).2
    have a7 := rT_len (rT (rT (rW (r1 (r1 (rT s).2).2).2).2).2).2
    unfold k6 k7
    exact k8_sk ⟨by show (rT _).1.size ≤ K; omega, h.user, h.pass, by show (rT _).1.size ≤ K; omega, by show (rT _).1.size ≤ K; omega⟩ (by omega)
  · exact k8_sk ⟨by show (rT _).1.size ≤ K; omega, h.user, h.pass, h.topic, h.payload⟩ (by omega)
theorem type_sk (K : Nat) (t : Int) : Sk K (typeP t) := ⟨Nat.zero_le _, Nat.zero_le _, Nat.zero_le _, Nat.zero_le _, Nat.zero_le _⟩
theorem rPkt_fit (f : Int) (s : RSt) : Sk s.1.length (rPktR f s).1 ∧ (rPktR f s).2.1.length ≤ s.1.length + 1 ∧ (rPktR f s).2.2.1.length ≤ s.1.length := by
  have hw := rW_len s
  have ht := rT_len s
  unfold rPktR
  split
  · exact ⟨con_sk (type_sk _ _) (Nat.le_refl _), by simp, by simp⟩
  · split
    · exact ⟨⟨Nat.zero_le _, Nat.zero_le _, Nat.zero_le _, Nat.zero_le _, Nat.zero_le _⟩, by simp, by simp⟩
    · split
      · have hw2 := rW_len (rT s).2
        unfold rPub
        split
        · exact ⟨⟨Nat.zero_le _, Nat.zero_le _, Nat.zero_le _, ht.2, by show (strOfNums _).size ≤ _; rw [strOfNums_size]; omega⟩, by simp, by simp⟩
        · exact ⟨⟨Nat.zero_le _, Nat.zero_le _, Nat.zero_le _, ht.2, by show (strOfNums _).size ≤ _; rw [strOfNums_size]; omega⟩, by simp, by simp⟩
      · split
        · exact ⟨⟨Nat.zero_le _, Nat.zero_le _, Nat.zero_le _, Nat.zero_le _, Nat.zero_le _⟩, by simp, by simp⟩
        · split
          · have := rSubs_len (f / 16) (rW s).2.1.length (rW s).2
            exact ⟨⟨Nat.zero_le _, Nat.zero_le _, Nat.zero_le _, Nat.zero_le _, Nat.zero_le _⟩, by simp, by simp only; omega⟩
          · split
            · exact ⟨⟨Nat.zero_le _, Nat.zero_le _, Nat.zero_le _, Nat.zero_le _, Nat.zero_le _⟩, by simp only; omega, by simp⟩
            · exact ⟨type_sk _ _, by simp, by simp⟩
end Ref
end Go.Proofs.YteigakkghkjakaaDoor

/- utf.Text; basculeref09.Text. -/
import Derived.Test.YthigialbjbpkpaaDoorUtfD
namespace Go.Proofs.YthigialbjbpkpaaDoor
open Go.RowKit
set_option linter.unusedVariables false
set_option linter.unusedSimpArgs false
namespace Utf

theorem enc_rune (r : Int) (h : Good r) : Lib.encodeRuneZ r = enc r := by
  obtain ⟨h1, h2, h3⟩ := h
  unfold enc
  by_cases c1 : r < 128
  · rw [if_pos c1, Lib.encodeRuneZ_one (by omega) (by omega)]
  · rw [if_neg c1]
    by_cases c2 : r < 2048
    · rw [if_pos c2, Lib.encodeRuneZ_two (by omega) (by omega)]
    · rw [if_neg c2]
      by_cases c3 : r < 65536
      · rw [if_pos c3, Lib.encodeRuneZ_three (by omega)]
      · rw [if_neg c3, Lib.encodeRuneZ_four (by omega) (by omega)]

theorem apprune (w : World) (base : Nat) (A : Option Addr) (c : Nat) (B : List Int) (r : Int) (hg : Good r) (hO : OwnInts w base 5 .u8 (.slice A B.length c) B) (hbase : base ≤ w.heap.size) (hlen : B.length ≤ 70000) :
    Calls Tryd.prog 18 #[.slice A B.length c, .int .i32 r] w fun e w' => ∃ A' c', e = .returned (.slice A' (B ++ enc r).length c') ∧ OwnInts w' base 5 .u8 (.slice A' (B ++ enc r).length c') (B ++ enc r) ∧ Turn (fun j => (Value.slice A B.length c).ownBlock = some j) w w' := by
  refine (Tryd.utf8_AppendRune_plain base _ B.length _ r (by have := hg.1; omega) (by have := hg.2.1; omega) w hO (by omega) hbase).mono ?_
  rintro e w' ⟨v', rfl, ho, o, hgr⟩
  have he : Lib.runeCells r = (enc r).map (Value.int .u8) := by unfold Lib.runeCells; rw [enc_rune r hg]
  rw [he] at ho
  have h2 : OwnInts w' base 5 .u8 v' (B ++ enc r) := by
    unfold OwnInts
    rw [List.length_append, List.map_append]
    simpa using ho
  obtain ⟨A', c', rfl, _⟩ := h2.form
  exact ⟨A', c', rfl, h2, (Turn.alloc w o).trans (Turn.of_grownBy hgr (fun k e => e))⟩

def TextPost (w : World) (L : List Int) (e : Ending) (w' : World) : Prop :=
  Below w.heap.size w w' ∧ ((AllGood L ∧ (encs L).length ≤ 65535 ∧ e = .returned (.tuple #[.string (strOfNums (encs L)), .int .i64 0])) ∨
    (¬ (AllGood L ∧ (encs L).length ≤ 65535) ∧ e = .returned (.tuple #[.string ⟨#[]⟩, .int .i64 1])))

theorem encs_take_le (L : List Int) (k : Nat) : (encs (L.take k)).length ≤ (encs L).length := by
  have : encs L = encs (L.take k) ++ encs (L.drop k) := by rw [← encs_app, List.take_append_drop]
  rw [this, List.length_append]
  omega

/-- string(b) of a row of bytes, as the law needs it. -/
theorem conv_bytes {W : World} {base : Nat} {A : Option Addr} {n c : Nat} {L : List Int} (h : OwnInts W base 5 .u8 (.slice A n c) L) :
    (convert 37 9 (.slice A n c)).run Tryd.prog W = .ok (.string (strOfNums L)) W := conv_own (e := 5) Tryd.underlying37 Tryd.underlying5 Tryd.underlying9 h

set_option maxHeartbeats 1000000 in
theorem text_calls (w : World) (A0 : Option Addr) (L : List Int) (c0 : Nat) (hL : Reads .i64 w A0 L) (hbd : (L.length : Int) ≤ 70000) :
    Calls Tryd.prog 12 #[.slice A0 L.length c0] w fun e w' => TextPost w L e w' := by
  have HL := Lib.hid hL
  have HBD := Lib.hid hbd
  clear hL hbd
  go_enter Tryd.func12, Tryd.ntmps12
  go_wp2_with (fail)
  go_loopw [4, 9] (fun out x wr => ∃ (k : Nat) (A : Option Addr) (c : Nat) (B : List Int), k ≤ L.length ∧ x = .int .i64 k ∧ out = .slice A B.length c ∧ Hid (B = encs (L.take k)) ∧ Hid (AllGood (L.take k)) ∧ Hid (B.length ≤ 65539) ∧ Hid (OwnInts wr w.heap.size 5 .u8 (.slice A B.length c) B) ∧ Below w.heap.size w wr) (fun _ x _ => L.length - (intOf x).toNat)
  case atStart => exact ⟨0, none, 0, [], Nat.zero_le _, rfl, rfl, rfl, fun n h => by simp at h, by simp [Hid], OwnInts.nil _ _ _ _, Below.refl _ _⟩
  case round =>
    obtain ⟨k, A, c, B, hk, rfl, rfl, hBe, hG, hBl, hO, hB⟩ := hrel
    have HB := Lib.hid hB
    clear hB
    have hkb : (k : Int) ≤ 70000 := by have := HBD.out; omega
    by_cases hkl : k < L.length
    · obtain ⟨x, rfl, hcell⟩ := HL.out (by omega)
      have hc0 := hcell k hkl
      have hcw := (HB.out.cell (World.block_lt_of_cell? w _ hc0)).trans hc0
      clear hcell hc0
      obtain ⟨v, hv⟩ : ∃ v, Hid (v = lat L k) := ⟨_, rfl⟩
      rw [← hv.out] at hcw
      have hmem : Hid (v ∈ L) := by rw [Hid, hv.out]; exact lat_mem L k hkl
      by_cases h1 : v < 1
      · have hd1 := decide_eq_true h1
        have hbad : Hid (¬ (AllGood L ∧ (encs L).length ≤ 65535)) := fun h => by have := (h.1 v hmem.out).1; omega
        clear h1
        go_wp2_with (fail)
        go_ret2
        exact ⟨HB.out, .inr ⟨hbad.out, rfl⟩⟩
      have hd1 := decide_eq_false h1
      by_cases h2 : 1114111 < v
      · have hd2 := decide_eq_true h2
        have hbad : Hid (¬ (AllGood L ∧ (encs L).length ≤ 65535)) := fun h => by have := (h.1 v hmem.out).2.1; omega
        clear h1 h2
        go_wp2_with (fail)
        go_ret2
        exact ⟨HB.out, .inr ⟨hbad.out, rfl⟩⟩
      have hd2 := decide_eq_false h2
      have hv1 : 1 ≤ v := by omega
      have hv2 : v ≤ 1114111 := by omega
      clear h1 h2
      by_cases h3 : v < 55296 ∨ 57343 < v
      · have hvr : Hid (Lib.validRune v = true) := decide_eq_true (by omega)
        have hgv : Hid (Good v) := ⟨hv1, hv2, h3⟩
        clear h3
        by_cases h4 : (65535 : Int) < (B.length : Int)
        · have hd4 := decide_eq_true h4
          have hbad : Hid (¬ (AllGood L ∧ (encs L).length ≤ 65535)) := fun h => by
            have := encs_take_le L k
            rw [← hBe.out] at this
            omega
          clear h4
          go_wp2_with (fail)
          refine (Tryd.utf8_ValidRune v _).mono ?_
          rw [hvr.out]
          rintro e w1 ⟨rfl, rfl⟩
          go_wp2_with (fail)
          go_ret2
          exact ⟨HB.out, .inr ⟨hbad.out, rfl⟩⟩
        · have hd4 := decide_eq_false h4
          have h4' : Hid (B.length ≤ 65535) := by rw [Hid]; omega
          clear h4
          go_wp2_with (fail)
          refine (Tryd.utf8_ValidRune v _).mono ?_
          rw [hvr.out]
          rintro e w1 ⟨rfl, rfl⟩
          go_wp2_with (fail)
          refine (apprune _ w.heap.size A c B v hgv.out hO.out HB.out.size (by have := h4'.out; omega)).mono ?_
          rintro e w1 ⟨A1, c1, rfl, ho1, ht1⟩
          have HO1 := Lib.hid ho1
          have HB1 := Lib.hid (ht1.belowTrans HB.out HB.out.size (fun j hj e => by have := (own_block_ge hO.out j e).1; omega))
          clear ho1 ht1
          go_wp2_with (fail)
          go_roundw
          case rel =>
            refine ⟨k + 1, A1, c1, B ++ enc v, by omega, by go_num, by simp, ?_, ?_, ?_, by simp only [Hid, List.length_append]; have := HO1.out; rw [List.length_append] at this; exact this, HB1.out⟩
            · rw [Hid, take_lat L k hkl, encs_app, encs_one, hBe.out, hv.out]
            · rw [Hid, take_lat L k hkl]
              intro y hy
              simp only [List.mem_append, List.mem_singleton] at hy
              rcases hy with hy | rfl
              · exact hG.out y hy
              · rw [← hv.out]; exact hgv.out
            · have h5 := enc_length v; have h6 := (encLen_range v).2; have h7 := h4'.out
              rw [Hid, List.length_append]; omega
          case measure => simp [intOf]; omega
      · have hvr : Hid (Lib.validRune v = false) := decide_eq_false (by omega)
        have hbad : Hid (¬ (AllGood L ∧ (encs L).length ≤ 65535)) := fun h => h3 (h.1 v hmem.out).2.2
        clear h3
        go_wp2_with (fail)
        refine (Tryd.utf8_ValidRune v _).mono ?_
        rw [hvr.out]
        rintro e w1 ⟨rfl, rfl⟩
        go_wp2_with (fail)
        go_ret2
        exact ⟨HB.out, .inr ⟨hbad.out, rfl⟩⟩
    · have hke : k = L.length := by omega
      subst hke
      rw [List.take_length] at hBe hG
      clear hkl hk
      have hcv := conv_bytes hO.out
      by_cases h4 : (65535 : Int) < (B.length : Int)
      · have hd4 := decide_eq_true h4
        have hbad : Hid (¬ (AllGood L ∧ (encs L).length ≤ 65535)) := fun h => by
          have := h.2
          rw [← hBe.out] at this
          omega
        clear h4
        go_wp2_with (fail)
        go_ret2
        exact ⟨HB.out, .inr ⟨hbad.out, rfl⟩⟩
      · have hd4 := decide_eq_false h4
        have h4' : Hid ((encs L).length ≤ 65535) := by rw [Hid, ← hBe.out]; omega
        clear h4
        go_wp2_with (fail)
        go_ret2
        exact ⟨HB.out, .inl ⟨hG.out, h4'.out, by rw [← hBe.out]; rfl⟩⟩

end Utf
end Go.Proofs.YthigialbjbpkpaaDoor

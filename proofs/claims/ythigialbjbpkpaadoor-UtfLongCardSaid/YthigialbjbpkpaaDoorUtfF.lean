/- basculeref09.Text; awake. -/
import Derived.Test.YthigialbjbpkpaaDoorUtfE
namespace Go.Proofs.YthigialbjbpkpaaDoor
open Go.RowKit
set_option linter.unusedVariables false
set_option linter.unusedSimpArgs false
namespace Utf

theorem nums_append (a b : ByteArray) : nums (a ++ b) = nums a ++ nums b := by
  unfold nums
  rw [ByteArray.data_append, Array.toList_append, List.map_append]

def RTextPost (w : World) (L : List Int) (e : Ending) (w' : World) : Prop :=
  Below w.heap.size w w' ∧ ((AllGood L ∧ e = .returned (.tuple #[.string (strOfNums (encs L)), .bool (decide ((encs L).length ≤ 65535))])) ∨
    (¬ AllGood L ∧ e = .returned (.tuple #[.string ⟨#[]⟩, .bool false])))

set_option maxHeartbeats 1000000 in
theorem rtext_calls (w : World) (A0 : Option Addr) (L : List Int) (c0 : Nat) (hL : Reads .i64 w A0 L) (hbd : (L.length : Int) ≤ 70000) :
    Calls Tryd.prog 13 #[.slice A0 L.length c0] w fun e w' => RTextPost w L e w' := by
  have HL := Lib.hid hL
  have HBD := Lib.hid hbd
  clear hL hbd
  go_enter Tryd.func13, Tryd.ntmps13
  go_wp2_with (fail)
  go_loopw [4, 5] (fun out x wr => ∃ (k : Nat) (b : ByteArray), k ≤ L.length ∧ x = .int .i64 k ∧ out = .string b ∧ Hid (nums b = encs (L.take k)) ∧ Hid (AllGood (L.take k)) ∧ Below w.heap.size w wr) (fun _ x _ => L.length - (intOf x).toNat)
  case atStart => exact ⟨0, ⟨#[]⟩, Nat.zero_le _, rfl, rfl, rfl, fun n h => by simp at h, Below.refl _ _⟩
  case round =>
    obtain ⟨k, b, hk, rfl, rfl, hBe, hG, hB⟩ := hrel
    have HB := Lib.hid hB
    clear hB
    have hkb : (k : Int) ≤ 70000 := by have := HBD.out; omega
    by_cases hkl : k < L.length
    · obtain ⟨x, rfl, hcell⟩ := HL.out (by omega)
      have hc0 := hcell k hkl
      have hcw := (HB.out.cell (World.block_lt_of_cell? w _ hc0)).trans hc0
      clear hcell hc0
      obtain ⟨v, hv⟩ : ∃ v, Hid (v = lat L k) := ⟨_, rfl⟩
      rw [← hv.out] at hcw
      have hmem : Hid (v ∈ L) := by rw [Hid, hv.out]; exact lat_mem L k hkl
      by_cases hg : Good v
      · have hp : Hid (∀ W, Calls Tryd.prog 19 #[.int .i64 v] W fun e w' => e = .returned (.bool true) ∧ W = w') := fun W => by have := rpoint_calls W v; rw [decide_eq_true hg] at this; exact this
        have HG := Lib.hid hg
        clear hg
        have hsz : ((b.size : Nat) : Int) + (((strOfNums (enc v)).size : Nat) : Int) ≤ 9223372036854775807 := by
          have h1 := encs_length4 (L.take k)
          rw [← hBe.out, nums_length] at h1
          have h2 := List.length_take_le k L
          have h3 := enc_length v
          have h4 := (encLen_range v).2
          rw [strOfNums_size]
          omega
        go_wp2_with (fail)
        refine (hp.out _).mono ?_
        rintro e w1 ⟨rfl, rfl⟩
        go_wp2_with (fail)
        refine (rbytes_calls _ v HG.out).mono ?_
        rintro e w1 ⟨rfl, hb1⟩
        have HB1 := Lib.hid (HB.out.trans (hb1.mono HB.out.size))
        clear hb1
        go_wp2_with (fail)
        go_roundw
        case rel =>
          refine ⟨k + 1, b ++ strOfNums (enc v), by omega, by go_num, rfl, ?_, ?_, HB1.out⟩
          · rw [Hid, nums_append, hBe.out, nums_str _ (enc_bytes v HG.out), take_lat L k hkl, encs_app, encs_one, hv.out]
          · rw [Hid, take_lat L k hkl]
            intro y hy
            simp only [List.mem_append, List.mem_singleton] at hy
            rcases hy with hy | rfl
            · exact hG.out y hy
            · rw [← hv.out]; exact HG.out
        case measure => simp [intOf]; omega
      · have hp : Hid (∀ W, Calls Tryd.prog 19 #[.int .i64 v] W fun e w' => e = .returned (.bool false) ∧ W = w') := fun W => by have := rpoint_calls W v; rw [decide_eq_false hg] at this; exact this
        have hbad : Hid (¬ AllGood L) := fun h => hg (h v hmem.out)
        clear hg
        go_wp2_with (fail)
        refine (hp.out _).mono ?_
        rintro e w1 ⟨rfl, rfl⟩
        go_wp2_with (fail)
        go_ret2
        exact ⟨HB.out, .inr ⟨hbad.out, rfl⟩⟩
    · have hke : k = L.length := by omega
      subst hke
      rw [List.take_length] at hBe hG
      clear hkl hk
      obtain ⟨q, hq⟩ : ∃ q, decide ((b.size : Int) ≤ 65535) = q := ⟨_, rfl⟩
      have hbe : Hid (b = strOfNums (encs L)) := nums_inj (by rw [hBe.out, nums_str _ (encs_bytes L hG.out)])
      have hqe : Hid (decide ((encs L).length ≤ 65535) = q) := by
        rw [Hid, ← hq, decide_eq_decide, ← hBe.out, nums_length]
        omega
      go_wp2_with (fail)
      go_ret2
      exact ⟨HB.out, .inl ⟨hG.out, by rw [hqe.out, ← hbe.out]; rfl⟩⟩

theorem not_str {L : List Int} (hne : L ≠ []) (h : ∀ n, Good n → ¬ PreA n L.length (lat L 0) (lat L 1) (lat L 2) (lat L 3)) : ∀ l, ¬ IsStr L l := by
  intro l hl
  cases l with
  | nil => exact hne (by rw [hl.2.1]; rfl)
  | cons n l =>
    have h2 := hl.2.1
    rw [encs_cons] at h2
    exact h n (hl.1 n (by simp)) ((pre_iff n L).1 ⟨encs l, h2.symm⟩)

theorem str_a : IsStr (nums ⟨#[97, 195, 164, 226, 130, 172]⟩) [97, 228, 8364] :=
  ⟨fun n hn => by simp at hn; rcases hn with rfl | rfl | rfl <;> decide, by decide, by decide⟩
theorem lit_reads (w : World) (k : IntKind) (t : TypeId) (xs : List Int) (C : Array Value) (hC : C = (xs.map (Value.int k)).toArray) : Reads k (w.alloc (.cells C t)) (some ⟨w.heap.size, 0, none⟩) xs := by
  subst hC
  intro h0
  refine ⟨_, rfl, fun i hi => ?_⟩
  rw [add_plain0, cell_heap (heap_new _ _)]
  simp [List.getElem?_eq_getElem hi, lat_get _ _ hi]

theorem no_c0 : ∀ l, ¬ IsStr (nums ⟨#[192, 128]⟩) l := not_str (by decide) (by
  intro n hn h
  obtain ⟨h1, h2, h3⟩ := hn
  rw [show nums ⟨#[192, 128]⟩ = [192, 128] from rfl] at h
  simp [PreA, lat] at h
  omega)
theorem no_00 : ∀ l, ¬ IsStr (nums ⟨#[0]⟩) l := not_str (by decide) (by
  intro n hn h
  obtain ⟨h1, h2, h3⟩ := hn
  rw [show nums ⟨#[0]⟩ = [0] from rfl] at h
  simp [PreA, lat] at h
  omega)
theorem yes_nil : IsStr (nums ⟨#[]⟩) [] := ⟨fun n h => by simp at h, rfl, by decide⟩

theorem awake_calls (w : World) (hT : Lib.Utf8Tabs 0 1 w) : Calls Tryd.prog 10 #[] w fun e w' => e = .returned (.bool true) ∧ Below w.heap.size w w' := by
  have HT := Lib.hid hT
  clear hT
  go_enter Tryd.func10, Tryd.ntmps10
  go_wp2_with (fail)
  refine (points_calls _ HT.out _).mono ?_
  rintro e w1 (⟨l, A, c, hi, rfl, ho, hb⟩ | ⟨hn, rfl, hb⟩)
  · have hl : l = [97, 228, 8364] := encs_inj hi.1 str_a.1 (hi.2.1.symm.trans str_a.2.1)
    subst hl
    have HO := Lib.hid ho
    have HB := Lib.hid hb
    clear hi ho hb
    go_wp2_with (fail)
    refine (text_calls _ _ [128512] 1 (lit_reads w1 .i64 3 [128512] _ rfl) (by simp)).mono ?_
    rintro e w2 ⟨hb2, h2⟩
    have h3 : e = .returned (.tuple #[.string ⟨#[240, 159, 152, 128]⟩, .int .i64 0]) := by
      rcases h2 with ⟨_, _, he⟩ | ⟨hno, _⟩
      · rw [he]; rfl
      · exact absurd ⟨fun n hn => by simp at hn; subst hn; decide, by decide⟩ hno
    subst h3
    have HB2 := Lib.hid ((HB.out.alloc HB.out.size _).trans (hb2.mono (Nat.le_trans HB.out.size (by simp))))
    have HO2 := Lib.hid (own_reads ((HO.out.turn (Turn.alloc (S := fun _ => False) w1 (.cells #[.int .i64 128512] 3)) (fun _ _ h => h)).turn (Turn.of_below (S := fun _ => False) hb2) (fun _ _ h => h)))
    clear h2 hb2
    go_wp2_with (fail)
    refine (ints_calls _ _ _ [97, 228, 8364] [97, 228, 8364] _ _ (HO2.out.2.2.1.keep (Below.alloc (Below.refl _ _) (Nat.le_refl _) _)) (lit_reads w2 .i64 3 [97, 228, 8364] _ rfl) (by simp)).mono ?_
    rw [show decide ([97, 228, 8364] = ([97, 228, 8364] : List Int)) = true from rfl]
    rintro e w3 ⟨rfl, hb3⟩
    have HB3 := Lib.hid ((HB2.out.alloc HB2.out.size _).trans (hb3.mono (Nat.le_trans HB2.out.size (by simp))))
    clear hb3
    go_wp2_with (fail)
    refine (is_no _ (tabs_keep HT.out HB3.out) ⟨#[192, 128]⟩ no_c0).mono ?_
    rintro e w4 ⟨rfl, hb4⟩
    have HB4 := Lib.hid (HB3.out.trans (hb4.mono HB3.out.size))
    clear hb4
    go_wp2_with (fail)
    refine (is_no _ (tabs_keep HT.out HB4.out) ⟨#[0]⟩ no_00).mono ?_
    rintro e w5 ⟨rfl, hb5⟩
    have HB5 := Lib.hid (HB4.out.trans (hb5.mono HB4.out.size))
    clear hb5
    go_wp2_with (fail)
    refine (is_yes _ (tabs_keep HT.out HB5.out) ⟨#[]⟩ [] yes_nil).mono ?_
    rintro e w6 ⟨rfl, hb6⟩
    have HB6 := Lib.hid (HB5.out.trans (hb6.mono HB5.out.size))
    clear hb6
    go_wp2_with (fail)
    go_ret
    exact ⟨rfl, HB6.out⟩
  · exact absurd str_a (hn _)

end Utf
end Go.Proofs.YthigialbjbpkpaaDoor

/- UtfLong. -/
import Derived.Test.YthigialbjbpkpaaDoorUtfI
namespace Go.Proofs.YthigialbjbpkpaaDoor
open Go.RowKit Go.ChangeShapes
set_option linter.unusedVariables false
set_option linter.unusedSimpArgs false
namespace Utf

theorem info_byte : (Tryd.prog.info? 5).map (fun i => (i.zero, i.size, i.bytes)) = some (some (.int .u8 0), 1, 1) := by kernel_rfl

/-- A row of n bytes in block g, the first k of which are 97. -/
def RowK (W : World) (g n k : Nat) : Prop := ∃ cur, W.heap[g]? = some (.cells cur 5 (0, 0)) ∧ cur.size = n ∧ ∀ i, i < k → cur[i]? = some (.int .u8 97)
theorem RowK.keep {w w' : World} {g n k B : Nat} (h : RowK w g n k) (b : Below B w w') (hg : g < B) : RowK w' g n k := by
  obtain ⟨cur, h1, h2, h3⟩ := h
  exact ⟨cur, by rw [b.block g hg]; exact h1, h2, h3⟩
theorem RowK.lt {w : World} {g n k : Nat} (h : RowK w g n k) : g < w.heap.size := by obtain ⟨cur, h1, _⟩ := h; exact heap_lt h1
theorem RowK.cell {w : World} {g n k : Nat} (h : RowK w g n k) (i : Nat) (hi : i < n) : ∃ v, w.cell? ⟨g, i, none⟩ = some v := by
  obtain ⟨cur, h1, h2, _⟩ := h
  exact ⟨cur[i], by rw [cell_heap h1]; exact Array.getElem?_eq_getElem (by omega)⟩
theorem RowK.frozen {w : World} {g n k : Nat} (h : RowK w g n k) (i : Nat) : w.frozen? ⟨g, i, none⟩ = false := by
  obtain ⟨cur, h1, _⟩ := h
  exact frozen_heap h1
theorem RowK.set {w : World} {g n k : Nat} (h : RowK w g n k) (hk : k < n) : RowK (w.setCell ⟨g, k, none⟩ (.int .u8 97)) g n (k + 1) := by
  obtain ⟨cur, h1, h2, h3⟩ := h
  refine ⟨_, heap_set_same w g k _ h1, by simp [h2], fun i hi => ?_⟩
  by_cases e : i = k
  · subst e
    rw [Array.getElem?_setIfInBounds_self_of_lt (by omega)]
  · rw [Array.getElem?_setIfInBounds_ne (by omega)]
    exact h3 i (by omega)
theorem conv_rep {W : World} {g n : Nat} (h : RowK W g n n) : (convert 37 9 (.slice (some ⟨g, 0, none⟩) n n)).run Tryd.prog W = .ok (.string (strOfNums (List.replicate n 97))) W := by
  obtain ⟨cur, h1, h2, h3⟩ := h
  refine run_convert_bytes_arg W 37 5 Tryd.underlying37 Tryd.underlying5 g 0 n n (List.replicate n 97) (by simp) (fun i hi => ?_) 9 Tryd.underlying9
  rw [Nat.zero_add, cell_heap h1, h3 i hi]
  simp [List.getElem?_replicate, hi]
theorem encs_rep (n : Nat) : encs (List.replicate n 97) = List.replicate n 97 := by
  induction n with
  | zero => rfl
  | succ n ih =>
    rw [List.replicate_succ, encs_cons, ih]
    rfl
theorem good_rep (n : Nat) : AllGood (List.replicate n 97) := fun x hx => by
  have := (List.mem_replicate.1 hx).2
  subst this
  decide
theorem nums_rep (n : Nat) : nums (strOfNums (List.replicate n 97)) = List.replicate n 97 :=
  nums_str _ (fun x hx => by have := (List.mem_replicate.1 hx).2; subst this; decide)

set_option maxHeartbeats 1000000 in
theorem long_walk (a0 : Int) (w : World) (w0 : (Lit.int .i64 a0).wf = true) (hT : Lib.Utf8Tabs 0 1 w) :
    Calls Tryd.prog 6 #[.int .i64 a0] w fun e w' => e = .returned (.bool true) ∧ Below w.heap.size w w' := by
  have HT := Lib.hid hT
  clear hT w0
  by_cases h0 : a0 < 0
  · have hd := decide_eq_true h0
    clear h0
    go_enter Tryd.func6, Tryd.ntmps6
    go_wp2_with (fail)
    go_ret
    exact ⟨rfl, Below.refl _ _⟩
  have hd0 := decide_eq_false h0
  by_cases h1 : 65600 < a0
  · have hd := decide_eq_true h1
    clear h0 h1
    go_enter Tryd.func6, Tryd.ntmps6
    go_wp2_with (fail)
    go_ret
    exact ⟨rfl, Below.refl _ _⟩
  have hd1 := decide_eq_false h1
  obtain ⟨n, rfl⟩ : ∃ n : Nat, a0 = (n : Int) := ⟨a0.toNat, by omega⟩
  have hn : (n : Int) ≤ 65600 := by omega
  have hnN : Hid (n ≤ 65600) := by rw [Hid]; omega
  clear h0 h1
  obtain ⟨i0, hi, hzz⟩ := Option.map_eq_some_iff.1 info_byte
  simp only [Prod.mk.injEq] at hzz
  obtain ⟨hz0, hz1, hz2⟩ := hzz
  have HI := Lib.hid hi
  have HZ0 := Lib.hid hz0
  have HZ1 := Lib.hid hz1
  have HZ2 := Lib.hid hz2
  clear hi hz0 hz1 hz2
  go_enter Tryd.func6, Tryd.ntmps6
  go_wp2_with (at_make; go_must (refine wpList_make_full w rfl _ _ 37 rfl w.heap.size 5 i0 (.int .u8 0) 1 Tryd.underlying37 HI.out HZ0.out HZ1.out .i64 .i64 _ _ n rfl rfl rfl rfl (by rw [HZ2.out]; have := hnN.out; omega) (by have := hnN.out; simp only [maxLen]; omega) (Nat.le_refl _) ?_))
  intro w1 hown hgr
  have HR1 : Hid (RowK w1 w.heap.size n 0) := by
    rcases hown.2 with ⟨hv, _⟩ | ⟨g, cap, cur, hv, hg, hh, h1, h2, h3, h4⟩
    · injection hv with e; cases e
    · injection hv with e1 e2 e3
      obtain rfl : w.heap.size = g := by injection (Option.some.inj e1)
      exact ⟨cur, hh, by omega, fun i hi => absurd hi (by omega)⟩
  have HB1 : Hid (Below w.heap.size w w1) := Below.grown (Below.refl _ _) hgr (Nat.le_refl _) (fun k h => by cases h)
  clear hown hgr
  go_wp2_with (fail)
  go_loopw [4] (fun x wr => ∃ k : Nat, k ≤ n ∧ x = .int .i64 k ∧ Hid (RowK wr w.heap.size n k) ∧ Below w.heap.size w wr) (fun x _ => n - (intOf x).toNat)
  case atStart => exact ⟨0, Nat.zero_le _, rfl, HR1.out, HB1.out⟩
  case round =>
    obtain ⟨k, hk, rfl, hR, hB⟩ := hrel
    have HB := Lib.hid hB
    clear hB
    have hkb : (k : Int) ≤ 65600 := by omega
    by_cases hkl : k < n
    · obtain ⟨v, hcv⟩ := hR.out.cell k hkl
      have hfr := hR.out.frozen k
      have hdk : decide (k < n) = true := decide_eq_true hkl
      have HR2 : Hid (RowK (wr.setCell ⟨w.heap.size, k, none⟩ (.int .u8 97)) w.heap.size n (k + 1)) := hR.out.set hkl
      have HB2 : Hid (Below w.heap.size w (wr.setCell ⟨w.heap.size, k, none⟩ (.int .u8 97))) := Below.setCell HB.out (Nat.le_refl _) _
      go_wp2_with (fail)
      go_roundw
      case rel => exact ⟨k + 1, by omega, by go_num, HR2.out, HB2.out⟩
      case measure => simp [intOf]; omega
    · have hke : k = n := by omega
      subst hke
      clear hkl hk hkb
      have hcv := conv_rep hR.out
      obtain ⟨S, hS⟩ : ∃ S, Hid (S = strOfNums (List.replicate k 97)) := ⟨_, rfl⟩
      rw [← hS.out] at hcv
      have hSn : Hid (nums S = List.replicate k 97) := by rw [hS.out]; exact nums_rep k
      by_cases hbig : (65535 : Int) < (k : Int)
      · have hdb := decide_eq_true hbig
        have hno : Hid (∀ l, ¬ IsStr (nums S) l) := fun l h => by
          have := h.2.2
          rw [hSn.out, List.length_replicate] at this
          omega
        clear hbig
        go_wp2_with (fail)
        refine (points_calls _ (tabs_keep HT.out HB.out) S).mono ?_
        rintro e w2 (⟨l, A, c, hi, rfl, ho, hb2⟩ | ⟨hn, rfl, hb2⟩)
        · exact absurd hi (hno.out l)
        · have HB2 := Lib.hid (HB.out.trans (hb2.mono HB.out.size))
          have HR2 := Lib.hid (hR.out.keep hb2 hR.out.lt)
          clear hb2 hn hcv
          go_wp2_with (fail)
          refine (awake_calls _ (tabs_keep HT.out HB2.out)).mono ?_
          rintro e w3 ⟨rfl, hb3⟩
          have HB3 := Lib.hid (HB2.out.trans (hb3.mono HB2.out.size))
          have hcv3 := conv_rep (HR2.out.keep hb3 HR2.out.lt)
          rw [← hS.out] at hcv3
          clear hb3
          go_wp2_with (fail)
          refine (is_no _ (tabs_keep HT.out HB3.out) S hno.out).mono ?_
          rintro e w4 ⟨rfl, hb4⟩
          go_wp2_with (fail)
          go_ret
          exact ⟨rfl, HB3.out.trans (hb4.mono HB3.out.size)⟩
      · have hdb := decide_eq_false hbig
        have hyes : Hid (IsStr (nums S) (List.replicate k 97)) := ⟨good_rep k, by rw [hSn.out, encs_rep], by rw [hSn.out, List.length_replicate]; omega⟩
        clear hbig
        go_wp2_with (fail)
        refine (points_calls _ (tabs_keep HT.out HB.out) S).mono ?_
        rintro e w2 (⟨l, A, c, hi, rfl, ho, hb2⟩ | ⟨hn, rfl, hb2⟩)
        · have hl := str_one hi hyes.out
          have hlk : l.length = k := by rw [hl, List.length_replicate]
          rw [hlk]
          have HB2 := Lib.hid (HB.out.trans (hb2.mono HB.out.size))
          have HR2 := Lib.hid (hR.out.keep hb2 hR.out.lt)
          clear hb2 hcv hi ho hl hlk
          go_wp2_with (fail)
          refine (awake_calls _ (tabs_keep HT.out HB2.out)).mono ?_
          rintro e w3 ⟨rfl, hb3⟩
          have HB3 := Lib.hid (HB2.out.trans (hb3.mono HB2.out.size))
          have hcv3 := conv_rep (HR2.out.keep hb3 HR2.out.lt)
          rw [← hS.out] at hcv3
          clear hb3
          go_wp2_with (fail)
          refine (is_yes _ (tabs_keep HT.out HB3.out) S _ hyes.out).mono ?_
          rintro e w4 ⟨rfl, hb4⟩
          go_wp2_with (fail)
          go_ret
          exact ⟨by simp, HB3.out.trans (hb4.mono HB3.out.size)⟩
        · exact absurd hyes.out (hn _)

end Utf
end Go.Proofs.YthigialbjbpkpaaDoor

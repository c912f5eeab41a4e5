/- basculeref09: Point, Bytes, first, Points; basculeref01.Ints; utf.Is. -/
import Derived.Test.YteigakkghkjakaaDoorUtfA
namespace Go.Proofs.YteigakkghkjakaaDoor
open Go.RowKit
set_option linter.unusedVariables false
set_option linter.unusedSimpArgs false
namespace Utf

theorem rpoint_calls (w : World) (n : Int) : Calls Tryd.prog 94 #[.int .i64 n] w fun e w' => e = .returned (.bool (decide (Good n))) ∧ w = w' := by
  by_cases h1 : 1 ≤ n
  · by_cases h2 : n ≤ 1114111
    · by_cases h3 : n < 55296
      · rw [show decide (Good n) = true from decide_eq_true ⟨h1, h2, .inl h3⟩]
        go_enter Tryd.func94, Tryd.ntmps94
        go_wp2
        go_ret
        exact ⟨rfl, rfl⟩
      · by_cases h4 : 57343 < n
        · rw [show decide (Good n) = true from decide_eq_true ⟨h1, h2, .inr h4⟩]
          have hd := decide_eq_true h4
          have hd3 := decide_eq_false h3
          go_enter Tryd.func94, Tryd.ntmps94
          go_wp2
          go_ret
          exact ⟨rfl, rfl⟩
        · rw [decide_eq_false (fun h : Good n => by have := h.2.2; omega)]
          have hd := decide_eq_false h4
          have hd3 := decide_eq_false h3
          go_enter Tryd.func94, Tryd.ntmps94
          go_wp2
          go_ret
          exact ⟨rfl, rfl⟩
    · rw [decide_eq_false (fun h : Good n => h2 h.2.1)]
      have hd2 := decide_eq_false h2
      go_enter Tryd.func94, Tryd.ntmps94
      go_wp2
      go_ret
      exact ⟨rfl, rfl⟩
  · rw [decide_eq_false (fun h : Good n => h1 h.1)]
    have hd1 := decide_eq_false h1
    go_enter Tryd.func94, Tryd.ntmps94
    go_wp2
    go_ret
    exact ⟨rfl, rfl⟩

theorem is_yes (w : World) (hT : Lib.Utf8Tabs 0 1 w) (s : ByteArray) (l : List Int) (h : IsStr (nums s) l) :
    Calls Tryd.prog 69 #[.string s] w fun e w' => e = .returned (.bool true) ∧ Below w.heap.size w w' := by
  have H := Lib.hid h
  clear h
  go_enter Tryd.func69, Tryd.ntmps69
  go_wp2_with (fail)
  refine (points_calls _ hT s).mono ?_
  rintro e w' (⟨l, A, c, hi, rfl, ho, hb⟩ | ⟨hn, rfl, hb⟩)
  · go_wp2_with (fail)
    go_ret
    exact ⟨rfl, hb⟩
  · exact absurd H.out (hn l)
theorem is_no (w : World) (hT : Lib.Utf8Tabs 0 1 w) (s : ByteArray) (h : ∀ l, ¬ IsStr (nums s) l) :
    Calls Tryd.prog 69 #[.string s] w fun e w' => e = .returned (.bool false) ∧ Below w.heap.size w w' := by
  have H := Lib.hid h
  clear h
  go_enter Tryd.func69, Tryd.ntmps69
  go_wp2_with (fail)
  refine (points_calls _ hT s).mono ?_
  rintro e w' (⟨l, A, c, hi, rfl, ho, hb⟩ | ⟨hn, rfl, hb⟩)
  · exact absurd hi (H.out l)
  · go_wp2_with (fail)
    go_ret
    exact ⟨rfl, hb⟩

theorem conv_lit (w : World) (xs : List Int) (C : Array Value) (hC : C = (xs.map (Value.int .u8)).toArray) (n : Nat) (hn : n = xs.length) :
    (convert 22 9 (.slice (some ⟨w.heap.size, 0, none⟩) n n)).run Tryd.prog (w.alloc (.cells C 5)) = .ok (.string (strOfNums xs)) (w.alloc (.cells C 5)) := by
  subst hn hC
  refine run_convert_bytes_arg _ 22 5 Tryd.underlying22 Tryd.underlying5 w.heap.size 0 xs.length xs.length xs rfl (fun i hi => ?_) 9 Tryd.underlying9
  rw [Nat.zero_add, cell_heap (heap_new _ _)]
  simp [List.getElem?_eq_getElem hi]

theorem rbytes_calls (w : World) (n : Int) (h : Good n) : Calls Tryd.prog 92 #[.int .i64 n] w fun e w' => e = .returned (.string (strOfNums (enc n))) ∧ Below w.heap.size w w' := by
  obtain ⟨h0, hm, _⟩ := h
  by_cases h1 : n < 128
  · have he : enc n = [n] := by unfold enc; rw [if_pos h1]
    rw [he]
    have hcv := conv_lit w [n] #[.int .u8 n] rfl 1 rfl
    go_enter Tryd.func92, Tryd.ntmps92
    go_wp2_with (fail)
    go_ret
    exact ⟨rfl, Below.alloc (Below.refl _ _) (Nat.le_refl _) _⟩
  have hd1 := decide_eq_false h1
  by_cases h2 : n < 2048
  · have he : enc n = [192 + n / 64, 128 + n % 64] := by unfold enc; rw [if_neg h1, if_pos h2]
    rw [he]
    have hcv := conv_lit w [192 + n / 64, 128 + n % 64] #[.int .u8 (192 + n / 64), .int .u8 (128 + n % 64)] rfl 2 rfl
    have b0 : 0 ≤ n / 64 := by omega
    have b1 : n / 64 < 32 := by omega
    have b2 : 0 ≤ n % 64 := by omega
    have b3 : n % 64 < 64 := by omega
    go_enter Tryd.func92, Tryd.ntmps92
    go_wp2_with (fail)
    go_ret
    exact ⟨rfl, Below.alloc (Below.refl _ _) (Nat.le_refl _) _⟩
  have hd2 := decide_eq_false h2
  by_cases h3 : n < 65536
  · have he : enc n = [224 + n / 4096, 128 + n / 64 % 64, 128 + n % 64] := by unfold enc; rw [if_neg h1, if_neg h2, if_pos h3]
    rw [he]
    have hcv := conv_lit w [224 + n / 4096, 128 + n / 64 % 64, 128 + n % 64] #[.int .u8 (224 + n / 4096), .int .u8 (128 + n / 64 % 64), .int .u8 (128 + n % 64)] rfl 3 rfl
    have b0 : 0 ≤ n / 4096 := by omega
    have b1 : n / 4096 < 16 := by omega
    have b2 : 0 ≤ n % 64 := by omega
    have b3 : n % 64 < 64 := by omega
    have b4 : 0 ≤ n / 64 % 64 := by omega
    have b5 : n / 64 % 64 < 64 := by omega
    have b6 : 0 ≤ n / 64 := by omega
    go_enter Tryd.func92, Tryd.ntmps92
    go_wp2_with (fail)
    go_ret
    exact ⟨rfl, Below.alloc (Below.refl _ _) (Nat.le_refl _) _⟩
  · have he : enc n = [240 + n / 262144, 128 + n / 4096 % 64, 128 + n / 64 % 64, 128 + n % 64] := by unfold enc; rw [if_neg h1, if_neg h2, if_neg h3]
    rw [he]
    have hd3 := decide_eq_false h3
    have hcv := conv_lit w [240 + n / 262144, 128 + n / 4096 % 64, 128 + n / 64 % 64, 128 + n % 64] #[.int .u8 (240 + n / 262144), .int .u8 (128 + n / 4096 % 64), .int .u8 (128 + n / 64 % 64), .int .u8 (128 + n % 64)] rfl 4 rfl
    have b0 : 0 ≤ n / 262144 := by omega
    have b1 : n / 262144 < 8 := by omega
    have b2 : 0 ≤ n % 64 := by omega
    have b3 : n % 64 < 64 := by omega
    have b4 : 0 ≤ n / 64 % 64 := by omega
    have b5 : n / 64 % 64 < 64 := by omega
    have b6 : 0 ≤ n / 64 := by omega
    have b7 : 0 ≤ n / 4096 % 64 := by omega
    have b8 : n / 4096 % 64 < 64 := by omega
    have b9 : 0 ≤ n / 4096 := by omega
    go_enter Tryd.func92, Tryd.ntmps92
    go_wp2_with (fail)
    go_ret
    exact ⟨rfl, Below.alloc (Below.refl _ _) (Nat.le_refl _) _⟩

end Utf
end Go.Proofs.YteigakkghkjakaaDoor

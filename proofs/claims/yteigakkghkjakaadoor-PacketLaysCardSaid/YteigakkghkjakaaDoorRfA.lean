/- The reference's small functions: words, texts, strings. -/
import Derived.Test.YteigakkghkjakaaDoorPlY
import Derived.Lib.SmallJoins
namespace Go.Proofs.YteigakkghkjakaaDoor
open Go.RowKit Go.ChangeShapes
set_option linter.unusedVariables false
set_option linter.unusedSimpArgs false
namespace Ref
open Utf (nums nums_length nums_bytes IsStr nums_str)
open Var (BT info_byte GivesBytes digs digs_length)
open Pk

set_option maxHeartbeats 1000000 in
theorem word_calls (w : World) (n : Int) (h0 : 0 ≤ n) (h1 : n ≤ 65535) : Calls Tryd.prog 79 #[.int .i64 n] w fun e w' => GivesBytes w (wordB n) e w' := by
  have q1 : n.tdiv 256 = n / 256 := Int.tdiv_eq_ediv_of_nonneg h0
  have q2 : n.tmod 256 = n % 256 := Int.tmod_eq_emod_of_nonneg h0
  have q3 : IntKind.u8.wrap (n / 256) = n / 256 := by rw [IntKind.wrap_u8]; omega
  have q4 : IntKind.u8.wrap (n % 256) = n % 256 := by rw [IntKind.wrap_u8]; omega
  go_enter Tryd.func79, Tryd.ntmps79
  go_wp2_with (fail)
  go_ret
  exact ⟨_, 2, rfl, own_of_heap (heap_new _ _) (Nat.le_refl _) rfl (Nat.le_refl _) (by decide) rfl rfl, (Below.refl _ _).alloc (Nat.le_refl _) _⟩

theorem st_any {P : Program} {ops : Array Oper} {Q : Exit → Act → World → Prop} {a : Act} {w w' : World} {rest : List Oper} {o : Oper} (v : Value) (hw : Region.wanted o (yielded ops a.tmps) = true)
    (hr : (execOp a.eval o).run P w = .ok (.value v) w') (h : wpList P ops Q rest (a.put o.dst v) w') : wpList P ops Q (o :: rest) a w := by
  unfold wpList
  rw [if_pos hw]
  left
  unfold Oper.wp
  rw [hr]
  exact h
theorem rConvert {P : Program} {ev : Operand → Value} {o : Oper} {W W' : World} {v : Value} {s d : TypeId} {x : Operand} (ho : o.op = .convert s d x) (hk : (convert s d (ev x)).run P W = .ok v W') : (execOp ev o).run P W = .ok (.value v) W' := by
  unfold execOp
  rw [ho]
  show ((convert s d (ev x)) >>= fun v => pure (Next.value v)).run P W = _
  rw [Sem.run_bind, hk]; rfl
/-- '[]byte(s)'. -/
theorem wp_conv_str {ops : Array Oper} {rest : List Oper} {o : Oper} {a : Act} {W : World} {Q : Exit → Act → World → Prop} {x : Operand} (s : ByteArray) (hgd : o.guard = none) (ho : o.op = .convert 9 22 x) (hx : a.eval x = .string s)
    (hK : ∀ c W', Reads .u8 W' (some ⟨W.heap.size, 0, none⟩) (nums s) → Below W.heap.size W W' → wpList Tryd.prog ops Q rest (a.put o.dst (.slice (some ⟨W.heap.size, 0, none⟩) s.size c)) W') : wpList Tryd.prog ops Q (o :: rest) a W := by
  refine st_any _ (wanted_free hgd) (rConvert ho (by rw [hx]; exact Lib.run_convert_string_bytes W 9 22 5 s Tryd.underlying9 Tryd.underlying22 Tryd.underlying5)) (hK _ _ ?_ (Go.Joins.below_bytesWorld _ _ _ _ (Nat.le_refl _)))
  intro h0
  refine ⟨_, rfl, fun i hi => ?_⟩
  rw [nums_length] at hi
  rw [add_plain0, Lib.bytesWorld_cell W _ s i hi]
  simp [nums, lat, List.getElem?_map, hi]

set_option maxHeartbeats 1000000 in
theorem text_calls (w : World) (s : ByteArray) (hs : s.size ≤ 65535) : Calls Tryd.prog 78 #[.string s] w fun e w' => GivesBytes w (textB s) e w' := by
  have hsb : (s.size : Int) ≤ 65535 := by omega
  have HW := Lib.hid (word_calls w (s.size : Int) (by omega) (by omega))
  go_enter Tryd.func78, Tryd.ntmps78
  go_wp2_with (fail)
  refine HW.out.mono ?_
  rintro e w1 ⟨A1, c1, rfl, ho1, hb1⟩
  have HO1 := Lib.hid ho1
  have HB1 := Lib.hid hb1
  clear ho1 hb1
  go_upto_region 2 with (fail)
  rename_i hKont
  refine wp_region_lit ?_
  refine st_val (.slice A1 (wordB (s.size : Int)).length c1) (wanted_free rfl) (by exact rMove (x := .tmp 3) rfl) ?_
  refine st_val (.string s) (wanted_free rfl) (by exact rMove (x := .tmp 0) rfl) ?_
  refine wp_conv_str s rfl rfl rfl ?_
  intro c2 w2 hr2 hb2
  refine wp_append_row (W := w2) w.heap.size rfl _ _ 22 5 .u8 1 rfl Tryd.underlying22 info_byte (.slice A1 (wordB (s.size : Int)).length c1) (wordB (s.size : Int)) (nums s) (some ⟨w1.heap.size, 0, none⟩) c2 rfl (by rw [nums_length]; rfl) (fun h => by cases h) hr2 (HO1.out.turn (Turn.of_below (S := fun _ => False) hb2) (fun _ _ h => h)) (Nat.le_trans HB1.out.size hb2.size) (by rw [nums_length]; simp [wordB]; omega) ?_
  intro A3 c3 w3 ho3 ht3
  refine st_val (.slice A3 (wordB (s.size : Int) ++ nums s).length c3) (wanted_free rfl) (by exact rAssign (x := .tmp 10) rfl) ?_
  have HO3 : Hid (OwnInts w3 w.heap.size BT .u8 (.slice A3 (wordB (s.size : Int) ++ nums s).length c3) (wordB (s.size : Int) ++ nums s)) := ho3
  have HB3 : Hid (Below w.heap.size w w3) := ht3.belowTrans (HB1.out.trans (hb2.mono HB1.out.size)) (Nat.le_trans HB1.out.size hb2.size) (fun j hj e => by have := (own_block_ge HO1.out j e).1; omega)
  obtain ⟨X, hX⟩ : ∃ X, Hid (X = wordB (s.size : Int) ++ nums s) := ⟨_, rfl⟩
  rw [← hX.out] at HO3 ⊢
  have HT : Hid (X = textB s) := hX.out
  clear ho3 ht3 hr2 hb2
  refine wpList_nil (hKont _ _ ?_)
  clear hKont
  simp only [Act.put, List.setIfInBounds_toArray, List.set_cons_zero, List.set_cons_succ]
  go_wp2_with (fail)
  go_ret
  rw [← HT.out]
  exact ⟨A3, c3, rfl, HO3.out, HB3.out⟩
theorem is01_calls (w : World) (n : Int) : Calls Tryd.prog 76 #[.int .i64 n] w fun e w' => e = .returned (.bool (decide (0 ≤ n ∧ n ≤ 65535))) ∧ w = w' := by
  by_cases h0 : 0 ≤ n
  · have d0 : decide (0 ≤ n) = true := decide_eq_true h0
    go_enter Tryd.func76, Tryd.ntmps76
    go_wp2_with (fail)
    go_ret
    exact ⟨by simp [h0], rfl⟩
  · have d0 : decide (0 ≤ n) = false := decide_eq_false h0
    go_enter Tryd.func76, Tryd.ntmps76
    go_wp2_with (fail)
    go_ret
    exact ⟨by simp [h0], rfl⟩
theorem flag_calls (w : World) (b : Bool) (n : Int) : Calls Tryd.prog 80 #[.bool b, .int .i64 n] w fun e w' => e = .returned (.int .i64 (bitN b n)) ∧ w = w' := by
  cases b with
  | true =>
    go_enter Tryd.func80, Tryd.ntmps80
    go_wp2_with (fail)
    go_ret
    exact ⟨rfl, rfl⟩
  | false =>
    go_enter Tryd.func80, Tryd.ntmps80
    go_wp2_with (fail)
    go_ret
    exact ⟨rfl, rfl⟩
noncomputable instance (s : ByteArray) : Decidable (Str s) := Classical.propDecidable _
noncomputable instance (s : ByteArray) : Decidable (Full s) := Classical.propDecidable _
set_option maxHeartbeats 1000000 in
theorem is09_calls (w : World) (s : ByteArray) : Calls Tryd.prog 75 #[.string s] w fun e w' => e = .returned (.bool (decide (Str s))) ∧ Below w.heap.size w w' := by
  go_enter Tryd.func75, Tryd.ntmps75
  go_wp2_with (fail)
  refine (Utf.rpoints_calls w s).mono ?_
  rintro e w1 (⟨l, A, c, hl, rfl, _, hb⟩ | ⟨hn, rfl, hb⟩)
  · have hS : Str s := ⟨l, hl⟩
    have HB := Lib.hid hb
    clear hb
    go_wp2_with (fail)
    go_ret
    exact ⟨by rw [decide_eq_true hS]; rfl, HB.out⟩
  · have hS : ¬ Str s := fun ⟨l, hl⟩ => hn l hl
    have HB := Lib.hid hb
    clear hb hn
    go_wp2_with (fail)
    go_ret
    exact ⟨by rw [decide_eq_false hS]; rfl, HB.out⟩
end Ref
end Go.Proofs.YteigakkghkjakaaDoor

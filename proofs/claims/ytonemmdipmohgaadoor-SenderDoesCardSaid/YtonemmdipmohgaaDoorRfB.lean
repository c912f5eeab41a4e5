/- The reference's small functions: words, texts, strings. The reference: the body of a Connect. -/
import Derived.Test.YtonemmdipmohgaaDoorPlW
import Derived.Test.YtonemmdipmohgaaDoorPlO
import Derived.Lib.SmallJoins
namespace Go.Proofs.YtonemmdipmohgaaDoor
open Go.RowKit Go.ChangeShapes
set_option linter.unusedVariables false
set_option linter.unusedSimpArgs false
namespace Ref
open Utf (nums nums_length nums_bytes IsStr nums_str)
open Var (BT info_byte GivesBytes digs digs_length)
open Pk

theorem lies_long {w : World} {p : Pkt} {C : List Int} {D : List (ByteArray × Int)} (h : Lies w p C D) : Long p C D := ⟨h.rowC, h.rowD⟩

set_option maxHeartbeats 1000000 in
theorem word_calls (w : World) (n : Int) (h0 : 0 ≤ n) (h1 : n ≤ 65535) : Calls Tryd.prog 66 #[.int .i64 n] w fun e w' => GivesBytes w (wordB n) e w' := by
  have q1 : n.tdiv 256 = n / 256 := Int.tdiv_eq_ediv_of_nonneg h0
  have q2 : n.tmod 256 = n % 256 := Int.tmod_eq_emod_of_nonneg h0
  have q3 : IntKind.u8.wrap (n / 256) = n / 256 := by rw [IntKind.wrap_u8]; omega
  have q4 : IntKind.u8.wrap (n % 256) = n % 256 := by rw [IntKind.wrap_u8]; omega
  go_enter Tryd.func66, Tryd.ntmps66
  go_wp2_with (fail)
  go_ret
  exact ⟨_, 2, rfl, own_of_heap (heap_new _ _) (Nat.le_refl _) rfl (Nat.le_refl _) (by decide) rfl rfl, (Below.refl _ _).alloc (Nat.le_refl _) _⟩

theorem st_any {P : Program} {ops : Array Oper} {Q : Exit → Act → World → Prop} {a : Act} {w w' : World} {rest : List Oper} {o : Oper} (v : Value) (hw : Region.wanted o (yielded ops a.tmps) = true)
    (hr : (execOp a.eval o).run P w = .ok (.value v) w') (h : wpList P ops Q rest (a.put o.dst v) w') : wpList P ops Q (o :: rest) a w := by
  unfold wpList
  rw [if_pos hw]
  left
  unfold Oper.wp
  rw [hr]
  exact h
theorem rConvert {P : Program} {ev : Operand → Value} {o : Oper} {W W' : World} {v : Value} {s d : TypeId} {x : Operand} (ho : o.op = .convert s d x) (hk : (convert s d (ev x)).run P W = .ok v W') : (execOp ev o).run P W = .ok (.value v) W' := by
  unfold execOp
  rw [ho]
  show ((convert s d (ev x)) >>= fun v => pure (Next.value v)).run P W = _
  rw [Sem.run_bind, hk]; rfl
/-- '[]byte(s)'. -/
theorem wp_conv_str {ops : Array Oper} {rest : List Oper} {o : Oper} {a : Act} {W : World} {Q : Exit → Act → World → Prop} {x : Operand} (s : ByteArray) (hgd : o.guard = none) (ho : o.op = .convert 9 82 x) (hx : a.eval x = .string s)
    (hK : ∀ c W', Reads .u8 W' (some ⟨W.heap.size, 0, none⟩) (nums s) → Below W.heap.size W W' → wpList Tryd.prog ops Q rest (a.put o.dst (.slice (some ⟨W.heap.size, 0, none⟩) s.size c)) W') : wpList Tryd.prog ops Q (o :: rest) a W := by
  refine st_any _ (wanted_free hgd) (rConvert ho (by rw [hx]; exact Lib.run_convert_string_bytes W 9 82 5 s Tryd.underlying9 Tryd.underlying82 Tryd.underlying5)) (hK _ _ ?_ (Go.Joins.below_bytesWorld _ _ _ _ (Nat.le_refl _)))
  intro h0
  refine ⟨_, rfl, fun i hi => ?_⟩
  rw [nums_length] at hi
  rw [add_plain0, Lib.bytesWorld_cell W _ s i hi]
  simp [nums, lat, List.getElem?_map, hi]

set_option maxHeartbeats 1000000 in
theorem text_calls (w : World) (s : ByteArray) (hs : s.size ≤ 65535) : Calls Tryd.prog 65 #[.string s] w fun e w' => GivesBytes w (textB s) e w' := by
  have hsb : (s.size : Int) ≤ 65535 := by omega
  have HW := Lib.hid (word_calls w (s.size : Int) (by omega) (by omega))
  go_enter Tryd.func65, Tryd.ntmps65
  go_wp2_with (fail)
  refine HW.out.mono ?_
  rintro e w1 ⟨A1, c1, rfl, ho1, hb1⟩
  have HO1 := Lib.hid ho1
  have HB1 := Lib.hid hb1
  clear ho1 hb1
  go_upto_region 2 with (fail)
  rename_i hKont
  refine wp_region_lit ?_
  refine st_val (.slice A1 (wordB (s.size : Int)).length c1) (wanted_free rfl) (by exact rMove (x := .tmp 3) rfl) ?_
  refine st_val (.string s) (wanted_free rfl) (by exact rMove (x := .tmp 0) rfl) ?_
  refine wp_conv_str s rfl rfl rfl ?_
  intro c2 w2 hr2 hb2
  refine wp_append_row (W := w2) w.heap.size rfl _ _ 82 5 .u8 1 rfl Tryd.underlying82 info_byte (.slice A1 (wordB (s.size : Int)).length c1) (wordB (s.size : Int)) (nums s) (some ⟨w1.heap.size, 0, none⟩) c2 rfl (by rw [nums_length]; rfl) (fun h => by cases h) hr2 (HO1.out.turn (Turn.of_below (S := fun _ => False) hb2) (fun _ _ h => h)) (Nat.le_trans HB1.out.size hb2.size) (by rw [nums_length]; simp [wordB]; omega) ?_
  intro A3 c3 w3 ho3 ht3
  refine st_val (.slice A3 (wordB (s.size : Int) ++ nums s).length c3) (wanted_free rfl) (by exact rAssign (x := .tmp 10) rfl) ?_
  have HO3 : Hid (OwnInts w3 w.heap.size BT .u8 (.slice A3 (wordB (s.size : Int) ++ nums s).length c3) (wordB (s.size : Int) ++ nums s)) := ho3
  have HB3 : Hid (Below w.heap.size w w3) := ht3.belowTrans (HB1.out.trans (hb2.mono HB1.out.size)) (Nat.le_trans HB1.out.size hb2.size) (fun j hj e => by have := (own_block_ge HO1.out j e).1; omega)
  obtain ⟨X, hX⟩ : ∃ X, Hid (X = wordB (s.size : Int) ++ nums s) := ⟨_, rfl⟩
  rw [← hX.out] at HO3 ⊢
  have HT : Hid (X = textB s) := hX.out
  clear ho3 ht3 hr2 hb2
  refine wpList_nil (hKont _ _ ?_)
  clear hKont
  simp only [Act.put, List.setIfInBounds_toArray, List.set_cons_zero, List.set_cons_succ]
  go_wp2_with (fail)
  go_ret
  rw [← HT.out]
  exact ⟨A3, c3, rfl, HO3.out, HB3.out⟩
theorem is01_calls (w : World) (n : Int) : Calls Tryd.prog 63 #[.int .i64 n] w fun e w' => e = .returned (.bool (decide (0 ≤ n ∧ n ≤ 65535))) ∧ w = w' := by
  by_cases h0 : 0 ≤ n
  · have d0 : decide (0 ≤ n) = true := decide_eq_true h0
    go_enter Tryd.func63, Tryd.ntmps63
    go_wp2_with (fail)
    go_ret
    exact ⟨by simp [h0], rfl⟩
  · have d0 : decide (0 ≤ n) = false := decide_eq_false h0
    go_enter Tryd.func63, Tryd.ntmps63
    go_wp2_with (fail)
    go_ret
    exact ⟨by simp [h0], rfl⟩
theorem flag_calls (w : World) (b : Bool) (n : Int) : Calls Tryd.prog 78 #[.bool b, .int .i64 n] w fun e w' => e = .returned (.int .i64 (bitN b n)) ∧ w = w' := by
  cases b with
  | true =>
    go_enter Tryd.func78, Tryd.ntmps78
    go_wp2_with (fail)
    go_ret
    exact ⟨rfl, rfl⟩
  | false =>
    go_enter Tryd.func78, Tryd.ntmps78
    go_wp2_with (fail)
    go_ret
    exact ⟨rfl, rfl⟩
noncomputable instance (s : ByteArray) : Decidable (Str s) := Classical.propDecidable _
noncomputable instance (s : ByteArray) : Decidable (Full s) := Classical.propDecidable _
set_option maxHeartbeats 1000000 in
theorem is09_calls (w : World) (s : ByteArray) : Calls Tryd.prog 62 #[.string s] w fun e w' => e = .returned (.bool (decide (Str s))) ∧ Below w.heap.size w w' := by
  go_enter Tryd.func62, Tryd.ntmps62
  go_wp2_with (fail)
  refine (Utf.rpoints_calls w s).mono ?_
  rintro e w1 (⟨l, A, c, hl, rfl, _, hb⟩ | ⟨hn, rfl, hb⟩)
  · have hS : Str s := ⟨l, hl⟩
    have HB := Lib.hid hb
    clear hb
    go_wp2_with (fail)
    go_ret
    exact ⟨by rw [decide_eq_true hS]; rfl, HB.out⟩
  · have hS : ¬ Str s := fun ⟨l, hl⟩ => hn l hl
    have HB := Lib.hid hb
    clear hb hn
    go_wp2_with (fail)
    go_ret
    exact ⟨by rw [decide_eq_false hS]; rfl, HB.out⟩
end Ref
end Go.Proofs.YtonemmdipmohgaaDoor

namespace Go.Proofs.YtonemmdipmohgaaDoor
open Go.RowKit Go.ChangeShapes
set_option linter.unusedVariables false
set_option linter.unusedSimpArgs false
namespace Ref
open Utf (nums nums_length nums_bytes IsStr nums_str)
open Var (BT info_byte GivesBytes digs digs_length)
open Pk

/-- Where a body stands: its own packet in block g; the bytes laid so far. -/
structure Out (w W : World) (g : Nat) (p : Pkt) (A : Option Addr) (n c : Nat) (X : List Int) : Prop where
  at_ : At w W g p
  own : OwnInts W (w.heap.size + 1) BT .u8 (.slice A n c) X
theorem Out.old {w W W' : World} {g : Nat} {p : Pkt} {A : Option Addr} {n c : Nat} {X : List Int} (h : Out w W g p A n c X) (b : Below W.heap.size W W') : Out w W' g p A n c X :=
  ⟨h.at_.old b, h.own.turn (Turn.of_below (S := fun _ => False) b) (fun _ _ h => h)⟩
theorem Out.len {w W : World} {g : Nat} {p : Pkt} {A : Option Addr} {n c : Nat} {X : List Int} (h : Out w W g p A n c X) : n = X.length := (own_reads h.own).1
/-- 'append(out, more...)'. -/
theorem wp_out {ops : Array Oper} {rest : List Oper} {o : Oper} {a : Act} {W w : World} {Q : Exit → Act → World → Prop} {g : Nat} {p : Pkt} {A B : Option Addr} {n c m d : Nat} {X Y : List Int} (hgd : o.guard = none) (s x : Operand)
    (ho : o.op = .call { callee := .builtin .append, args := #[s, x], argTypes := #[82, 82] }) (hs : a.eval s = .slice A n c) (hx : a.eval x = .slice B m d) (hm : m = Y.length) (hN : B = none → d = 0) (hR : Reads .u8 W B Y)
    (H : Out w W g p A n c X) (hl : X.length + Y.length ≤ 140737488355328)
    (K : ∀ A1 n1 c1 W1, Hid (Out w W1 g p A1 n1 c1 (X ++ Y)) → wpList Tryd.prog ops Q rest (a.put o.dst (.slice A1 n1 c1)) W1) : wpList Tryd.prog ops Q (o :: rest) a W := by
  subst hm
  refine wp_append_row (W := W) (w.heap.size + 1) hgd s x 82 5 .u8 1 ho Tryd.underlying82 info_byte (.slice A n c) X Y B d hs hx hN hR H.own H.at_.lt1 (by omega) ?_
  intro A1 c1 W1 ho1 ht1
  exact K A1 _ c1 W1 ⟨H.at_.grow ht1 (fun j hj => (own_block_ge H.own j hj).1), ho1⟩
theorem Out.gives {w W : World} {g : Nat} {p : Pkt} {A : Option Addr} {n c : Nat} {X : List Int} (h : Out w W g p A n c X) : GivesBytes w X (.returned (.slice A n c)) W := by
  have hn := h.len
  subst hn
  exact ⟨A, c, rfl, oi_mono h.own (by omega) rfl, h.at_.below⟩
theorem Out.first {w W W' : World} {g : Nat} {p : Pkt} {A : Option Addr} {c : Nat} {X : List Int} (h : At w W g p) (ho : OwnInts W' W.heap.size BT .u8 (.slice A X.length c) X) (b : Below W.heap.size W W') : Out w W' g p A X.length c X :=
  ⟨h.old b, oi_mono ho h.lt1 rfl⟩

set_option maxRecDepth 100000 in
set_option maxHeartbeats 2000000 in
theorem con_calls (w : World) (p : Pkt) (hFit : ConFit p) : Calls Tryd.prog 64 #[.agg p.cells] w fun e w' => GivesBytes w (conB p) e w' := by
  have HFi := Lib.hid hFit
  have hq := hFit.qos
  clear hFit
  have hA := at_box w p
  obtain ⟨W, hW⟩ : ∃ W, Hid (W = w.alloc (.cells p.cells PT)) := ⟨_, rfl⟩
  obtain ⟨g, hg⟩ : ∃ g, Hid (g = w.heap.size) := ⟨_, rfl⟩
  rw [← hW.out, ← hg.out] at hA
  have HA := Lib.hid hA
  clear hA
  obtain ⟨F, hF⟩ : ∃ F, Hid (F = conF p) := ⟨_, rfl⟩
  have hFr := conF_range p hq
  rw [← hF.out] at hFr
  obtain ⟨hF0, hF1⟩ := hFr
  have hFw := wrap_u8 F hF0 hF1
  go_enter Tryd.func64, Tryd.ntmps64
  go_upto_region 1 with (fail)
  rw [← hW.out, ← hg.out]
  go_wp2_with (fail)
  refine (text_calls W mqtt (by decide)).mono ?_
  rintro e w1 ⟨A1, c1, rfl, ho1, hb1⟩
  have HO1 := Lib.hid (Out.first HA.out ho1 hb1)
  obtain ⟨n1, hn1⟩ : ∃ n1, Hid (n1 = (textB mqtt).length) := ⟨_, rfl⟩
  rw [← hn1.out] at HO1 ⊢
  clear ho1 hb1
  have k8 : w1.cell? ⟨g, 8, none⟩ = some (.bool p.clean) := HO1.out.at_.at_.cell 8
  have k10 : w1.cell? ⟨g, 10, none⟩ = some (.bool p.will) := HO1.out.at_.at_.cell 10
  have k5 : w1.cell? ⟨g, 5, none⟩ = some (.int .i64 p.qos) := HO1.out.at_.at_.cell 5
  have k6 : w1.cell? ⟨g, 6, none⟩ = some (.bool p.retain) := HO1.out.at_.at_.cell 6
  have k11 : w1.cell? ⟨g, 11, none⟩ = some (.bool p.huser) := HO1.out.at_.at_.cell 11
  have k12 : w1.cell? ⟨g, 12, none⟩ = some (.bool p.hpass) := HO1.out.at_.at_.cell 12
  go_upto_region 2 with (fail)
  go_cut [4] (fun v wx => v = .int .i64 F ∧ ∃ n, wx = w1.drewN n)
  case first =>
    go_quiet ((go_at_call 78; exact quiet_left (flag_calls _ _ _)))
    go_wp2_with (fail)
    go_meet
    refine ⟨?_, _, rfl⟩
    rw [hF.out, conF_eq p hq]
    have b1 := bitN_range p.clean 2 (by decide)
    have b2 := bitN_range p.will 4 (by decide)
    have b3 := bitN_range p.retain 32 (by decide)
    have b4 := bitN_range p.hpass 64 (by decide)
    have b5 := bitN_range p.huser 128 (by decide)
    have hq' := hq
    refine congrArg _ ?_
    simp only [IntKind.wrap_i64, wrap64]
    omega
  case rest =>
    obtain ⟨rfl, nd, rfl⟩ := hcut
    clear k8 k10 k5 k6 k11 k12 hq
    have HO1d : Hid (Out w (w1.drewN nd) g p A1 n1 c1 (textB mqtt)) := ⟨HO1.out.at_.drewN nd, HO1.out.own.turn (Turn.drewN (Turn.refl (fun _ => False) _) nd) (fun _ _ h => h)⟩
    go_wp2_with (at_builtin; go_must (refine wp_out (w := w) (g := g) (p := p) (Y := [4, F]) rfl _ _ rfl rfl rfl rfl (fun h => by cases h) (reads_lit _ [4, F] _ rfl) (HO1d.out.old ((Below.refl _ _).alloc (Nat.le_refl _) _)) (by rw [textB_length]; show 2 + 4 + 2 ≤ 140737488355328; omega) ?_))
    intro A2 n2 c2 w2 HO2
    clear HO1 HO1d
    have m2 : w2.cell? ⟨g, 9, none⟩ = some (.int .i64 p.alive) := HO2.out.at_.at_.cell 9
    go_wp2_with (fail)
    refine (word_calls w2 p.alive HFi.out.alive.1 HFi.out.alive.2).mono ?_
    rintro e v2 ⟨B2, d2, rfl, ho2, hb2⟩
    have HP2 := Lib.hid (HO2.out.old hb2)
    have HR2 := Lib.hid (own_reads ho2)
    obtain ⟨l2, hl2⟩ : ∃ l, Hid (l = (wordB p.alive).length) := ⟨_, rfl⟩
    rw [← hl2.out]
    clear ho2 hb2 m2
    go_wp2_with (at_builtin; go_must (refine wp_out (w := w) (g := g) (p := p) (Y := wordB p.alive) rfl _ _ rfl rfl rfl hl2.out HR2.out.2.2.2 HR2.out.2.2.1 HP2.out (by show 8 + 2 ≤ 140737488355328; omega) ?_))
    intro A3 n3 c3 w3 HO3
    clear HP2 HR2 HO2
    have HO3' : Hid (Out w w3 g p A3 n3 c3 (conH p)) := by rw [hF.out] at HO3; exact HO3
    clear HO3
    have HO3 := HO3'
    clear HO3'
    have hH : (conH p).length = 10 := rfl
    have s0 := HFi.out.client
    have s1 := HFi.out.topic
    have s2 := HFi.out.payload
    have s3 := HFi.out.user
    have s4 := HFi.out.pass
    have HZ := Lib.hid (And.intro s0 (And.intro s1 (And.intro s2 (And.intro s3 s4))))
    clear s0 s1 s2 s3 s4
    have m3 : w3.cell? ⟨g, 7, none⟩ = some (.string p.client) := HO3.out.at_.at_.cell 7
    go_wp2_with (fail)
    refine (text_calls w3 p.client HZ.out.1).mono ?_
    rintro e v3 ⟨B3, d3, rfl, ho3, hb3⟩
    have HP3 := Lib.hid (HO3.out.old hb3)
    have HR3 := Lib.hid (own_reads ho3)
    obtain ⟨l3, hl3⟩ : ∃ l, Hid (l = (textB p.client).length) := ⟨_, rfl⟩
    rw [← hl3.out]
    clear ho3 hb3 m3
    go_wp2_with (at_builtin; go_must (refine wp_out (w := w) (g := g) (p := p) (Y := textB p.client) rfl _ _ rfl rfl rfl hl3.out HR3.out.2.2.2 HR3.out.2.2.1 HP3.out (by have := HZ.out.1; rw [hH, textB_length]; omega) ?_))
    intro A4 n4 c4 w4 HO4
    clear HP3 HR3 HO3
    obtain ⟨X4, hX4⟩ : ∃ X, Hid (X = conH p ++ textB p.client) := ⟨_, rfl⟩
    rw [← hX4.out] at HO4
    have hx4 : Hid (X4.length ≤ 65547) := by have := HZ.out.1; rw [hX4.out, Hid, List.length_append, hH, textB_length]; omega
    have HZw := HZ
    have k10 : w4.cell? ⟨g, 10, none⟩ = some (.bool p.will) := HO4.out.at_.at_.cell 10
    go_upto_if 47 with (fail)
    go_cut [3] (fun v wx => ∃ A n c, v = .slice A n c ∧ Hid (Out w wx g p A n c (X4 ++ (if p.will then textB p.topic ++ textB p.payload else []))))
    case first =>
      cases hw : p.will with
      | false =>
        rw [hw] at k10
        go_wp2_with (fail)
        go_meet
        exact ⟨A4, n4, c4, rfl, by rw [Hid, if_neg (by rw [hw]; decide), List.append_nil]; exact HO4.out⟩
      | true =>
        rw [hw] at k10
        have b1 := HZ.out.2.1 hw
        have b2 := HZ.out.2.2.1 hw
        have HBB := Lib.hid (And.intro b1 b2)
        clear b1 b2
        have m4 : w4.cell? ⟨g, 3, none⟩ = some (.string p.topic) := HO4.out.at_.at_.cell 3
        go_wp2_with (fail)
        refine (text_calls w4 p.topic HBB.out.1).mono ?_
        rintro e v4 ⟨B4, d4, rfl, ho4, hb4⟩
        have HP4 := Lib.hid (HO4.out.old hb4)
        have HR4 := Lib.hid (own_reads ho4)
        obtain ⟨l4, hl4⟩ : ∃ l, Hid (l = (textB p.topic).length) := ⟨_, rfl⟩
        rw [← hl4.out]
        clear ho4 hb4 m4
        go_wp2_with (at_builtin; go_must (refine wp_out (w := w) (g := g) (p := p) (Y := textB p.topic) rfl _ _ rfl rfl rfl hl4.out HR4.out.2.2.2 HR4.out.2.2.1 HP4.out (by have := HBB.out.1; have := hx4.out; rw [textB_length]; omega) ?_))
        intro A5 n5 c5 w5 HO5
        clear HP4 HR4 HO4
        have m5 : w5.cell? ⟨g, 4, none⟩ = some (.string p.payload) := HO5.out.at_.at_.cell 4
        go_wp2_with (fail)
        refine (text_calls w5 p.payload HBB.out.2).mono ?_
        rintro e v5 ⟨B5, d5, rfl, ho5, hb5⟩
        have HP5 := Lib.hid (HO5.out.old hb5)
        have HR5 := Lib.hid (own_reads ho5)
        obtain ⟨l5, hl5⟩ : ∃ l, Hid (l = (textB p.payload).length) := ⟨_, rfl⟩
        rw [← hl5.out]
        clear ho5 hb5 m5
        go_wp2_with (at_builtin; go_must (refine wp_out (w := w) (g := g) (p := p) (Y := textB p.payload) rfl _ _ rfl rfl rfl hl5.out HR5.out.2.2.2 HR5.out.2.2.1 HP5.out (by have := HBB.out.1; have := HBB.out.2; have := hx4.out; rw [List.length_append, textB_length, textB_length]; omega) ?_))
        intro A6 n6 c6 w6 HO6
        clear HP5 HR5 HO5
        go_wp2_with (fail)
        go_meet
        exact ⟨A6, n6, c6, rfl, by rw [Hid, if_pos hw]; first | exact HO6.out | (rw [← List.append_assoc]; exact HO6.out)⟩
    case rest =>
    obtain ⟨A7, n7, c7, rfl, HO7⟩ := hcut
    clear HO4 k10
    rename World => w7
    obtain ⟨X7, hX7⟩ : ∃ X, Hid (X = X4 ++ (if p.will then textB p.topic ++ textB p.payload else [])) := ⟨_, rfl⟩
    rw [← hX7.out] at HO7
    have hx7 : Hid (X7.length ≤ 200000) := by
      have := hx4.out
      rw [hX7.out, Hid, List.length_append]
      split
      · rename_i hw
        have := HZ.out.2.1 hw
        have := HZ.out.2.2.1 hw
        rw [List.length_append, textB_length, textB_length]; omega
      · simp; omega
    have k11 : w7.cell? ⟨g, 11, none⟩ = some (.bool p.huser) := HO7.out.at_.at_.cell 11
    go_upto_if 61 with (fail)
    go_cut [3] (fun v wx => ∃ A n c, v = .slice A n c ∧ Hid (Out w wx g p A n c (X7 ++ (if p.huser then textB p.user else []))))
    case first =>
      cases hw : p.huser with
      | false =>
        rw [hw] at k11
        go_wp2_with (fail)
        go_meet
        exact ⟨A7, n7, c7, rfl, by rw [Hid, if_neg (by rw [hw]; decide), List.append_nil]; exact HO7.out⟩
      | true =>
        rw [hw] at k11
        have m7 : w7.cell? ⟨g, 13, none⟩ = some (.string p.user) := HO7.out.at_.at_.cell 13
        go_wp2_with (fail)
        refine (text_calls w7 p.user HZ.out.2.2.2.1).mono ?_
        rintro e v7 ⟨B7, d7, rfl, ho7, hb7⟩
        have HP7 := Lib.hid (HO7.out.old hb7)
        have HR7 := Lib.hid (own_reads ho7)
        obtain ⟨l7, hl7⟩ : ∃ l, Hid (l = (textB p.user).length) := ⟨_, rfl⟩
        rw [← hl7.out]
        clear ho7 hb7 m7
        go_wp2_with (at_builtin; go_must (refine wp_out (w := w) (g := g) (p := p) (Y := textB p.user) rfl _ _ rfl rfl rfl hl7.out HR7.out.2.2.2 HR7.out.2.2.1 HP7.out (by have := HZ.out.2.2.2.1; have := hx7.out; rw [textB_length]; omega) ?_))
        intro A8 n8 c8 w8 HO8
        clear HP7 HR7 HO7
        go_wp2_with (fail)
        go_meet
        exact ⟨A8, n8, c8, rfl, by rw [Hid, if_pos hw]; exact HO8.out⟩
    case rest =>
    obtain ⟨A9, n9, c9, rfl, HO9⟩ := hcut
    clear HO7 k11
    rename World => w9
    obtain ⟨X9, hX9⟩ : ∃ X, Hid (X = X7 ++ (if p.huser then textB p.user else [])) := ⟨_, rfl⟩
    rw [← hX9.out] at HO9
    have hx9 : Hid (X9.length ≤ 300000) := by
      have := hx7.out
      have := HZ.out.2.2.2.1
      rw [hX9.out, Hid, List.length_append]
      split
      · rw [textB_length]; omega
      · simp; omega
    have k12 : w9.cell? ⟨g, 12, none⟩ = some (.bool p.hpass) := HO9.out.at_.at_.cell 12
    have HFIN : Hid (X9 ++ (if p.hpass then textB p.pass else []) = conB p) := by
      rw [hX9.out, hX7.out, hX4.out, Hid, conB]; simp only [List.append_assoc]
    cases hw : p.hpass with
    | false =>
      rw [hw] at k12 HFIN
      go_wp2_with (fail)
      go_ret
      have h := HO9.out.gives
      have e : X9 = conB p := by have := HFIN.out; simpa using this
      rw [← e]; exact h
    | true =>
      rw [hw] at k12 HFIN
      have m9 : w9.cell? ⟨g, 14, none⟩ = some (.string p.pass) := HO9.out.at_.at_.cell 14
      go_wp2_with (fail)
      refine (text_calls w9 p.pass HZ.out.2.2.2.2).mono ?_
      rintro e v9 ⟨B9, d9, rfl, ho9, hb9⟩
      have HP9 := Lib.hid (HO9.out.old hb9)
      have HR9 := Lib.hid (own_reads ho9)
      obtain ⟨l9, hl9⟩ : ∃ l, Hid (l = (textB p.pass).length) := ⟨_, rfl⟩
      rw [← hl9.out]
      clear ho9 hb9 m9
      go_wp2_with (at_builtin; go_must (refine wp_out (w := w) (g := g) (p := p) (Y := textB p.pass) rfl _ _ rfl rfl rfl hl9.out HR9.out.2.2.2 HR9.out.2.2.1 HP9.out (by have := HZ.out.2.2.2.2; have := hx9.out; rw [textB_length]; omega) ?_))
      intro A10 n10 c10 w10 HO10
      clear HP9 HR9 HO9
      go_wp2_with (fail)
      go_ret
      have h := HO10.out.gives
      have e : X9 ++ textB p.pass = conB p := by have := HFIN.out; simpa using this
      rw [← e]; exact h
end Ref
end Go.Proofs.YtonemmdipmohgaaDoor

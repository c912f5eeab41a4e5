/- The reference: a packet's flags, its bytes. -/
import Derived.Test.YteigakkghkjakaaDoorRfD
namespace Go.Proofs.YteigakkghkjakaaDoor
open Go.RowKit Go.ChangeShapes
set_option linter.unusedVariables false
set_option linter.unusedSimpArgs false
namespace Ref
open Utf (nums nums_length nums_bytes IsStr nums_str)
open Var (BT info_byte GivesBytes digs digs_length)
open Pk

/-- 'append(out, more...)', and what else was turned. -/
theorem wp_out2 {ops : Array Oper} {rest : List Oper} {o : Oper} {a : Act} {W w : World} {Q : Exit → Act → World → Prop} {g : Nat} {p : Pkt} {A B : Option Addr} {n c m d : Nat} {X Y : List Int} (hgd : o.guard = none) (s x : Operand)
    (ho : o.op = .call { callee := .builtin .append, args := #[s, x], argTypes := #[22, 22] }) (hs : a.eval s = .slice A n c) (hx : a.eval x = .slice B m d) (hm : m = Y.length) (hN : B = none → d = 0) (hR : Reads .u8 W B Y)
    (H : Out w W g p A n c X) (hl : X.length + Y.length ≤ 140737488355328)
    (K : ∀ A1 n1 c1 W1, Hid (Out w W1 g p A1 n1 c1 (X ++ Y)) → Turn (fun j => (Value.slice A n c).ownBlock = some j) W W1 → wpList Tryd.prog ops Q rest (a.put o.dst (.slice A1 n1 c1)) W1) : wpList Tryd.prog ops Q (o :: rest) a W := by
  subst hm
  refine wp_append_row (W := W) (w.heap.size + 1) hgd s x 22 5 .u8 1 ho Tryd.underlying22 info_byte (.slice A n c) X Y B d hs hx hN hR H.own H.at_.lt1 (by omega) ?_
  intro A1 c1 W1 ho1 ht1
  exact K A1 _ c1 W1 ⟨H.at_.grow ht1 (fun j hj => (own_block_ge H.own j hj).1), ho1⟩ ht1

set_option maxRecDepth 100000 in
set_option maxHeartbeats 1000000 in
theorem flags_calls (w : World) (p : Pkt) (hq : p.ty = 3 → 0 ≤ p.qos ∧ p.qos ≤ 2) : Calls Tryd.prog 55 #[.agg p.cells] w fun e w' => e = .returned (.int .i64 (flagsN p)) ∧ Below w.heap.size w w' := by
  have hA := at_box w p
  obtain ⟨W, hW⟩ : ∃ W, Hid (W = w.alloc (.cells p.cells PT)) := ⟨_, rfl⟩
  obtain ⟨g, hg⟩ : ∃ g, Hid (g = w.heap.size) := ⟨_, rfl⟩
  rw [← hW.out, ← hg.out] at hA
  have HA := Lib.hid hA
  have k0 : W.cell? ⟨g, 0, none⟩ = some (.int .i64 p.ty) := hA.at_.cell 0
  have k1 : W.cell? ⟨g, 1, none⟩ = some (.bool p.dup) := hA.at_.cell 1
  have k5 : W.cell? ⟨g, 5, none⟩ = some (.int .i64 p.qos) := hA.at_.cell 5
  have k6 : W.cell? ⟨g, 6, none⟩ = some (.bool p.retain) := hA.at_.cell 6
  clear hA
  obtain ⟨F, hF⟩ : ∃ F, Hid (F = flagsN p) := ⟨_, rfl⟩
  rw [← hF.out]
  go_enter Tryd.func55, Tryd.ntmps55
  go_upto_region 1 with (fail)
  rw [← hW.out, ← hg.out]
  by_cases h3 : p.ty = 3
  · obtain ⟨hq0, hq2⟩ := hq h3
    rw [h3] at k0
    go_wp2_with (fail)
    go_quiet ((go_at_call 80; exact quiet_left (flag_calls _ _ _)))
    go_wp2_with (fail)
    go_ret
    refine ⟨?_, HA.out.below.trans ((Turn.drewN (Turn.refl (fun _ => False) W) _).toBelow HA.out.lt (fun _ _ h => h))⟩
    have b1 := bitN_range p.dup 8 (by decide)
    have b2 := bitN_range p.retain 1 (by decide)
    rw [hF.out, flagsN, if_pos h3]
    refine congrArg (fun x => Ending.returned (Value.int IntKind.i64 x)) ?_
    simp only [IntKind.wrap_i64, wrap64]
    omega
  · have e3 : (p.ty == 3) = false := by simpa using h3
    by_cases h6 : p.ty = 6 ∨ p.ty = 8 ∨ p.ty = 10
    · have hF2 : F = 2 := by rw [hF.out, flagsN, if_neg h3, if_pos h6]
      subst hF2
      rcases h6 with h | h | h <;> rw [h] at k0
      all_goals
        go_wp2_with (fail)
        go_ret
        exact ⟨rfl, HA.out.below⟩
    · have hF0 : F = 0 := by rw [hF.out, flagsN, if_neg h3, if_neg h6]
      subst hF0
      have e6 : (p.ty == 6) = false := beq_eq_false_iff_ne.2 (by omega)
      have e8 : (p.ty == 8) = false := beq_eq_false_iff_ne.2 (by omega)
      have e10 : (p.ty == 10) = false := beq_eq_false_iff_ne.2 (by omega)
      go_wp2_with (fail)
      go_ret
      exact ⟨rfl, HA.out.below⟩

set_option maxRecDepth 100000 in
set_option maxHeartbeats 2000000 in
theorem bytes_calls (w : World) (p : Pkt) (C : List Int) (D : List (ByteArray × Int)) (hF : Lies w p C D) (hM : May p C D) (hBF : BodyFit w p C D) (hz : (p.ty ≠ 2 → p.ty ≠ 9 → C = []) ∧ (p.ty ≠ 8 → p.ty ≠ 10 → D = [])) : Calls Tryd.prog 24 #[.agg p.cells] w fun e w' => GivesBytes w (bytesB p C D) e w' := by
  have ht : 1 ≤ p.ty ∧ p.ty ≤ 14 := ⟨hM.1.1, hM.1.2.1⟩
  have hfr := flags_range hBF
  have hqq : p.ty = 3 → 0 ≤ p.qos ∧ p.qos ≤ 2 := fun h => ⟨(hBF.pub h).2.1, (hBF.pub h).2.2.1⟩
  have hml := hM.2
  have hA := at_box w p
  obtain ⟨W, hW⟩ : ∃ W, Hid (W = w.alloc (.cells p.cells PT)) := ⟨_, rfl⟩
  obtain ⟨g, hg⟩ : ∃ g, Hid (g = w.heap.size) := ⟨_, rfl⟩
  rw [← hW.out, ← hg.out] at hA
  have HA := Lib.hid hA
  have HFT := Lib.hid hqq
  have HBC := Lib.hid (body_calls W p C D ⟨hBF.lies.keep hA.below, hBF.con, hBF.ack, hBF.pub, hBF.ids, hBF.subs, hBF.codes, hBF.len⟩ hz ht)
  obtain ⟨Bd, hBd⟩ : ∃ B, Hid (B = bodyB p C D) := ⟨_, rfl⟩
  obtain ⟨f, hf⟩ : ∃ f, Hid (f = flagsN p) := ⟨_, rfl⟩
  have hbb : Hid (bytesB p C D = [16 * p.ty + f] ++ (digs 3 Bd.length ++ Bd)) := by rw [hBd.out, hf.out]; rfl
  rw [← hBd.out] at hml HBC
  rw [← hf.out] at hfr
  obtain ⟨hf0, hf1⟩ := hfr
  obtain ⟨ht1, ht2⟩ := ht
  obtain ⟨M, hMM⟩ : ∃ M, Hid (M = bytesB p C D) := ⟨_, rfl⟩
  rw [← hMM.out]
  have hml' : (Bd.length : Int) ≤ 268435455 := by omega
  clear hA hqq hml hBF hF hM
  go_enter Tryd.func24, Tryd.ntmps24
  go_upto_region 1 with (fail)
  rw [← hW.out, ← hg.out]
  go_wp2_with (with_reducible refine wp_load_pkt (o := ⟨some 5, _, _, _, _, _⟩) rfl rfl rfl HA.out.at_ ?_)
  refine HBC.out.mono ?_
  rintro e w1 ⟨A1, c1, rfl, ho1, hb1⟩
  have HO1 := Lib.hid ho1
  have HA1 : Hid (At w w1 g p) := HA.out.old hb1
  have HBB1 : Hid (W.heap.size ≤ w1.heap.size) := hb1.size
  clear ho1 hb1
  obtain ⟨n1, hn1⟩ : ∃ n1, Hid (n1 = Bd.length) := ⟨_, rfl⟩
  rw [← hn1.out] at HO1 ⊢
  have hn1b : (n1 : Int) ≤ 268435455 := by have := hn1.out; omega
  have HT0 : Hid (Turn (fun _ => False) w1 w1.drew) := Turn.drew (Turn.refl _ _)
  have HAd : Hid (At w w1.drew g p) := HA1.out.drew
  have hu8 : IntKind.u8.wrap (16 * p.ty + f) = 16 * p.ty + f := wrap_u8 _ (by omega) (by omega)
  have hi16 : IntKind.i64.wrap (16 * p.ty) = 16 * p.ty := by rw [IntKind.wrap_i64]; omega
  have hi17 : IntKind.i64.wrap (16 * p.ty + f) = 16 * p.ty + f := by rw [IntKind.wrap_i64]; omega
  have hu9 : IntKind.u8.wrap (IntKind.i64.wrap (IntKind.i64.wrap (16 * p.ty) + f)) = 16 * p.ty + f := by rw [hi16, hi17, hu8]
  go_upto_region 2 with (fail)
  refine wp_region_held_drew (S := (fun W' => Hid (At w W' g p) ∧ W'.cell? ⟨g, 0, none⟩ = some (.int .i64 p.ty))) (by kernel_rfl) (by first | exact ⟨HAd.out, HAd.out.at_.cell 0⟩ | exact ⟨HA2.out, HA2.out.at_.cell 0⟩ | exact ⟨HA2.out.alloc _, (HA2.out.alloc _).at_.cell 0⟩) (fun hHeld => ?_)
  refine wpAnyH_take (i := 0) (oi := ⟨_, _, _, _, _, _⟩) (v := ?_) rfl (by kernel_rfl) (by kernel_rfl) (by kernel_rfl) (fun _ _ _ h => h) (Or.inl ⟨by kernel_rfl, ?_⟩) hHeld ?_
  rotate_left
  · (intro w hSw; obtain ⟨s1, s2⟩ := hSw; go_simp; try with_reducible rfl)
  simp only [Act.put, List.setIfInBounds_toArray, List.set_cons_zero, List.set_cons_succ]
  refine wpAnyH_take (i := 1) (oi := ⟨_, _, _, _, _, _⟩) (v := ?_) rfl (by kernel_rfl) (by kernel_rfl) (by kernel_rfl) (fun _ _ _ h => h) (Or.inl ⟨by kernel_rfl, ?_⟩) hHeld ?_
  rotate_left
  · (intro w hSw; obtain ⟨s1, s2⟩ := hSw; go_simp; try with_reducible rfl)
  simp only [Act.put, List.setIfInBounds_toArray, List.set_cons_zero, List.set_cons_succ]
  refine wpAnyH_take (i := 2) (oi := ⟨_, _, _, _, _, _⟩) (v := .int .i64 (16 * p.ty)) rfl (by kernel_rfl) (by kernel_rfl) (by kernel_rfl) (fun _ _ _ h => h) (Or.inl ⟨by kernel_rfl, ?_⟩) hHeld ?_
  · (intro w hSw; obtain ⟨s1, s2⟩ := hSw; go_simp)
  simp only [Act.put, List.setIfInBounds_toArray, List.set_cons_zero, List.set_cons_succ]
  refine wpAnyH_take (i := 3) (oi := ⟨_, _, _, _, _, _⟩) (v := .agg p.cells) rfl (by kernel_rfl) (by kernel_rfl) (by kernel_rfl) (fun _ _ _ h => h) (Or.inl ⟨by kernel_rfl, ?_⟩) hHeld ?_
  · (intro w hSw; obtain ⟨s1, s2⟩ := hSw; exact rLoad (x := .tmp 1) rfl (by exact load_pkt _ _ _ s1.out.at_))
  simp only [Act.put, List.setIfInBounds_toArray, List.set_cons_zero, List.set_cons_succ]
  refine wpAnyH_ready (rs := [4]) (by kernel_rfl) (by simp) ?_
  refine AllReadyH.cons rfl (fun K hK => ?_) AllReadyH.nil
  go_simp
  go_wp2_with (go_at_call 55; refine (flags_calls _ p HFT.out).mono ?_; rw [← hf.out]; rintro e w2 ⟨rfl, hb2⟩; have HA2 : Hid (At w w2 g p) := HAd.out.old hb2; have HT2 : Hid (Turn (fun _ => False) w1 w2) := HT0.out.trans (Turn.of_below hb2); clear hb2)
  refine hK.out _ _ (by first | exact ⟨HAd.out, HAd.out.at_.cell 0⟩ | exact ⟨HA2.out, HA2.out.at_.cell 0⟩ | exact ⟨HA2.out.alloc _, (HA2.out.alloc _).at_.cell 0⟩) (fun hHeld => ?_)
  clear hK K
  refine wpAnyH_take (i := 5) (oi := ⟨_, _, _, _, _, _⟩) (v := ?_) rfl (by kernel_rfl) (by kernel_rfl) (by kernel_rfl) (fun _ _ _ h => h) (Or.inl ⟨by kernel_rfl, ?_⟩) hHeld ?_
  rotate_left
  · (intro w hSw; obtain ⟨s1, s2⟩ := hSw; go_simp; try with_reducible rfl)
  simp only [Act.put, List.setIfInBounds_toArray, List.set_cons_zero, List.set_cons_succ]
  refine wpAnyH_take (i := 6) (oi := ⟨_, _, _, _, _, _⟩) (v := .int .u8 (16 * p.ty + f)) rfl (by kernel_rfl) (by kernel_rfl) (by kernel_rfl) (fun _ _ _ h => h) (Or.inl ⟨by kernel_rfl, ?_⟩) hHeld ?_
  · (intro w hSw; obtain ⟨s1, s2⟩ := hSw; go_simp)
  simp only [Act.put, List.setIfInBounds_toArray, List.set_cons_zero, List.set_cons_succ]
  refine wpAnyH_ready (rs := [7]) (by kernel_rfl) (by simp) ?_
  refine AllReadyH.cons rfl (fun K hK => ?_) AllReadyH.nil
  go_simp
  skip
  refine hK.out _ _ (by first | exact ⟨HAd.out, HAd.out.at_.cell 0⟩ | exact ⟨HA2.out, HA2.out.at_.cell 0⟩ | exact ⟨HA2.out.alloc _, (HA2.out.alloc _).at_.cell 0⟩) (fun hHeld => ?_)
  clear hK K
  refine wpAnyH_take (i := 8) (oi := ⟨_, _, _, _, _, _⟩) (v := ?_) rfl (by kernel_rfl) (by kernel_rfl) (by kernel_rfl) (fun _ _ _ h => h) (Or.inl ⟨by kernel_rfl, ?_⟩) hHeld ?_
  rotate_left
  · (intro w hSw; obtain ⟨s1, s2⟩ := hSw; go_simp; try with_reducible rfl)
  simp only [Act.put, List.setIfInBounds_toArray, List.set_cons_zero, List.set_cons_succ]
  refine wpAnyH_done (by kernel_rfl) ?_ _
  obtain ⟨w3, hw3⟩ : ∃ w3, Hid (w3 = w2.alloc (.cells #[.int .u8 (16 * p.ty + f)] BT)) := ⟨_, rfl⟩
  have HO3 : Hid (Out w w3 g p (some ⟨w2.heap.size, 0, none⟩) 1 1 [16 * p.ty + f]) := by rw [hw3.out]; exact ⟨HA2.out.alloc _, own_one w2 _ HA2.out.lt1 _⟩
  have T13 : Hid (Turn (fun _ => False) w1 w3) := by rw [hw3.out]; exact HT2.out.trans (Turn.alloc w2 _)
  have HR3 : Hid (Reads .u8 w3 A1 Bd) := (own_reads (show OwnInts w1 W.heap.size BT .u8 (.slice A1 n1 c1) Bd from HO1.out)).2.2.1.keep (T13.out.toBelow (Nat.le_refl _) (fun _ _ h => h))
  have HN3 : Hid (A1 = none → c1 = 0) := (own_reads (show OwnInts w1 W.heap.size BT .u8 (.slice A1 n1 c1) Bd from HO1.out)).2.2.2
  rw [← hw3.out]
  go_wp2_with (fail)
  refine (Var.rput_calls w3 (n1 : Int) (by omega) (by omega)).mono ?_
  rintro e w4 ⟨A4, c4, rfl, ho4, hb4⟩
  have HO4 := Lib.hid (HO3.out.old hb4)
  have HD4 := Lib.hid (own_reads ho4)
  have HR4 := Lib.hid (HR3.out.keep hb4)
  obtain ⟨n4, hn4⟩ : ∃ n, Hid (n = (digs 3 (n1 : Int)).length) := ⟨_, rfl⟩
  rw [← hn4.out]
  have hdl := digs_length 3 (n1 : Int)
  clear ho4 hb4
  go_wp2_with (at_builtin; go_must (refine wp_out2 (w := w) (g := g) (p := p) (Y := digs 3 (n1 : Int)) rfl _ _ rfl rfl rfl hn4.out HD4.out.2.2.2 HD4.out.2.2.1 HO4.out (by simp; omega) ?_))
  intro A5 n5 c5 w5 HO5 ht5
  have HR5 : Hid (Reads .u8 w5 A1 Bd) := reads_turn HR4.out ht5 (fun x hx e => by
    have h1 := (own_block_ge HO1.out x.block (by rw [hx]; rfl)).2
    have h2 := HT2.out.size
    have e' : w2.heap.size = x.block := Option.some.inj e
    omega)
  obtain ⟨X5, hX5⟩ : ∃ X, Hid (X = (16 * p.ty + f) :: digs 3 (n1 : Int)) := ⟨_, rfl⟩
  have HO5' : Hid (Out w w5 g p A5 n5 c5 X5) := by rw [hX5.out]; exact HO5
  clear HO5
  have HO5 := HO5'
  clear HO5'
  have hx5 : Hid (X5.length ≤ 5) := by rw [hX5.out, Hid, List.length_cons]; omega
  clear ht5 HO4 HD4 HR4 hdl
  go_wp2_with (at_builtin; go_must (refine wp_out (w := w) (g := g) (p := p) (Y := Bd) rfl _ _ rfl rfl rfl hn1.out HN3.out HR5.out HO5.out (by have := hx5.out; omega) ?_))
  intro A6 n6 c6 w6 HO6
  go_wp2_with (fail)
  go_ret
  have h9 := HO6.out.gives
  have e9 : X5 ++ Bd = M := by rw [hMM.out, hbb.out, hX5.out, hn1.out]; rfl
  rw [e9] at h9
  exact h9
end Ref
end Go.Proofs.YteigakkghkjakaaDoor

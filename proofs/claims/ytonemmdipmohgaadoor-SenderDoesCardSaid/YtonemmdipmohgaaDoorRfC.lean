/- The reference: a packet's body. -/
import Derived.Test.YtonemmdipmohgaaDoorRfB
namespace Go.Proofs.YtonemmdipmohgaaDoor
open Go.RowKit Go.ChangeShapes
set_option linter.unusedVariables false
set_option linter.unusedSimpArgs false
namespace Ref
open Utf (nums nums_length nums_bytes IsStr nums_str)
open Var (BT info_byte GivesBytes digs digs_length)
open Pk

set_option maxRecDepth 100000 in
set_option maxHeartbeats 2000000 in
theorem body_1 (w : World) (p : Pkt) (C : List Int) (D : List (ByteArray × Int)) (hBF : BodyFit w p C D) (hz : (p.ty ≠ 2 → p.ty ≠ 9 → C = []) ∧ (p.ty ≠ 8 → p.ty ≠ 10 → D = [])) (h : p.ty = 1) : Calls Tryd.prog 44 #[.agg p.cells] w fun e w' => GivesBytes w (bodyB p C D) e w' := by
  have HBF := Lib.hid hBF
  have hA := at_box w p
  obtain ⟨W, hW⟩ : ∃ W, Hid (W = w.alloc (.cells p.cells PT)) := ⟨_, rfl⟩
  obtain ⟨g, hg⟩ : ∃ g, Hid (g = w.heap.size) := ⟨_, rfl⟩
  rw [← hW.out, ← hg.out] at hA
  have HA := Lib.hid hA
  have k0 : W.cell? ⟨g, 0, none⟩ = some (.int .i64 p.ty) := hA.at_.cell 0
  clear hA hBF
  have e1 : bodyB p C D = conB p := by unfold bodyB; rw [if_pos h]
  rw [e1]
  rw [h] at k0
  go_enter Tryd.func44, Tryd.ntmps44
  go_upto_region 2 with (fail)
  rw [← hW.out, ← hg.out]
  go_wp2_with (with_reducible refine wp_load_pkt (o := ⟨some 10, _, _, _, _, _⟩) rfl rfl rfl HA.out.at_ ?_)
  refine (con_calls W p (HBF.out.con h)).mono ?_
  rintro e w1 ⟨A1, c1, rfl, ho1, hb1⟩
  have HO1 := Lib.hid (Out.first HA.out ho1 hb1)
  obtain ⟨n1, hn1⟩ : ∃ n1, Hid (n1 = (conB p).length) := ⟨_, rfl⟩
  rw [← hn1.out] at HO1 ⊢
  clear ho1 hb1
  go_wp2_with (fail)
  go_ret
  exact HO1.out.gives
set_option maxRecDepth 100000 in
set_option maxHeartbeats 2000000 in
theorem body_0 (w : World) (p : Pkt) (C : List Int) (D : List (ByteArray × Int)) (hBF : BodyFit w p C D) (hz : (p.ty ≠ 2 → p.ty ≠ 9 → C = []) ∧ (p.ty ≠ 8 → p.ty ≠ 10 → D = [])) (h : p.ty = 12 ∨ p.ty = 13 ∨ p.ty = 14) : Calls Tryd.prog 44 #[.agg p.cells] w fun e w' => GivesBytes w (bodyB p C D) e w' := by
  have HBF := Lib.hid hBF
  have hA := at_box w p
  obtain ⟨W, hW⟩ : ∃ W, Hid (W = w.alloc (.cells p.cells PT)) := ⟨_, rfl⟩
  obtain ⟨g, hg⟩ : ∃ g, Hid (g = w.heap.size) := ⟨_, rfl⟩
  rw [← hW.out, ← hg.out] at hA
  have HA := Lib.hid hA
  have k0 : W.cell? ⟨g, 0, none⟩ = some (.int .i64 p.ty) := hA.at_.cell 0
  clear hA hBF
  have e1 : bodyB p C D = [] := by unfold bodyB; rcases h with h | h | h <;> rw [h] <;> rfl
  rw [e1]
  go_enter Tryd.func44, Tryd.ntmps44
  go_upto_region 2 with (fail)
  rw [← hW.out, ← hg.out]
  rcases h with h | h | h <;> rw [h] at k0
  all_goals
    go_wp2_with (fail)
    go_ret
    exact ⟨none, 0, rfl, OwnInts.nil _ _ _ _, HA.out.below⟩
set_option maxRecDepth 100000 in
set_option maxHeartbeats 2000000 in
theorem body_2 (w : World) (p : Pkt) (C : List Int) (D : List (ByteArray × Int)) (hBF : BodyFit w p C D) (hz : (p.ty ≠ 2 → p.ty ≠ 9 → C = []) ∧ (p.ty ≠ 8 → p.ty ≠ 10 → D = [])) (h : p.ty = 2) : Calls Tryd.prog 44 #[.agg p.cells] w fun e w' => GivesBytes w (bodyB p C D) e w' := by
  have HBF := Lib.hid hBF
  have hA := at_box w p
  obtain ⟨W, hW⟩ : ∃ W, Hid (W = w.alloc (.cells p.cells PT)) := ⟨_, rfl⟩
  obtain ⟨g, hg⟩ : ∃ g, Hid (g = w.heap.size) := ⟨_, rfl⟩
  rw [← hW.out, ← hg.out] at hA
  have HA := Lib.hid hA
  have k0 : W.cell? ⟨g, 0, none⟩ = some (.int .i64 p.ty) := hA.at_.cell 0
  clear hA hBF
  have e1 : bodyB p C D = [bitN p.present 1, lat C 0] := by unfold bodyB; rw [if_neg (by omega), if_pos h]
  rw [e1]
  rw [h] at k0
  obtain ⟨hc1, hc2, hc3⟩ := HBF.out.ack h
  obtain ⟨Ac, cc, hcs, hCr⟩ := HBF.out.lies.codes
  obtain ⟨x, rfl, hcell⟩ := hCr (by omega)
  have k15 : W.cell? ⟨g, 15, none⟩ = some (.bool p.present) := HA.out.at_.cell 15
  have k16 : W.cell? ⟨g, 16, none⟩ = some (.slice (some x) C.length cc) := by rw [← hcs]; exact HA.out.at_.cell 16
  have hx0 := hcell 0 (by omega)
  have hx : W.cell? x = some (.int .i64 (lat C 0)) := by
    have e : x.add 0 = x := by simp [Addr.add]
    rw [e] at hx0
    rw [HA.out.below.cell (World.block_lt_of_cell? w _ hx0)]; exact hx0
  have hw8 : IntKind.u8.wrap (lat C 0) = lat C 0 := wrap_u8 _ hc2 hc3
  have hcl : 0 < C.length := by omega
  obtain ⟨c0, hc0⟩ : ∃ c0, Hid (c0 = lat C 0) := ⟨_, rfl⟩
  rw [← hc0.out] at hx hw8 ⊢
  clear hcell hx0
  go_enter Tryd.func44, Tryd.ntmps44
  go_upto_region 2 with (fail)
  rw [← hW.out, ← hg.out]
  cases hp : p.present with
  | false =>
    rw [hp] at k15
    go_wp2_with (fail)
    go_ret
    exact ⟨some ⟨W.heap.size, 0, none⟩, 2, rfl, by rw [hp]; exact own_of_heap (heap_new _ _) (Nat.le_trans (by omega) HA.out.lt1) rfl (Nat.le_refl _) (by decide) rfl rfl, HA.out.below.trans ((Below.refl _ _).alloc HA.out.lt _)⟩
  | true =>
    rw [hp] at k15
    go_wp2_with (fail)
    go_ret
    exact ⟨some ⟨W.heap.size, 0, none⟩, 2, rfl, by rw [hp]; exact own_of_heap (heap_new _ _) (Nat.le_trans (by omega) HA.out.lt1) rfl (Nat.le_refl _) (by decide) rfl rfl, HA.out.below.trans ((Below.refl _ _).alloc HA.out.lt _)⟩
set_option maxRecDepth 100000 in
set_option maxHeartbeats 2000000 in
theorem body_id (w : World) (p : Pkt) (C : List Int) (D : List (ByteArray × Int)) (hBF : BodyFit w p C D) (hz : (p.ty ≠ 2 → p.ty ≠ 9 → C = []) ∧ (p.ty ≠ 8 → p.ty ≠ 10 → D = [])) (h : p.ty = 4 ∨ p.ty = 5 ∨ p.ty = 6 ∨ p.ty = 7 ∨ p.ty = 11) : Calls Tryd.prog 44 #[.agg p.cells] w fun e w' => GivesBytes w (bodyB p C D) e w' := by
  have HBF := Lib.hid hBF
  have hA := at_box w p
  obtain ⟨W, hW⟩ : ∃ W, Hid (W = w.alloc (.cells p.cells PT)) := ⟨_, rfl⟩
  obtain ⟨g, hg⟩ : ∃ g, Hid (g = w.heap.size) := ⟨_, rfl⟩
  rw [← hW.out, ← hg.out] at hA
  have HA := Lib.hid hA
  have k0 : W.cell? ⟨g, 0, none⟩ = some (.int .i64 p.ty) := hA.at_.cell 0
  clear hA hBF
  have e1 : bodyB p C D = wordB p.id := by
    unfold bodyB
    rw [hz.1 (by omega) (by omega), hz.2 (by omega) (by omega)]
    rcases h with h | h | h | h | h <;> rw [h] <;> rfl
  rw [e1]
  obtain ⟨hi0, hi1⟩ := HBF.out.ids (by omega) (by omega)
  have k2 : W.cell? ⟨g, 2, none⟩ = some (.int .i64 p.id) := HA.out.at_.cell 2
  go_enter Tryd.func44, Tryd.ntmps44
  go_upto_region 2 with (fail)
  rw [← hW.out, ← hg.out]
  rcases h with h | h | h | h | h <;> rw [h] at k0
  all_goals
    go_wp2_with (fail)
    refine (word_calls W p.id hi0 hi1).mono ?_
    rintro e w1 ⟨A1, c1, rfl, ho1, hb1⟩
    have HO1 := Lib.hid (Out.first HA.out ho1 hb1)
    obtain ⟨n1, hn1⟩ : ∃ n1, Hid (n1 = (wordB p.id).length) := ⟨_, rfl⟩
    rw [← hn1.out] at HO1 ⊢
    clear ho1 hb1
    go_wp2_with (fail)
    go_ret
    exact HO1.out.gives
set_option maxRecDepth 100000 in
set_option maxHeartbeats 2000000 in
theorem body_3 (w : World) (p : Pkt) (C : List Int) (D : List (ByteArray × Int)) (hBF : BodyFit w p C D) (hz : (p.ty ≠ 2 → p.ty ≠ 9 → C = []) ∧ (p.ty ≠ 8 → p.ty ≠ 10 → D = [])) (h : p.ty = 3) : Calls Tryd.prog 44 #[.agg p.cells] w fun e w' => GivesBytes w (bodyB p C D) e w' := by
  have HBF := Lib.hid hBF
  have hA := at_box w p
  obtain ⟨W, hW⟩ : ∃ W, Hid (W = w.alloc (.cells p.cells PT)) := ⟨_, rfl⟩
  obtain ⟨g, hg⟩ : ∃ g, Hid (g = w.heap.size) := ⟨_, rfl⟩
  rw [← hW.out, ← hg.out] at hA
  have HA := Lib.hid hA
  have k0 : W.cell? ⟨g, 0, none⟩ = some (.int .i64 p.ty) := hA.at_.cell 0
  clear hA hBF
  have e1 : bodyB p C D = (textB p.topic ++ (if p.qos = 0 then [] else wordB p.id)) ++ nums p.payload := by unfold bodyB; rw [if_neg (by omega), if_neg (by omega), if_pos h, List.append_assoc]
  have hlen := HBF.out.len
  rw [e1] at hlen ⊢
  obtain ⟨MM, hMM⟩ : ∃ M, Hid (M = (textB p.topic ++ (if p.qos = 0 then [] else wordB p.id)) ++ nums p.payload) := ⟨_, rfl⟩
  rw [← hMM.out]
  obtain ⟨ht, hq0, hq2, hid⟩ := HBF.out.pub h
  have HTL := Lib.hid ht
  have HID := Lib.hid hid
  rw [h] at k0
  have k3 : W.cell? ⟨g, 3, none⟩ = some (.string p.topic) := HA.out.at_.cell 3
  have hpl : Hid (p.payload.size ≤ 70368744177664) := by
    rw [List.length_append, List.length_append, nums_length] at hlen
    rw [Hid]; omega
  clear ht hid hlen
  go_enter Tryd.func44, Tryd.ntmps44
  go_upto_region 2 with (fail)
  rw [← hW.out, ← hg.out]
  go_wp2_with (fail)
  refine (text_calls W p.topic HTL.out).mono ?_
  rintro e w1 ⟨A1, c1, rfl, ho1, hb1⟩
  have HO1 := Lib.hid (Out.first HA.out ho1 hb1)
  obtain ⟨n1, hn1⟩ : ∃ n1, Hid (n1 = (textB p.topic).length) := ⟨_, rfl⟩
  rw [← hn1.out] at HO1 ⊢
  clear ho1 hb1 k3 k0
  have k5 : w1.cell? ⟨g, 5, none⟩ = some (.int .i64 p.qos) := HO1.out.at_.at_.cell 5
  go_upto_if 37 with (fail)
  go_cut [3] (fun v wx => ∃ A n c, v = .slice A n c ∧ Hid (Out w wx g p A n c (textB p.topic ++ (if p.qos = 0 then [] else wordB p.id))))
  case first =>
    by_cases hz' : p.qos = 0
    · have hd : decide (0 < p.qos) = false := decide_eq_false (by omega)
      rw [hz'] at k5
      go_wp2_with (fail)
      go_meet
      exact ⟨A1, n1, c1, rfl, by rw [Hid, if_pos hz', List.append_nil]; exact HO1.out⟩
    · have hd : decide (0 < p.qos) = true := decide_eq_true (by omega)
      have HI := Lib.hid (HID.out hz')
      have m1 : w1.cell? ⟨g, 2, none⟩ = some (.int .i64 p.id) := HO1.out.at_.at_.cell 2
      go_wp2_with (fail)
      refine (word_calls w1 p.id HI.out.1 HI.out.2).mono ?_
      rintro e v1 ⟨B1, d1, rfl, ho1, hb1⟩
      have HP1 := Lib.hid (HO1.out.old hb1)
      have HR1 := Lib.hid (own_reads ho1)
      obtain ⟨l1, hl1⟩ : ∃ l, Hid (l = (wordB p.id).length) := ⟨_, rfl⟩
      rw [← hl1.out]
      clear ho1 hb1 m1
      go_wp2_with (at_builtin; go_must (refine wp_out (w := w) (g := g) (p := p) (Y := wordB p.id) rfl _ _ rfl rfl rfl hl1.out HR1.out.2.2.2 HR1.out.2.2.1 HP1.out (by have := HTL.out; rw [textB_length]; show 2 + p.topic.size + 2 ≤ 140737488355328; omega) ?_))
      intro A2 n2 c2 w2 HO2
      clear HP1 HR1 HO1
      go_wp2_with (fail)
      go_meet
      exact ⟨A2, n2, c2, rfl, by rw [Hid, if_neg hz']; exact HO2.out⟩
  case rest =>
  obtain ⟨A2, n2, c2, rfl, HO2⟩ := hcut
  clear HO1 k5
  rename World => w2
  obtain ⟨X2, hX2⟩ : ∃ X, Hid (X = textB p.topic ++ (if p.qos = 0 then [] else wordB p.id)) := ⟨_, rfl⟩
  have hx2 : Hid (X2.length ≤ 65539) := by
    have := HTL.out
    rw [hX2.out, Hid, List.length_append, textB_length]
    split
    · simp; omega
    · show 2 + p.topic.size + 2 ≤ 65539; omega
  rw [← hX2.out] at HO2
  go_upto_region 13 with (fail)
  rename_i hKont
  have m4 : w2.cell? ⟨g, 4, none⟩ = some (.string p.payload) := HO2.out.at_.at_.cell 4
  refine wp_region_lit ?_
  refine st_val (.slice A2 n2 c2) (wanted_free rfl) (by exact rMove (x := .tmp 3) rfl) ?_
  refine st_val (.pointer (some ⟨g, 3, none⟩)) (wanted_free rfl) (by exact rFieldAddr (x := .tmp 1) rfl (by kernel_rfl)) ?_
  refine st_val (.pointer (some ⟨g, 4, none⟩)) (wanted_free rfl) (by exact rFieldAddr (x := .tmp 44) rfl (by kernel_rfl)) ?_
  refine st_val (.string p.payload) (wanted_free rfl) (by exact rLoad (x := .tmp 45) rfl (kLoadS 4 _ m4)) ?_
  refine wp_conv_str p.payload rfl rfl rfl ?_
  intro c3 w3 hr3 hb3
  refine wp_out (w := w) (g := g) (p := p) (Y := nums p.payload) rfl _ _ rfl rfl rfl (by rw [nums_length]) (fun h => by cases h) hr3 (HO2.out.old hb3) (by have := hx2.out; have := hpl.out; rw [nums_length]; omega) ?_
  intro A4 n4 c4 w4 HO4
  refine st_val (.slice A4 n4 c4) (wanted_free rfl) (by exact rAssign (x := .tmp 48) rfl) ?_
  refine wpList_nil (hKont _ _ ?_)
  clear hKont
  simp only [Act.put, List.setIfInBounds_toArray, List.set_cons_zero, List.set_cons_succ]
  go_wp2_with (fail)
  go_ret
  have h := HO4.out.gives
  rw [hX2.out, ← hMM.out] at h
  exact h
end Ref
end Go.Proofs.YtonemmdipmohgaaDoor

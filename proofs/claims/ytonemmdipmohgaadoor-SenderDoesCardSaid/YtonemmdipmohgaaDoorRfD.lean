/- The reference: a packet's body: filters, codes. -/
import Derived.Test.YtonemmdipmohgaaDoorRfC
namespace Go.Proofs.YtonemmdipmohgaaDoor
open Go.RowKit Go.ChangeShapes
set_option linter.unusedVariables false
set_option linter.unusedSimpArgs false
namespace Ref
open Utf (nums nums_length nums_bytes IsStr nums_str)
open Var (BT info_byte GivesBytes digs digs_length)
open Pk

set_option maxRecDepth 100000 in
set_option maxHeartbeats 2000000 in
theorem body_8 (w : World) (p : Pkt) (C : List Int) (D : List (ByteArray × Int)) (hBF : BodyFit w p C D) (hz : (p.ty ≠ 2 → p.ty ≠ 9 → C = []) ∧ (p.ty ≠ 8 → p.ty ≠ 10 → D = [])) (h : p.ty = 8) : Calls Tryd.prog 44 #[.agg p.cells] w fun e w' => GivesBytes w (bodyB p C D) e w' := by
  have HBF := Lib.hid hBF
  have hA := at_box w p
  obtain ⟨W, hW⟩ : ∃ W, Hid (W = w.alloc (.cells p.cells PT)) := ⟨_, rfl⟩
  obtain ⟨g, hg⟩ : ∃ g, Hid (g = w.heap.size) := ⟨_, rfl⟩
  rw [← hW.out, ← hg.out] at hA
  have HA := Lib.hid hA
  have k0 : W.cell? ⟨g, 0, none⟩ = some (.int .i64 p.ty) := hA.at_.cell 0
  clear hA hBF
  have e1 : bodyB p C D = wordB p.id ++ (subsB p.ty D ++ C) := by unfold bodyB; rw [if_neg (by omega), if_neg (by omega), if_neg (by omega), if_neg (by omega)]
  have hlen := HBF.out.len
  rw [e1] at hlen ⊢
  obtain ⟨M, hM⟩ : ∃ M, Hid (M = wordB p.id ++ (subsB p.ty D ++ C)) := ⟨_, rfl⟩
  rw [← hM.out]
  have hML : Hid (2 + (subsB p.ty D).length + C.length ≤ 70368744177664) := by
    rw [List.length_append, List.length_append] at hlen
    have : (wordB p.id).length = 2 := rfl
    rw [Hid]; omega
  obtain ⟨hi0, hi1⟩ := HBF.out.ids (by omega) (by omega)
  obtain ⟨Ac, cc, hcs, hCr⟩ := HBF.out.lies.codes
  obtain ⟨As, sc, hss, hDr⟩ := HBF.out.lies.subs
  have HD := Lib.hid hDr
  have HC := Lib.hid hCr
  have HSB := Lib.hid HBF.out.subs
  have HCB := Lib.hid HBF.out.codes
  have hlD : (D.length : Int) ≤ 1000000000000000000 := HBF.out.lies.lenD
  have hlC : (C.length : Int) ≤ 1000000000000000000 := HBF.out.lies.lenC
  have HC16 : Hid (∀ Wx, At w Wx g p → Wx.cell? ⟨g, 16, none⟩ = some (.slice Ac C.length cc)) := fun Wx h => by rw [← hcs]; exact h.at_.cell 16
  have HC17 : Hid (∀ Wx, At w Wx g p → Wx.cell? ⟨g, 17, none⟩ = some (.slice As D.length sc)) := fun Wx h => by rw [← hss]; exact h.at_.cell 17
  have k2 : W.cell? ⟨g, 2, none⟩ = some (.int .i64 p.id) := HA.out.at_.cell 2
  clear hlen hDr hCr hcs hss
  rw [h] at k0
  go_enter Tryd.func44, Tryd.ntmps44
  go_upto_region 2 with (fail)
  rw [← hW.out, ← hg.out]
  go_wp2_with (fail)
  refine (word_calls W p.id hi0 hi1).mono ?_
  rintro e w1 ⟨A1, c1, rfl, ho1, hb1⟩
  have HO1 := Lib.hid (Out.first HA.out ho1 hb1)
  obtain ⟨n1, hn1⟩ : ∃ n1, Hid (n1 = (wordB p.id).length) := ⟨_, rfl⟩
  rw [← hn1.out] at HO1 ⊢
  clear ho1 hb1 k2 k0
  obtain ⟨kk, hkk⟩ : ∃ kk, Hid (kk = D.length) := ⟨_, rfl⟩
  go_wp2_with (fail)
  go_loopw [3, 4] (fun t x wr => ∃ (k : Nat) (A : Option Addr) (n c : Nat), k ≤ D.length ∧ x = .int .i64 k ∧ t = .slice A n c ∧ Hid (Out w wr g p A n c (wordB p.id ++ subsB p.ty (D.take k)))) (fun _ x _ => D.length - (intOf x).toNat)
  case atStart => exact ⟨0, A1, n1, c1, Nat.zero_le _, rfl, rfl, by rw [List.take_zero, show subsB p.ty [] = [] from rfl, List.append_nil]; exact HO1.out⟩
  case round =>
    obtain ⟨k, A2, n2, c2, hk, rfl, rfl, HO2⟩ := hrel
    have hkb : (k : Int) ≤ 1000000000000000000 := by omega
    have HO2' := HO2
    obtain ⟨L, hL⟩ : ∃ L, Hid (L = wordB p.id ++ subsB p.ty (D.take k)) := ⟨_, rfl⟩
    rw [← hL.out] at HO2
    have hLl : Hid (L.length ≤ 70368744177664) := by
      have h1 := subsB_le p.ty D k
      have h2 := hML.out
      rw [hL.out, Hid, List.length_append]
      have : (wordB p.id).length = 2 := rfl
      omega
    have q17 := HC17.out wr HO2.out.at_
    by_cases hkl : k < D.length
    · obtain ⟨x, rfl, hcx⟩ := (HD.out.keep HO2.out.at_.below) (by omega)
      obtain ⟨hx0, hx1⟩ := hcx k hkl
      rw [Nat.mul_comm] at hx0 hx1
      obtain ⟨hb1, hb2, hb3⟩ := HSB.out _ (List.getElem_mem hkl)
      obtain ⟨⟨s, q⟩, hse⟩ : ∃ s, Hid (s = D[k]) := ⟨D[k], by rw [Hid]⟩
      rw [← hse.out] at hx0 hx1 hb1 hb2 hb3
      have HSZ : Hid (s.size ≤ 65535) := hb1
      have hnx : Hid (L ++ subB p.ty (s, q) = wordB p.id ++ subsB p.ty (D.take (k + 1))) := by rw [hL.out, subsB_snoc _ _ _ hkl, hse.out, List.append_assoc]; exact rfl
      have hx0' : wr.cell? (x.add (k * 2)) = some (.string s) := hx0
      clear hcx hb1 hx0
      go_wp2_with (fail)
      refine (text_calls wr s HSZ.out).mono ?_
      rintro e w3 ⟨B3, d3, rfl, ho3, hb3'⟩
      have HP3 := Lib.hid (HO2.out.old hb3')
      have HR3 := Lib.hid (own_reads ho3)
      obtain ⟨l3, hl3⟩ : ∃ l, Hid (l = (textB s).length) := ⟨_, rfl⟩
      rw [← hl3.out]
      clear ho3
      go_wp2_with (at_builtin; go_must (refine wp_out (w := w) (g := g) (p := p) (Y := textB s) rfl _ _ rfl rfl rfl hl3.out HR3.out.2.2.2 HR3.out.2.2.1 HP3.out (by have := hLl.out; have := HSZ.out; rw [textB_length]; omega) ?_))
      intro A4 n4 c4 w4 HO4
      have m0 : w4.cell? ⟨g, 0, none⟩ = some (.int .i64 p.ty) := HO4.out.at_.at_.cell 0
      rw [h] at m0
      have m17 := HC17.out w4 HO4.out.at_
      obtain ⟨x', hxe, hcx'⟩ := (HD.out.keep HO4.out.at_.below) (by omega)
      cases hxe
      obtain ⟨_, hy1⟩ := hcx' k hkl
      rw [Nat.mul_comm, ← hse.out] at hy1
      have hy1' : w4.cell? ⟨(x.add (k * 2)).block, (x.add (k * 2)).off + 1, none⟩ = some (.int .i64 q) := by
        have e : (⟨(x.add (k * 2)).block, (x.add (k * 2)).off + 1, none⟩ : Addr) = (x.add (k * 2)).add 1 := by simp [Addr.add]
        rw [e, add_add]; exact hy1
      have hq8 : IntKind.u8.wrap q = q := wrap_u8 q hb2 hb3
      have hLt : Hid ((L ++ textB s).length ≤ 70368744300000) := by have := hLl.out; have := HSZ.out; rw [Hid, List.length_append, textB_length]; omega
      obtain ⟨Y4, hY4⟩ : ∃ Y, Hid (Y = L ++ textB s) := ⟨_, rfl⟩
      rw [← hY4.out] at HO4 hLt
      clear hcx' HP3 HR3 HO2 HO2'
      go_wp2_with (at_builtin; go_must (refine wp_out (w := w) (g := g) (p := p) (Y := [q]) rfl _ _ rfl rfl rfl rfl (fun h => by cases h) (reads_lit w4 [q] _ rfl) (HO4.out.old ((Below.refl _ _).alloc (Nat.le_refl _) _)) (by have := hLt.out; simp; omega) ?_))
      intro A5 n5 c5 w5 HO5
      go_wp2_with (fail)
      go_roundw
      case rel =>
        refine ⟨k + 1, A5, n5, c5, by omega, by go_num, rfl, ?_⟩
        rw [← hnx.out]
        have h9 := HO5.out
        rw [hY4.out, List.append_assoc] at h9
        rw [subB, if_pos h]
        exact h9
      case measure => simp [intOf]; omega
    · have hk2 : D.take k = D := List.take_of_length_le (by omega)
      rw [hk2] at hL
      go_wp2_with (fail)
      have hC0 : C = [] := hz.1 (by omega) (by omega)
      have hMe : Hid (L = M) := by rw [hL.out, hM.out, hC0, List.append_nil, Hid]
      obtain ⟨kc, hkc⟩ : ∃ kc : Nat, Hid (kc = 0) := ⟨0, rfl⟩
      clear q17 HO2'
      go_loopw [3, 5] (fun t x wx => x = .int .i64 0 ∧ t = .slice A2 n2 c2 ∧ Hid (Out w wx g p A2 n2 c2 L)) (fun _ _ _ => 0)
      case atStart => exact ⟨rfl, rfl, HO2.out⟩
      case round =>
        obtain ⟨rfl, rfl, HO3⟩ := hrel
        have q16 := HC16.out wr HO3.out.at_
        rw [hC0] at q16
        go_wp2_with (fail)
        go_ret
        have h9 := HO3.out.gives
        rw [hMe.out] at h9
        exact h9
set_option maxRecDepth 100000 in
set_option maxHeartbeats 2000000 in
theorem body_9 (w : World) (p : Pkt) (C : List Int) (D : List (ByteArray × Int)) (hBF : BodyFit w p C D) (hz : (p.ty ≠ 2 → p.ty ≠ 9 → C = []) ∧ (p.ty ≠ 8 → p.ty ≠ 10 → D = [])) (h : p.ty = 9) : Calls Tryd.prog 44 #[.agg p.cells] w fun e w' => GivesBytes w (bodyB p C D) e w' := by
  have HBF := Lib.hid hBF
  have hA := at_box w p
  obtain ⟨W, hW⟩ : ∃ W, Hid (W = w.alloc (.cells p.cells PT)) := ⟨_, rfl⟩
  obtain ⟨g, hg⟩ : ∃ g, Hid (g = w.heap.size) := ⟨_, rfl⟩
  rw [← hW.out, ← hg.out] at hA
  have HA := Lib.hid hA
  have k0 : W.cell? ⟨g, 0, none⟩ = some (.int .i64 p.ty) := hA.at_.cell 0
  clear hA hBF
  have e1 : bodyB p C D = wordB p.id ++ (subsB p.ty D ++ C) := by unfold bodyB; rw [if_neg (by omega), if_neg (by omega), if_neg (by omega), if_neg (by omega)]
  have hlen := HBF.out.len
  rw [e1] at hlen ⊢
  obtain ⟨M, hM⟩ : ∃ M, Hid (M = wordB p.id ++ (subsB p.ty D ++ C)) := ⟨_, rfl⟩
  rw [← hM.out]
  have hML : Hid (2 + (subsB p.ty D).length + C.length ≤ 70368744177664) := by
    rw [List.length_append, List.length_append] at hlen
    have : (wordB p.id).length = 2 := rfl
    rw [Hid]; omega
  obtain ⟨hi0, hi1⟩ := HBF.out.ids (by omega) (by omega)
  obtain ⟨Ac, cc, hcs, hCr⟩ := HBF.out.lies.codes
  obtain ⟨As, sc, hss, hDr⟩ := HBF.out.lies.subs
  have HD := Lib.hid hDr
  have HC := Lib.hid hCr
  have HSB := Lib.hid HBF.out.subs
  have HCB := Lib.hid HBF.out.codes
  have hlD : (D.length : Int) ≤ 1000000000000000000 := HBF.out.lies.lenD
  have hlC : (C.length : Int) ≤ 1000000000000000000 := HBF.out.lies.lenC
  have HC16 : Hid (∀ Wx, At w Wx g p → Wx.cell? ⟨g, 16, none⟩ = some (.slice Ac C.length cc)) := fun Wx h => by rw [← hcs]; exact h.at_.cell 16
  have HC17 : Hid (∀ Wx, At w Wx g p → Wx.cell? ⟨g, 17, none⟩ = some (.slice As D.length sc)) := fun Wx h => by rw [← hss]; exact h.at_.cell 17
  have k2 : W.cell? ⟨g, 2, none⟩ = some (.int .i64 p.id) := HA.out.at_.cell 2
  clear hlen hDr hCr hcs hss
  rw [h] at k0
  go_enter Tryd.func44, Tryd.ntmps44
  go_upto_region 2 with (fail)
  rw [← hW.out, ← hg.out]
  go_wp2_with (fail)
  refine (word_calls W p.id hi0 hi1).mono ?_
  rintro e w1 ⟨A1, c1, rfl, ho1, hb1⟩
  have HO1 := Lib.hid (Out.first HA.out ho1 hb1)
  obtain ⟨n1, hn1⟩ : ∃ n1, Hid (n1 = (wordB p.id).length) := ⟨_, rfl⟩
  rw [← hn1.out] at HO1 ⊢
  clear ho1 hb1 k2 k0
  obtain ⟨kk, hkk⟩ : ∃ kk, Hid (kk = D.length) := ⟨_, rfl⟩
  go_wp2_with (fail)
  go_loopw [3, 4] (fun t x wr => ∃ (k : Nat) (A : Option Addr) (n c : Nat), k ≤ D.length ∧ x = .int .i64 k ∧ t = .slice A n c ∧ Hid (Out w wr g p A n c (wordB p.id ++ subsB p.ty (D.take k)))) (fun _ x _ => D.length - (intOf x).toNat)
  case atStart => exact ⟨0, A1, n1, c1, Nat.zero_le _, rfl, rfl, by rw [List.take_zero, show subsB p.ty [] = [] from rfl, List.append_nil]; exact HO1.out⟩
  case round =>
    obtain ⟨k, A2, n2, c2, hk, rfl, rfl, HO2⟩ := hrel
    have hkb : (k : Int) ≤ 1000000000000000000 := by omega
    have HO2' := HO2
    obtain ⟨L, hL⟩ : ∃ L, Hid (L = wordB p.id ++ subsB p.ty (D.take k)) := ⟨_, rfl⟩
    rw [← hL.out] at HO2
    have hLl : Hid (L.length ≤ 70368744177664) := by
      have h1 := subsB_le p.ty D k
      have h2 := hML.out
      rw [hL.out, Hid, List.length_append]
      have : (wordB p.id).length = 2 := rfl
      omega
    have q17 := HC17.out wr HO2.out.at_
    by_cases hkl : k < D.length
    · exact absurd hkl (by rw [hz.2 (by omega) (by omega)]; simp)
    · have hk2 : D.take k = D := List.take_of_length_le (by omega)
      rw [hk2] at hL
      go_wp2_with (fail)
      have hD0 : D = [] := hz.2 (by omega) (by omega)
      have hMe : Hid (L ++ C = M) := by rw [hL.out, hM.out, List.append_assoc, Hid]
      obtain ⟨kc, hkc⟩ : ∃ kc : Nat, Hid (kc = C.length) := ⟨C.length, by rw [Hid]⟩
      have hL2 : Hid (L.length + C.length ≤ 70368744177664) := by
        have h1 := hML.out
        have : (wordB p.id).length = 2 := rfl
        rw [hL.out, Hid, List.length_append]; omega
      clear q17 HO2'
      go_loopw [3, 5] (fun t x wx => ∃ (i : Nat) (A : Option Addr) (n c : Nat), i ≤ C.length ∧ x = .int .i64 i ∧ t = .slice A n c ∧ Hid (Out w wx g p A n c (L ++ C.take i))) (fun _ x _ => C.length - (intOf x).toNat)
      case atStart => exact ⟨0, A2, n2, c2, Nat.zero_le _, rfl, rfl, by rw [List.take_zero, List.append_nil]; exact HO2.out⟩
      case round =>
        obtain ⟨i, A3, n3, c3, hi, rfl, rfl, HO3⟩ := hrel
        have hib : (i : Int) ≤ 1000000000000000000 := by omega
        have q16 := HC16.out wr HO3.out.at_
        by_cases hil : i < C.length
        · obtain ⟨x, rfl, hcx⟩ := (HC.out.keep HO3.out.at_.below) (by omega)
          have hx0 := hcx i hil
          obtain ⟨hb2, hb3⟩ := HCB.out _ (List.getElem_mem hil)
          obtain ⟨q, hse⟩ : ∃ q, Hid (q = C[i]) := ⟨C[i], by rw [Hid]⟩
          rw [lat_get _ _ hil, ← hse.out] at hx0
          rw [← hse.out] at hb2 hb3
          have hq8 : IntKind.u8.wrap q = q := wrap_u8 q hb2 hb3
          have hnx : Hid ((L ++ C.take i) ++ [q] = L ++ C.take (i + 1)) := by rw [List.take_succ_eq_append_getElem hil, hse.out, List.append_assoc, Hid]
          obtain ⟨L3, hL3⟩ : ∃ L3, Hid (L3 = L ++ C.take i) := ⟨_, rfl⟩
          rw [← hL3.out] at hnx HO3
          have hl3 : Hid (L3.length ≤ 70368744177664) := by rw [hL3.out, Hid, List.length_append, List.length_take]; have := hL2.out; omega
          clear hcx
          go_wp2_with (at_builtin; go_must (refine wp_out (w := w) (g := g) (p := p) (Y := [q]) rfl _ _ rfl rfl rfl rfl (fun h => by cases h) (reads_lit wr [q] _ rfl) (HO3.out.old ((Below.refl _ _).alloc (Nat.le_refl _) _)) (by have := hl3.out; simp; omega) ?_))
          intro A5 n5 c5 w5 HO5
          go_wp2_with (fail)
          go_roundw
          case rel => exact ⟨i + 1, A5, n5, c5, by omega, by go_num, rfl, by rw [← hnx.out]; exact HO5.out⟩
          case measure => simp [intOf]; omega
        · have ht : C.take i = C := List.take_of_length_le (by omega)
          rw [ht] at HO3
          go_wp2_with (fail)
          go_ret
          have h9 := HO3.out.gives
          rw [hMe.out] at h9
          exact h9
set_option maxRecDepth 100000 in
set_option maxHeartbeats 2000000 in
theorem body_10 (w : World) (p : Pkt) (C : List Int) (D : List (ByteArray × Int)) (hBF : BodyFit w p C D) (hz : (p.ty ≠ 2 → p.ty ≠ 9 → C = []) ∧ (p.ty ≠ 8 → p.ty ≠ 10 → D = [])) (h : p.ty = 10) : Calls Tryd.prog 44 #[.agg p.cells] w fun e w' => GivesBytes w (bodyB p C D) e w' := by
  have HBF := Lib.hid hBF
  have hA := at_box w p
  obtain ⟨W, hW⟩ : ∃ W, Hid (W = w.alloc (.cells p.cells PT)) := ⟨_, rfl⟩
  obtain ⟨g, hg⟩ : ∃ g, Hid (g = w.heap.size) := ⟨_, rfl⟩
  rw [← hW.out, ← hg.out] at hA
  have HA := Lib.hid hA
  have k0 : W.cell? ⟨g, 0, none⟩ = some (.int .i64 p.ty) := hA.at_.cell 0
  clear hA hBF
  have e1 : bodyB p C D = wordB p.id ++ (subsB p.ty D ++ C) := by unfold bodyB; rw [if_neg (by omega), if_neg (by omega), if_neg (by omega), if_neg (by omega)]
  have hlen := HBF.out.len
  rw [e1] at hlen ⊢
  obtain ⟨M, hM⟩ : ∃ M, Hid (M = wordB p.id ++ (subsB p.ty D ++ C)) := ⟨_, rfl⟩
  rw [← hM.out]
  have hML : Hid (2 + (subsB p.ty D).length + C.length ≤ 70368744177664) := by
    rw [List.length_append, List.length_append] at hlen
    have : (wordB p.id).length = 2 := rfl
    rw [Hid]; omega
  obtain ⟨hi0, hi1⟩ := HBF.out.ids (by omega) (by omega)
  obtain ⟨Ac, cc, hcs, hCr⟩ := HBF.out.lies.codes
  obtain ⟨As, sc, hss, hDr⟩ := HBF.out.lies.subs
  have HD := Lib.hid hDr
  have HC := Lib.hid hCr
  have HSB := Lib.hid HBF.out.subs
  have HCB := Lib.hid HBF.out.codes
  have hlD : (D.length : Int) ≤ 1000000000000000000 := HBF.out.lies.lenD
  have hlC : (C.length : Int) ≤ 1000000000000000000 := HBF.out.lies.lenC
  have HC16 : Hid (∀ Wx, At w Wx g p → Wx.cell? ⟨g, 16, none⟩ = some (.slice Ac C.length cc)) := fun Wx h => by rw [← hcs]; exact h.at_.cell 16
  have HC17 : Hid (∀ Wx, At w Wx g p → Wx.cell? ⟨g, 17, none⟩ = some (.slice As D.length sc)) := fun Wx h => by rw [← hss]; exact h.at_.cell 17
  have k2 : W.cell? ⟨g, 2, none⟩ = some (.int .i64 p.id) := HA.out.at_.cell 2
  clear hlen hDr hCr hcs hss
  rw [h] at k0
  go_enter Tryd.func44, Tryd.ntmps44
  go_upto_region 2 with (fail)
  rw [← hW.out, ← hg.out]
  go_wp2_with (fail)
  refine (word_calls W p.id hi0 hi1).mono ?_
  rintro e w1 ⟨A1, c1, rfl, ho1, hb1⟩
  have HO1 := Lib.hid (Out.first HA.out ho1 hb1)
  obtain ⟨n1, hn1⟩ : ∃ n1, Hid (n1 = (wordB p.id).length) := ⟨_, rfl⟩
  rw [← hn1.out] at HO1 ⊢
  clear ho1 hb1 k2 k0
  obtain ⟨kk, hkk⟩ : ∃ kk, Hid (kk = D.length) := ⟨_, rfl⟩
  go_wp2_with (fail)
  go_loopw [3, 4] (fun t x wr => ∃ (k : Nat) (A : Option Addr) (n c : Nat), k ≤ D.length ∧ x = .int .i64 k ∧ t = .slice A n c ∧ Hid (Out w wr g p A n c (wordB p.id ++ subsB p.ty (D.take k)))) (fun _ x _ => D.length - (intOf x).toNat)
  case atStart => exact ⟨0, A1, n1, c1, Nat.zero_le _, rfl, rfl, by rw [List.take_zero, show subsB p.ty [] = [] from rfl, List.append_nil]; exact HO1.out⟩
  case round =>
    obtain ⟨k, A2, n2, c2, hk, rfl, rfl, HO2⟩ := hrel
    have hkb : (k : Int) ≤ 1000000000000000000 := by omega
    have HO2' := HO2
    obtain ⟨L, hL⟩ : ∃ L, Hid (L = wordB p.id ++ subsB p.ty (D.take k)) := ⟨_, rfl⟩
    rw [← hL.out] at HO2
    have hLl : Hid (L.length ≤ 70368744177664) := by
      have h1 := subsB_le p.ty D k
      have h2 := hML.out
      rw [hL.out, Hid, List.length_append]
      have : (wordB p.id).length = 2 := rfl
      omega
    have q17 := HC17.out wr HO2.out.at_
    by_cases hkl : k < D.length
    · obtain ⟨x, rfl, hcx⟩ := (HD.out.keep HO2.out.at_.below) (by omega)
      obtain ⟨hx0, hx1⟩ := hcx k hkl
      rw [Nat.mul_comm] at hx0 hx1
      obtain ⟨hb1, hb2, hb3⟩ := HSB.out _ (List.getElem_mem hkl)
      obtain ⟨⟨s, q⟩, hse⟩ : ∃ s, Hid (s = D[k]) := ⟨D[k], by rw [Hid]⟩
      rw [← hse.out] at hx0 hx1 hb1 hb2 hb3
      have HSZ : Hid (s.size ≤ 65535) := hb1
      have hnx : Hid (L ++ subB p.ty (s, q) = wordB p.id ++ subsB p.ty (D.take (k + 1))) := by rw [hL.out, subsB_snoc _ _ _ hkl, hse.out, List.append_assoc]; exact rfl
      have hx0' : wr.cell? (x.add (k * 2)) = some (.string s) := hx0
      clear hcx hb1 hx0
      go_wp2_with (fail)
      refine (text_calls wr s HSZ.out).mono ?_
      rintro e w3 ⟨B3, d3, rfl, ho3, hb3'⟩
      have HP3 := Lib.hid (HO2.out.old hb3')
      have HR3 := Lib.hid (own_reads ho3)
      obtain ⟨l3, hl3⟩ : ∃ l, Hid (l = (textB s).length) := ⟨_, rfl⟩
      rw [← hl3.out]
      clear ho3
      go_wp2_with (at_builtin; go_must (refine wp_out (w := w) (g := g) (p := p) (Y := textB s) rfl _ _ rfl rfl rfl hl3.out HR3.out.2.2.2 HR3.out.2.2.1 HP3.out (by have := hLl.out; have := HSZ.out; rw [textB_length]; omega) ?_))
      intro A4 n4 c4 w4 HO4
      have m0 : w4.cell? ⟨g, 0, none⟩ = some (.int .i64 p.ty) := HO4.out.at_.at_.cell 0
      rw [h] at m0
      go_wp2_with (fail)
      go_roundw
      case rel =>
        refine ⟨k + 1, A4, n4, c4, by omega, by go_num, rfl, ?_⟩
        rw [← hnx.out, subB, if_neg (by omega), List.append_nil]
        exact HO4.out
      case measure => simp [intOf]; omega
    · have hk2 : D.take k = D := List.take_of_length_le (by omega)
      rw [hk2] at hL
      go_wp2_with (fail)
      have hC0 : C = [] := hz.1 (by omega) (by omega)
      have hMe : Hid (L = M) := by rw [hL.out, hM.out, hC0, List.append_nil, Hid]
      obtain ⟨kc, hkc⟩ : ∃ kc : Nat, Hid (kc = 0) := ⟨0, rfl⟩
      clear q17 HO2'
      go_loopw [3, 5] (fun t x wx => x = .int .i64 0 ∧ t = .slice A2 n2 c2 ∧ Hid (Out w wx g p A2 n2 c2 L)) (fun _ _ _ => 0)
      case atStart => exact ⟨rfl, rfl, HO2.out⟩
      case round =>
        obtain ⟨rfl, rfl, HO3⟩ := hrel
        have q16 := HC16.out wr HO3.out.at_
        rw [hC0] at q16
        go_wp2_with (fail)
        go_ret
        have h9 := HO3.out.gives
        rw [hMe.out] at h9
        exact h9
/-- A packet's body, of those that may be. -/
theorem body_calls (w : World) (p : Pkt) (C : List Int) (D : List (ByteArray × Int)) (hBF : BodyFit w p C D) (hz : (p.ty ≠ 2 → p.ty ≠ 9 → C = []) ∧ (p.ty ≠ 8 → p.ty ≠ 10 → D = [])) (ht : 1 ≤ p.ty ∧ p.ty ≤ 14) : Calls Tryd.prog 44 #[.agg p.cells] w fun e w' => GivesBytes w (bodyB p C D) e w' := by
  have h : p.ty = 1 ∨ p.ty = 2 ∨ p.ty = 3 ∨ (p.ty = 4 ∨ p.ty = 5 ∨ p.ty = 6 ∨ p.ty = 7 ∨ p.ty = 11) ∨ p.ty = 8 ∨ p.ty = 9 ∨ p.ty = 10 ∨ (p.ty = 12 ∨ p.ty = 13 ∨ p.ty = 14) := by omega
  rcases h with h | h | h | h | h | h | h | h
  · exact body_1 w p C D hBF hz h
  · exact body_2 w p C D hBF hz h
  · exact body_3 w p C D hBF hz h
  · exact body_id w p C D hBF hz h
  · exact body_8 w p C D hBF hz h
  · exact body_9 w p C D hBF hz h
  · exact body_10 w p C D hBF hz h
  · exact body_0 w p C D hBF hz h
end Ref
end Go.Proofs.YtonemmdipmohgaaDoor

/- The reference's Parse: the types without fields, with an Id alone, Suback. -/
import Derived.Test.YteigakkghkjakaaDoorRfO
import Derived.Test.YteigakkghkjakaaDoorPlF
import Derived.Deep.Cut
import Derived.Deep.CutRange
namespace Go.Proofs.YteigakkghkjakaaDoor
open Go.RowKit Go.ChangeShapes
set_option linter.unusedVariables false
set_option linter.unusedSimpArgs false
namespace Ref
open Utf (nums nums_length nums_bytes IsStr nums_str)
open Var (BT info_byte GivesBytes digs digs_length tell rat_calls)
open Pk

set_option maxRecDepth 100000 in
set_option maxHeartbeats 4000000 in
theorem rparse_a (w : World) (A : Option Addr) (L : List Int) (c : Nat) (hR : Reads .u8 w A L) (hc : L.length ≤ c) (hcb : c ≤ 9223372036854775807) (hby : ∀ x ∈ L, 0 ≤ x ∧ x < 256) (hl : L.length ≤ 50000) (hT : ∀ T, T = lat L 0 / 16 → (T = 0 ∨ T = 12 ∨ T = 13 ∨ T = 14 ∨ T = 15) ∨ (T = 4 ∨ T = 5 ∨ T = 6 ∨ T = 7 ∨ T = 11) ∨ T = 9) : Calls Tryd.prog 16 #[.slice A L.length c] w fun e w' => RParsePost w L e w'  := by
  obtain ⟨v, hv⟩ : ∃ v, Hid (v = w.heap.size) := ⟨_, rfl⟩
  obtain ⟨W1, hW1⟩ : ∃ W1, Hid (W1 = w.alloc (.cells zeroC PT)) := ⟨_, rfl⟩
  have HB1 : Hid (Below w.heap.size w W1) := by rw [hW1.out]; exact (Below.refl _ _).alloc (Nat.le_refl _) _
  have hs1 : Hid (W1.heap.size = w.heap.size + 1) := by rw [hW1.out, Hid]; simp
  have HV1 : Hid (PkAt W1 v zeroP) := by rw [hW1.out, hv.out]; exact heap_new _ _
  have HR := Lib.hid hR
  have HBY := Lib.hid hby
  have hlb : (L.length : Int) ≤ 50000 := by omega
  have HC := Lib.hid (And.intro hc hcb)
  clear hR hby hl hc hcb
  go_enter Tryd.func16, Tryd.ntmps16
  go_upto_region 1 with (fail)
  rw [show w.alloc (.cells zeroC PT) = W1 from hW1.out.symm, ← hv.out]
  by_cases hL2 : L.length < 2
  · have hd : decide (L.length < 2) = true := decide_eq_true hL2
    have HNO : Hid (∀ p C D, ¬ IsPkt L p C D) := fun p C D hI => by have := (pkt_tell hI).2.2; omega
    go_upto_region 2 with (fail)
    rename_i hKont
    refine wp_region_lit ?_
    refine st_val (.agg zeroP.cells) (wanted_free rfl) (by exact rBuild0 rfl kBuildZ) ?_
    refine wp_store_pkt (g := v) zeroP zeroP rfl rfl (by rfl) (by rfl) HV1.out (by rfl) (by rfl) ?_
    intro Wf HPf tf
    refine st_val (.bool false) (wanted_free rfl) (by exact rAssign (x := .const (.bool false)) rfl) ?_
    refine wpList_nil (hKont _ _ (wp_ret ?_))
    exact ⟨rfl, _, rparse_results Wf v zeroP false _ rfl rfl HPf.out, (HB1.out).trans (tf.toBelow (HB1.out).size (fun k hk e => by have := hv.out; omega)), .inr ⟨HNO.out, rfl⟩⟩
  have hd : decide (L.length < 2) = false := decide_eq_false hL2
  obtain ⟨x, rfl, hcx⟩ := HR.out (by omega)
  obtain ⟨f, hf⟩ : ∃ f, Hid (f = lat L 0) := ⟨_, rfl⟩
  have hx0 : W1.cell? x = some (.int .u8 f) := by
    have h0 := hcx 0 (by omega)
    have h1 : x.add 0 = x := by simp [Addr.add]
    rw [h1, ← hf.out] at h0
    rw [HB1.out.cell (World.block_lt_of_cell? w _ h0)]; exact h0
  have hxb : Hid (x.block < w.heap.size) := by
    have h0 := hcx 0 (by omega)
    have := World.block_lt_of_cell? w _ h0
    rw [add_block] at this; exact this
  obtain ⟨hf0, hf1'⟩ : 0 ≤ f ∧ f < 256 := by rw [hf.out]; exact HBY.out _ (lat_mem L 0 (by omega))
  have hf1 : f ≤ 255 := by omega
  clear hcx
  go_upto_region 4 with (fail)
  rename_i hKont
  clear hx0
  obtain ⟨T, hTf⟩ : ∃ T, Hid (T = f / 16) := ⟨_, rfl⟩
  refine wp_region_lit ?_
  refine st_val (.int .i64 f) (wanted_free rfl) (by exact rMove (x := .tmp 4) rfl) ?_
  refine st_val (.int .i64 T) (wanted_free rfl) (by rw [hTf.out]; exact rBin (x := .tmp 19) (y := .const (.int .i64 16)) rfl (kQuo16 f hf0 hf1)) ?_
  refine st_val (.agg (typeP T).cells) (wanted_free rfl) (by exact rBuild1 (x := .tmp 20) rfl (kBuildP T)) ?_
  refine st_alloc (wanted_free rfl) rfl (by exact kAllocP _) ?_
  refine wp_store_pkt (g := W1.heap.size) (typeP T) zeroP rfl rfl rfl rfl (by exact heap_new _ _) rfl rfl ?_
  intro W2 HP2 t2
  refine wpList_nil (hKont _ _ ?_)
  clear hKont
  simp only [Act.put, List.setIfInBounds_toArray, List.set_cons_zero, List.set_cons_succ]
  obtain ⟨g, hg⟩ : ∃ g, Hid (g = w.heap.size + 1) := ⟨_, rfl⟩
  rw [show W1.heap.size = g by rw [hs1.out, hg.out]] at HP2 t2 ⊢
  have hb12 : Hid (Below W1.heap.size W1 W2) := (Below.alloc (Below.refl _ _) (Nat.le_refl _) _).trans (t2.toBelow (by simp) (fun k hk e => by have := hs1.out; have := hg.out; omega))
  have HB2 : Hid (Below w.heap.size w W2) := HB1.out.trans (hb12.out.mono HB1.out.size)
  have HV2 : Hid (PkAt W2 v zeroP) := HV1.out.keep (Turn.of_below (S := fun _ => False) hb12.out) (fun h => h)
  have hs2 : Hid (w.heap.size + 2 ≤ W2.heap.size) := by
    have := t2.size
    have := hs1.out
    rw [Hid]; simp at *; omega
  have HR2 : Hid (Reads .u8 W2 (some x) L) := HR.out.keep HB2.out
  clear t2 HV1 HB1 hW1
  obtain ⟨⟨n, at_, er⟩, hTe⟩ : ∃ T, Hid (T = tell 4 true L 1 0 1) := ⟨_, rfl⟩
  have HAT := Lib.hid (rat_calls W2 (some x) L c HC.out.1 HR2.out HBY.out (by omega) 1 (by decide))
  rw [← hTe.out] at HAT
  have HSOME : Hid (er = 0 → ∃ k : Nat, at_ = (k : Int) ∧ k ≤ L.length) := by
    intro h0
    rcases Var.tell_inv 3 true L 1 0 1 HBY.out with ⟨m, _, _, _, ht, hk, _⟩ | ⟨e, he, ht⟩
    · have := hTe.out
      have ht' : tell 4 true L 1 0 1 = (0 + 1 * m, ((1 : Nat) : Int) + (digs 3 m).length, 0) := ht
      rw [ht'] at this
      injection this with _ this
      injection this with e1 _
      exact ⟨1 + (digs 3 m).length, by rw [e1]; omega, hk⟩
    · have := hTe.out
      have ht' : tell 4 true L 1 0 1 = (0, 0, e) := ht
      rw [ht'] at this
      injection this with _ this
      injection this with _ e2
      omega
  have HNONE : Hid (er ≠ 0 → ∀ p C D, ¬ IsPkt L p C D) := by
    intro h0 p C D hI
    have := (pkt_tell hI).1
    rw [← hTe.out] at this
    injection this with _ this
    injection this with _ e2
    exact h0 e2
  have HAT2 : Hid (∀ p C D, IsPkt L p C D → at_ = 1 + ((digs 3 ((bodyB p C D).length : Int)).length : Int) ∧ L.drop (1 + (digs 3 ((bodyB p C D).length : Int)).length) = bodyB p C D) := by
    intro p C D hI
    obtain ⟨h1, h2, _⟩ := pkt_tell hI
    rw [← hTe.out] at h1
    injection h1 with _ h1
    injection h1 with e1 _
    exact ⟨e1, h2⟩
  go_upto_region 5 with (fail)
  go_wp2_with (fail)
  refine HAT.out.mono ?_
  rintro e w' ⟨rfl, rfl⟩
  by_cases her : er = 0
  case neg =>
    have hne : (er != 0) = true := by simpa using her
    have HNO := Lib.hid (HNONE.out her)
    go_upto_region 7 with (fail)
    rename_i hKont
    refine wp_region_lit ?_
    refine st_val (.agg zeroP.cells) (wanted_free rfl) (by exact rBuild0 rfl kBuildZ) ?_
    refine wp_store_pkt (g := v) zeroP zeroP rfl rfl (by rfl) (by rfl) HV2.out (by rfl) (by rfl) ?_
    intro Wf HPf tf
    refine st_val (.bool false) (wanted_free rfl) (by exact rAssign (x := .const (.bool false)) rfl) ?_
    refine wpList_nil (hKont _ _ (wp_ret ?_))
    exact ⟨rfl, _, rparse_results Wf v zeroP false _ rfl rfl HPf.out, (HB2.out).trans (tf.toBelow (HB2.out).size (fun k hk e => by have := hv.out; omega)), .inr ⟨HNO.out, rfl⟩⟩
  subst her
  obtain ⟨k, rfl, hkl⟩ := HSOME.out rfl
  have hkb : (k : Int) ≤ 50000 := by omega
  have HM : Hid (∀ p C D, IsPkt L p C D → L.drop k = bodyB p C D) := fun p C D hI => by
    obtain ⟨e1, e2⟩ := HAT2.out p C D hI
    rw [← e2]; congr 1; omega
  clear HAT HAT2 HNONE HSOME
  obtain ⟨M, hM⟩ : ∃ M, Hid (M = L.drop k) := ⟨_, rfl⟩
  have hMl : Hid (M.length = L.length - k) := by rw [hM.out, Hid, List.length_drop]
  have HMB : Hid (∀ x ∈ M, 0 ≤ x ∧ x < 256) := by rw [hM.out]; exact drop_bytes k HBY.out
  obtain ⟨A9, n9, c9, hsl⟩ : ∃ A9 n9 c9, Hid (A9 = some (if c = k then x else x.add k) ∧ n9 = M.length ∧ c9 = (if c = k then 0 else c - k)) := ⟨_, _, _, rfl, rfl, rfl⟩
  obtain ⟨W3, hW3⟩ : ∃ W3, Hid (W3 = W2.alloc (.cells #[.slice A9 n9 c9, .bool false] RRT)) := ⟨_, rfl⟩
  obtain ⟨r, hr⟩ : ∃ r, Hid (r = W2.heap.size) := ⟨_, rfl⟩
  have H0 : Hid (RP w W3 v g r w.heap.size (typeP T) (M, false)) := by
    have hb : Below W2.heap.size W2 W3 := by rw [hW3.out]; exact (Below.refl _ _).alloc (Nat.le_refl _) _
    have hcc := HC.out
    have hml := hMl.out
    refine ⟨HB2.out.trans (hb.mono HB2.out.size), ?_, HP2.out.keep (Turn.of_below (S := fun _ => False) hb) (fun h => h), HV2.out.keep (Turn.of_below (S := fun _ => False) hb) (fun h => h), hv.out, hg.out, by rw [hr.out]; exact hs2.out, rfl⟩
    refine ⟨A9, c9, ?_, ?_, ?_, ?_, ?_, ?_, HMB.out⟩
    · rw [hW3.out, hr.out, hsl.out.2.1]; exact heap_new _ _
    · rw [hsl.out.2.2]; simp only; split <;> omega
    · rw [hsl.out.2.2]; simp only; exact ⟨by split <;> omega, by omega⟩
    · rw [hsl.out.1]
      simp only
      by_cases hck : c = k
      · rw [if_pos hck]; intro h0; omega
      · rw [if_neg hck, hM.out]; exact reads_drop k (HR2.out.keep hb)
    · rw [hsl.out.1]; intro h; cases h
    · refine ⟨by rw [hr.out]; have := hs2.out; omega, fun y hy => ?_⟩
      rw [hsl.out.1] at hy
      cases hy
      have := hxb.out
      split
      · exact this
      · rw [add_block]; exact this
  have hn9 : Hid (n9 = L.length - k) := by rw [hsl.out.2.1, hMl.out, Hid]
  obtain ⟨⟨q, C, D, s⟩, hq⟩ : ∃ z, Hid (z = rPktR f (M, false)) := ⟨_, rfl⟩
  have HFIT : Hid (Sk 50000 q ∧ C.length ≤ 50000 + 1 ∧ D.length ≤ 50000) := by
    have h := rPkt_fit f (M, false)
    rw [← hq.out] at h
    have hml := hMl.out
    obtain ⟨⟨a1, a2, a3, a4, a5⟩, b1, b2⟩ := h
    simp only at a1 a2 a3 a4 a5 b1 b2
    exact ⟨⟨by omega, by omega, by omega, by omega, by omega⟩, by omega, by omega⟩
  have HIS : Hid (∀ vc vs, Pk.rowLen vc = C.length → Pk.rowLen vs = D.length → ∀ p' C' D', IsPkt L p' C' D' → s.2 = false ∧ Pk.May (q.rows vc vs) C D ∧ bytesB (q.rows vc vs) C D = L) := fun vc vs h1 h2 p' C' D' hI =>
    ref_is hI HBY.out hf.out.symm (by rw [hM.out]; exact HM.out p' C' D' hI) hq.out.symm vc vs h1 h2
  have HQ : Hid ((q, C, D, s) = rPktR f (M, false)) := hq
  clear hq HM
  have hT0 : Hid (0 ≤ T ∧ T ≤ 15) := by rw [hTf.out, Hid]; omega
  go_upto_region 8 with (fail)
  rename_i hKont
  refine wp_region_lit ?_
  refine st_val (.slice (some x) L.length c) (wanted_free rfl) (by exact rMove (x := .tmp 0) rfl) ?_
  refine st_val (.int .i64 (k : Int)) (wanted_free rfl) (by exact rMove (x := .tmp 7) rfl) ?_
  refine st_val (.slice A9 n9 c9) (wanted_free rfl) (by rw [hsl.out.1, hn9.out, hsl.out.2.2]; exact rSlice (x := .tmp 31) (y := .tmp 32) rfl (kSliceFrom x L.length c k hkl HC.out.1 hkb)) ?_
  refine st_val (.agg #[.slice A9 n9 c9, .bool false]) (wanted_free rfl) (by exact rBuild1 (x := .tmp 33) rfl (kBuildR _ _ _)) ?_
  refine st_any (.pointer (some ⟨W2.heap.size, 0, none⟩)) (w' := W2.alloc (.cells #[.slice A9 n9 c9, .bool false] RRT)) (wanted_free rfl) (by exact rBox (x := .tmp 34) rfl (kBoxR _ _ _ _)) ?_
  refine st_val (.pointer (some ⟨W2.heap.size, 0, none⟩)) (wanted_free rfl) (by exact rAssign (x := .tmp 35) rfl) ?_
  refine wpList_nil (hKont _ _ ?_)
  clear hKont
  simp only [Act.put, List.setIfInBounds_toArray, List.set_cons_zero, List.set_cons_succ]
  rw [show W2.alloc (.cells #[.slice A9 n9 c9, .bool false] RRT) = W3 from hW3.out.symm, ← hr.out]
  clear hW3 hsl HP2 HV2 HB2 HR2 hs2 hn9 hs1 hb12
  have k0 : W3.cell? ⟨g, 0, none⟩ = some (.int .i64 T) := H0.out.pk.cell 0
  go_upto_region 9 with (fail)
  rename_i hKont
  refine wp_region_lit ?_
  refine st_val (.pointer (some ⟨g, 0, none⟩)) (wanted_free rfl) (by exact rFieldAddr (x := .tmp 5) rfl (by kernel_rfl)) ?_
  refine st_val (.int .i64 T) (wanted_free rfl) (by exact rLoad (x := .tmp 36) rfl (kLoadI 0 _ k0)) ?_
  refine wpList_nil (hKont _ _ ?_)
  clear hKont k0
  simp only [Act.put, List.setIfInBounds_toArray, List.set_cons_zero, List.set_cons_succ]
  go_cut [10] from 38 to 143 (fun u wx => ∃ vc vs, Hid (RE w wx v g r w.heap.size q C D s vc vs))
  case first =>
    clear HIS HFIT HR
    have hTT := hT T (by rw [hTf.out, hf.out])
    rcases hTT with hT0' | hT4 | hT9
    · have hx1 : (T == 1) = false := by simp; omega
      have hx2 : (T == 2) = false := by simp; omega
      have hx3 : (T == 3) = false := by simp; omega
      have hx4 : (T == 4) = false := by simp; omega
      have hx5 : (T == 5) = false := by simp; omega
      have hx6 : (T == 6) = false := by simp; omega
      have hx7 : (T == 7) = false := by simp; omega
      have hx8 : (T == 8) = false := by simp; omega
      have hx9 : (T == 9) = false := by simp; omega
      have hx10 : (T == 10) = false := by simp; omega
      have hx11 : (T == 11) = false := by simp; omega
      have h := HQ.out
      rw [rPktR, ← hTf.out, if_neg (by omega), if_neg (by omega), if_neg (by omega), if_neg (by omega), if_neg (by omega), if_neg (by omega)] at h
      injection h with e1 h
      injection h with e2 h
      injection h with e3 e4
      have HQ1 := Lib.hid e1
      have HQ2 := Lib.hid e2
      have HQ3 := Lib.hid e3
      have HQ4 := Lib.hid e4
      clear e1 e2 e3 e4 HQ
      go_wp2_with (fail)
      go_meet
      refine ⟨nilV, nilV, ?_⟩
      rw [HQ1.out, HQ2.out, HQ3.out, HQ4.out]
      exact ⟨H0.out, own_nilC _ _, own_nilSub _ _⟩
    · rcases hT4 with e | e | e | e | e
      · subst e
        obtain ⟨⟨id, s1⟩, hs⟩ : ∃ z, rW (M, false) = z := ⟨_, rfl⟩
        have h := HQ.out
        rw [rPktR, ← hTf.out, if_neg (by omega), if_neg (by omega), if_neg (by omega), if_pos (by omega)] at h
        rw [hs] at h
        injection h with e1 h
        injection h with e2 h
        injection h with e3 e4
        have HQ1 := Lib.hid e1
        have HQ2 := Lib.hid e2
        have HQ3 := Lib.hid e3
        have HQ4 := Lib.hid e4
        clear e1 e2 e3 e4 HQ
        go_wp2_with (fail)
        refine (rW_at W3 r w.heap.size (M, false) id s1 hs H0.out.rd).mono ?_
        rintro e W4 ⟨t, rfl, hR⟩
        have hM1 : Hid (s1.1.length ≤ 50000) := by
          have := rW_len (M, false)
          rw [hs] at this
          have h2 := hMl.out
          simp only at this
          rw [Hid]; omega
        have H4 := Lib.hid (H0.out.read t hR)
        clear t hR H0 hs
        have y2 : W4.cell? ⟨g, 2, none⟩ = some (.int .i64 0) := H4.out.pk.cell 2
        have z2 := H4.out.pk.frozen 2
        obtain ⟨q0, hq0⟩ : ∃ q0 : Pkt, Hid (q0 = { typeP 4 with id := id }) := ⟨_, rfl⟩
        have H5 : Hid (RP w (W4.setCell ⟨g, 2, none⟩ (.int .i64 id)) v g r w.heap.size q0 s1) := by rw [hq0.out]; exact H4.out.set 2 (.int .i64 id) _ rfl
        replace HQ1 : Hid (q = q0) := by rw [HQ1.out, hq0.out]; exact rfl
        have hcod : Hid (q0.codes = nilV ∧ q0.subs = nilV ∧ q0.ty = 4) := by rw [hq0.out]; exact ⟨rfl, rfl, rfl⟩
        go_wp2_with (fail)
        go_meet
        refine ⟨nilV, nilV, ?_⟩
        rw [HQ1.out, HQ2.out, HQ3.out, HQ4.out]
        exact ⟨by rw [rows_self q0 hcod.out.1 hcod.out.2.1]; exact H5.out, own_nilC _ _, own_nilSub _ _⟩
      · subst e
        obtain ⟨⟨id, s1⟩, hs⟩ : ∃ z, rW (M, false) = z := ⟨_, rfl⟩
        have h := HQ.out
        rw [rPktR, ← hTf.out, if_neg (by omega), if_neg (by omega), if_neg (by omega), if_pos (by omega)] at h
        rw [hs] at h
        injection h with e1 h
        injection h with e2 h
        injection h with e3 e4
        have HQ1 := Lib.hid e1
        have HQ2 := Lib.hid e2
        have HQ3 := Lib.hid e3
        have HQ4 := Lib.hid e4
        clear e1 e2 e3 e4 HQ
        go_wp2_with (fail)
        refine (rW_at W3 r w.heap.size (M, false) id s1 hs H0.out.rd).mono ?_
        rintro e W4 ⟨t, rfl, hR⟩
        have hM1 : Hid (s1.1.length ≤ 50000) := by
          have := rW_len (M, false)
          rw [hs] at this
          have h2 := hMl.out
          simp only at this
          rw [Hid]; omega
        have H4 := Lib.hid (H0.out.read t hR)
        clear t hR H0 hs
        have y2 : W4.cell? ⟨g, 2, none⟩ = some (.int .i64 0) := H4.out.pk.cell 2
        have z2 := H4.out.pk.frozen 2
        obtain ⟨q0, hq0⟩ : ∃ q0 : Pkt, Hid (q0 = { typeP 5 with id := id }) := ⟨_, rfl⟩
        have H5 : Hid (RP w (W4.setCell ⟨g, 2, none⟩ (.int .i64 id)) v g r w.heap.size q0 s1) := by rw [hq0.out]; exact H4.out.set 2 (.int .i64 id) _ rfl
        replace HQ1 : Hid (q = q0) := by rw [HQ1.out, hq0.out]; exact rfl
        have hcod : Hid (q0.codes = nilV ∧ q0.subs = nilV ∧ q0.ty = 5) := by rw [hq0.out]; exact ⟨rfl, rfl, rfl⟩
        go_wp2_with (fail)
        go_meet
        refine ⟨nilV, nilV, ?_⟩
        rw [HQ1.out, HQ2.out, HQ3.out, HQ4.out]
        exact ⟨by rw [rows_self q0 hcod.out.1 hcod.out.2.1]; exact H5.out, own_nilC _ _, own_nilSub _ _⟩
      · subst e
        obtain ⟨⟨id, s1⟩, hs⟩ : ∃ z, rW (M, false) = z := ⟨_, rfl⟩
        have h := HQ.out
        rw [rPktR, ← hTf.out, if_neg (by omega), if_neg (by omega), if_neg (by omega), if_pos (by omega)] at h
        rw [hs] at h
        injection h with e1 h
        injection h with e2 h
        injection h with e3 e4
        have HQ1 := Lib.hid e1
        have HQ2 := Lib.hid e2
        have HQ3 := Lib.hid e3
        have HQ4 := Lib.hid e4
        clear e1 e2 e3 e4 HQ
        go_wp2_with (fail)
        refine (rW_at W3 r w.heap.size (M, false) id s1 hs H0.out.rd).mono ?_
        rintro e W4 ⟨t, rfl, hR⟩
        have hM1 : Hid (s1.1.length ≤ 50000) := by
          have := rW_len (M, false)
          rw [hs] at this
          have h2 := hMl.out
          simp only at this
          rw [Hid]; omega
        have H4 := Lib.hid (H0.out.read t hR)
        clear t hR H0 hs
        have y2 : W4.cell? ⟨g, 2, none⟩ = some (.int .i64 0) := H4.out.pk.cell 2
        have z2 := H4.out.pk.frozen 2
        obtain ⟨q0, hq0⟩ : ∃ q0 : Pkt, Hid (q0 = { typeP 6 with id := id }) := ⟨_, rfl⟩
        have H5 : Hid (RP w (W4.setCell ⟨g, 2, none⟩ (.int .i64 id)) v g r w.heap.size q0 s1) := by rw [hq0.out]; exact H4.out.set 2 (.int .i64 id) _ rfl
        replace HQ1 : Hid (q = q0) := by rw [HQ1.out, hq0.out]; exact rfl
        have hcod : Hid (q0.codes = nilV ∧ q0.subs = nilV ∧ q0.ty = 6) := by rw [hq0.out]; exact ⟨rfl, rfl, rfl⟩
        go_wp2_with (fail)
        go_meet
        refine ⟨nilV, nilV, ?_⟩
        rw [HQ1.out, HQ2.out, HQ3.out, HQ4.out]
        exact ⟨by rw [rows_self q0 hcod.out.1 hcod.out.2.1]; exact H5.out, own_nilC _ _, own_nilSub _ _⟩
      · subst e
        obtain ⟨⟨id, s1⟩, hs⟩ : ∃ z, rW (M, false) = z := ⟨_, rfl⟩
        have h := HQ.out
        rw [rPktR, ← hTf.out, if_neg (by omega), if_neg (by omega), if_neg (by omega), if_pos (by omega)] at h
        rw [hs] at h
        injection h with e1 h
        injection h with e2 h
        injection h with e3 e4
        have HQ1 := Lib.hid e1
        have HQ2 := Lib.hid e2
        have HQ3 := Lib.hid e3
        have HQ4 := Lib.hid e4
        clear e1 e2 e3 e4 HQ
        go_wp2_with (fail)
        refine (rW_at W3 r w.heap.size (M, false) id s1 hs H0.out.rd).mono ?_
        rintro e W4 ⟨t, rfl, hR⟩
        have hM1 : Hid (s1.1.length ≤ 50000) := by
          have := rW_len (M, false)
          rw [hs] at this
          have h2 := hMl.out
          simp only at this
          rw [Hid]; omega
        have H4 := Lib.hid (H0.out.read t hR)
        clear t hR H0 hs
        have y2 : W4.cell? ⟨g, 2, none⟩ = some (.int .i64 0) := H4.out.pk.cell 2
        have z2 := H4.out.pk.frozen 2
        obtain ⟨q0, hq0⟩ : ∃ q0 : Pkt, Hid (q0 = { typeP 7 with id := id }) := ⟨_, rfl⟩
        have H5 : Hid (RP w (W4.setCell ⟨g, 2, none⟩ (.int .i64 id)) v g r w.heap.size q0 s1) := by rw [hq0.out]; exact H4.out.set 2 (.int .i64 id) _ rfl
        replace HQ1 : Hid (q = q0) := by rw [HQ1.out, hq0.out]; exact rfl
        have hcod : Hid (q0.codes = nilV ∧ q0.subs = nilV ∧ q0.ty = 7) := by rw [hq0.out]; exact ⟨rfl, rfl, rfl⟩
        go_wp2_with (fail)
        go_meet
        refine ⟨nilV, nilV, ?_⟩
        rw [HQ1.out, HQ2.out, HQ3.out, HQ4.out]
        exact ⟨by rw [rows_self q0 hcod.out.1 hcod.out.2.1]; exact H5.out, own_nilC _ _, own_nilSub _ _⟩
      · subst e
        obtain ⟨⟨id, s1⟩, hs⟩ : ∃ z, rW (M, false) = z := ⟨_, rfl⟩
        have h := HQ.out
        rw [rPktR, ← hTf.out, if_neg (by omega), if_neg (by omega), if_neg (by omega), if_pos (by omega)] at h
        rw [hs] at h
        injection h with e1 h
        injection h with e2 h
        injection h with e3 e4
        have HQ1 := Lib.hid e1
        have HQ2 := Lib.hid e2
        have HQ3 := Lib.hid e3
        have HQ4 := Lib.hid e4
        clear e1 e2 e3 e4 HQ
        go_wp2_with (fail)
        refine (rW_at W3 r w.heap.size (M, false) id s1 hs H0.out.rd).mono ?_
        rintro e W4 ⟨t, rfl, hR⟩
        have hM1 : Hid (s1.1.length ≤ 50000) := by
          have := rW_len (M, false)
          rw [hs] at this
          have h2 := hMl.out
          simp only at this
          rw [Hid]; omega
        have H4 := Lib.hid (H0.out.read t hR)
        clear t hR H0 hs
        have y2 : W4.cell? ⟨g, 2, none⟩ = some (.int .i64 0) := H4.out.pk.cell 2
        have z2 := H4.out.pk.frozen 2
        obtain ⟨q0, hq0⟩ : ∃ q0 : Pkt, Hid (q0 = { typeP 11 with id := id }) := ⟨_, rfl⟩
        have H5 : Hid (RP w (W4.setCell ⟨g, 2, none⟩ (.int .i64 id)) v g r w.heap.size q0 s1) := by rw [hq0.out]; exact H4.out.set 2 (.int .i64 id) _ rfl
        replace HQ1 : Hid (q = q0) := by rw [HQ1.out, hq0.out]; exact rfl
        have hcod : Hid (q0.codes = nilV ∧ q0.subs = nilV ∧ q0.ty = 11) := by rw [hq0.out]; exact ⟨rfl, rfl, rfl⟩
        go_wp2_with (fail)
        go_meet
        refine ⟨nilV, nilV, ?_⟩
        rw [HQ1.out, HQ2.out, HQ3.out, HQ4.out]
        exact ⟨by rw [rows_self q0 hcod.out.1 hcod.out.2.1]; exact H5.out, own_nilC _ _, own_nilSub _ _⟩
    · subst hT9
      obtain ⟨⟨id, s1⟩, hs⟩ : ∃ z, rW (M, false) = z := ⟨_, rfl⟩
      have h := HQ.out
      rw [rPktR, ← hTf.out, if_neg (by omega), if_neg (by omega), if_neg (by omega), if_neg (by omega), if_neg (by omega), if_pos (by omega)] at h
      rw [hs] at h
      injection h with e1 h
      injection h with e2 h
      injection h with e3 e4
      have HQ1 := Lib.hid e1
      have HQ2 := Lib.hid e2
      have HQ3 := Lib.hid e3
      have HQ4 := Lib.hid e4
      clear e1 e2 e3 e4 HQ
      go_wp2_with (fail)
      refine (rW_at W3 r w.heap.size (M, false) id s1 hs H0.out.rd).mono ?_
      rintro e W4 ⟨t, rfl, hR⟩
      have hM1 : Hid (s1.1.length ≤ 50000) := by
        have := rW_len (M, false)
        rw [hs] at this
        have h2 := hMl.out
        simp only at this
        rw [Hid]; omega
      have H4 := Lib.hid (H0.out.read t hR)
      clear t hR H0 hs
      have y2 : W4.cell? ⟨g, 2, none⟩ = some (.int .i64 0) := H4.out.pk.cell 2
      have z2 := H4.out.pk.frozen 2
      obtain ⟨q0, hq0⟩ : ∃ q0 : Pkt, Hid (q0 = { typeP 9 with id := id }) := ⟨_, rfl⟩
      have H5 : Hid (RP w (W4.setCell ⟨g, 2, none⟩ (.int .i64 id)) v g r w.heap.size q0 s1) := by rw [hq0.out]; exact H4.out.set 2 (.int .i64 id) _ rfl
      replace HQ1 : Hid (q = q0) := by rw [HQ1.out, hq0.out]; exact rfl
      have hcod : Hid (q0.codes = nilV ∧ q0.subs = nilV ∧ q0.ty = 9) := by rw [hq0.out]; exact ⟨rfl, rfl, rfl⟩
      obtain ⟨M1, b1⟩ := s1
      go_wp2_with (fail)
      generalize hW5 : W4.setCell ⟨g, 2, none⟩ (.int .i64 id) = W5 at H5 ⊢
      clear hW5 y2 z2 H4
      go_loopg [] M1.length (fun gk wr => ∃ (vc : Value) (C0 Lc : List Int), Hid (RP w wr v g r w.heap.size (q0.rows vc nilV) (Lc, b1)) ∧ Hid (OwnInts wr (r + 1) 3 .i64 vc C0) ∧ Hid (C0 ++ Lc = M1) ∧ Hid (Lc.length = gk))
      case atStart => exact ⟨nilV, [], M1, (by rw [rows_self q0 hcod.out.1 hcod.out.2.1]; exact H5), OwnInts.nil _ _ _ _, (by rw [List.nil_append, Hid]), by rw [Hid]⟩
      case round =>
        obtain ⟨vc, C0, Lc, HQ, HO, hC, hgk⟩ := hrel
        obtain ⟨Ar, cr, hr0, hrc, hrb, _, _, _, _⟩ := HQ.out.rd
        have kr : wr.cell? ⟨r, 0, none⟩ = some (.slice Ar Lc.length cr) := by rw [cell_heap hr0]; exact rfl
        have hrl : (Lc.length : Int) ≤ 140737488355328 := by have := hrb.2; simp only at this; omega
        clear hr0 hrc hrb
        cases Lc with
        | nil =>
          go_wp2_with (fail)
          go_meet
          refine ⟨vc, nilV, ?_⟩
          have hC' := hC.out
          rw [List.append_nil] at hC'
          rw [HQ1.out, HQ2.out, HQ3.out, HQ4.out]
          exact ⟨HQ.out, by rw [← hC']; exact HO.out, own_nilSub _ _⟩
        | cons x L' =>
          obtain ⟨A, c', hv', _, _, _⟩ := HO.out.form
          subst hv'
          cases gk with
          | zero => exact absurd hgk.out (by simp)
          | succ k1 =>
            have hk1 : Hid (L'.length = k1) := by have := hgk.out; rw [Hid]; simpa using this
            have hCx : Hid ((C0 ++ [x]) ++ L' = M1) := by rw [List.append_assoc]; exact hC.out
            have hlen : Hid (C0.length + 1 ≤ 140737488355328 ∧ (C0.length + 1) * 8 ≤ 140737488355328) := by
              have h1 := congrArg List.length hC.out
              have h2 := hM1.out
              rw [List.length_append, List.length_cons] at h1
              rw [Hid]; try simp only at h2
              exact ⟨by omega, by omega⟩
            have k16 : wr.cell? ⟨g, 16, none⟩ = some (.slice A C0.length c') := HQ.out.pk.cell 16
            have k16d : wr.drew.cell? ⟨g, 16, none⟩ = some (.slice A C0.length c') := k16
            have HOct : Hid (∀ (R : Ending → World → Prop), (∀ w5, Hid (RP w w5 v g r w.heap.size (q0.rows (.slice A C0.length c') nilV) (L', b1)) → Hid (OwnInts w5 (r + 1) 3 .i64 (.slice A C0.length c') C0) → w5.cell? ⟨g, 16, none⟩ = some (.slice A C0.length c') → (∀ o, (w5.alloc o).cell? ⟨g, 16, none⟩ = some (.slice A C0.length c')) → R (.returned (.int .i64 x)) w5) → Calls Tryd.prog 40 #[.pointer (some ⟨r, 0, none⟩)] wr.drew R) := by
              intro R hK
              refine (r1_at wr.drew r w.heap.size (x :: L', b1) x (L', b1) rfl HQ.out.drew.rd).mono ?_
              rintro e w5 ⟨t, rfl, hR⟩
              have H5 : RP w w5 v g r w.heap.size (q0.rows (.slice A C0.length c') nilV) (L', b1) := HQ.out.drew.read t hR
              exact hK w5 H5 (OwnInts.turn (OwnInts.turn HO.out (Turn.drew (Turn.refl (fun _ => False) _)) (fun _ _ h => h)) t (fun j hj e => by have := (own_block_ge HO.out j hj).1; omega)) (H5.pk.cell 16) (fun o => (H5.old (Below.alloc (Below.refl _ _) (Nat.le_refl _) o)).pk.cell 16)
            go_upto_region 39 with (fail)
            go_region_law (first
              | (refine step_append_row (r + 1) rfl _ _ 25 3 .i64 8 rfl Tryd.underlying25 info_int _ C0 [x] _ 1 rfl rfl (by exact reads_lit _ [x] _ rfl) (own_alloc HO5.out _) (Nat.le_trans H5.out.big (by simp)) hlen.out ?_
                 intro A6 c6 w6 hown6 ht6
                 have H6 : Hid (RP w w6 v g r w.heap.size (q0.rows (.slice A C0.length c') nilV) (L', b1)) := (H5.out.old (Below.alloc (Below.refl _ _) (Nat.le_refl _) _)).grow ht6 (fun k hk => (own_block_ge HO5.out k hk).1)
                 have k166 : w6.cell? ⟨g, 16, none⟩ = some (.slice A C0.length c') := H6.out.pk.cell 16
                 have f166 := H6.out.pk.frozen 16
                 have HO6 := Lib.hid hown6
                 clear hown6 ht6)
              | (go_simp; go_at_call 40
                 refine HOct.out _ ?_
                 intro w5 H5 HO5 k165 k165a))
            all_goals
              go_wp2_with (fail)
              have HQ6 : Hid (RP w (w6.setCell ⟨g, 16, none⟩ (.slice A6 (C0.length + 1) c6)) v g r w.heap.size (q0.rows (.slice A6 (C0.length + 1) c6) nilV) (L', b1)) := H6.out.set 16 _ _ rfl
              have HO7 : Hid (OwnInts (w6.setCell ⟨g, 16, none⟩ (.slice A6 (C0.length + 1) c6)) (r + 1) 3 .i64 (.slice A6 (C0.length + 1) c6) (C0 ++ [x])) := by
                have := HO6.out
                rw [List.length_append, List.length_singleton] at this
                exact this.turn (Turn.setCell (S := fun k => k = g) _ _ rfl) (fun j hj e => by have := (own_block_ge this j hj).1; have := H6.out.rw_; have := H6.out.gw; omega)
              go_roundg k1
              case rel => exact ⟨_, C0 ++ [x], L', HQ6, HO7, hCx, hk1⟩
              case measure => omega
  case rest =>
  obtain ⟨vc, vs, HE⟩ := hcut
  rename World => Wn
  clear H0
  have HL := Lib.hid (HE.out.mayIn (K := 50000) (by omega) HFIT.out.1 HFIT.out.2.1 HFIT.out.2.2)
  obtain ⟨p, hp⟩ : ∃ p, Hid (p = q.rows vc vs) := ⟨_, rfl⟩
  have HIP := Lib.hid (HIS.out vc vs (rows_len HE.out.oc) (subs_len HE.out.os))
  have HOC : Hid (OwnInts Wn (r + 1) 3 .i64 p.codes C) := by rw [hp.out]; exact HE.out.oc
  have HOS : Hid (Wn.ownsRow (r + 1) 76 2 p.subs D.length (subCells D)) := by rw [hp.out]; exact HE.out.os
  have HP : Hid (RP w Wn v g r w.heap.size p s) := by rw [hp.out]; exact HE.out.rp
  rw [← hp.out] at HL HIP
  obtain ⟨M', bad⟩ := s
  clear HE HIS HFIT hp HQ
  have HT0 : Turn (fun _ => False) Wn Wn.drew := Turn.drew (Turn.refl _ _)
  have HCV : Hid (∀ W', Turn (fun _ => False) Wn W' → (convert 22 9 (.slice (some x) L.length c)).run Tryd.prog W' = .ok (.string (strOfNums L)) W') := Lib.hid fun W' t => conv_reads (P := Tryd.prog) (W := W') (src := 22) (dst := 9) (e := 5) (A := some x) (n := L.length) (c := c) (L := L) Tryd.underlying22 Tryd.underlying5 Tryd.underlying9 rfl (reads_turn (HR.out.keep HP.out.below) t (fun _ _ h => h))
  have HRB1 : Hid (Wn.cell? ⟨r, 1, none⟩ = some (.bool bad)) := by obtain ⟨A', c', h1, _⟩ := HP.out.rd; rw [Hid, cell_heap h1]; rfl
  have HK : Hid (∀ W', Turn (fun _ => False) Wn W' → (Hid (PkAt W' g p) ∧ W'.cell? ⟨r, 1, none⟩ = some (.bool bad) ∧ (convert 22 9 (.slice (some x) L.length c)).run Tryd.prog W' = .ok (.string (strOfNums L)) W')) := Lib.hid fun W' t => ⟨HP.out.pk.keep t (fun h => h), t.cell HRB1.out (fun h => h), HCV.out W' t⟩
  cases bad with
  | true =>
    have HNO : Hid (∀ p C D, ¬ IsPkt L p C D) := fun p' C' D' hI => by have := (HIP.out p' C' D' hI).1; cases this
    go_upto_region 40 with (fail)
    refine wp_region_held_drew (S := (fun W' => Hid (PkAt W' g p) ∧ W'.cell? ⟨r, 1, none⟩ = some (.bool true) ∧ (convert 22 9 (.slice (some x) L.length c)).run Tryd.prog W' = .ok (.string (strOfNums L)) W')) (by kernel_rfl) (by first | exact HK.out _ HT6 | exact HK.out _ HT5 | exact HK.out _ HT0) (fun hHeld => ?_)
    refine wpAnyH_take (i := 0) (oi := ⟨_, _, _, _, _, _⟩) (v := ?_) rfl (by kernel_rfl) (by kernel_rfl) (by kernel_rfl) (fun _ _ _ h => h) (Or.inl ⟨by kernel_rfl, ?_⟩) hHeld ?_
    rotate_left
    · (intro w hSw; obtain ⟨s1, s2, s3⟩ := hSw; go_simp; try with_reducible rfl)
    simp only [Act.put, List.setIfInBounds_toArray, List.set_cons_zero, List.set_cons_succ]
    refine wpAnyH_take (i := 1) (oi := ⟨_, _, _, _, _, _⟩) (v := ?_) rfl (by kernel_rfl) (by kernel_rfl) (by kernel_rfl) (fun _ _ _ h => h) (Or.inl ⟨by kernel_rfl, ?_⟩) hHeld ?_
    rotate_left
    · (intro w hSw; obtain ⟨s1, s2, s3⟩ := hSw; go_simp; try with_reducible rfl)
    simp only [Act.put, List.setIfInBounds_toArray, List.set_cons_zero, List.set_cons_succ]
    refine wpAnyH_take (i := 2) (oi := ⟨_, _, _, _, _, _⟩) (v := ?_) rfl (by kernel_rfl) (by kernel_rfl) (by kernel_rfl) (fun _ _ _ h => h) (Or.inl ⟨by kernel_rfl, ?_⟩) hHeld ?_
    rotate_left
    · (intro w hSw; obtain ⟨s1, s2, s3⟩ := hSw; go_simp; try with_reducible rfl)
    simp only [Act.put, List.setIfInBounds_toArray, List.set_cons_zero, List.set_cons_succ]
    refine wpAnyH_take (i := 3) (oi := ⟨_, _, _, _, _, _⟩) (v := ?_) rfl (by kernel_rfl) (by kernel_rfl) (by kernel_rfl) (fun _ _ _ h => h) (Or.inl ⟨by kernel_rfl, ?_⟩) hHeld ?_
    rotate_left
    · (intro w hSw; obtain ⟨s1, s2, s3⟩ := hSw; go_simp; try with_reducible rfl)
    simp only [Act.put, List.setIfInBounds_toArray, List.set_cons_zero, List.set_cons_succ]
    refine wpAnyH_take (i := 4) (oi := ⟨_, _, _, _, _, _⟩) (v := ?_) rfl (by kernel_rfl) (by kernel_rfl) (by kernel_rfl) (fun _ _ _ h => h) (Or.inl ⟨by kernel_rfl, ?_⟩) hHeld ?_
    rotate_left
    · (intro w hSw; obtain ⟨s1, s2, s3⟩ := hSw; go_simp; try with_reducible rfl)
    simp only [Act.put, List.setIfInBounds_toArray, List.set_cons_zero, List.set_cons_succ]
    refine wpAnyH_take (i := 5) (oi := ⟨_, _, _, _, _, _⟩) rfl (by kernel_rfl) (by kernel_rfl) (by kernel_rfl) (fun _ _ _ h => h) (Or.inr ⟨by kernel_rfl, rfl⟩) hHeld ?_
    simp only [Act.put, List.setIfInBounds_toArray, List.set_cons_zero, List.set_cons_succ]
    refine wpAnyH_take (i := 6) (oi := ⟨_, _, _, _, _, _⟩) rfl (by kernel_rfl) (by kernel_rfl) (by kernel_rfl) (fun _ _ _ h => h) (Or.inr ⟨by kernel_rfl, rfl⟩) hHeld ?_
    simp only [Act.put, List.setIfInBounds_toArray, List.set_cons_zero, List.set_cons_succ]
    refine wpAnyH_take (i := 7) (oi := ⟨_, _, _, _, _, _⟩) rfl (by kernel_rfl) (by kernel_rfl) (by kernel_rfl) (fun _ _ _ h => h) (Or.inr ⟨by kernel_rfl, rfl⟩) hHeld ?_
    simp only [Act.put, List.setIfInBounds_toArray, List.set_cons_zero, List.set_cons_succ]
    refine wpAnyH_take (i := 8) (oi := ⟨_, _, _, _, _, _⟩) (v := ?_) rfl (by kernel_rfl) (by kernel_rfl) (by kernel_rfl) (fun _ _ _ h => h) (Or.inl ⟨by kernel_rfl, ?_⟩) hHeld ?_
    rotate_left
    · (intro w hSw; obtain ⟨s1, s2, s3⟩ := hSw; go_simp; try with_reducible rfl)
    simp only [Act.put, List.setIfInBounds_toArray, List.set_cons_zero, List.set_cons_succ]
    refine wpAnyH_take (i := 9) (oi := ⟨_, _, _, _, _, _⟩) (v := ?_) rfl (by kernel_rfl) (by kernel_rfl) (by kernel_rfl) (fun _ _ _ h => h) (Or.inl ⟨by kernel_rfl, ?_⟩) hHeld ?_
    rotate_left
    · (intro w hSw; obtain ⟨s1, s2, s3⟩ := hSw; go_simp; try with_reducible rfl)
    simp only [Act.put, List.setIfInBounds_toArray, List.set_cons_zero, List.set_cons_succ]
    refine wpAnyH_take (i := 10) (oi := ⟨_, _, _, _, _, _⟩) rfl (by kernel_rfl) (by kernel_rfl) (by kernel_rfl) (fun _ _ _ h => h) (Or.inr ⟨by kernel_rfl, rfl⟩) hHeld ?_
    simp only [Act.put, List.setIfInBounds_toArray, List.set_cons_zero, List.set_cons_succ]
    refine wpAnyH_take (i := 11) (oi := ⟨_, _, _, _, _, _⟩) rfl (by kernel_rfl) (by kernel_rfl) (by kernel_rfl) (fun _ _ _ h => h) (Or.inr ⟨by kernel_rfl, rfl⟩) hHeld ?_
    simp only [Act.put, List.setIfInBounds_toArray, List.set_cons_zero, List.set_cons_succ]
    refine wpAnyH_take (i := 12) (oi := ⟨_, _, _, _, _, _⟩) rfl (by kernel_rfl) (by kernel_rfl) (by kernel_rfl) (fun _ _ _ h => h) (Or.inr ⟨by kernel_rfl, rfl⟩) hHeld ?_
    simp only [Act.put, List.setIfInBounds_toArray, List.set_cons_zero, List.set_cons_succ]
    refine wpAnyH_take (i := 13) (oi := ⟨_, _, _, _, _, _⟩) rfl (by kernel_rfl) (by kernel_rfl) (by kernel_rfl) (fun _ _ _ h => h) (Or.inr ⟨by kernel_rfl, rfl⟩) hHeld ?_
    simp only [Act.put, List.setIfInBounds_toArray, List.set_cons_zero, List.set_cons_succ]
    refine wpAnyH_take (i := 14) (oi := ⟨_, _, _, _, _, _⟩) rfl (by kernel_rfl) (by kernel_rfl) (by kernel_rfl) (fun _ _ _ h => h) (Or.inr ⟨by kernel_rfl, rfl⟩) hHeld ?_
    simp only [Act.put, List.setIfInBounds_toArray, List.set_cons_zero, List.set_cons_succ]
    refine wpAnyH_take (i := 15) (oi := ⟨_, _, _, _, _, _⟩) rfl (by kernel_rfl) (by kernel_rfl) (by kernel_rfl) (fun _ _ _ h => h) (Or.inr ⟨by kernel_rfl, rfl⟩) hHeld ?_
    simp only [Act.put, List.setIfInBounds_toArray, List.set_cons_zero, List.set_cons_succ]
    refine wpAnyH_take (i := 16) (oi := ⟨_, _, _, _, _, _⟩) (v := ?_) rfl (by kernel_rfl) (by kernel_rfl) (by kernel_rfl) (fun _ _ _ h => h) (Or.inl ⟨by kernel_rfl, ?_⟩) hHeld ?_
    rotate_left
    · (intro w hSw; obtain ⟨s1, s2, s3⟩ := hSw; go_simp; try with_reducible rfl)
    simp only [Act.put, List.setIfInBounds_toArray, List.set_cons_zero, List.set_cons_succ]
    refine wpAnyH_done (by kernel_rfl) ?_ _
    go_upto_region 41 with (fail)
    rename_i hKont
    refine wp_region_lit ?_
    refine st_val (.agg zeroP.cells) (wanted_free rfl) (by exact rBuild0 rfl kBuildZ) ?_
    refine wp_store_pkt (g := v) zeroP zeroP rfl rfl (by rfl) (by rfl) (HP.out.res.keep HT0 (fun h => h)) (by rfl) (by rfl) ?_
    intro Wf HPf tf
    refine st_val (.bool false) (wanted_free rfl) (by exact rAssign (x := .const (.bool false)) rfl) ?_
    refine wpList_nil (hKont _ _ (wp_ret ?_))
    exact ⟨rfl, _, rparse_results Wf v zeroP false _ rfl rfl HPf.out, (HP.out.below.trans (HT0.toBelow HP.out.below.size (fun _ _ h => h))).trans (tf.toBelow (HP.out.below.trans (HT0.toBelow HP.out.below.size (fun _ _ h => h))).size (fun k hk e => by have := hv.out; omega)), .inr ⟨HNO.out, rfl⟩⟩
  | false =>
    by_cases hm : Pk.May p C D
    · have HM := Lib.hid hm
      have HMAY : Hid (∀ W', Below Wn.heap.size Wn W' → Calls Tryd.prog 23 #[.agg p.cells] W' fun e w' => e = .returned (.bool true) ∧ Below W'.heap.size W' w') := Lib.hid fun W' hb => by
        have h := may_calls W' p C D (HL.out.keep hb)
        rw [decide_eq_true HM.out] at h
        exact h
      have HRB : Hid (∀ W', Below Wn.heap.size Wn W' → Calls Tryd.prog 24 #[.agg p.cells] W' fun e w' => GivesBytes W' (bytesB p C D) e w') := Lib.hid fun W' hb => by
        have hin := HL.out.keep hb
        exact bytes_calls W' p C D hin.lies HM.out (good_fit hin.lies HM.out.1 (hin.len HM.out.1)) (uses_C (good_uses p C D (lies_long hin.lies) HM.out.1))
      clear hm
      obtain ⟨LB, hLB⟩ : ∃ LB, Hid (LB = bytesB p C D) := ⟨_, rfl⟩
      have HLBB : Hid (∀ y ∈ LB, 0 ≤ y ∧ y < 256) := by rw [hLB.out]; exact bytesB_bytes HL.out.lies HM.out
      rw [← hLB.out] at HRB HIP
      by_cases hbe : LB = L
      · have HPK : Hid (IsPkt L p C D) := ⟨lies_long HL.out.lies, HM.out, by rw [← hLB.out]; exact hbe⟩
        subst hbe
        clear HIP hLB
        go_upto_region 40 with (fail)
        refine wp_region_held_drew (S := (fun W' => Hid (PkAt W' g p) ∧ W'.cell? ⟨r, 1, none⟩ = some (.bool false) ∧ (convert 22 9 (.slice (some x) LB.length c)).run Tryd.prog W' = .ok (.string (strOfNums LB)) W')) (by kernel_rfl) (by first | exact HK.out _ HT6 | exact HK.out _ HT5 | exact HK.out _ HT0) (fun hHeld => ?_)
        refine wpAnyH_take (i := 0) (oi := ⟨_, _, _, _, _, _⟩) (v := ?_) rfl (by kernel_rfl) (by kernel_rfl) (by kernel_rfl) (fun _ _ _ h => h) (Or.inl ⟨by kernel_rfl, ?_⟩) hHeld ?_
        rotate_left
        · (intro w hSw; obtain ⟨s1, s2, s3⟩ := hSw; go_simp; try with_reducible rfl)
        simp only [Act.put, List.setIfInBounds_toArray, List.set_cons_zero, List.set_cons_succ]
        refine wpAnyH_take (i := 1) (oi := ⟨_, _, _, _, _, _⟩) (v := ?_) rfl (by kernel_rfl) (by kernel_rfl) (by kernel_rfl) (fun _ _ _ h => h) (Or.inl ⟨by kernel_rfl, ?_⟩) hHeld ?_
        rotate_left
        · (intro w hSw; obtain ⟨s1, s2, s3⟩ := hSw; go_simp; try with_reducible rfl)
        simp only [Act.put, List.setIfInBounds_toArray, List.set_cons_zero, List.set_cons_succ]
        refine wpAnyH_take (i := 2) (oi := ⟨_, _, _, _, _, _⟩) (v := ?_) rfl (by kernel_rfl) (by kernel_rfl) (by kernel_rfl) (fun _ _ _ h => h) (Or.inl ⟨by kernel_rfl, ?_⟩) hHeld ?_
        rotate_left
        · (intro w hSw; obtain ⟨s1, s2, s3⟩ := hSw; go_simp; try with_reducible rfl)
        simp only [Act.put, List.setIfInBounds_toArray, List.set_cons_zero, List.set_cons_succ]
        refine wpAnyH_take (i := 3) (oi := ⟨_, _, _, _, _, _⟩) (v := ?_) rfl (by kernel_rfl) (by kernel_rfl) (by kernel_rfl) (fun _ _ _ h => h) (Or.inl ⟨by kernel_rfl, ?_⟩) hHeld ?_
        rotate_left
        · (intro w hSw; obtain ⟨s1, s2, s3⟩ := hSw; go_simp; try with_reducible rfl)
        simp only [Act.put, List.setIfInBounds_toArray, List.set_cons_zero, List.set_cons_succ]
        refine wpAnyH_take (i := 4) (oi := ⟨_, _, _, _, _, _⟩) (v := ?_) rfl (by kernel_rfl) (by kernel_rfl) (by kernel_rfl) (fun _ _ _ h => h) (Or.inl ⟨by kernel_rfl, ?_⟩) hHeld ?_
        rotate_left
        · (intro w hSw; obtain ⟨s1, s2, s3⟩ := hSw; go_simp; try with_reducible rfl)
        simp only [Act.put, List.setIfInBounds_toArray, List.set_cons_zero, List.set_cons_succ]
        refine wpAnyH_take (i := 5) (oi := ⟨_, _, _, _, _, _⟩) (v := .agg p.cells) rfl (by kernel_rfl) (by kernel_rfl) (by kernel_rfl) (fun _ _ _ h => h) (Or.inl ⟨by kernel_rfl, ?_⟩) hHeld ?_
        · (intro w hSw; obtain ⟨s1, s2, s3⟩ := hSw; exact rLoad (x := .tmp 5) rfl (by exact load_pkt _ _ _ s1.out))
        simp only [Act.put, List.setIfInBounds_toArray, List.set_cons_zero, List.set_cons_succ]
        refine wpAnyH_ready (rs := [6]) (by kernel_rfl) (by simp) ?_
        refine AllReadyH.cons rfl (fun K hK => ?_) AllReadyH.nil
        go_simp
        go_wp2_with (go_at_call 23; refine (HMAY.out _ (HT0.toBelow (Nat.le_refl _) (fun _ _ h => h))).mono ?_; rintro e w5 ⟨rfl, hb5⟩; have HT5 := HT0.trans (Turn.of_below hb5))
        refine hK.out _ _ (by first | exact HK.out _ HT6 | exact HK.out _ HT5 | exact HK.out _ HT0) (fun hHeld => ?_)
        clear hK K
        refine wpAnyH_take (i := 7) (oi := ⟨_, _, _, _, _, _⟩) (v := ?_) rfl (by kernel_rfl) (by kernel_rfl) (by kernel_rfl) (fun _ _ _ h => h) (Or.inl ⟨by kernel_rfl, ?_⟩) hHeld ?_
        rotate_left
        · (intro w hSw; obtain ⟨s1, s2, s3⟩ := hSw; go_simp; try with_reducible rfl)
        simp only [Act.put, List.setIfInBounds_toArray, List.set_cons_zero, List.set_cons_succ]
        refine wpAnyH_take (i := 8) (oi := ⟨_, _, _, _, _, _⟩) (v := ?_) rfl (by kernel_rfl) (by kernel_rfl) (by kernel_rfl) (fun _ _ _ h => h) (Or.inl ⟨by kernel_rfl, ?_⟩) hHeld ?_
        rotate_left
        · (intro w hSw; obtain ⟨s1, s2, s3⟩ := hSw; go_simp; try with_reducible rfl)
        simp only [Act.put, List.setIfInBounds_toArray, List.set_cons_zero, List.set_cons_succ]
        refine wpAnyH_take (i := 9) (oi := ⟨_, _, _, _, _, _⟩) (v := ?_) rfl (by kernel_rfl) (by kernel_rfl) (by kernel_rfl) (fun _ _ _ h => h) (Or.inl ⟨by kernel_rfl, ?_⟩) hHeld ?_
        rotate_left
        · (intro w hSw; obtain ⟨s1, s2, s3⟩ := hSw; go_simp; try with_reducible rfl)
        simp only [Act.put, List.setIfInBounds_toArray, List.set_cons_zero, List.set_cons_succ]
        refine wpAnyH_take (i := 10) (oi := ⟨_, _, _, _, _, _⟩) (v := .agg p.cells) rfl (by kernel_rfl) (by kernel_rfl) (by kernel_rfl) (fun _ _ _ h => h) (Or.inl ⟨by kernel_rfl, ?_⟩) hHeld ?_
        · (intro w hSw; obtain ⟨s1, s2, s3⟩ := hSw; exact rLoad (x := .tmp 5) rfl (by exact load_pkt _ _ _ s1.out))
        simp only [Act.put, List.setIfInBounds_toArray, List.set_cons_zero, List.set_cons_succ]
        refine wpAnyH_take (i := 13) (oi := ⟨_, _, _, _, _, _⟩) (v := ?_) rfl (by kernel_rfl) (by kernel_rfl) (by kernel_rfl) (fun _ _ _ h => h) (Or.inl ⟨by kernel_rfl, ?_⟩) hHeld ?_
        rotate_left
        · (intro w hSw; obtain ⟨s1, s2, s3⟩ := hSw; go_simp; try with_reducible rfl)
        simp only [Act.put, List.setIfInBounds_toArray, List.set_cons_zero, List.set_cons_succ]
        refine wpAnyH_take (i := 14) (oi := ⟨_, _, _, _, _, _⟩) (v := ?_) rfl (by kernel_rfl) (by kernel_rfl) (by kernel_rfl) (fun _ _ _ h => h) (Or.inl ⟨by kernel_rfl, ?_⟩) hHeld ?_
        rotate_left
        · (intro w hSw; obtain ⟨s1, s2, s3⟩ := hSw; go_simp; try with_reducible rfl)
        simp only [Act.put, List.setIfInBounds_toArray, List.set_cons_zero, List.set_cons_succ]
        refine wpAnyH_ready (rs := [11]) (by kernel_rfl) (by simp) ?_
        refine AllReadyH.cons rfl (fun K hK => ?_) AllReadyH.nil
        go_simp
        go_wp2_with (go_at_call 24; refine (HRB.out _ (HT5.toBelow (Nat.le_refl _) (fun _ _ h => h))).mono ?_; rintro e w6 ⟨A6, c6, rfl, ho6, hb6⟩; have HT6 := HT5.trans (Turn.of_below hb6); have hcv6 := conv_own (P := Tryd.prog) (W := w6) (src := 22) (dst := 9) Tryd.underlying22 Tryd.underlying5 Tryd.underlying9 ho6)
        refine hK.out _ _ (by first | exact HK.out _ HT6 | exact HK.out _ HT5 | exact HK.out _ HT0) (fun hHeld => ?_)
        clear hK K
        refine wpAnyH_ready (rs := [12]) (by kernel_rfl) (by simp) ?_
        refine AllReadyH.cons rfl (fun K hK => ?_) AllReadyH.nil
        go_simp
        skip
        refine hK.out _ _ (by first | exact HK.out _ HT6 | exact HK.out _ HT5 | exact HK.out _ HT0) (fun hHeld => ?_)
        clear hK K
        refine wpAnyH_take (i := 15) (oi := ⟨_, _, _, _, _, _⟩) (v := ?_) rfl (by kernel_rfl) (by kernel_rfl) (by kernel_rfl) (fun _ _ _ h => h) (Or.inl ⟨by kernel_rfl, ?_⟩) hHeld ?_
        rotate_left
        · (intro w hSw; obtain ⟨s1, s2, s3⟩ := hSw; go_simp; try with_reducible rfl)
        simp only [Act.put, List.setIfInBounds_toArray, List.set_cons_zero, List.set_cons_succ]
        refine wpAnyH_take (i := 16) (oi := ⟨_, _, _, _, _, _⟩) (v := ?_) rfl (by kernel_rfl) (by kernel_rfl) (by kernel_rfl) (fun _ _ _ h => h) (Or.inl ⟨by kernel_rfl, ?_⟩) hHeld ?_
        rotate_left
        · (intro w hSw; obtain ⟨s1, s2, s3⟩ := hSw; go_simp; try with_reducible rfl)
        simp only [Act.put, List.setIfInBounds_toArray, List.set_cons_zero, List.set_cons_succ]
        refine wpAnyH_done (by kernel_rfl) ?_ _
        go_upto_region 42 with (fail)
        rename_i hKont
        refine wp_region_lit (wp_load_pkt (p := p) rfl rfl (by rfl) (HP.out.pk.keep HT6 (fun h => h)) ?_)
        have HV6 : PkAt w6 v zeroP := HP.out.res.keep HT6 (fun h => h)
        refine wp_store_pkt (g := v) p zeroP rfl rfl (by rfl) (by rfl) HV6 (by obtain ⟨A', c', hv', _⟩ := HOC.out.form; rw [hv']; rfl) (by obtain ⟨A', c', hv', _⟩ := own_form HOS.out; rw [hv']; rfl) ?_
        intro Wf HPf tf
        refine st_val (.bool true) (wanted_free rfl) (by exact rAssign (x := .const (.bool true)) rfl) ?_
        refine wpList_nil (hKont _ _ (wp_ret ?_))
        have hbel : Below w.heap.size w w6 := HP.out.below.trans (HT6.toBelow HP.out.below.size (fun _ _ h => h))
        exact ⟨rfl, _, rparse_results Wf v p true _ rfl rfl HPf.out, hbel.trans (tf.toBelow hbel.size (fun k hk e => by have := hv.out; omega)), .inl ⟨p, C, D, HPK.out, rfl,
          oi_mono ((HOC.out.turn HT6 (fun _ _ h => h)).turn tf (fun j hj e => by have h1 := (own_block_ge HOC.out j hj).1; have h2 := HP.out.rw_; have h3 := hv.out; omega)) (by have h2 := HP.out.rw_; omega) rfl,
          own_mono (own_turn (own_turn HOS.out HT6 (fun _ _ h => h)) tf (fun j hj e => by have h1 := (own_block_ge HOS.out j hj).1; have h2 := HP.out.rw_; have h3 := hv.out; omega)) (by have h2 := HP.out.rw_; omega)⟩⟩
      · have HNO : Hid (∀ p C D, ¬ IsPkt L p C D) := fun p' C' D' hI => hbe (HIP.out p' C' D' hI).2.2
        have hse : ((strOfNums LB).toList == (strOfNums L).toList) = false := by rw [eqb LB L HLBB.out HBY.out]; exact decide_eq_false hbe
        have hsn : ¬ (strOfNums LB).toList = (strOfNums L).toList := by simpa using hse
        clear HIP hLB hbe
        go_upto_region 40 with (fail)
        refine wp_region_held_drew (S := (fun W' => Hid (PkAt W' g p) ∧ W'.cell? ⟨r, 1, none⟩ = some (.bool false) ∧ (convert 22 9 (.slice (some x) L.length c)).run Tryd.prog W' = .ok (.string (strOfNums L)) W')) (by kernel_rfl) (by first | exact HK.out _ HT6 | exact HK.out _ HT5 | exact HK.out _ HT0) (fun hHeld => ?_)
        refine wpAnyH_take (i := 0) (oi := ⟨_, _, _, _, _, _⟩) (v := ?_) rfl (by kernel_rfl) (by kernel_rfl) (by kernel_rfl) (fun _ _ _ h => h) (Or.inl ⟨by kernel_rfl, ?_⟩) hHeld ?_
        rotate_left
        · (intro w hSw; obtain ⟨s1, s2, s3⟩ := hSw; go_simp; try with_reducible rfl)
        simp only [Act.put, List.setIfInBounds_toArray, List.set_cons_zero, List.set_cons_succ]
        refine wpAnyH_take (i := 1) (oi := ⟨_, _, _, _, _, _⟩) (v := ?_) rfl (by kernel_rfl) (by kernel_rfl) (by kernel_rfl) (fun _ _ _ h => h) (Or.inl ⟨by kernel_rfl, ?_⟩) hHeld ?_
        rotate_left
        · (intro w hSw; obtain ⟨s1, s2, s3⟩ := hSw; go_simp; try with_reducible rfl)
        simp only [Act.put, List.setIfInBounds_toArray, List.set_cons_zero, List.set_cons_succ]
        refine wpAnyH_take (i := 2) (oi := ⟨_, _, _, _, _, _⟩) (v := ?_) rfl (by kernel_rfl) (by kernel_rfl) (by kernel_rfl) (fun _ _ _ h => h) (Or.inl ⟨by kernel_rfl, ?_⟩) hHeld ?_
        rotate_left
        · (intro w hSw; obtain ⟨s1, s2, s3⟩ := hSw; go_simp; try with_reducible rfl)
        simp only [Act.put, List.setIfInBounds_toArray, List.set_cons_zero, List.set_cons_succ]
        refine wpAnyH_take (i := 3) (oi := ⟨_, _, _, _, _, _⟩) (v := ?_) rfl (by kernel_rfl) (by kernel_rfl) (by kernel_rfl) (fun _ _ _ h => h) (Or.inl ⟨by kernel_rfl, ?_⟩) hHeld ?_
        rotate_left
        · (intro w hSw; obtain ⟨s1, s2, s3⟩ := hSw; go_simp; try with_reducible rfl)
        simp only [Act.put, List.setIfInBounds_toArray, List.set_cons_zero, List.set_cons_succ]
        refine wpAnyH_take (i := 4) (oi := ⟨_, _, _, _, _, _⟩) (v := ?_) rfl (by kernel_rfl) (by kernel_rfl) (by kernel_rfl) (fun _ _ _ h => h) (Or.inl ⟨by kernel_rfl, ?_⟩) hHeld ?_
        rotate_left
        · (intro w hSw; obtain ⟨s1, s2, s3⟩ := hSw; go_simp; try with_reducible rfl)
        simp only [Act.put, List.setIfInBounds_toArray, List.set_cons_zero, List.set_cons_succ]
        refine wpAnyH_take (i := 5) (oi := ⟨_, _, _, _, _, _⟩) (v := .agg p.cells) rfl (by kernel_rfl) (by kernel_rfl) (by kernel_rfl) (fun _ _ _ h => h) (Or.inl ⟨by kernel_rfl, ?_⟩) hHeld ?_
        · (intro w hSw; obtain ⟨s1, s2, s3⟩ := hSw; exact rLoad (x := .tmp 5) rfl (by exact load_pkt _ _ _ s1.out))
        simp only [Act.put, List.setIfInBounds_toArray, List.set_cons_zero, List.set_cons_succ]
        refine wpAnyH_ready (rs := [6]) (by kernel_rfl) (by simp) ?_
        refine AllReadyH.cons rfl (fun K hK => ?_) AllReadyH.nil
        go_simp
        go_wp2_with (go_at_call 23; refine (HMAY.out _ (HT0.toBelow (Nat.le_refl _) (fun _ _ h => h))).mono ?_; rintro e w5 ⟨rfl, hb5⟩; have HT5 := HT0.trans (Turn.of_below hb5))
        refine hK.out _ _ (by first | exact HK.out _ HT6 | exact HK.out _ HT5 | exact HK.out _ HT0) (fun hHeld => ?_)
        clear hK K
        refine wpAnyH_take (i := 7) (oi := ⟨_, _, _, _, _, _⟩) (v := ?_) rfl (by kernel_rfl) (by kernel_rfl) (by kernel_rfl) (fun _ _ _ h => h) (Or.inl ⟨by kernel_rfl, ?_⟩) hHeld ?_
        rotate_left
        · (intro w hSw; obtain ⟨s1, s2, s3⟩ := hSw; go_simp; try with_reducible rfl)
        simp only [Act.put, List.setIfInBounds_toArray, List.set_cons_zero, List.set_cons_succ]
        refine wpAnyH_take (i := 8) (oi := ⟨_, _, _, _, _, _⟩) (v := ?_) rfl (by kernel_rfl) (by kernel_rfl) (by kernel_rfl) (fun _ _ _ h => h) (Or.inl ⟨by kernel_rfl, ?_⟩) hHeld ?_
        rotate_left
        · (intro w hSw; obtain ⟨s1, s2, s3⟩ := hSw; go_simp; try with_reducible rfl)
        simp only [Act.put, List.setIfInBounds_toArray, List.set_cons_zero, List.set_cons_succ]
        refine wpAnyH_take (i := 9) (oi := ⟨_, _, _, _, _, _⟩) (v := ?_) rfl (by kernel_rfl) (by kernel_rfl) (by kernel_rfl) (fun _ _ _ h => h) (Or.inl ⟨by kernel_rfl, ?_⟩) hHeld ?_
        rotate_left
        · (intro w hSw; obtain ⟨s1, s2, s3⟩ := hSw; go_simp; try with_reducible rfl)
        simp only [Act.put, List.setIfInBounds_toArray, List.set_cons_zero, List.set_cons_succ]
        refine wpAnyH_take (i := 10) (oi := ⟨_, _, _, _, _, _⟩) (v := .agg p.cells) rfl (by kernel_rfl) (by kernel_rfl) (by kernel_rfl) (fun _ _ _ h => h) (Or.inl ⟨by kernel_rfl, ?_⟩) hHeld ?_
        · (intro w hSw; obtain ⟨s1, s2, s3⟩ := hSw; exact rLoad (x := .tmp 5) rfl (by exact load_pkt _ _ _ s1.out))
        simp only [Act.put, List.setIfInBounds_toArray, List.set_cons_zero, List.set_cons_succ]
        refine wpAnyH_take (i := 13) (oi := ⟨_, _, _, _, _, _⟩) (v := ?_) rfl (by kernel_rfl) (by kernel_rfl) (by kernel_rfl) (fun _ _ _ h => h) (Or.inl ⟨by kernel_rfl, ?_⟩) hHeld ?_
        rotate_left
        · (intro w hSw; obtain ⟨s1, s2, s3⟩ := hSw; go_simp; try with_reducible rfl)
        simp only [Act.put, List.setIfInBounds_toArray, List.set_cons_zero, List.set_cons_succ]
        refine wpAnyH_take (i := 14) (oi := ⟨_, _, _, _, _, _⟩) (v := ?_) rfl (by kernel_rfl) (by kernel_rfl) (by kernel_rfl) (fun _ _ _ h => h) (Or.inl ⟨by kernel_rfl, ?_⟩) hHeld ?_
        rotate_left
        · (intro w hSw; obtain ⟨s1, s2, s3⟩ := hSw; go_simp; try with_reducible rfl)
        simp only [Act.put, List.setIfInBounds_toArray, List.set_cons_zero, List.set_cons_succ]
        refine wpAnyH_ready (rs := [11]) (by kernel_rfl) (by simp) ?_
        refine AllReadyH.cons rfl (fun K hK => ?_) AllReadyH.nil
        go_simp
        go_wp2_with (go_at_call 24; refine (HRB.out _ (HT5.toBelow (Nat.le_refl _) (fun _ _ h => h))).mono ?_; rintro e w6 ⟨A6, c6, rfl, ho6, hb6⟩; have HT6 := HT5.trans (Turn.of_below hb6); have hcv6 := conv_own (P := Tryd.prog) (W := w6) (src := 22) (dst := 9) Tryd.underlying22 Tryd.underlying5 Tryd.underlying9 ho6)
        refine hK.out _ _ (by first | exact HK.out _ HT6 | exact HK.out _ HT5 | exact HK.out _ HT0) (fun hHeld => ?_)
        clear hK K
        refine wpAnyH_ready (rs := [12]) (by kernel_rfl) (by simp) ?_
        refine AllReadyH.cons rfl (fun K hK => ?_) AllReadyH.nil
        go_simp
        skip
        refine hK.out _ _ (by first | exact HK.out _ HT6 | exact HK.out _ HT5 | exact HK.out _ HT0) (fun hHeld => ?_)
        clear hK K
        refine wpAnyH_take (i := 15) (oi := ⟨_, _, _, _, _, _⟩) (v := ?_) rfl (by kernel_rfl) (by kernel_rfl) (by kernel_rfl) (fun _ _ _ h => h) (Or.inl ⟨by kernel_rfl, ?_⟩) hHeld ?_
        rotate_left
        · (intro w hSw; obtain ⟨s1, s2, s3⟩ := hSw; go_simp; try with_reducible rfl)
        simp only [Act.put, List.setIfInBounds_toArray, List.set_cons_zero, List.set_cons_succ]
        refine wpAnyH_take (i := 16) (oi := ⟨_, _, _, _, _, _⟩) (v := ?_) rfl (by kernel_rfl) (by kernel_rfl) (by kernel_rfl) (fun _ _ _ h => h) (Or.inl ⟨by kernel_rfl, ?_⟩) hHeld ?_
        rotate_left
        · (intro w hSw; obtain ⟨s1, s2, s3⟩ := hSw; go_simp; try with_reducible rfl)
        simp only [Act.put, List.setIfInBounds_toArray, List.set_cons_zero, List.set_cons_succ]
        refine wpAnyH_done (by kernel_rfl) ?_ _
        go_upto_region 41 with (fail)
        rename_i hKont
        refine wp_region_lit ?_
        refine st_val (.agg zeroP.cells) (wanted_free rfl) (by exact rBuild0 rfl kBuildZ) ?_
        refine wp_store_pkt (g := v) zeroP zeroP rfl rfl (by rfl) (by rfl) (HP.out.res.keep HT6 (fun h => h)) (by rfl) (by rfl) ?_
        intro Wf HPf tf
        refine st_val (.bool false) (wanted_free rfl) (by exact rAssign (x := .const (.bool false)) rfl) ?_
        refine wpList_nil (hKont _ _ (wp_ret ?_))
        exact ⟨rfl, _, rparse_results Wf v zeroP false _ rfl rfl HPf.out, (HP.out.below.trans (HT6.toBelow HP.out.below.size (fun _ _ h => h))).trans (tf.toBelow (HP.out.below.trans (HT6.toBelow HP.out.below.size (fun _ _ h => h))).size (fun k hk e => by have := hv.out; omega)), .inr ⟨HNO.out, rfl⟩⟩
    · have HNO : Hid (∀ p C D, ¬ IsPkt L p C D) := fun p' C' D' hI => hm (HIP.out p' C' D' hI).2.1
      have HMAY : Hid (∀ W', Below Wn.heap.size Wn W' → Calls Tryd.prog 23 #[.agg p.cells] W' fun e w' => e = .returned (.bool false) ∧ Below W'.heap.size W' w') := Lib.hid fun W' hb => by
        have h := may_calls W' p C D (HL.out.keep hb)
        rw [decide_eq_false hm] at h
        exact h
      clear hm HIP
      go_upto_region 40 with (fail)
      refine wp_region_held_drew (S := (fun W' => Hid (PkAt W' g p) ∧ W'.cell? ⟨r, 1, none⟩ = some (.bool false) ∧ (convert 22 9 (.slice (some x) L.length c)).run Tryd.prog W' = .ok (.string (strOfNums L)) W')) (by kernel_rfl) (by first | exact HK.out _ HT6 | exact HK.out _ HT5 | exact HK.out _ HT0) (fun hHeld => ?_)
      refine wpAnyH_take (i := 0) (oi := ⟨_, _, _, _, _, _⟩) (v := ?_) rfl (by kernel_rfl) (by kernel_rfl) (by kernel_rfl) (fun _ _ _ h => h) (Or.inl ⟨by kernel_rfl, ?_⟩) hHeld ?_
      rotate_left
      · (intro w hSw; obtain ⟨s1, s2, s3⟩ := hSw; go_simp; try with_reducible rfl)
      simp only [Act.put, List.setIfInBounds_toArray, List.set_cons_zero, List.set_cons_succ]
      refine wpAnyH_take (i := 1) (oi := ⟨_, _, _, _, _, _⟩) (v := ?_) rfl (by kernel_rfl) (by kernel_rfl) (by kernel_rfl) (fun _ _ _ h => h) (Or.inl ⟨by kernel_rfl, ?_⟩) hHeld ?_
      rotate_left
      · (intro w hSw; obtain ⟨s1, s2, s3⟩ := hSw; go_simp; try with_reducible rfl)
      simp only [Act.put, List.setIfInBounds_toArray, List.set_cons_zero, List.set_cons_succ]
      refine wpAnyH_take (i := 2) (oi := ⟨_, _, _, _, _, _⟩) (v := ?_) rfl (by kernel_rfl) (by kernel_rfl) (by kernel_rfl) (fun _ _ _ h => h) (Or.inl ⟨by kernel_rfl, ?_⟩) hHeld ?_
      rotate_left
      · (intro w hSw; obtain ⟨s1, s2, s3⟩ := hSw; go_simp; try with_reducible rfl)
      simp only [Act.put, List.setIfInBounds_toArray, List.set_cons_zero, List.set_cons_succ]
      refine wpAnyH_take (i := 3) (oi := ⟨_, _, _, _, _, _⟩) (v := ?_) rfl (by kernel_rfl) (by kernel_rfl) (by kernel_rfl) (fun _ _ _ h => h) (Or.inl ⟨by kernel_rfl, ?_⟩) hHeld ?_
      rotate_left
      · (intro w hSw; obtain ⟨s1, s2, s3⟩ := hSw; go_simp; try with_reducible rfl)
      simp only [Act.put, List.setIfInBounds_toArray, List.set_cons_zero, List.set_cons_succ]
      refine wpAnyH_take (i := 4) (oi := ⟨_, _, _, _, _, _⟩) (v := ?_) rfl (by kernel_rfl) (by kernel_rfl) (by kernel_rfl) (fun _ _ _ h => h) (Or.inl ⟨by kernel_rfl, ?_⟩) hHeld ?_
      rotate_left
      · (intro w hSw; obtain ⟨s1, s2, s3⟩ := hSw; go_simp; try with_reducible rfl)
      simp only [Act.put, List.setIfInBounds_toArray, List.set_cons_zero, List.set_cons_succ]
      refine wpAnyH_take (i := 5) (oi := ⟨_, _, _, _, _, _⟩) (v := .agg p.cells) rfl (by kernel_rfl) (by kernel_rfl) (by kernel_rfl) (fun _ _ _ h => h) (Or.inl ⟨by kernel_rfl, ?_⟩) hHeld ?_
      · (intro w hSw; obtain ⟨s1, s2, s3⟩ := hSw; exact rLoad (x := .tmp 5) rfl (by exact load_pkt _ _ _ s1.out))
      simp only [Act.put, List.setIfInBounds_toArray, List.set_cons_zero, List.set_cons_succ]
      refine wpAnyH_ready (rs := [6]) (by kernel_rfl) (by simp) ?_
      refine AllReadyH.cons rfl (fun K hK => ?_) AllReadyH.nil
      go_simp
      go_wp2_with (go_at_call 23; refine (HMAY.out _ (HT0.toBelow (Nat.le_refl _) (fun _ _ h => h))).mono ?_; rintro e w5 ⟨rfl, hb5⟩; have HT5 := HT0.trans (Turn.of_below hb5))
      refine hK.out _ _ (by first | exact HK.out _ HT6 | exact HK.out _ HT5 | exact HK.out _ HT0) (fun hHeld => ?_)
      clear hK K
      refine wpAnyH_take (i := 7) (oi := ⟨_, _, _, _, _, _⟩) (v := ?_) rfl (by kernel_rfl) (by kernel_rfl) (by kernel_rfl) (fun _ _ _ h => h) (Or.inl ⟨by kernel_rfl, ?_⟩) hHeld ?_
      rotate_left
      · (intro w hSw; obtain ⟨s1, s2, s3⟩ := hSw; go_simp; try with_reducible rfl)
      simp only [Act.put, List.setIfInBounds_toArray, List.set_cons_zero, List.set_cons_succ]
      refine wpAnyH_take (i := 8) (oi := ⟨_, _, _, _, _, _⟩) (v := ?_) rfl (by kernel_rfl) (by kernel_rfl) (by kernel_rfl) (fun _ _ _ h => h) (Or.inl ⟨by kernel_rfl, ?_⟩) hHeld ?_
      rotate_left
      · (intro w hSw; obtain ⟨s1, s2, s3⟩ := hSw; go_simp; try with_reducible rfl)
      simp only [Act.put, List.setIfInBounds_toArray, List.set_cons_zero, List.set_cons_succ]
      refine wpAnyH_take (i := 9) (oi := ⟨_, _, _, _, _, _⟩) (v := ?_) rfl (by kernel_rfl) (by kernel_rfl) (by kernel_rfl) (fun _ _ _ h => h) (Or.inl ⟨by kernel_rfl, ?_⟩) hHeld ?_
      rotate_left
      · (intro w hSw; obtain ⟨s1, s2, s3⟩ := hSw; go_simp; try with_reducible rfl)
      simp only [Act.put, List.setIfInBounds_toArray, List.set_cons_zero, List.set_cons_succ]
      refine wpAnyH_take (i := 10) (oi := ⟨_, _, _, _, _, _⟩) rfl (by kernel_rfl) (by kernel_rfl) (by kernel_rfl) (fun _ _ _ h => h) (Or.inr ⟨by kernel_rfl, rfl⟩) hHeld ?_
      simp only [Act.put, List.setIfInBounds_toArray, List.set_cons_zero, List.set_cons_succ]
      refine wpAnyH_take (i := 11) (oi := ⟨_, _, _, _, _, _⟩) rfl (by kernel_rfl) (by kernel_rfl) (by kernel_rfl) (fun _ _ _ h => h) (Or.inr ⟨by kernel_rfl, rfl⟩) hHeld ?_
      simp only [Act.put, List.setIfInBounds_toArray, List.set_cons_zero, List.set_cons_succ]
      refine wpAnyH_take (i := 12) (oi := ⟨_, _, _, _, _, _⟩) rfl (by kernel_rfl) (by kernel_rfl) (by kernel_rfl) (fun _ _ _ h => h) (Or.inr ⟨by kernel_rfl, rfl⟩) hHeld ?_
      simp only [Act.put, List.setIfInBounds_toArray, List.set_cons_zero, List.set_cons_succ]
      refine wpAnyH_take (i := 13) (oi := ⟨_, _, _, _, _, _⟩) rfl (by kernel_rfl) (by kernel_rfl) (by kernel_rfl) (fun _ _ _ h => h) (Or.inr ⟨by kernel_rfl, rfl⟩) hHeld ?_
      simp only [Act.put, List.setIfInBounds_toArray, List.set_cons_zero, List.set_cons_succ]
      refine wpAnyH_take (i := 14) (oi := ⟨_, _, _, _, _, _⟩) rfl (by kernel_rfl) (by kernel_rfl) (by kernel_rfl) (fun _ _ _ h => h) (Or.inr ⟨by kernel_rfl, rfl⟩) hHeld ?_
      simp only [Act.put, List.setIfInBounds_toArray, List.set_cons_zero, List.set_cons_succ]
      refine wpAnyH_take (i := 15) (oi := ⟨_, _, _, _, _, _⟩) rfl (by kernel_rfl) (by kernel_rfl) (by kernel_rfl) (fun _ _ _ h => h) (Or.inr ⟨by kernel_rfl, rfl⟩) hHeld ?_
      simp only [Act.put, List.setIfInBounds_toArray, List.set_cons_zero, List.set_cons_succ]
      refine wpAnyH_take (i := 16) (oi := ⟨_, _, _, _, _, _⟩) (v := ?_) rfl (by kernel_rfl) (by kernel_rfl) (by kernel_rfl) (fun _ _ _ h => h) (Or.inl ⟨by kernel_rfl, ?_⟩) hHeld ?_
      rotate_left
      · (intro w hSw; obtain ⟨s1, s2, s3⟩ := hSw; go_simp; try with_reducible rfl)
      simp only [Act.put, List.setIfInBounds_toArray, List.set_cons_zero, List.set_cons_succ]
      refine wpAnyH_done (by kernel_rfl) ?_ _
      go_upto_region 41 with (fail)
      rename_i hKont
      refine wp_region_lit ?_
      refine st_val (.agg zeroP.cells) (wanted_free rfl) (by exact rBuild0 rfl kBuildZ) ?_
      refine wp_store_pkt (g := v) zeroP zeroP rfl rfl (by rfl) (by rfl) (HP.out.res.keep HT5 (fun h => h)) (by rfl) (by rfl) ?_
      intro Wf HPf tf
      refine st_val (.bool false) (wanted_free rfl) (by exact rAssign (x := .const (.bool false)) rfl) ?_
      refine wpList_nil (hKont _ _ (wp_ret ?_))
      exact ⟨rfl, _, rparse_results Wf v zeroP false _ rfl rfl HPf.out, (HP.out.below.trans (HT5.toBelow HP.out.below.size (fun _ _ h => h))).trans (tf.toBelow (HP.out.below.trans (HT5.toBelow HP.out.below.size (fun _ _ h => h))).size (fun k hk e => by have := hv.out; omega)), .inr ⟨HNO.out, rfl⟩⟩
end Ref
end Go.Proofs.YteigakkghkjakaaDoor

/- The reference's Parse: what it answers. -/
import Derived.Test.YteigakkghkjakaaDoorRfO
import Derived.Test.YteigakkghkjakaaDoorPlF
import Derived.Deep.Cut
import Derived.Deep.CutRange
namespace Go.Proofs.YteigakkghkjakaaDoor
open Go.RowKit Go.ChangeShapes
set_option linter.unusedVariables false
set_option linter.unusedSimpArgs false
namespace Ref
open Utf (nums nums_length nums_bytes IsStr nums_str)
open Var (BT info_byte GivesBytes digs digs_length tell rat_calls)
open Pk
theorem k9_rows (p : Pkt) (s : RSt) : (k9 p s).1.codes = p.codes ∧ (k9 p s).1.subs = p.subs := by
  unfold k9; split <;> exact ⟨rfl, rfl⟩
theorem k8_rows (p : Pkt) (s : RSt) : (k8 p s).1.codes = p.codes ∧ (k8 p s).1.subs = p.subs := by
  unfold k8; split
  · have := k9_rows { p with user := (rT s).1 } (rT s).2; exact this
  · exact k9_rows p s
theorem k7_rows (p : Pkt) (s : RSt) : (k7 p s).1.codes = p.codes ∧ (k7 p s).1.subs = p.subs := by
  unfold k7; have := k8_rows { p with payload := (rT s).1 } (rT s).2; exact this
theorem k6_rows (p : Pkt) (s : RSt) : (k6 p s).1.codes = p.codes ∧ (k6 p s).1.subs = p.subs := by
  unfold k6; have := k7_rows { p with topic := (rT s).1 } (rT s).2; exact this
theorem k5_rows (p : Pkt) (f : Int) (s : RSt) : (k5 p f s).1.codes = p.codes ∧ (k5 p f s).1.subs = p.subs := by
  unfold k5; split
  · have := k6_rows { p with topic := ⟨#[]⟩, payload := ⟨#[]⟩, qos := f / 8 % 4, retain := digitB f 32 } s; exact this
  · exact k8_rows p s
theorem k4_rows (p : Pkt) (f : Int) (s : RSt) : (k4 p f s).1.codes = p.codes ∧ (k4 p f s).1.subs = p.subs := by
  unfold k4; have := k5_rows { p with client := (rT s).1 } f (rT s).2; exact this
theorem k3_rows (p : Pkt) (f : Int) (s : RSt) : (k3 p f s).1.codes = p.codes ∧ (k3 p f s).1.subs = p.subs := by
  unfold k3; have := k4_rows { p with alive := (rW s).1 } f (rW s).2; exact this
theorem k2_rows (p : Pkt) (s : RSt) : (k2 p s).1.codes = p.codes ∧ (k2 p s).1.subs = p.subs := by
  unfold k2; have := k3_rows (p.flagR (r1 s).1) (r1 s).1 (r1 s).2; exact this
theorem conR_rows (p : Pkt) (s : RSt) : (rConR p s).1.codes = p.codes ∧ (rConR p s).1.subs = p.subs := by
  unfold rConR k1; exact k2_rows p _
theorem r1_bad (s : RSt) (h : s.2 = true) : (r1 s).2.2 = true := by
  obtain ⟨L, b⟩ := s
  cases L with
  | nil => rfl
  | cons x M => exact h
theorem rT_less (L : List Int) (h : L ≠ []) : (rT (L, false)).2.2 = true ∨ (rT (L, false)).2.1.length + 1 ≤ L.length := by
  match L, h with
  | [x], _ =>
    refine .inl ?_
    unfold rT
    split
    · rfl
    · rfl
  | x :: y :: M, _ =>
    unfold rT
    split
    · exact .inl rfl
    · refine .inr ?_
      simp only [rW, r1, List.length_drop, List.length_cons]
      omega

set_option maxRecDepth 100000 in
set_option maxHeartbeats 16000000 in
theorem rparse_calls (w : World) (A : Option Addr) (L : List Int) (c : Nat) (hR : Reads .u8 w A L) (hc : L.length ≤ c) (hcb : c ≤ 9223372036854775807) (hby : ∀ x ∈ L, 0 ≤ x ∧ x < 256) (hl : L.length ≤ 50000)  : Calls Tryd.prog 16 #[.slice A L.length c] w fun e w' => RParsePost w L e w'  := by
  obtain ⟨v, hv⟩ : ∃ v, Hid (v = w.heap.size) := ⟨_, rfl⟩
  obtain ⟨W1, hW1⟩ : ∃ W1, Hid (W1 = w.alloc (.cells zeroC PT)) := ⟨_, rfl⟩
  have HB1 : Hid (Below w.heap.size w W1) := by rw [hW1.out]; exact (Below.refl _ _).alloc (Nat.le_refl _) _
  have hs1 : Hid (W1.heap.size = w.heap.size + 1) := by rw [hW1.out, Hid]; simp
  have HV1 : Hid (PkAt W1 v zeroP) := by rw [hW1.out, hv.out]; exact heap_new _ _
  have HR := Lib.hid hR
  have HBY := Lib.hid hby
  have hlb : (L.length : Int) ≤ 50000 := by omega
  have HC := Lib.hid (And.intro hc hcb)
  clear hR hby hl hc hcb
  go_enter Tryd.func16, Tryd.ntmps16
  go_upto_region 1 with (fail)
  rw [show w.alloc (.cells zeroC PT) = W1 from hW1.out.symm, ← hv.out]
  by_cases hL2 : L.length < 2
  · have hd : decide (L.length < 2) = true := decide_eq_true hL2
    have HNO : Hid (∀ p C D, ¬ IsPkt L p C D) := fun p C D hI => by have := (pkt_tell hI).2.2; omega
    go_upto_region 2 with (fail)
    rename_i hKont
    refine wp_region_lit ?_
    refine st_val (.agg zeroP.cells) (wanted_free rfl) (by exact rBuild0 rfl kBuildZ) ?_
    refine wp_store_pkt (g := v) zeroP zeroP rfl rfl (by rfl) (by rfl) HV1.out (by rfl) (by rfl) ?_
    intro Wf HPf tf
    refine st_val (.bool false) (wanted_free rfl) (by exact rAssign (x := .const (.bool false)) rfl) ?_
    refine wpList_nil (hKont _ _ (wp_ret ?_))
    exact ⟨rfl, _, rparse_results Wf v zeroP false _ rfl rfl HPf.out, (HB1.out).trans (tf.toBelow (HB1.out).size (fun k hk e => by have := hv.out; omega)), .inr ⟨HNO.out, rfl⟩⟩
  have hd : decide (L.length < 2) = false := decide_eq_false hL2
  obtain ⟨x, rfl, hcx⟩ := HR.out (by omega)
  obtain ⟨f, hf⟩ : ∃ f, Hid (f = lat L 0) := ⟨_, rfl⟩
  have hx0 : W1.cell? x = some (.int .u8 f) := by
    have h0 := hcx 0 (by omega)
    have h1 : x.add 0 = x := by simp [Addr.add]
    rw [h1, ← hf.out] at h0
    rw [HB1.out.cell (World.block_lt_of_cell? w _ h0)]; exact h0
  have hxb : Hid (x.block < w.heap.size) := by
    have h0 := hcx 0 (by omega)
    have := World.block_lt_of_cell? w _ h0
    rw [add_block] at this; exact this
  obtain ⟨hf0, hf1'⟩ : 0 ≤ f ∧ f < 256 := by rw [hf.out]; exact HBY.out _ (lat_mem L 0 (by omega))
  have hf1 : f ≤ 255 := by omega
  clear hcx
  go_upto_region 4 with (fail)
  rename_i hKont
  clear hx0
  obtain ⟨T, hTf⟩ : ∃ T, Hid (T = f / 16) := ⟨_, rfl⟩
  refine wp_region_lit ?_
  refine st_val (.int .i64 f) (wanted_free rfl) (by exact rMove (x := .tmp 4) rfl) ?_
  refine st_val (.int .i64 T) (wanted_free rfl) (by rw [hTf.out]; exact rBin (x := .tmp 19) (y := .const (.int .i64 16)) rfl (kQuo16 f hf0 hf1)) ?_
  refine st_val (.agg (typeP T).cells) (wanted_free rfl) (by exact rBuild1 (x := .tmp 20) rfl (kBuildP T)) ?_
  refine st_alloc (wanted_free rfl) rfl (by exact kAllocP _) ?_
  refine wp_store_pkt (g := W1.heap.size) (typeP T) zeroP rfl rfl rfl rfl (by exact heap_new _ _) rfl rfl ?_
  intro W2 HP2 t2
  refine wpList_nil (hKont _ _ ?_)
  clear hKont
  simp only [Act.put, List.setIfInBounds_toArray, List.set_cons_zero, List.set_cons_succ]
  obtain ⟨g, hg⟩ : ∃ g, Hid (g = w.heap.size + 1) := ⟨_, rfl⟩
  rw [show W1.heap.size = g by rw [hs1.out, hg.out]] at HP2 t2 ⊢
  have hb12 : Hid (Below W1.heap.size W1 W2) := (Below.alloc (Below.refl _ _) (Nat.le_refl _) _).trans (t2.toBelow (by simp) (fun k hk e => by have := hs1.out; have := hg.out; omega))
  have HB2 : Hid (Below w.heap.size w W2) := HB1.out.trans (hb12.out.mono HB1.out.size)
  have HV2 : Hid (PkAt W2 v zeroP) := HV1.out.keep (Turn.of_below (S := fun _ => False) hb12.out) (fun h => h)
  have hs2 : Hid (w.heap.size + 2 ≤ W2.heap.size) := by
    have := t2.size
    have := hs1.out
    rw [Hid]; simp at *; omega
  have HR2 : Hid (Reads .u8 W2 (some x) L) := HR.out.keep HB2.out
  clear t2 HV1 HB1 hW1
  obtain ⟨⟨n, at_, er⟩, hTe⟩ : ∃ T, Hid (T = tell 4 true L 1 0 1) := ⟨_, rfl⟩
  have HAT := Lib.hid (rat_calls W2 (some x) L c HC.out.1 HR2.out HBY.out (by omega) 1 (by decide))
  rw [← hTe.out] at HAT
  have HSOME : Hid (er = 0 → ∃ k : Nat, at_ = (k : Int) ∧ k ≤ L.length) := by
    intro h0
    rcases Var.tell_inv 3 true L 1 0 1 HBY.out with ⟨m, _, _, _, ht, hk, _⟩ | ⟨e, he, ht⟩
    · have := hTe.out
      have ht' : tell 4 true L 1 0 1 = (0 + 1 * m, ((1 : Nat) : Int) + (digs 3 m).length, 0) := ht
      rw [ht'] at this
      injection this with _ this
      injection this with e1 _
      exact ⟨1 + (digs 3 m).length, by rw [e1]; omega, hk⟩
    · have := hTe.out
      have ht' : tell 4 true L 1 0 1 = (0, 0, e) := ht
      rw [ht'] at this
      injection this with _ this
      injection this with _ e2
      omega
  have HNONE : Hid (er ≠ 0 → ∀ p C D, ¬ IsPkt L p C D) := by
    intro h0 p C D hI
    have := (pkt_tell hI).1
    rw [← hTe.out] at this
    injection this with _ this
    injection this with _ e2
    exact h0 e2
  have HAT2 : Hid (∀ p C D, IsPkt L p C D → at_ = 1 + ((digs 3 ((bodyB p C D).length : Int)).length : Int) ∧ L.drop (1 + (digs 3 ((bodyB p C D).length : Int)).length) = bodyB p C D) := by
    intro p C D hI
    obtain ⟨h1, h2, _⟩ := pkt_tell hI
    rw [← hTe.out] at h1
    injection h1 with _ h1
    injection h1 with e1 _
    exact ⟨e1, h2⟩
  go_upto_region 5 with (fail)
  go_wp2_with (fail)
  refine HAT.out.mono ?_
  rintro e w' ⟨rfl, rfl⟩
  by_cases her : er = 0
  case neg =>
    have hne : (er != 0) = true := by simpa using her
    have HNO := Lib.hid (HNONE.out her)
    go_upto_region 7 with (fail)
    rename_i hKont
    refine wp_region_lit ?_
    refine st_val (.agg zeroP.cells) (wanted_free rfl) (by exact rBuild0 rfl kBuildZ) ?_
    refine wp_store_pkt (g := v) zeroP zeroP rfl rfl (by rfl) (by rfl) HV2.out (by rfl) (by rfl) ?_
    intro Wf HPf tf
    refine st_val (.bool false) (wanted_free rfl) (by exact rAssign (x := .const (.bool false)) rfl) ?_
    refine wpList_nil (hKont _ _ (wp_ret ?_))
    exact ⟨rfl, _, rparse_results Wf v zeroP false _ rfl rfl HPf.out, (HB2.out).trans (tf.toBelow (HB2.out).size (fun k hk e => by have := hv.out; omega)), .inr ⟨HNO.out, rfl⟩⟩
  subst her
  obtain ⟨k, rfl, hkl⟩ := HSOME.out rfl
  have hkb : (k : Int) ≤ 50000 := by omega
  have HM : Hid (∀ p C D, IsPkt L p C D → L.drop k = bodyB p C D) := fun p C D hI => by
    obtain ⟨e1, e2⟩ := HAT2.out p C D hI
    rw [← e2]; congr 1; omega
  clear HAT HAT2 HNONE HSOME
  obtain ⟨M, hM⟩ : ∃ M, Hid (M = L.drop k) := ⟨_, rfl⟩
  have hMl : Hid (M.length = L.length - k) := by rw [hM.out, Hid, List.length_drop]
  have HMB : Hid (∀ x ∈ M, 0 ≤ x ∧ x < 256) := by rw [hM.out]; exact drop_bytes k HBY.out
  obtain ⟨A9, n9, c9, hsl⟩ : ∃ A9 n9 c9, Hid (A9 = some (if c = k then x else x.add k) ∧ n9 = M.length ∧ c9 = (if c = k then 0 else c - k)) := ⟨_, _, _, rfl, rfl, rfl⟩
  obtain ⟨W3, hW3⟩ : ∃ W3, Hid (W3 = W2.alloc (.cells #[.slice A9 n9 c9, .bool false] RRT)) := ⟨_, rfl⟩
  obtain ⟨r, hr⟩ : ∃ r, Hid (r = W2.heap.size) := ⟨_, rfl⟩
  have H0 : Hid (RP w W3 v g r w.heap.size (typeP T) (M, false)) := by
    have hb : Below W2.heap.size W2 W3 := by rw [hW3.out]; exact (Below.refl _ _).alloc (Nat.le_refl _) _
    have hcc := HC.out
    have hml := hMl.out
    refine ⟨HB2.out.trans (hb.mono HB2.out.size), ?_, HP2.out.keep (Turn.of_below (S := fun _ => False) hb) (fun h => h), HV2.out.keep (Turn.of_below (S := fun _ => False) hb) (fun h => h), hv.out, hg.out, by rw [hr.out]; exact hs2.out, rfl⟩
    refine ⟨A9, c9, ?_, ?_, ?_, ?_, ?_, ?_, HMB.out⟩
    · rw [hW3.out, hr.out, hsl.out.2.1]; exact heap_new _ _
    · rw [hsl.out.2.2]; simp only; split <;> omega
    · rw [hsl.out.2.2]; simp only; exact ⟨by split <;> omega, by omega⟩
    · rw [hsl.out.1]
      simp only
      by_cases hck : c = k
      · rw [if_pos hck]; intro h0; omega
      · rw [if_neg hck, hM.out]; exact reads_drop k (HR2.out.keep hb)
    · rw [hsl.out.1]; intro h; cases h
    · refine ⟨by rw [hr.out]; have := hs2.out; omega, fun y hy => ?_⟩
      rw [hsl.out.1] at hy
      cases hy
      have := hxb.out
      split
      · exact this
      · rw [add_block]; exact this
  have hn9 : Hid (n9 = L.length - k) := by rw [hsl.out.2.1, hMl.out, Hid]
  obtain ⟨⟨q, C, D, s⟩, hq⟩ : ∃ z, Hid (z = rPktR f (M, false)) := ⟨_, rfl⟩
  have HFIT : Hid (Sk 50000 q ∧ C.length ≤ 50000 + 1 ∧ D.length ≤ 50000) := by
    have h := rPkt_fit f (M, false)
    rw [← hq.out] at h
    have hml := hMl.out
    obtain ⟨⟨a1, a2, a3, a4, a5⟩, b1, b2⟩ := h
    simp only at a1 a2 a3 a4 a5 b1 b2
    exact ⟨⟨by omega, by omega, by omega, by omega, by omega⟩, by omega, by omega⟩
  have HIS : Hid (∀ vc vs, Pk.rowLen vc = C.length → Pk.rowLen vs = D.length → ∀ p' C' D', IsPkt L p' C' D' → s.2 = false ∧ Pk.May (q.rows vc vs) C D ∧ bytesB (q.rows vc vs) C D = L) := fun vc vs h1 h2 p' C' D' hI =>
    ref_is hI HBY.out hf.out.symm (by rw [hM.out]; exact HM.out p' C' D' hI) hq.out.symm vc vs h1 h2
  have HQ : Hid ((q, C, D, s) = rPktR f (M, false)) := hq
  clear hq HM
  have hT0 : Hid (0 ≤ T ∧ T ≤ 15) := by rw [hTf.out, Hid]; omega
  go_upto_region 8 with (fail)
  rename_i hKont
  refine wp_region_lit ?_
  refine st_val (.slice (some x) L.length c) (wanted_free rfl) (by exact rMove (x := .tmp 0) rfl) ?_
  refine st_val (.int .i64 (k : Int)) (wanted_free rfl) (by exact rMove (x := .tmp 7) rfl) ?_
  refine st_val (.slice A9 n9 c9) (wanted_free rfl) (by rw [hsl.out.1, hn9.out, hsl.out.2.2]; exact rSlice (x := .tmp 31) (y := .tmp 32) rfl (kSliceFrom x L.length c k hkl HC.out.1 hkb)) ?_
  refine st_val (.agg #[.slice A9 n9 c9, .bool false]) (wanted_free rfl) (by exact rBuild1 (x := .tmp 33) rfl (kBuildR _ _ _)) ?_
  refine st_any (.pointer (some ⟨W2.heap.size, 0, none⟩)) (w' := W2.alloc (.cells #[.slice A9 n9 c9, .bool false] RRT)) (wanted_free rfl) (by exact rBox (x := .tmp 34) rfl (kBoxR _ _ _ _)) ?_
  refine st_val (.pointer (some ⟨W2.heap.size, 0, none⟩)) (wanted_free rfl) (by exact rAssign (x := .tmp 35) rfl) ?_
  refine wpList_nil (hKont _ _ ?_)
  clear hKont
  simp only [Act.put, List.setIfInBounds_toArray, List.set_cons_zero, List.set_cons_succ]
  rw [show W2.alloc (.cells #[.slice A9 n9 c9, .bool false] RRT) = W3 from hW3.out.symm, ← hr.out]
  clear hW3 hsl HP2 HV2 HB2 HR2 hs2 hn9 hs1 hb12
  have k0 : W3.cell? ⟨g, 0, none⟩ = some (.int .i64 T) := H0.out.pk.cell 0
  go_upto_region 9 with (fail)
  rename_i hKont
  refine wp_region_lit ?_
  refine st_val (.pointer (some ⟨g, 0, none⟩)) (wanted_free rfl) (by exact rFieldAddr (x := .tmp 5) rfl (by kernel_rfl)) ?_
  refine st_val (.int .i64 T) (wanted_free rfl) (by exact rLoad (x := .tmp 36) rfl (kLoadI 0 _ k0)) ?_
  refine wpList_nil (hKont _ _ ?_)
  clear hKont k0
  simp only [Act.put, List.setIfInBounds_toArray, List.set_cons_zero, List.set_cons_succ]
  go_cut [10] from 38 to 143 (fun u wx => ∃ vc vs, Hid (RE w wx v g r w.heap.size q C D s vc vs))
  case first =>
    clear HIS HFIT HR
    rcases (by have h1 := hT0.out.1; have h2 := hT0.out.2; omega : (T = 0 ∨ T = 12 ∨ T = 13 ∨ T = 14 ∨ T = 15) ∨ (T = 4 ∨ T = 5 ∨ T = 6 ∨ T = 7 ∨ T = 11) ∨ T = 9 ∨ T = 1 ∨ T = 2 ∨ T = 3 ∨ T = 8 ∨ T = 10) with hT0' | hT4 | hT9 | e1 | e2 | e3 | e8 | e10
    · have hx1 : (T == 1) = false := by simp; omega
      have hx2 : (T == 2) = false := by simp; omega
      have hx3 : (T == 3) = false := by simp; omega
      have hx4 : (T == 4) = false := by simp; omega
      have hx5 : (T == 5) = false := by simp; omega
      have hx6 : (T == 6) = false := by simp; omega
      have hx7 : (T == 7) = false := by simp; omega
      have hx8 : (T == 8) = false := by simp; omega
      have hx9 : (T == 9) = false := by simp; omega
      have hx10 : (T == 10) = false := by simp; omega
      have hx11 : (T == 11) = false := by simp; omega
      have h := HQ.out
      rw [rPktR, ← hTf.out, if_neg (by omega), if_neg (by omega), if_neg (by omega), if_neg (by omega), if_neg (by omega), if_neg (by omega)] at h
      injection h with e1 h
      injection h with e2 h
      injection h with e3 e4
      have HQ1 := Lib.hid e1
      have HQ2 := Lib.hid e2
      have HQ3 := Lib.hid e3
      have HQ4 := Lib.hid e4
      clear e1 e2 e3 e4 HQ
      go_wp2_with (fail)
      go_meet
      refine ⟨nilV, nilV, ?_⟩
      rw [HQ1.out, HQ2.out, HQ3.out, HQ4.out]
      exact ⟨H0.out, own_nilC _ _, own_nilSub _ _⟩
    · rcases hT4 with e | e | e | e | e
      · subst e
        obtain ⟨⟨id, s1⟩, hs⟩ : ∃ z, rW (M, false) = z := ⟨_, rfl⟩
        have h := HQ.out
        rw [rPktR, ← hTf.out, if_neg (by omega), if_neg (by omega), if_neg (by omega), if_pos (by omega)] at h
        rw [hs] at h
        injection h with e1 h
        injection h with e2 h
        injection h with e3 e4
        have HQ1 := Lib.hid e1
        have HQ2 := Lib.hid e2
        have HQ3 := Lib.hid e3
        have HQ4 := Lib.hid e4
        clear e1 e2 e3 e4 HQ
        go_wp2_with (fail)
        refine (rW_at W3 r w.heap.size (M, false) id s1 hs H0.out.rd).mono ?_
        rintro e W4 ⟨t, rfl, hR⟩
        have hM1 : Hid (s1.1.length ≤ 50000) := by
          have := rW_len (M, false)
          rw [hs] at this
          have h2 := hMl.out
          simp only at this
          rw [Hid]; omega
        have H4 := Lib.hid (H0.out.read t hR)
        clear t hR H0 hs
        have y2 : W4.cell? ⟨g, 2, none⟩ = some (.int .i64 0) := H4.out.pk.cell 2
        have z2 := H4.out.pk.frozen 2
        obtain ⟨q0, hq0⟩ : ∃ q0 : Pkt, Hid (q0 = { typeP 4 with id := id }) := ⟨_, rfl⟩
        have H5 : Hid (RP w (W4.setCell ⟨g, 2, none⟩ (.int .i64 id)) v g r w.heap.size q0 s1) := by rw [hq0.out]; exact H4.out.set 2 (.int .i64 id) _ rfl
        replace HQ1 : Hid (q = q0) := by rw [HQ1.out, hq0.out]; exact rfl
        have hcod : Hid (q0.codes = nilV ∧ q0.subs = nilV ∧ q0.ty = 4) := by rw [hq0.out]; exact ⟨rfl, rfl, rfl⟩
        go_wp2_with (fail)
        go_meet
        refine ⟨nilV, nilV, ?_⟩
        rw [HQ1.out, HQ2.out, HQ3.out, HQ4.out]
        exact ⟨by rw [rows_self q0 hcod.out.1 hcod.out.2.1]; exact H5.out, own_nilC _ _, own_nilSub _ _⟩
      · subst e
        obtain ⟨⟨id, s1⟩, hs⟩ : ∃ z, rW (M, false) = z := ⟨_, rfl⟩
        have h := HQ.out
        rw [rPktR, ← hTf.out, if_neg (by omega), if_neg (by omega), if_neg (by omega), if_pos (by omega)] at h
        rw [hs] at h
        injection h with e1 h
        injection h with e2 h
        injection h with e3 e4
        have HQ1 := Lib.hid e1
        have HQ2 := Lib.hid e2
        have HQ3 := Lib.hid e3
        have HQ4 := Lib.hid e4
        clear e1 e2 e3 e4 HQ
        go_wp2_with (fail)
        refine (rW_at W3 r w.heap.size (M, false) id s1 hs H0.out.rd).mono ?_
        rintro e W4 ⟨t, rfl, hR⟩
        have hM1 : Hid (s1.1.length ≤ 50000) := by
          have := rW_len (M, false)
          rw [hs] at this
          have h2 := hMl.out
          simp only at this
          rw [Hid]; omega
        have H4 := Lib.hid (H0.out.read t hR)
        clear t hR H0 hs
        have y2 : W4.cell? ⟨g, 2, none⟩ = some (.int .i64 0) := H4.out.pk.cell 2
        have z2 := H4.out.pk.frozen 2
        obtain ⟨q0, hq0⟩ : ∃ q0 : Pkt, Hid (q0 = { typeP 5 with id := id }) := ⟨_, rfl⟩
        have H5 : Hid (RP w (W4.setCell ⟨g, 2, none⟩ (.int .i64 id)) v g r w.heap.size q0 s1) := by rw [hq0.out]; exact H4.out.set 2 (.int .i64 id) _ rfl
        replace HQ1 : Hid (q = q0) := by rw [HQ1.out, hq0.out]; exact rfl
        have hcod : Hid (q0.codes = nilV ∧ q0.subs = nilV ∧ q0.ty = 5) := by rw [hq0.out]; exact ⟨rfl, rfl, rfl⟩
        go_wp2_with (fail)
        go_meet
        refine ⟨nilV, nilV, ?_⟩
        rw [HQ1.out, HQ2.out, HQ3.out, HQ4.out]
        exact ⟨by rw [rows_self q0 hcod.out.1 hcod.out.2.1]; exact H5.out, own_nilC _ _, own_nilSub _ _⟩
      · subst e
        obtain ⟨⟨id, s1⟩, hs⟩ : ∃ z, rW (M, false) = z := ⟨_, rfl⟩
        have h := HQ.out
        rw [rPktR, ← hTf.out, if_neg (by omega), if_neg (by omega), if_neg (by omega), if_pos (by omega)] at h
        rw [hs] at h
        injection h with e1 h
        injection h with e2 h
        injection h with e3 e4
        have HQ1 := Lib.hid e1
        have HQ2 := Lib.hid e2
        have HQ3 := Lib.hid e3
        have HQ4 := Lib.hid e4
        clear e1 e2 e3 e4 HQ
        go_wp2_with (fail)
        refine (rW_at W3 r w.heap.size (M, false) id s1 hs H0.out.rd).mono ?_
        rintro e W4 ⟨t, rfl, hR⟩
        have hM1 : Hid (s1.1.length ≤ 50000) := by
          have := rW_len (M, false)
          rw [hs] at this
          have h2 := hMl.out
          simp only at this
          rw [Hid]; omega
        have H4 := Lib.hid (H0.out.read t hR)
        clear t hR H0 hs
        have y2 : W4.cell? ⟨g, 2, none⟩ = some (.int .i64 0) := H4.out.pk.cell 2
        have z2 := H4.out.pk.frozen 2
        obtain ⟨q0, hq0⟩ : ∃ q0 : Pkt, Hid (q0 = { typeP 6 with id := id }) := ⟨_, rfl⟩
        have H5 : Hid (RP w (W4.setCell ⟨g, 2, none⟩ (.int .i64 id)) v g r w.heap.size q0 s1) := by rw [hq0.out]; exact H4.out.set 2 (.int .i64 id) _ rfl
        replace HQ1 : Hid (q = q0) := by rw [HQ1.out, hq0.out]; exact rfl
        have hcod : Hid (q0.codes = nilV ∧ q0.subs = nilV ∧ q0.ty = 6) := by rw [hq0.out]; exact ⟨rfl, rfl, rfl⟩
        go_wp2_with (fail)
        go_meet
        refine ⟨nilV, nilV, ?_⟩
        rw [HQ1.out, HQ2.out, HQ3.out, HQ4.out]
        exact ⟨by rw [rows_self q0 hcod.out.1 hcod.out.2.1]; exact H5.out, own_nilC _ _, own_nilSub _ _⟩
      · subst e
        obtain ⟨⟨id, s1⟩, hs⟩ : ∃ z, rW (M, false) = z := ⟨_, rfl⟩
        have h := HQ.out
        rw [rPktR, ← hTf.out, if_neg (by omega), if_neg (by omega), if_neg (by omega), if_pos (by omega)] at h
        rw [hs] at h
        injection h with e1 h
        injection h with e2 h
        injection h with e3 e4
        have HQ1 := Lib.hid e1
        have HQ2 := Lib.hid e2
        have HQ3 := Lib.hid e3
        have HQ4 := Lib.hid e4
        clear e1 e2 e3 e4 HQ
        go_wp2_with (fail)
        refine (rW_at W3 r w.heap.size (M, false) id s1 hs H0.out.rd).mono ?_
        rintro e W4 ⟨t, rfl, hR⟩
        have hM1 : Hid (s1.1.length ≤ 50000) := by
          have := rW_len (M, false)
          rw [hs] at this
          have h2 := hMl.out
          simp only at this
          rw [Hid]; omega
        have H4 := Lib.hid (H0.out.read t hR)
        clear t hR H0 hs
        have y2 : W4.cell? ⟨g, 2, none⟩ = some (.int .i64 0) := H4.out.pk.cell 2
        have z2 := H4.out.pk.frozen 2
        obtain ⟨q0, hq0⟩ : ∃ q0 : Pkt, Hid (q0 = { typeP 7 with id := id }) := ⟨_, rfl⟩
        have H5 : Hid (RP w (W4.setCell ⟨g, 2, none⟩ (.int .i64 id)) v g r w.heap.size q0 s1) := by rw [hq0.out]; exact H4.out.set 2 (.int .i64 id) _ rfl
        replace HQ1 : Hid (q = q0) := by rw [HQ1.out, hq0.out]; exact rfl
        have hcod : Hid (q0.codes = nilV ∧ q0.subs = nilV ∧ q0.ty = 7) := by rw [hq0.out]; exact ⟨rfl, rfl, rfl⟩
        go_wp2_with (fail)
        go_meet
        refine ⟨nilV, nilV, ?_⟩
        rw [HQ1.out, HQ2.out, HQ3.out, HQ4.out]
        exact ⟨by rw [rows_self q0 hcod.out.1 hcod.out.2.1]; exact H5.out, own_nilC _ _, own_nilSub _ _⟩
      · subst e
        obtain ⟨⟨id, s1⟩, hs⟩ : ∃ z, rW (M, false) = z := ⟨_, rfl⟩
        have h := HQ.out
        rw [rPktR, ← hTf.out, if_neg (by omega), if_neg (by omega), if_neg (by omega), if_pos (by omega)] at h
        rw [hs] at h
        injection h with e1 h
        injection h with e2 h
        injection h with e3 e4
        have HQ1 := Lib.hid e1
        have HQ2 := Lib.hid e2
        have HQ3 := Lib.hid e3
        have HQ4 := Lib.hid e4
        clear e1 e2 e3 e4 HQ
        go_wp2_with (fail)
        refine (rW_at W3 r w.heap.size (M, false) id s1 hs H0.out.rd).mono ?_
        rintro e W4 ⟨t, rfl, hR⟩
        have hM1 : Hid (s1.1.length ≤ 50000) := by
          have := rW_len (M, false)
          rw [hs] at this
          have h2 := hMl.out
          simp only at this
          rw [Hid]; omega
        have H4 := Lib.hid (H0.out.read t hR)
        clear t hR H0 hs
        have y2 : W4.cell? ⟨g, 2, none⟩ = some (.int .i64 0) := H4.out.pk.cell 2
        have z2 := H4.out.pk.frozen 2
        obtain ⟨q0, hq0⟩ : ∃ q0 : Pkt, Hid (q0 = { typeP 11 with id := id }) := ⟨_, rfl⟩
        have H5 : Hid (RP w (W4.setCell ⟨g, 2, none⟩ (.int .i64 id)) v g r w.heap.size q0 s1) := by rw [hq0.out]; exact H4.out.set 2 (.int .i64 id) _ rfl
        replace HQ1 : Hid (q = q0) := by rw [HQ1.out, hq0.out]; exact rfl
        have hcod : Hid (q0.codes = nilV ∧ q0.subs = nilV ∧ q0.ty = 11) := by rw [hq0.out]; exact ⟨rfl, rfl, rfl⟩
        go_wp2_with (fail)
        go_meet
        refine ⟨nilV, nilV, ?_⟩
        rw [HQ1.out, HQ2.out, HQ3.out, HQ4.out]
        exact ⟨by rw [rows_self q0 hcod.out.1 hcod.out.2.1]; exact H5.out, own_nilC _ _, own_nilSub _ _⟩
    · subst hT9
      obtain ⟨⟨id, s1⟩, hs⟩ : ∃ z, rW (M, false) = z := ⟨_, rfl⟩
      have h := HQ.out
      rw [rPktR, ← hTf.out, if_neg (by omega), if_neg (by omega), if_neg (by omega), if_neg (by omega), if_neg (by omega), if_pos (by omega)] at h
      rw [hs] at h
      injection h with e1 h
      injection h with e2 h
      injection h with e3 e4
      have HQ1 := Lib.hid e1
      have HQ2 := Lib.hid e2
      have HQ3 := Lib.hid e3
      have HQ4 := Lib.hid e4
      clear e1 e2 e3 e4 HQ
      go_wp2_with (fail)
      refine (rW_at W3 r w.heap.size (M, false) id s1 hs H0.out.rd).mono ?_
      rintro e W4 ⟨t, rfl, hR⟩
      have hM1 : Hid (s1.1.length ≤ 50000) := by
        have := rW_len (M, false)
        rw [hs] at this
        have h2 := hMl.out
        simp only at this
        rw [Hid]; omega
      have H4 := Lib.hid (H0.out.read t hR)
      clear t hR H0 hs
      have y2 : W4.cell? ⟨g, 2, none⟩ = some (.int .i64 0) := H4.out.pk.cell 2
      have z2 := H4.out.pk.frozen 2
      obtain ⟨q0, hq0⟩ : ∃ q0 : Pkt, Hid (q0 = { typeP 9 with id := id }) := ⟨_, rfl⟩
      have H5 : Hid (RP w (W4.setCell ⟨g, 2, none⟩ (.int .i64 id)) v g r w.heap.size q0 s1) := by rw [hq0.out]; exact H4.out.set 2 (.int .i64 id) _ rfl
      replace HQ1 : Hid (q = q0) := by rw [HQ1.out, hq0.out]; exact rfl
      have hcod : Hid (q0.codes = nilV ∧ q0.subs = nilV ∧ q0.ty = 9) := by rw [hq0.out]; exact ⟨rfl, rfl, rfl⟩
      obtain ⟨M1, b1⟩ := s1
      go_wp2_with (fail)
      generalize hW5 : W4.setCell ⟨g, 2, none⟩ (.int .i64 id) = W5 at H5 ⊢
      clear hW5 y2 z2 H4
      go_loopg [] M1.length (fun gk wr => ∃ (vc : Value) (C0 Lc : List Int), Hid (RP w wr v g r w.heap.size (q0.rows vc nilV) (Lc, b1)) ∧ Hid (OwnInts wr (r + 1) 3 .i64 vc C0) ∧ Hid (C0 ++ Lc = M1) ∧ Hid (Lc.length = gk))
      case atStart => exact ⟨nilV, [], M1, (by rw [rows_self q0 hcod.out.1 hcod.out.2.1]; exact H5), OwnInts.nil _ _ _ _, (by rw [List.nil_append, Hid]), by rw [Hid]⟩
      case round =>
        obtain ⟨vc, C0, Lc, HQ, HO, hC, hgk⟩ := hrel
        obtain ⟨Ar, cr, hr0, hrc, hrb, _, _, _, _⟩ := HQ.out.rd
        have kr : wr.cell? ⟨r, 0, none⟩ = some (.slice Ar Lc.length cr) := by rw [cell_heap hr0]; exact rfl
        have hrl : (Lc.length : Int) ≤ 140737488355328 := by have := hrb.2; simp only at this; omega
        clear hr0 hrc hrb
        cases Lc with
        | nil =>
          go_wp2_with (fail)
          go_meet
          refine ⟨vc, nilV, ?_⟩
          have hC' := hC.out
          rw [List.append_nil] at hC'
          rw [HQ1.out, HQ2.out, HQ3.out, HQ4.out]
          exact ⟨HQ.out, by rw [← hC']; exact HO.out, own_nilSub _ _⟩
        | cons x L' =>
          obtain ⟨A, c', hv', _, _, _⟩ := HO.out.form
          subst hv'
          cases gk with
          | zero => exact absurd hgk.out (by simp)
          | succ k1 =>
            have hk1 : Hid (L'.length = k1) := by have := hgk.out; rw [Hid]; simpa using this
            have hCx : Hid ((C0 ++ [x]) ++ L' = M1) := by rw [List.append_assoc]; exact hC.out
            have hlen : Hid (C0.length + 1 ≤ 140737488355328 ∧ (C0.length + 1) * 8 ≤ 140737488355328) := by
              have h1 := congrArg List.length hC.out
              have h2 := hM1.out
              rw [List.length_append, List.length_cons] at h1
              rw [Hid]; try simp only at h2
              exact ⟨by omega, by omega⟩
            have k16 : wr.cell? ⟨g, 16, none⟩ = some (.slice A C0.length c') := HQ.out.pk.cell 16
            have k16d : wr.drew.cell? ⟨g, 16, none⟩ = some (.slice A C0.length c') := k16
            have HOct : Hid (∀ (R : Ending → World → Prop), (∀ w5, Hid (RP w w5 v g r w.heap.size (q0.rows (.slice A C0.length c') nilV) (L', b1)) → Hid (OwnInts w5 (r + 1) 3 .i64 (.slice A C0.length c') C0) → w5.cell? ⟨g, 16, none⟩ = some (.slice A C0.length c') → (∀ o, (w5.alloc o).cell? ⟨g, 16, none⟩ = some (.slice A C0.length c')) → R (.returned (.int .i64 x)) w5) → Calls Tryd.prog 40 #[.pointer (some ⟨r, 0, none⟩)] wr.drew R) := by
              intro R hK
              refine (r1_at wr.drew r w.heap.size (x :: L', b1) x (L', b1) rfl HQ.out.drew.rd).mono ?_
              rintro e w5 ⟨t, rfl, hR⟩
              have H5 : RP w w5 v g r w.heap.size (q0.rows (.slice A C0.length c') nilV) (L', b1) := HQ.out.drew.read t hR
              exact hK w5 H5 (OwnInts.turn (OwnInts.turn HO.out (Turn.drew (Turn.refl (fun _ => False) _)) (fun _ _ h => h)) t (fun j hj e => by have := (own_block_ge HO.out j hj).1; omega)) (H5.pk.cell 16) (fun o => (H5.old (Below.alloc (Below.refl _ _) (Nat.le_refl _) o)).pk.cell 16)
            go_upto_region 39 with (fail)
            go_region_law (first
              | (refine step_append_row (r + 1) rfl _ _ 25 3 .i64 8 rfl Tryd.underlying25 info_int _ C0 [x] _ 1 rfl rfl (by exact reads_lit _ [x] _ rfl) (own_alloc HO5.out _) (Nat.le_trans H5.out.big (by simp)) hlen.out ?_
                 intro A6 c6 w6 hown6 ht6
                 have H6 : Hid (RP w w6 v g r w.heap.size (q0.rows (.slice A C0.length c') nilV) (L', b1)) := (H5.out.old (Below.alloc (Below.refl _ _) (Nat.le_refl _) _)).grow ht6 (fun k hk => (own_block_ge HO5.out k hk).1)
                 have k166 : w6.cell? ⟨g, 16, none⟩ = some (.slice A C0.length c') := H6.out.pk.cell 16
                 have f166 := H6.out.pk.frozen 16
                 have HO6 := Lib.hid hown6
                 clear hown6 ht6)
              | (go_simp; go_at_call 40
                 refine HOct.out _ ?_
                 intro w5 H5 HO5 k165 k165a))
            all_goals
              go_wp2_with (fail)
              have HQ6 : Hid (RP w (w6.setCell ⟨g, 16, none⟩ (.slice A6 (C0.length + 1) c6)) v g r w.heap.size (q0.rows (.slice A6 (C0.length + 1) c6) nilV) (L', b1)) := H6.out.set 16 _ _ rfl
              have HO7 : Hid (OwnInts (w6.setCell ⟨g, 16, none⟩ (.slice A6 (C0.length + 1) c6)) (r + 1) 3 .i64 (.slice A6 (C0.length + 1) c6) (C0 ++ [x])) := by
                have := HO6.out
                rw [List.length_append, List.length_singleton] at this
                exact this.turn (Turn.setCell (S := fun k => k = g) _ _ rfl) (fun j hj e => by have := (own_block_ge this j hj).1; have := H6.out.rw_; have := H6.out.gw; omega)
              go_roundg k1
              case rel => exact ⟨_, C0 ++ [x], L', HQ6, HO7, hCx, hk1⟩
              case measure => omega
    · subst e1
      have h := HQ.out
      rw [rPktR, ← hTf.out, if_pos (by omega)] at h
      injection h with e1 h
      injection h with e2 h
      injection h with e3 e4
      have HQ1 := Lib.hid e1
      have HQ2 := Lib.hid e2
      have HQ3 := Lib.hid e3
      have HQ4 := Lib.hid e4
      clear e1 e2 e3 e4 HQ
      obtain ⟨⟨q1, s1⟩, hs⟩ : ∃ z, Hid (z = rConR (typeP 1) (M, false)) := ⟨_, rfl⟩
      rw [← hs.out] at HQ1 HQ4
      have hrow : Hid (q1.codes = nilV ∧ q1.subs = nilV) := by
        have := conR_rows (typeP 1) (M, false)
        rw [← hs.out] at this
        exact this
      have hoc : q1.codes.oneCell' = true := by rw [hrow.out.1]; rfl
      have hos : q1.subs.oneCell' = true := by rw [hrow.out.2]; rfl
      go_upto_region 11 with (fail)
      go_wp2_with (with_reducible refine wp_load_pkt (o := ⟨some 41, _, _, _, _, _⟩) rfl rfl rfl H0.out.pk ?_)
      refine (conread_calls W3 r w.heap.size (typeP 1) (M, false) ⟨rfl, rfl⟩ H0.out.rd (by have := H0.out.rw_; omega)).mono ?_
      rintro e W4 ⟨t, rfl, hR⟩
      rw [← hs.out] at hR ⊢
      have H4 : Hid (RP w W4 v g r w.heap.size (typeP 1) s1) := H0.out.read t hR
      clear t hR H0 hs
      go_wp2_with (with_reducible refine wp_store_pkt (o := ⟨none, _, _, _, _, _⟩) (g := g) q1 (typeP 1) rfl rfl rfl rfl H4.out.pk hoc hos ?_)
      intro W5 HP5 t5
      have H5 : Hid (RP w W5 v g r w.heap.size q1 s1) := H4.out.store t5 HP5.out
      clear H4 HP5 t5
      go_wp2_with (fail)
      go_meet
      refine ⟨nilV, nilV, ?_⟩
      rw [HQ1.out, HQ2.out, HQ3.out, HQ4.out]
      exact ⟨by rw [rows_self q1 hrow.out.1 hrow.out.2]; exact H5.out, own_nilC _ _, own_nilSub _ _⟩
    · subst e2
      have h := HQ.out
      rw [rPktR, ← hTf.out, if_neg (by omega), if_pos (by omega)] at h
      injection h with e1 h
      injection h with e2 h
      injection h with e3 e4
      have HQ1 := Lib.hid e1
      have HQ2 := Lib.hid e2
      have HQ3 := Lib.hid e3
      have HQ4 := Lib.hid e4
      clear e1 e2 e3 e4 HQ
      obtain ⟨⟨a, s1⟩, hs⟩ : ∃ z, r1 (M, false) = z := ⟨_, rfl⟩
      have har := r1_range H0.out.rd
      rw [hs] at HQ1 HQ2 HQ4 har
      obtain ⟨⟨b, s2⟩, hs2⟩ : ∃ z, r1 s1 = z := ⟨_, rfl⟩
      have HQ2' : Hid (C = [b]) := by rw [HQ2.out, hs2, Hid]
      have HQ4' : Hid (s = s2) := by rw [HQ4.out, hs2, Hid]
      obtain ⟨ha0, ha1'⟩ : 0 ≤ a ∧ a < 256 := har
      have ha1 : a ≤ 255 := by omega
      obtain ⟨d1, hd1⟩ : ∃ d, digitB a 1 = d := ⟨_, rfl⟩
      obtain ⟨q0, hq0⟩ : ∃ q0 : Pkt, Hid (q0 = { typeP 2 with present := d1 }) := ⟨_, rfl⟩
      replace HQ1 : Hid (q = q0) := by rw [HQ1.out, hq0.out, ← hd1]; exact rfl
      clear HQ2 HQ4
      go_wp2_with (fail)
      refine (r1_at W3 r w.heap.size (M, false) a s1 hs H0.out.rd).mono ?_
      rintro e W4 ⟨t, rfl, hR⟩
      have H4 : Hid (RP w W4 v g r w.heap.size (typeP 2) s1) := H0.out.read t hR
      clear t hR H0 hs
      have y15 : W4.cell? ⟨g, 15, none⟩ = some (.bool false) := H4.out.pk.cell 15
      have z15 := H4.out.pk.frozen 15
      have H5 : Hid (RP w (W4.setCell ⟨g, 15, none⟩ (.bool d1)) v g r w.heap.size q0 s1) := by rw [hq0.out]; exact H4.out.set 15 (.bool d1) _ rfl
      have hcod : Hid (q0.codes = nilV ∧ q0.subs = nilV) := by rw [hq0.out]; exact ⟨rfl, rfl⟩
      go_wp2_with (fail)
      refine (digit_at W4 a 1 d1 hd1 ha0 ha1 (by decide)).mono ?_
      rintro e w' ⟨rfl, rfl⟩
      go_upto_region 14 with (fail)
      generalize hW5 : W4.setCell ⟨g, 15, none⟩ (.bool d1) = W5 at H5 ⊢
      clear hW5 y15 z15 H4 hd1
      go_wp2_with (fail)
      refine (r1_at W5 r w.heap.size s1 b s2 hs2 H5.out.rd).mono ?_
      rintro e W6 ⟨t, rfl, hR⟩
      have H6 : Hid (RP w W6 v g r w.heap.size q0 s2) := H5.out.read t hR
      clear t hR H5 hs2
      have H7 : Hid (RP w (W6.alloc (.cells #[.int .i64 b] 3)) v g r w.heap.size q0 s2) := H6.out.old (Below.alloc (Below.refl _ _) (Nat.le_refl _) _)
      have k16 : (W6.alloc (.cells #[.int .i64 b] 3)).cell? ⟨g, 16, none⟩ = some (.slice none 0 0) := by rw [← show q0.codes = .slice none 0 0 from hcod.out.1]; exact H7.out.pk.cell 16
      have f16 := H7.out.pk.frozen 16
      have k16' : W6.cell? ⟨g, 16, none⟩ = some (.slice none 0 0) := by rw [← show q0.codes = .slice none 0 0 from hcod.out.1]; exact H6.out.pk.cell 16
      have f16' := H6.out.pk.frozen 16
      have HBIG := Lib.hid H6.out.big
      obtain ⟨vc, hvc⟩ : ∃ vc, Hid (vc = Value.slice (some ⟨W6.heap.size, 0, none⟩) 1 1) := ⟨_, rfl⟩
      have H8 : Hid (RP w ((W6.alloc (.cells #[.int .i64 b] 3)).setCell ⟨g, 16, none⟩ (.slice (some ⟨W6.heap.size, 0, none⟩) 1 1)) v g r w.heap.size (q0.rows vc nilV) s2) := by
        rw [hvc.out]
        exact H7.out.set 16 _ (q0.rows _ nilV) (by show q0.cells.setIfInBounds 16 _ = _; have := hcod.out.2; cases q0; simp only at this; subst this; rfl)
      have HOC : Hid (OwnInts ((W6.alloc (.cells #[.int .i64 b] 3)).setCell ⟨g, 16, none⟩ (.slice (some ⟨W6.heap.size, 0, none⟩) 1 1)) (r + 1) 3 .i64 vc [b]) := by
        rw [hvc.out]
        exact OwnInts.turn (own_of_heap (cur := #[.int .i64 b]) (heap_new W6 _) HBIG.out rfl (Nat.le_refl _) (by decide) rfl rfl) (Turn.setCell (S := fun k => k = g) _ _ rfl) (fun j hj e => by injection hj with hj; have h1 := HBIG.out; have h2 := H7.out.gw; have h3 := H7.out.rw_; simp at hj; omega)
      go_wp2_with (fail)
      go_meet
      refine ⟨vc, nilV, ?_⟩
      rw [HQ1.out, HQ2'.out, HQ3.out, HQ4'.out]
      exact ⟨H8.out, HOC.out, own_nilSub _ _⟩
    · subst e3
      obtain ⟨⟨tp, s1⟩, hs⟩ : ∃ z, rT (M, false) = z := ⟨_, rfl⟩
      obtain ⟨q3, hq3⟩ : ∃ z, z = f / 2 % 4 := ⟨_, rfl⟩
      obtain ⟨d8, hd8⟩ : ∃ d, digitB f 8 = d := ⟨_, rfl⟩
      obtain ⟨d1, hd1⟩ : ∃ d, digitB f 1 = d := ⟨_, rfl⟩
      have eq3 : f / 2 % 4 = q3 := hq3.symm
      replace HQ : Hid ((q, C, D, s) = if 0 < q3 then ({ typeP 3 with dup := d8, qos := q3, retain := d1, topic := tp, id := (rW s1).1, payload := strOfNums (rW s1).2.1 }, [], [], (rW s1).2) else ({ typeP 3 with dup := d8, qos := q3, retain := d1, topic := tp, payload := strOfNums s1.1 }, [], [], s1)) := by
        have h := HQ.out
        rw [rPktR, ← hTf.out, if_neg (by omega), if_neg (by omega), if_pos (by omega), hs, rPub, eq3, hd8, hd1] at h
        exact h
      clear hq3
      have y1 : W3.cell? ⟨g, 1, none⟩ = some (.bool false) := H0.out.pk.cell 1
      have z1 := H0.out.pk.frozen 1
      have HS : Hid (RP w (W3.setCell ⟨g, 1, none⟩ (.bool d8)) v g r w.heap.size { typeP 3 with dup := d8 } (M, false)) := H0.out.set 1 _ _ rfl
      go_wp2_with (fail)
      refine (digit_at W3 f 8 d8 hd8 hf0 hf1 (by decide)).mono ?_
      rintro e w' ⟨rfl, rfl⟩
      go_upto_region 17 with (fail)
      generalize hWs : W3.setCell ⟨g, 1, none⟩ (.bool d8) = Ws at HS ⊢
      clear hWs y1 z1 hd8 H0
      have x3 : Ws.cell? ⟨g, 3, none⟩ = some (.string ⟨#[]⟩) := HS.out.pk.cell 3
      have x4 : Ws.cell? ⟨g, 4, none⟩ = some (.string ⟨#[]⟩) := HS.out.pk.cell 4
      have x5 : Ws.cell? ⟨g, 5, none⟩ = some (.int .i64 0) := HS.out.pk.cell 5
      have x6 : Ws.cell? ⟨g, 6, none⟩ = some (.bool false) := HS.out.pk.cell 6
      have z3 := HS.out.pk.frozen 3
      have z4 := HS.out.pk.frozen 4
      have z5 := HS.out.pk.frozen 5
      have z6 := HS.out.pk.frozen 6
      obtain ⟨q1, hq1⟩ : ∃ q1 : Pkt, Hid (q1 = { typeP 3 with dup := d8, qos := q3, retain := d1 }) := ⟨_, rfl⟩
      have H2 : Hid (RP w ((((Ws.setCell ⟨g, 3, none⟩ (.string ⟨#[]⟩)).setCell ⟨g, 4, none⟩ (.string ⟨#[]⟩)).setCell ⟨g, 5, none⟩ (.int .i64 q3)).setCell ⟨g, 6, none⟩ (.bool d1)) v g r w.heap.size q1 (M, false)) := by
        rw [hq1.out]
        exact ((((HS.out.set 3 (.string ⟨#[]⟩) { typeP 3 with dup := d8 } rfl).set 4 (.string ⟨#[]⟩) { typeP 3 with dup := d8 } rfl).set 5 (.int .i64 q3) { typeP 3 with dup := d8, qos := q3 } rfl).set 6 _ _ rfl)
      go_wp2_with (fail)
      refine (digit_at Ws f 1 d1 hd1 hf0 hf1 (by decide)).mono ?_
      rintro e w' ⟨rfl, rfl⟩
      go_upto_region 18 with (fail)
      generalize hW2 : (((Ws.setCell ⟨g, 3, none⟩ (.string ⟨#[]⟩)).setCell ⟨g, 4, none⟩ (.string ⟨#[]⟩)).setCell ⟨g, 5, none⟩ (.int .i64 q3)).setCell ⟨g, 6, none⟩ (.bool d1) = Wm at H2 ⊢
      clear hW2 x3 x4 x5 x6 z3 z4 z5 z6 hd1 HS
      go_wp2_with (fail)
      refine (rT_at Wm r w.heap.size (M, false) tp s1 hs H2.out.rd).mono ?_
      rintro e W4 ⟨t, rfl, hR⟩
      have H4 : Hid (RP w W4 v g r w.heap.size q1 s1) := H2.out.read t hR
      clear t hR H2 hs
      have t3 : W4.cell? ⟨g, 3, none⟩ = some (.string q1.topic) := H4.out.pk.cell 3
      have s3' := H4.out.pk.frozen 3
      obtain ⟨q4, hq4⟩ : ∃ x : Pkt, Hid (x = { q1 with topic := tp }) := ⟨_, rfl⟩
      have H5 : Hid (RP w (W4.setCell ⟨g, 3, none⟩ (.string tp)) v g r w.heap.size q4 s1) := by rw [hq4.out]; exact H4.out.set 3 _ _ rfl
      go_upto_region 19 with (fail)
      generalize hW5 : W4.setCell ⟨g, 3, none⟩ (.string tp) = W5 at H5 ⊢
      clear hW5 t3 s3' H4
      have hqos : Hid (q4.qos = q3) := by rw [hq4.out, hq1.out]; exact rfl
      have y5 : W5.cell? ⟨g, 5, none⟩ = some (.int .i64 q3) := by rw [← hqos.out]; exact H5.out.pk.cell 5
      by_cases hz : 0 < q3
      · have hdz : decide (0 < q3) = true := decide_eq_true hz
        rw [if_pos hz] at HQ
        obtain ⟨⟨id, s2⟩, hs2⟩ : ∃ z, rW s1 = z := ⟨_, rfl⟩
        rw [hs2] at HQ
        go_wp2_with (fail)
        refine (rW_at W5 r w.heap.size s1 id s2 hs2 H5.out.rd).mono ?_
        rintro e W6 ⟨t, rfl, hR⟩
        have H6 : Hid (RP w W6 v g r w.heap.size q4 s2) := H5.out.read t hR
        clear t hR H5 hs2 y5
        have y2 : W6.cell? ⟨g, 2, none⟩ = some (.int .i64 q4.id) := H6.out.pk.cell 2
        have z2 := H6.out.pk.frozen 2
        obtain ⟨q6, hq6⟩ : ∃ x : Pkt, Hid (x = { q4 with id := id }) := ⟨_, rfl⟩
        have H7 : Hid (RP w (W6.setCell ⟨g, 2, none⟩ (.int .i64 id)) v g r w.heap.size q6 s2) := by rw [hq6.out]; exact H6.out.set 2 _ _ rfl
        go_upto_region 21 with (fail)
        generalize hW7 : W6.setCell ⟨g, 2, none⟩ (.int .i64 id) = W7 at H7 ⊢
        clear hW7 y2 z2 H6
        obtain ⟨M9, b9⟩ := s2
        obtain ⟨Ar, cr, hr0, hrc, hrb, hr4, _, _, _⟩ := H7.out.rd
        have kr : W7.cell? ⟨r, 0, none⟩ = some (.slice Ar M9.length cr) := by rw [cell_heap hr0]; exact rfl
        have hcv := conv_reads (P := Tryd.prog) (W := W7) (src := 22) (dst := 9) (e := 5) (A := Ar) (n := M9.length) (c := cr) (L := M9) Tryd.underlying22 Tryd.underlying5 Tryd.underlying9 rfl hr4
        obtain ⟨pl, hpl⟩ : ∃ z, Hid (z = strOfNums M9) := ⟨_, rfl⟩
        rw [← hpl.out] at hcv
        have u4 : W7.cell? ⟨g, 4, none⟩ = some (.string q6.payload) := H7.out.pk.cell 4
        have g4 := H7.out.pk.frozen 4
        have HE0 : Hid (RP w (W7.setCell ⟨g, 4, none⟩ (.string pl)) v g r w.heap.size { q6 with payload := pl } (M9, b9)) := H7.out.set 4 _ _ rfl
        clear hr0 hrc hrb hr4
        go_wp2_with (fail)
        go_meet
        refine ⟨nilV, nilV, ?_⟩
        have h := HQ.out
        injection h with e1 h
        injection h with e2 h
        injection h with e3 e4
        rw [e1, e2, e3, e4]
        refine ⟨?_, own_nilC _ _, own_nilSub _ _⟩
        have h := HE0.out
        rw [hq6.out, hq4.out, hq1.out, hpl.out] at h
        rw [hpl.out]
        exact h
      · have hdz : decide (0 < q3) = false := decide_eq_false hz
        rw [if_neg hz] at HQ
        go_upto_region 21 with (fail)
        obtain ⟨M9, b9⟩ := s1
        obtain ⟨Ar, cr, hr0, hrc, hrb, hr4, _, _, _⟩ := H5.out.rd
        have kr : W5.cell? ⟨r, 0, none⟩ = some (.slice Ar M9.length cr) := by rw [cell_heap hr0]; exact rfl
        have hcv := conv_reads (P := Tryd.prog) (W := W5) (src := 22) (dst := 9) (e := 5) (A := Ar) (n := M9.length) (c := cr) (L := M9) Tryd.underlying22 Tryd.underlying5 Tryd.underlying9 rfl hr4
        obtain ⟨pl, hpl⟩ : ∃ z, Hid (z = strOfNums M9) := ⟨_, rfl⟩
        rw [← hpl.out] at hcv
        have u4 : W5.cell? ⟨g, 4, none⟩ = some (.string q4.payload) := H5.out.pk.cell 4
        have g4 := H5.out.pk.frozen 4
        have HE0 : Hid (RP w (W5.setCell ⟨g, 4, none⟩ (.string pl)) v g r w.heap.size { q4 with payload := pl } (M9, b9)) := H5.out.set 4 _ _ rfl
        clear hr0 hrc hrb hr4
        go_wp2_with (fail)
        go_meet
        refine ⟨nilV, nilV, ?_⟩
        have h := HQ.out
        injection h with e1 h
        injection h with e2 h
        injection h with e3 e4
        rw [e1, e2, e3, e4]
        refine ⟨?_, own_nilC _ _, own_nilSub _ _⟩
        have h := HE0.out
        rw [hq4.out, hq1.out, hpl.out] at h
        rw [hpl.out]
        exact h
    · subst e8
      obtain ⟨⟨id, s1⟩, hs⟩ : ∃ z, rW (M, false) = z := ⟨_, rfl⟩
      have h := HQ.out
      rw [rPktR, ← hTf.out, if_neg (by omega), if_neg (by omega), if_neg (by omega), if_neg (by omega), if_pos (by omega)] at h
      rw [hs] at h
      injection h with e1 h
      injection h with e2 h
      injection h with e3 e4
      have HQ1 := Lib.hid e1
      have HQ2 := Lib.hid e2
      have HQ3 := Lib.hid e3
      have HQ4 := Lib.hid e4
      clear e1 e2 e3 e4 HQ
      go_wp2_with (fail)
      refine (rW_at W3 r w.heap.size (M, false) id s1 hs H0.out.rd).mono ?_
      rintro e W4 ⟨t, rfl, hR⟩
      have hM1 : Hid (s1.1.length ≤ 50000) := by
        have := rW_len (M, false)
        rw [hs] at this
        have h2 := hMl.out
        simp only at this
        rw [Hid]; omega
      have H4 := Lib.hid (H0.out.read t hR)
      clear t hR H0 hs
      have y2 : W4.cell? ⟨g, 2, none⟩ = some (.int .i64 0) := H4.out.pk.cell 2
      have z2 := H4.out.pk.frozen 2
      obtain ⟨q0, hq0⟩ : ∃ q0 : Pkt, Hid (q0 = { typeP 8 with id := id }) := ⟨_, rfl⟩
      have H5 : Hid (RP w (W4.setCell ⟨g, 2, none⟩ (.int .i64 id)) v g r w.heap.size q0 s1) := by rw [hq0.out]; exact H4.out.set 2 (.int .i64 id) _ rfl
      replace HQ1 : Hid (q = q0) := by rw [HQ1.out, hq0.out]; exact rfl
      have hcod : Hid (q0.codes = nilV ∧ q0.subs = nilV ∧ q0.ty = 8) := by rw [hq0.out]; exact ⟨rfl, rfl, rfl⟩
      obtain ⟨M1, b1⟩ := s1
      obtain ⟨⟨DD, sE⟩, hDD⟩ : ∃ z, Hid (z = rSubs M1.length 8 (M1, b1)) := ⟨_, rfl⟩
      replace HQ3 : Hid (D = DD) := by rw [HQ3.out]; simp only; rw [← hDD.out, Hid]
      replace HQ4 : Hid (s = sE) := by rw [HQ4.out]; simp only; rw [← hDD.out, Hid]
      have l0 : (W4.setCell ⟨g, 2, none⟩ (.int .i64 id)).cell? ⟨g, 0, none⟩ = some (.int .i64 8) := by rw [← hcod.out.2.2]; exact H5.out.pk.cell 0
      go_wp2_with (fail)
      generalize hW5 : W4.setCell ⟨g, 2, none⟩ (.int .i64 id) = W5 at H5 l0 ⊢
      clear hW5 y2 z2 H4 l0
      go_loopg [10] M1.length (fun gk u wr => ∃ (vs : Value) (D0 : List (ByteArray × Int)) (Lc : List Int) (bc : Bool), Hid (RP w wr v g r w.heap.size (q0.rows nilV vs) (Lc, bc)) ∧ Hid (wr.ownsRow (r + 1) 76 2 vs D0.length (subCells D0)) ∧ Hid ((DD, sE) = (D0 ++ (rSubs gk 8 (Lc, bc)).1, (rSubs gk 8 (Lc, bc)).2)) ∧ Hid (bc = true ∨ Lc.length ≤ gk) ∧ Hid (D0.length + gk ≤ M1.length))
      case atStart => exact ⟨nilV, [], M1, b1, (by rw [rows_self q0 hcod.out.1 hcod.out.2.1]; exact H5), own_nilSub _ _, (by rw [List.nil_append]; exact hDD), .inr (Nat.le_refl _), (by rw [Hid]; simp)⟩
      case round =>
        obtain ⟨vs, D0, Lc, bc, HQ, HO, hC, hgk, hDl⟩ := hrel
        obtain ⟨Ar, cr, hr0, hrc, hrb, _, _, _, _⟩ := HQ.out.rd
        have kr : wr.cell? ⟨r, 0, none⟩ = some (.slice Ar Lc.length cr) := by rw [cell_heap hr0]; exact rfl
        have kb : wr.cell? ⟨r, 1, none⟩ = some (.bool bc) := by rw [cell_heap hr0]; exact rfl
        have hrl : (Lc.length : Int) ≤ 140737488355328 := by have := hrb.2; simp only at this; omega
        obtain ⟨A, c', hv2, _, _, _⟩ := own_form HO.out
        subst hv2
        clear hr0 hrc hrb
        by_cases hend : Lc = [] ∨ bc = true
        · have hC2 : Hid (DD = D0 ∧ sE = (Lc, bc)) := by
            have h := hC.out
            have he : rSubs gk 8 (Lc, bc) = ([], (Lc, bc)) := by
              cases gk with
              | zero => rfl
              | succ k => rw [rSubs, if_pos hend]
            rw [he] at h
            injection h with h1 h2
            rw [List.append_nil] at h1
            exact ⟨h1, h2⟩
          have hmeet : ∃ vc vs, Hid (RE w wr v g r w.heap.size q C D s vc vs) := by
            refine ⟨nilV, .slice A D0.length c', ?_⟩
            rw [HQ1.out, HQ2.out, HQ3.out, HQ4.out, hC2.out.1, hC2.out.2]
            exact ⟨HQ.out, own_nilC _ _, HO.out⟩
          have HMT := Lib.hid hmeet
          clear hmeet
          rcases hend with hLc | hbc
          · subst hLc
            clear kb
            go_wp2_with (fail)
            go_meet
            exact HMT.out
          · subst hbc
            by_cases hL0 : Lc = []
            · subst hL0
              go_wp2_with (fail)
              go_meet
              exact HMT.out
            · have hpos : 0 < Lc.length := List.length_pos_iff.2 hL0
              have hdp : decide (0 < Lc.length) = true := decide_eq_true hpos
              clear hL0
              go_wp2_with (fail)
              go_meet
              exact HMT.out
        · have hLc : Lc ≠ [] := fun h => hend (.inl h)
          have hbc : bc = false := by cases bc with
            | false => rfl
            | true => exact absurd (.inr rfl) hend
          have hpos : 0 < Lc.length := List.length_pos_iff.2 hLc
          have hdp : decide (0 < Lc.length) = true := decide_eq_true hpos
          cases gk with
          | zero => exact absurd (hgk.out.resolve_left (by rw [hbc]; decide)) (by omega)
          | succ k1 =>
            have hstep : Hid (rSubs (k1 + 1) 8 (Lc, bc) = (((rT (Lc, bc)).1, (r1 (rT (Lc, bc)).2).1) :: (rSubs k1 8 (r1 (rT (Lc, bc)).2).2).1, (rSubs k1 8 (r1 (rT (Lc, bc)).2).2).2)) := by rw [Hid, rSubs, if_neg hend]; exact rfl
            subst hbc
            have hgk1 : Hid (Lc.length ≤ k1 + 1) := hgk.out.resolve_left (by decide)
            obtain ⟨⟨tx, s4⟩, hs4⟩ : ∃ z, rT (Lc, false) = z := ⟨_, rfl⟩
            have hl4 : Hid (s4.2 = true ∨ s4.1.length + 1 ≤ Lc.length) := by rw [← show (rT (Lc, false)).2 = s4 by rw [hs4]]; exact rT_less Lc hLc
            rw [hs4] at hstep
            clear hLc hend hgk
            go_wp2_with (fail)
            refine (rT_at wr r w.heap.size (Lc, false) tx s4 hs4 HQ.out.rd).mono ?_
            rintro e W6 ⟨t, rfl, hR⟩
            have H6 : Hid (RP w W6 v g r w.heap.size (q0.rows nilV (.slice A D0.length c')) s4) := HQ.out.read t hR
            have HO6 : Hid (W6.ownsRow (r + 1) 76 2 (.slice A D0.length c') D0.length (subCells D0)) := own_turn HO.out t (fun j hj e => by have := (own_block_ge HO.out j hj).1; omega)
            have hlt6 : Hid (∀ j, (Value.slice A D0.length c').ownBlock = some j → j < W6.heap.size) := fun j hj => (own_block_ge HO6.out j hj).2
            clear t hR hs4 kr kb
            have H7 : Hid (RP w (W6.alloc (.cells #[.string tx, .int .i64 0] 76)) v g r w.heap.size (q0.rows nilV (.slice A D0.length c')) s4) := H6.out.old (Below.alloc (Below.refl _ _) (Nat.le_refl _) _)
            have HO7 : Hid ((W6.alloc (.cells #[.string tx, .int .i64 0] 76)).ownsRow (r + 1) 76 2 (.slice A D0.length c') D0.length (subCells D0)) := own_turn HO6.out (Turn.alloc (S := fun _ => False) _ _) (fun _ _ h => h)
            have hnew : Hid ((W6.alloc (.cells #[.string tx, .int .i64 0] 76)).heap[W6.heap.size]? = some (.cells #[.string tx, .int .i64 0] 76 (0, 0))) := heap_new _ _
            obtain ⟨sb, hsb⟩ : ∃ sb, Hid (sb = W6.heap.size) := ⟨_, rfl⟩
            have hsbw : Hid (r + 1 ≤ sb) := by rw [hsb.out]; exact H6.out.big
            have l5 : (W6.alloc (.cells #[.string tx, .int .i64 0] 76)).cell? ⟨g, 0, none⟩ = some (.int .i64 8) := by rw [← hcod.out.2.2]; exact H7.out.pk.cell 0
            go_upto_region 33 with (fail)
            rw [← hsb.out]
            rw [← hsb.out] at hnew
            generalize hW7 : W6.alloc (.cells #[.string tx, .int .i64 0] 76) = W7 at H7 HO7 hnew l5 ⊢
            clear hW7 H6 HO6
            obtain ⟨⟨qv, s8⟩, hs8⟩ : ∃ z, r1 s4 = z := ⟨_, rfl⟩
            have hl8 : Hid (s8.2 = true ∨ s8.1.length ≤ k1) := by
              have h1 := r1_len s4
              have h2 := r1_bad s4
              rw [hs8] at h1 h2
              rcases hl4.out with h | h
              · exact .inl (h2 h)
              · have := hgk1.out; simp only at h1; exact .inr (by omega)
            rw [hs8] at hstep
            go_wp2_with (fail)
            refine (r1_at W7 r w.heap.size s4 qv s8 hs8 H7.out.rd).mono ?_
            rintro e W8 ⟨t, rfl, hR⟩
            have H8 : Hid (RP w W8 v g r w.heap.size (q0.rows nilV (.slice A D0.length c')) s8) := H7.out.read t hR
            have HO8 : Hid (W8.ownsRow (r + 1) 76 2 (.slice A D0.length c') D0.length (subCells D0)) := own_turn HO7.out t (fun j hj e => by have := (own_block_ge HO7.out j hj).1; omega)
            have hnew8 : Hid (W8.heap[sb]? = some (.cells #[.string tx, .int .i64 0] 76 (0, 0))) := by
              rw [Hid, t.block sb (heap_lt hnew.out) (fun e => by have := hsbw.out; omega)]; exact hnew.out
            have b1' : W8.cell? ⟨sb, 1, none⟩ = some (.int .i64 0) := by rw [cell_heap hnew8.out]; exact rfl
            have bz1 : W8.frozen? ⟨sb, 1, none⟩ = false := frozen_heap hnew8.out
            have hnew9 : Hid ((W8.setCell ⟨sb, 1, none⟩ (.int .i64 qv)).heap[sb]? = some (.cells #[.string tx, .int .i64 qv] 76 (0, 0))) := heap_set_same W8 sb 1 _ hnew8.out
            have t9 : Turn (fun k => k = sb) W8 (W8.setCell ⟨sb, 1, none⟩ (.int .i64 qv)) := Turn.setCell _ _ rfl
            have H9 : Hid (RP w (W8.setCell ⟨sb, 1, none⟩ (.int .i64 qv)) v g r w.heap.size (q0.rows nilV (.slice A D0.length c')) s8) := H8.out.grow t9 (fun k hk => by have := hsbw.out; omega)
            have hsbn : Hid (∀ j, (Value.slice A D0.length c').ownBlock = some j → j ≠ sb) := fun j hj e => by have h1 := hlt6.out j hj; have h2 := hsb.out; omega
            have HO9 : Hid ((W8.setCell ⟨sb, 1, none⟩ (.int .i64 qv)).ownsRow (r + 1) 76 2 (.slice A D0.length c') D0.length (subCells D0)) := own_turn HO8.out t9 (fun j hj e => hsbn.out j hj e)
            clear t hR hs8
            go_upto_region 35 with (fail)
            generalize hW9 : W8.setCell ⟨sb, 1, none⟩ (.int .i64 qv) = W9 at H9 HO9 hnew9 ⊢
            clear hW9 b1' bz1 l5
            have c0 : W9.cell? ⟨sb, 0, none⟩ = some (.string tx) := by rw [cell_heap hnew9.out]; exact rfl
            have c1 : W9.cell? ⟨sb, 1, none⟩ = some (.int .i64 qv) := by rw [cell_heap hnew9.out]; exact rfl
            have m17 : W9.cell? ⟨g, 17, none⟩ = some (.slice A D0.length c') := H9.out.pk.cell 17
            have HOa : Hid ((W9.alloc (.cells #[.string tx, .int .i64 qv] 76)).ownsRow (r + 1) 76 2 (.slice A D0.length c') D0.length (subCells D0)) := own_turn HO9.out (Turn.alloc (S := fun _ => False) _ _) (fun _ _ h => h)
            have Ha : Hid (RP w (W9.alloc (.cells #[.string tx, .int .i64 qv] 76)) v g r w.heap.size (q0.rows nilV (.slice A D0.length c')) s8) := H9.out.old (Below.alloc (Below.refl _ _) (Nat.le_refl _) _)
            have hbn : Hid ((D0.length + 1) * 24 ≤ 140737488355328) := by have h1 := hDl.out; have h2 := hM1.out; rw [Hid]; first | omega | (simp only at h2; omega)
            obtain ⟨D1, hD1⟩ : ∃ D1 : List (ByteArray × Int), Hid (D1 = D0 ++ [(tx, (qv : Int))]) := ⟨D0 ++ [(tx, (qv : Int))], by rw [Hid]⟩
            go_wp2_with (at_builtin; go_must (refine wp_append_sub (r + 1) rfl _ _ rfl (.slice A D0.length c') D0 tx qv _ rfl rfl (heap_new _ _) HOa.out Ha.out.big hbn.out D1 hD1.out ?_))
            intro Ab nb cb Wb HOb tb
            have hnb := (own_len HOb.out)
            subst hnb
            have Hb : Hid (RP w Wb v g r w.heap.size (q0.rows nilV (.slice A D0.length c')) s8) := Ha.out.grow tb (fun k hk => (own_block_ge HOa.out k hk).1)
            have m17' : Wb.cell? ⟨g, 17, none⟩ = some (.slice A D0.length c') := Hb.out.pk.cell 17
            have z17 := Hb.out.pk.frozen 17
            have hD1l : Hid (D1.length = D0.length + 1) := by rw [hD1.out, Hid]; simp
            have Hc : Hid (RP w (Wb.setCell ⟨g, 17, none⟩ (.slice Ab D1.length cb)) v g r w.heap.size (q0.rows nilV (.slice Ab D1.length cb)) s8) := Hb.out.set 17 _ _ rfl
            have HOc : Hid ((Wb.setCell ⟨g, 17, none⟩ (.slice Ab D1.length cb)).ownsRow (r + 1) 76 2 (.slice Ab D1.length cb) D1.length (subCells D1)) := own_turn HOb.out (Turn.setCell (S := fun k => k = g) _ _ rfl) (fun j hj e => by have := (own_block_ge HOb.out j hj).1; have := Hb.out.rw_; have := Hb.out.gw; omega)
            have hC2 : Hid ((DD, sE) = (D1 ++ (rSubs k1 8 (s8.1, s8.2)).1, (rSubs k1 8 (s8.1, s8.2)).2)) := by
              rw [hC.out, hstep.out, hD1.out]
              simp [Hid]
            go_wp2_with (fail)
            go_roundg k1
            case rel => exact ⟨_, D1, s8.1, s8.2, Hc, HOc, hC2, hl8, (by have := hDl.out; have := hD1l.out; rw [Hid]; omega)⟩
            case measure => omega
    · subst e10
      obtain ⟨⟨id, s1⟩, hs⟩ : ∃ z, rW (M, false) = z := ⟨_, rfl⟩
      have h := HQ.out
      rw [rPktR, ← hTf.out, if_neg (by omega), if_neg (by omega), if_neg (by omega), if_neg (by omega), if_pos (by omega)] at h
      rw [hs] at h
      injection h with e1 h
      injection h with e2 h
      injection h with e3 e4
      have HQ1 := Lib.hid e1
      have HQ2 := Lib.hid e2
      have HQ3 := Lib.hid e3
      have HQ4 := Lib.hid e4
      clear e1 e2 e3 e4 HQ
      go_wp2_with (fail)
      refine (rW_at W3 r w.heap.size (M, false) id s1 hs H0.out.rd).mono ?_
      rintro e W4 ⟨t, rfl, hR⟩
      have hM1 : Hid (s1.1.length ≤ 50000) := by
        have := rW_len (M, false)
        rw [hs] at this
        have h2 := hMl.out
        simp only at this
        rw [Hid]; omega
      have H4 := Lib.hid (H0.out.read t hR)
      clear t hR H0 hs
      have y2 : W4.cell? ⟨g, 2, none⟩ = some (.int .i64 0) := H4.out.pk.cell 2
      have z2 := H4.out.pk.frozen 2
      obtain ⟨q0, hq0⟩ : ∃ q0 : Pkt, Hid (q0 = { typeP 10 with id := id }) := ⟨_, rfl⟩
      have H5 : Hid (RP w (W4.setCell ⟨g, 2, none⟩ (.int .i64 id)) v g r w.heap.size q0 s1) := by rw [hq0.out]; exact H4.out.set 2 (.int .i64 id) _ rfl
      replace HQ1 : Hid (q = q0) := by rw [HQ1.out, hq0.out]; exact rfl
      have hcod : Hid (q0.codes = nilV ∧ q0.subs = nilV ∧ q0.ty = 10) := by rw [hq0.out]; exact ⟨rfl, rfl, rfl⟩
      obtain ⟨M1, b1⟩ := s1
      obtain ⟨⟨DD, sE⟩, hDD⟩ : ∃ z, Hid (z = rSubs M1.length 10 (M1, b1)) := ⟨_, rfl⟩
      replace HQ3 : Hid (D = DD) := by rw [HQ3.out]; simp only; rw [← hDD.out, Hid]
      replace HQ4 : Hid (s = sE) := by rw [HQ4.out]; simp only; rw [← hDD.out, Hid]
      have l0 : (W4.setCell ⟨g, 2, none⟩ (.int .i64 id)).cell? ⟨g, 0, none⟩ = some (.int .i64 10) := by rw [← hcod.out.2.2]; exact H5.out.pk.cell 0
      go_wp2_with (fail)
      generalize hW5 : W4.setCell ⟨g, 2, none⟩ (.int .i64 id) = W5 at H5 l0 ⊢
      clear hW5 y2 z2 H4 l0
      go_loopg [10] M1.length (fun gk u wr => ∃ (vs : Value) (D0 : List (ByteArray × Int)) (Lc : List Int) (bc : Bool), Hid (RP w wr v g r w.heap.size (q0.rows nilV vs) (Lc, bc)) ∧ Hid (wr.ownsRow (r + 1) 76 2 vs D0.length (subCells D0)) ∧ Hid ((DD, sE) = (D0 ++ (rSubs gk 10 (Lc, bc)).1, (rSubs gk 10 (Lc, bc)).2)) ∧ Hid (bc = true ∨ Lc.length ≤ gk) ∧ Hid (D0.length + gk ≤ M1.length))
      case atStart => exact ⟨nilV, [], M1, b1, (by rw [rows_self q0 hcod.out.1 hcod.out.2.1]; exact H5), own_nilSub _ _, (by rw [List.nil_append]; exact hDD), .inr (Nat.le_refl _), (by rw [Hid]; simp)⟩
      case round =>
        obtain ⟨vs, D0, Lc, bc, HQ, HO, hC, hgk, hDl⟩ := hrel
        obtain ⟨Ar, cr, hr0, hrc, hrb, _, _, _, _⟩ := HQ.out.rd
        have kr : wr.cell? ⟨r, 0, none⟩ = some (.slice Ar Lc.length cr) := by rw [cell_heap hr0]; exact rfl
        have kb : wr.cell? ⟨r, 1, none⟩ = some (.bool bc) := by rw [cell_heap hr0]; exact rfl
        have hrl : (Lc.length : Int) ≤ 140737488355328 := by have := hrb.2; simp only at this; omega
        obtain ⟨A, c', hv2, _, _, _⟩ := own_form HO.out
        subst hv2
        clear hr0 hrc hrb
        by_cases hend : Lc = [] ∨ bc = true
        · have hC2 : Hid (DD = D0 ∧ sE = (Lc, bc)) := by
            have h := hC.out
            have he : rSubs gk 10 (Lc, bc) = ([], (Lc, bc)) := by
              cases gk with
              | zero => rfl
              | succ k => rw [rSubs, if_pos hend]
            rw [he] at h
            injection h with h1 h2
            rw [List.append_nil] at h1
            exact ⟨h1, h2⟩
          have hmeet : ∃ vc vs, Hid (RE w wr v g r w.heap.size q C D s vc vs) := by
            refine ⟨nilV, .slice A D0.length c', ?_⟩
            rw [HQ1.out, HQ2.out, HQ3.out, HQ4.out, hC2.out.1, hC2.out.2]
            exact ⟨HQ.out, own_nilC _ _, HO.out⟩
          have HMT := Lib.hid hmeet
          clear hmeet
          rcases hend with hLc | hbc
          · subst hLc
            clear kb
            go_wp2_with (fail)
            go_meet
            exact HMT.out
          · subst hbc
            by_cases hL0 : Lc = []
            · subst hL0
              go_wp2_with (fail)
              go_meet
              exact HMT.out
            · have hpos : 0 < Lc.length := List.length_pos_iff.2 hL0
              have hdp : decide (0 < Lc.length) = true := decide_eq_true hpos
              clear hL0
              go_wp2_with (fail)
              go_meet
              exact HMT.out
        · have hLc : Lc ≠ [] := fun h => hend (.inl h)
          have hbc : bc = false := by cases bc with
            | false => rfl
            | true => exact absurd (.inr rfl) hend
          have hpos : 0 < Lc.length := List.length_pos_iff.2 hLc
          have hdp : decide (0 < Lc.length) = true := decide_eq_true hpos
          cases gk with
          | zero => exact absurd (hgk.out.resolve_left (by rw [hbc]; decide)) (by omega)
          | succ k1 =>
            have hstep : Hid (rSubs (k1 + 1) 10 (Lc, bc) = (((rT (Lc, bc)).1, 0) :: (rSubs k1 10 (rT (Lc, bc)).2).1, (rSubs k1 10 (rT (Lc, bc)).2).2)) := by rw [Hid, rSubs, if_neg hend]; exact rfl
            subst hbc
            have hgk1 : Hid (Lc.length ≤ k1 + 1) := hgk.out.resolve_left (by decide)
            obtain ⟨⟨tx, s4⟩, hs4⟩ : ∃ z, rT (Lc, false) = z := ⟨_, rfl⟩
            have hl4 : Hid (s4.2 = true ∨ s4.1.length + 1 ≤ Lc.length) := by rw [← show (rT (Lc, false)).2 = s4 by rw [hs4]]; exact rT_less Lc hLc
            rw [hs4] at hstep
            clear hLc hend hgk
            go_wp2_with (fail)
            refine (rT_at wr r w.heap.size (Lc, false) tx s4 hs4 HQ.out.rd).mono ?_
            rintro e W6 ⟨t, rfl, hR⟩
            have H6 : Hid (RP w W6 v g r w.heap.size (q0.rows nilV (.slice A D0.length c')) s4) := HQ.out.read t hR
            have HO6 : Hid (W6.ownsRow (r + 1) 76 2 (.slice A D0.length c') D0.length (subCells D0)) := own_turn HO.out t (fun j hj e => by have := (own_block_ge HO.out j hj).1; omega)
            have hlt6 : Hid (∀ j, (Value.slice A D0.length c').ownBlock = some j → j < W6.heap.size) := fun j hj => (own_block_ge HO6.out j hj).2
            clear t hR hs4 kr kb
            have H7 : Hid (RP w (W6.alloc (.cells #[.string tx, .int .i64 0] 76)) v g r w.heap.size (q0.rows nilV (.slice A D0.length c')) s4) := H6.out.old (Below.alloc (Below.refl _ _) (Nat.le_refl _) _)
            have HO7 : Hid ((W6.alloc (.cells #[.string tx, .int .i64 0] 76)).ownsRow (r + 1) 76 2 (.slice A D0.length c') D0.length (subCells D0)) := own_turn HO6.out (Turn.alloc (S := fun _ => False) _ _) (fun _ _ h => h)
            have hnew : Hid ((W6.alloc (.cells #[.string tx, .int .i64 0] 76)).heap[W6.heap.size]? = some (.cells #[.string tx, .int .i64 0] 76 (0, 0))) := heap_new _ _
            obtain ⟨sb, hsb⟩ : ∃ sb, Hid (sb = W6.heap.size) := ⟨_, rfl⟩
            have hsbw : Hid (r + 1 ≤ sb) := by rw [hsb.out]; exact H6.out.big
            have l5 : (W6.alloc (.cells #[.string tx, .int .i64 0] 76)).cell? ⟨g, 0, none⟩ = some (.int .i64 10) := by rw [← hcod.out.2.2]; exact H7.out.pk.cell 0
            go_upto_region 33 with (fail)
            rw [← hsb.out]
            rw [← hsb.out] at hnew
            generalize hW7 : W6.alloc (.cells #[.string tx, .int .i64 0] 76) = W7 at H7 HO7 hnew l5 ⊢
            clear hW7 H6 HO6
            obtain ⟨qv, hqv⟩ : ∃ qv : Int, Hid (qv = 0) := ⟨0, by rw [Hid]⟩
            have hl8 : Hid (s4.2 = true ∨ s4.1.length ≤ k1) := by
              rcases hl4.out with h | h
              · exact .inl h
              · have := hgk1.out; exact .inr (by omega)
            rw [← hqv.out] at hnew hstep
            go_upto_region 35 with (fail)
            clear l5
            have c0 : W7.cell? ⟨sb, 0, none⟩ = some (.string tx) := by rw [cell_heap hnew.out]; exact rfl
            have c1 : W7.cell? ⟨sb, 1, none⟩ = some (.int .i64 qv) := by rw [cell_heap hnew.out]; exact rfl
            have m17 : W7.cell? ⟨g, 17, none⟩ = some (.slice A D0.length c') := H7.out.pk.cell 17
            have HOa : Hid ((W7.alloc (.cells #[.string tx, .int .i64 qv] 76)).ownsRow (r + 1) 76 2 (.slice A D0.length c') D0.length (subCells D0)) := own_turn HO7.out (Turn.alloc (S := fun _ => False) _ _) (fun _ _ h => h)
            have Ha : Hid (RP w (W7.alloc (.cells #[.string tx, .int .i64 qv] 76)) v g r w.heap.size (q0.rows nilV (.slice A D0.length c')) s4) := H7.out.old (Below.alloc (Below.refl _ _) (Nat.le_refl _) _)
            have hbn : Hid ((D0.length + 1) * 24 ≤ 140737488355328) := by have h1 := hDl.out; have h2 := hM1.out; rw [Hid]; first | omega | (simp only at h2; omega)
            obtain ⟨D1, hD1⟩ : ∃ D1 : List (ByteArray × Int), Hid (D1 = D0 ++ [(tx, (qv : Int))]) := ⟨D0 ++ [(tx, (qv : Int))], by rw [Hid]⟩
            go_wp2_with (at_builtin; go_must (refine wp_append_sub (r + 1) rfl _ _ rfl (.slice A D0.length c') D0 tx qv _ rfl rfl (heap_new _ _) HOa.out Ha.out.big hbn.out D1 hD1.out ?_))
            intro Ab nb cb Wb HOb tb
            have hnb := (own_len HOb.out)
            subst hnb
            have Hb : Hid (RP w Wb v g r w.heap.size (q0.rows nilV (.slice A D0.length c')) s4) := Ha.out.grow tb (fun k hk => (own_block_ge HOa.out k hk).1)
            have m17' : Wb.cell? ⟨g, 17, none⟩ = some (.slice A D0.length c') := Hb.out.pk.cell 17
            have z17 := Hb.out.pk.frozen 17
            have hD1l : Hid (D1.length = D0.length + 1) := by rw [hD1.out, Hid]; simp
            have Hc : Hid (RP w (Wb.setCell ⟨g, 17, none⟩ (.slice Ab D1.length cb)) v g r w.heap.size (q0.rows nilV (.slice Ab D1.length cb)) s4) := Hb.out.set 17 _ _ rfl
            have HOc : Hid ((Wb.setCell ⟨g, 17, none⟩ (.slice Ab D1.length cb)).ownsRow (r + 1) 76 2 (.slice Ab D1.length cb) D1.length (subCells D1)) := own_turn HOb.out (Turn.setCell (S := fun k => k = g) _ _ rfl) (fun j hj e => by have := (own_block_ge HOb.out j hj).1; have := Hb.out.rw_; have := Hb.out.gw; omega)
            have hC2 : Hid ((DD, sE) = (D1 ++ (rSubs k1 10 (s4.1, s4.2)).1, (rSubs k1 10 (s4.1, s4.2)).2)) := by
              rw [hC.out, hstep.out, hD1.out]
              simp [Hid]
            go_wp2_with (fail)
            go_roundg k1
            case rel => exact ⟨_, D1, s4.1, s4.2, Hc, HOc, hC2, hl8, (by have := hDl.out; have := hD1l.out; rw [Hid]; omega)⟩
            case measure => omega
  case rest =>
  obtain ⟨vc, vs, HE⟩ := hcut
  rename World => Wn
  clear H0
  have HL := Lib.hid (HE.out.mayIn (K := 50000) (by omega) HFIT.out.1 HFIT.out.2.1 HFIT.out.2.2)
  obtain ⟨p, hp⟩ : ∃ p, Hid (p = q.rows vc vs) := ⟨_, rfl⟩
  have HIP := Lib.hid (HIS.out vc vs (rows_len HE.out.oc) (subs_len HE.out.os))
  have HOC : Hid (OwnInts Wn (r + 1) 3 .i64 p.codes C) := by rw [hp.out]; exact HE.out.oc
  have HOS : Hid (Wn.ownsRow (r + 1) 76 2 p.subs D.length (subCells D)) := by rw [hp.out]; exact HE.out.os
  have HP : Hid (RP w Wn v g r w.heap.size p s) := by rw [hp.out]; exact HE.out.rp
  rw [← hp.out] at HL HIP
  obtain ⟨M', bad⟩ := s
  clear HE HIS HFIT hp HQ
  have HT0 : Turn (fun _ => False) Wn Wn.drew := Turn.drew (Turn.refl _ _)
  have HCV : Hid (∀ W', Turn (fun _ => False) Wn W' → (convert 22 9 (.slice (some x) L.length c)).run Tryd.prog W' = .ok (.string (strOfNums L)) W') := Lib.hid fun W' t => conv_reads (P := Tryd.prog) (W := W') (src := 22) (dst := 9) (e := 5) (A := some x) (n := L.length) (c := c) (L := L) Tryd.underlying22 Tryd.underlying5 Tryd.underlying9 rfl (reads_turn (HR.out.keep HP.out.below) t (fun _ _ h => h))
  have HRB1 : Hid (Wn.cell? ⟨r, 1, none⟩ = some (.bool bad)) := by obtain ⟨A', c', h1, _⟩ := HP.out.rd; rw [Hid, cell_heap h1]; rfl
  have HK : Hid (∀ W', Turn (fun _ => False) Wn W' → (Hid (PkAt W' g p) ∧ W'.cell? ⟨r, 1, none⟩ = some (.bool bad) ∧ (convert 22 9 (.slice (some x) L.length c)).run Tryd.prog W' = .ok (.string (strOfNums L)) W')) := Lib.hid fun W' t => ⟨HP.out.pk.keep t (fun h => h), t.cell HRB1.out (fun h => h), HCV.out W' t⟩
  cases bad with
  | true =>
    have HNO : Hid (∀ p C D, ¬ IsPkt L p C D) := fun p' C' D' hI => by have := (HIP.out p' C' D' hI).1; cases this
    go_upto_region 40 with (fail)
    refine wp_region_held_drew (S := (fun W' => Hid (PkAt W' g p) ∧ W'.cell? ⟨r, 1, none⟩ = some (.bool true) ∧ (convert 22 9 (.slice (some x) L.length c)).run Tryd.prog W' = .ok (.string (strOfNums L)) W')) (by kernel_rfl) (by first | exact HK.out _ HT6 | exact HK.out _ HT5 | exact HK.out _ HT0) (fun hHeld => ?_)
    refine wpAnyH_take (i := 0) (oi := ⟨_, _, _, _, _, _⟩) (v := ?_) rfl (by kernel_rfl) (by kernel_rfl) (by kernel_rfl) (fun _ _ _ h => h) (Or.inl ⟨by kernel_rfl, ?_⟩) hHeld ?_
    rotate_left
    · (intro w hSw; obtain ⟨s1, s2, s3⟩ := hSw; go_simp; try with_reducible rfl)
    simp only [Act.put, List.setIfInBounds_toArray, List.set_cons_zero, List.set_cons_succ]
    refine wpAnyH_take (i := 1) (oi := ⟨_, _, _, _, _, _⟩) (v := ?_) rfl (by kernel_rfl) (by kernel_rfl) (by kernel_rfl) (fun _ _ _ h => h) (Or.inl ⟨by kernel_rfl, ?_⟩) hHeld ?_
    rotate_left
    · (intro w hSw; obtain ⟨s1, s2, s3⟩ := hSw; go_simp; try with_reducible rfl)
    simp only [Act.put, List.setIfInBounds_toArray, List.set_cons_zero, List.set_cons_succ]
    refine wpAnyH_take (i := 2) (oi := ⟨_, _, _, _, _, _⟩) (v := ?_) rfl (by kernel_rfl) (by kernel_rfl) (by kernel_rfl) (fun _ _ _ h => h) (Or.inl ⟨by kernel_rfl, ?_⟩) hHeld ?_
    rotate_left
    · (intro w hSw; obtain ⟨s1, s2, s3⟩ := hSw; go_simp; try with_reducible rfl)
    simp only [Act.put, List.setIfInBounds_toArray, List.set_cons_zero, List.set_cons_succ]
    refine wpAnyH_take (i := 3) (oi := ⟨_, _, _, _, _, _⟩) (v := ?_) rfl (by kernel_rfl) (by kernel_rfl) (by kernel_rfl) (fun _ _ _ h => h) (Or.inl ⟨by kernel_rfl, ?_⟩) hHeld ?_
    rotate_left
    · (intro w hSw; obtain ⟨s1, s2, s3⟩ := hSw; go_simp; try with_reducible rfl)
    simp only [Act.put, List.setIfInBounds_toArray, List.set_cons_zero, List.set_cons_succ]
    refine wpAnyH_take (i := 4) (oi := ⟨_, _, _, _, _, _⟩) (v := ?_) rfl (by kernel_rfl) (by kernel_rfl) (by kernel_rfl) (fun _ _ _ h => h) (Or.inl ⟨by kernel_rfl, ?_⟩) hHeld ?_
    rotate_left
    · (intro w hSw; obtain ⟨s1, s2, s3⟩ := hSw; go_simp; try with_reducible rfl)
    simp only [Act.put, List.setIfInBounds_toArray, List.set_cons_zero, List.set_cons_succ]
    refine wpAnyH_take (i := 5) (oi := ⟨_, _, _, _, _, _⟩) rfl (by kernel_rfl) (by kernel_rfl) (by kernel_rfl) (fun _ _ _ h => h) (Or.inr ⟨by kernel_rfl, rfl⟩) hHeld ?_
    simp only [Act.put, List.setIfInBounds_toArray, List.set_cons_zero, List.set_cons_succ]
    refine wpAnyH_take (i := 6) (oi := ⟨_, _, _, _, _, _⟩) rfl (by kernel_rfl) (by kernel_rfl) (by kernel_rfl) (fun _ _ _ h => h) (Or.inr ⟨by kernel_rfl, rfl⟩) hHeld ?_
    simp only [Act.put, List.setIfInBounds_toArray, List.set_cons_zero, List.set_cons_succ]
    refine wpAnyH_take (i := 7) (oi := ⟨_, _, _, _, _, _⟩) rfl (by kernel_rfl) (by kernel_rfl) (by kernel_rfl) (fun _ _ _ h => h) (Or.inr ⟨by kernel_rfl, rfl⟩) hHeld ?_
    simp only [Act.put, List.setIfInBounds_toArray, List.set_cons_zero, List.set_cons_succ]
    refine wpAnyH_take (i := 8) (oi := ⟨_, _, _, _, _, _⟩) (v := ?_) rfl (by kernel_rfl) (by kernel_rfl) (by kernel_rfl) (fun _ _ _ h => h) (Or.inl ⟨by kernel_rfl, ?_⟩) hHeld ?_
    rotate_left
    · (intro w hSw; obtain ⟨s1, s2, s3⟩ := hSw; go_simp; try with_reducible rfl)
    simp only [Act.put, List.setIfInBounds_toArray, List.set_cons_zero, List.set_cons_succ]
    refine wpAnyH_take (i := 9) (oi := ⟨_, _, _, _, _, _⟩) (v := ?_) rfl (by kernel_rfl) (by kernel_rfl) (by kernel_rfl) (fun _ _ _ h => h) (Or.inl ⟨by kernel_rfl, ?_⟩) hHeld ?_
    rotate_left
    · (intro w hSw; obtain ⟨s1, s2, s3⟩ := hSw; go_simp; try with_reducible rfl)
    simp only [Act.put, List.setIfInBounds_toArray, List.set_cons_zero, List.set_cons_succ]
    refine wpAnyH_take (i := 10) (oi := ⟨_, _, _, _, _, _⟩) rfl (by kernel_rfl) (by kernel_rfl) (by kernel_rfl) (fun _ _ _ h => h) (Or.inr ⟨by kernel_rfl, rfl⟩) hHeld ?_
    simp only [Act.put, List.setIfInBounds_toArray, List.set_cons_zero, List.set_cons_succ]
    refine wpAnyH_take (i := 11) (oi := ⟨_, _, _, _, _, _⟩) rfl (by kernel_rfl) (by kernel_rfl) (by kernel_rfl) (fun _ _ _ h => h) (Or.inr ⟨by kernel_rfl, rfl⟩) hHeld ?_
    simp only [Act.put, List.setIfInBounds_toArray, List.set_cons_zero, List.set_cons_succ]
    refine wpAnyH_take (i := 12) (oi := ⟨_, _, _, _, _, _⟩) rfl (by kernel_rfl) (by kernel_rfl) (by kernel_rfl) (fun _ _ _ h => h) (Or.inr ⟨by kernel_rfl, rfl⟩) hHeld ?_
    simp only [Act.put, List.setIfInBounds_toArray, List.set_cons_zero, List.set_cons_succ]
    refine wpAnyH_take (i := 13) (oi := ⟨_, _, _, _, _, _⟩) rfl (by kernel_rfl) (by kernel_rfl) (by kernel_rfl) (fun _ _ _ h => h) (Or.inr ⟨by kernel_rfl, rfl⟩) hHeld ?_
    simp only [Act.put, List.setIfInBounds_toArray, List.set_cons_zero, List.set_cons_succ]
    refine wpAnyH_take (i := 14) (oi := ⟨_, _, _, _, _, _⟩) rfl (by kernel_rfl) (by kernel_rfl) (by kernel_rfl) (fun _ _ _ h => h) (Or.inr ⟨by kernel_rfl, rfl⟩) hHeld ?_
    simp only [Act.put, List.setIfInBounds_toArray, List.set_cons_zero, List.set_cons_succ]
    refine wpAnyH_take (i := 15) (oi := ⟨_, _, _, _, _, _⟩) rfl (by kernel_rfl) (by kernel_rfl) (by kernel_rfl) (fun _ _ _ h => h) (Or.inr ⟨by kernel_rfl, rfl⟩) hHeld ?_
    simp only [Act.put, List.setIfInBounds_toArray, List.set_cons_zero, List.set_cons_succ]
    refine wpAnyH_take (i := 16) (oi := ⟨_, _, _, _, _, _⟩) (v := ?_) rfl (by kernel_rfl) (by kernel_rfl) (by kernel_rfl) (fun _ _ _ h => h) (Or.inl ⟨by kernel_rfl, ?_⟩) hHeld ?_
    rotate_left
    · (intro w hSw; obtain ⟨s1, s2, s3⟩ := hSw; go_simp; try with_reducible rfl)
    simp only [Act.put, List.setIfInBounds_toArray, List.set_cons_zero, List.set_cons_succ]
    refine wpAnyH_done (by kernel_rfl) ?_ _
    go_upto_region 41 with (fail)
    rename_i hKont
    refine wp_region_lit ?_
    refine st_val (.agg zeroP.cells) (wanted_free rfl) (by exact rBuild0 rfl kBuildZ) ?_
    refine wp_store_pkt (g := v) zeroP zeroP rfl rfl (by rfl) (by rfl) (HP.out.res.keep HT0 (fun h => h)) (by rfl) (by rfl) ?_
    intro Wf HPf tf
    refine st_val (.bool false) (wanted_free rfl) (by exact rAssign (x := .const (.bool false)) rfl) ?_
    refine wpList_nil (hKont _ _ (wp_ret ?_))
    exact ⟨rfl, _, rparse_results Wf v zeroP false _ rfl rfl HPf.out, (HP.out.below.trans (HT0.toBelow HP.out.below.size (fun _ _ h => h))).trans (tf.toBelow (HP.out.below.trans (HT0.toBelow HP.out.below.size (fun _ _ h => h))).size (fun k hk e => by have := hv.out; omega)), .inr ⟨HNO.out, rfl⟩⟩
  | false =>
    by_cases hm : Pk.May p C D
    · have HM := Lib.hid hm
      have HMAY : Hid (∀ W', Below Wn.heap.size Wn W' → Calls Tryd.prog 23 #[.agg p.cells] W' fun e w' => e = .returned (.bool true) ∧ Below W'.heap.size W' w') := Lib.hid fun W' hb => by
        have h := may_calls W' p C D (HL.out.keep hb)
        rw [decide_eq_true HM.out] at h
        exact h
      have HRB : Hid (∀ W', Below Wn.heap.size Wn W' → Calls Tryd.prog 24 #[.agg p.cells] W' fun e w' => GivesBytes W' (bytesB p C D) e w') := Lib.hid fun W' hb => by
        have hin := HL.out.keep hb
        exact bytes_calls W' p C D hin.lies HM.out (good_fit hin.lies HM.out.1 (hin.len HM.out.1)) (uses_C (good_uses p C D (lies_long hin.lies) HM.out.1))
      clear hm
      obtain ⟨LB, hLB⟩ : ∃ LB, Hid (LB = bytesB p C D) := ⟨_, rfl⟩
      have HLBB : Hid (∀ y ∈ LB, 0 ≤ y ∧ y < 256) := by rw [hLB.out]; exact bytesB_bytes HL.out.lies HM.out
      rw [← hLB.out] at HRB HIP
      by_cases hbe : LB = L
      · have HPK : Hid (IsPkt L p C D) := ⟨lies_long HL.out.lies, HM.out, by rw [← hLB.out]; exact hbe⟩
        subst hbe
        clear HIP hLB
        go_upto_region 40 with (fail)
        refine wp_region_held_drew (S := (fun W' => Hid (PkAt W' g p) ∧ W'.cell? ⟨r, 1, none⟩ = some (.bool false) ∧ (convert 22 9 (.slice (some x) LB.length c)).run Tryd.prog W' = .ok (.string (strOfNums LB)) W')) (by kernel_rfl) (by first | exact HK.out _ HT6 | exact HK.out _ HT5 | exact HK.out _ HT0) (fun hHeld => ?_)
        refine wpAnyH_take (i := 0) (oi := ⟨_, _, _, _, _, _⟩) (v := ?_) rfl (by kernel_rfl) (by kernel_rfl) (by kernel_rfl) (fun _ _ _ h => h) (Or.inl ⟨by kernel_rfl, ?_⟩) hHeld ?_
        rotate_left
        · (intro w hSw; obtain ⟨s1, s2, s3⟩ := hSw; go_simp; try with_reducible rfl)
        simp only [Act.put, List.setIfInBounds_toArray, List.set_cons_zero, List.set_cons_succ]
        refine wpAnyH_take (i := 1) (oi := ⟨_, _, _, _, _, _⟩) (v := ?_) rfl (by kernel_rfl) (by kernel_rfl) (by kernel_rfl) (fun _ _ _ h => h) (Or.inl ⟨by kernel_rfl, ?_⟩) hHeld ?_
        rotate_left
        · (intro w hSw; obtain ⟨s1, s2, s3⟩ := hSw; go_simp; try with_reducible rfl)
        simp only [Act.put, List.setIfInBounds_toArray, List.set_cons_zero, List.set_cons_succ]
        refine wpAnyH_take (i := 2) (oi := ⟨_, _, _, _, _, _⟩) (v := ?_) rfl (by kernel_rfl) (by kernel_rfl) (by kernel_rfl) (fun _ _ _ h => h) (Or.inl ⟨by kernel_rfl, ?_⟩) hHeld ?_
        rotate_left
        · (intro w hSw; obtain ⟨s1, s2, s3⟩ := hSw; go_simp; try with_reducible rfl)
        simp only [Act.put, List.setIfInBounds_toArray, List.set_cons_zero, List.set_cons_succ]
        refine wpAnyH_take (i := 3) (oi := ⟨_, _, _, _, _, _⟩) (v := ?_) rfl (by kernel_rfl) (by kernel_rfl) (by kernel_rfl) (fun _ _ _ h => h) (Or.inl ⟨by kernel_rfl, ?_⟩) hHeld ?_
        rotate_left
        · (intro w hSw; obtain ⟨s1, s2, s3⟩ := hSw; go_simp; try with_reducible rfl)
        simp only [Act.put, List.setIfInBounds_toArray, List.set_cons_zero, List.set_cons_succ]
        refine wpAnyH_take (i := 4) (oi := ⟨_, _, _, _, _, _⟩) (v := ?_) rfl (by kernel_rfl) (by kernel_rfl) (by kernel_rfl) (fun _ _ _ h => h) (Or.inl ⟨by kernel_rfl, ?_⟩) hHeld ?_
        rotate_left
        · (intro w hSw; obtain ⟨s1, s2, s3⟩ := hSw; go_simp; try with_reducible rfl)
        simp only [Act.put, List.setIfInBounds_toArray, List.set_cons_zero, List.set_cons_succ]
        refine wpAnyH_take (i := 5) (oi := ⟨_, _, _, _, _, _⟩) (v := .agg p.cells) rfl (by kernel_rfl) (by kernel_rfl) (by kernel_rfl) (fun _ _ _ h => h) (Or.inl ⟨by kernel_rfl, ?_⟩) hHeld ?_
        · (intro w hSw; obtain ⟨s1, s2, s3⟩ := hSw; exact rLoad (x := .tmp 5) rfl (by exact load_pkt _ _ _ s1.out))
        simp only [Act.put, List.setIfInBounds_toArray, List.set_cons_zero, List.set_cons_succ]
        refine wpAnyH_ready (rs := [6]) (by kernel_rfl) (by simp) ?_
        refine AllReadyH.cons rfl (fun K hK => ?_) AllReadyH.nil
        go_simp
        go_wp2_with (go_at_call 23; refine (HMAY.out _ (HT0.toBelow (Nat.le_refl _) (fun _ _ h => h))).mono ?_; rintro e w5 ⟨rfl, hb5⟩; have HT5 := HT0.trans (Turn.of_below hb5))
        refine hK.out _ _ (by first | exact HK.out _ HT6 | exact HK.out _ HT5 | exact HK.out _ HT0) (fun hHeld => ?_)
        clear hK K
        refine wpAnyH_take (i := 7) (oi := ⟨_, _, _, _, _, _⟩) (v := ?_) rfl (by kernel_rfl) (by kernel_rfl) (by kernel_rfl) (fun _ _ _ h => h) (Or.inl ⟨by kernel_rfl, ?_⟩) hHeld ?_
        rotate_left
        · (intro w hSw; obtain ⟨s1, s2, s3⟩ := hSw; go_simp; try with_reducible rfl)
        simp only [Act.put, List.setIfInBounds_toArray, List.set_cons_zero, List.set_cons_succ]
        refine wpAnyH_take (i := 8) (oi := ⟨_, _, _, _, _, _⟩) (v := ?_) rfl (by kernel_rfl) (by kernel_rfl) (by kernel_rfl) (fun _ _ _ h => h) (Or.inl ⟨by kernel_rfl, ?_⟩) hHeld ?_
        rotate_left
        · (intro w hSw; obtain ⟨s1, s2, s3⟩ := hSw; go_simp; try with_reducible rfl)
        simp only [Act.put, List.setIfInBounds_toArray, List.set_cons_zero, List.set_cons_succ]
        refine wpAnyH_take (i := 9) (oi := ⟨_, _, _, _, _, _⟩) (v := ?_) rfl (by kernel_rfl) (by kernel_rfl) (by kernel_rfl) (fun _ _ _ h => h) (Or.inl ⟨by kernel_rfl, ?_⟩) hHeld ?_
        rotate_left
        · (intro w hSw; obtain ⟨s1, s2, s3⟩ := hSw; go_simp; try with_reducible rfl)
        simp only [Act.put, List.setIfInBounds_toArray, List.set_cons_zero, List.set_cons_succ]
        refine wpAnyH_take (i := 10) (oi := ⟨_, _, _, _, _, _⟩) (v := .agg p.cells) rfl (by kernel_rfl) (by kernel_rfl) (by kernel_rfl) (fun _ _ _ h => h) (Or.inl ⟨by kernel_rfl, ?_⟩) hHeld ?_
        · (intro w hSw; obtain ⟨s1, s2, s3⟩ := hSw; exact rLoad (x := .tmp 5) rfl (by exact load_pkt _ _ _ s1.out))
        simp only [Act.put, List.setIfInBounds_toArray, List.set_cons_zero, List.set_cons_succ]
        refine wpAnyH_take (i := 13) (oi := ⟨_, _, _, _, _, _⟩) (v := ?_) rfl (by kernel_rfl) (by kernel_rfl) (by kernel_rfl) (fun _ _ _ h => h) (Or.inl ⟨by kernel_rfl, ?_⟩) hHeld ?_
        rotate_left
        · (intro w hSw; obtain ⟨s1, s2, s3⟩ := hSw; go_simp; try with_reducible rfl)
        simp only [Act.put, List.setIfInBounds_toArray, List.set_cons_zero, List.set_cons_succ]
        refine wpAnyH_take (i := 14) (oi := ⟨_, _, _, _, _, _⟩) (v := ?_) rfl (by kernel_rfl) (by kernel_rfl) (by kernel_rfl) (fun _ _ _ h => h) (Or.inl ⟨by kernel_rfl, ?_⟩) hHeld ?_
        rotate_left
        · (intro w hSw; obtain ⟨s1, s2, s3⟩ := hSw; go_simp; try with_reducible rfl)
        simp only [Act.put, List.setIfInBounds_toArray, List.set_cons_zero, List.set_cons_succ]
        refine wpAnyH_ready (rs := [11]) (by kernel_rfl) (by simp) ?_
        refine AllReadyH.cons rfl (fun K hK => ?_) AllReadyH.nil
        go_simp
        go_wp2_with (go_at_call 24; refine (HRB.out _ (HT5.toBelow (Nat.le_refl _) (fun _ _ h => h))).mono ?_; rintro e w6 ⟨A6, c6, rfl, ho6, hb6⟩; have HT6 := HT5.trans (Turn.of_below hb6); have hcv6 := conv_own (P := Tryd.prog) (W := w6) (src := 22) (dst := 9) Tryd.underlying22 Tryd.underlying5 Tryd.underlying9 ho6)
        refine hK.out _ _ (by first | exact HK.out _ HT6 | exact HK.out _ HT5 | exact HK.out _ HT0) (fun hHeld => ?_)
        clear hK K
        refine wpAnyH_ready (rs := [12]) (by kernel_rfl) (by simp) ?_
        refine AllReadyH.cons rfl (fun K hK => ?_) AllReadyH.nil
        go_simp
        skip
        refine hK.out _ _ (by first | exact HK.out _ HT6 | exact HK.out _ HT5 | exact HK.out _ HT0) (fun hHeld => ?_)
        clear hK K
        refine wpAnyH_take (i := 15) (oi := ⟨_, _, _, _, _, _⟩) (v := ?_) rfl (by kernel_rfl) (by kernel_rfl) (by kernel_rfl) (fun _ _ _ h => h) (Or.inl ⟨by kernel_rfl, ?_⟩) hHeld ?_
        rotate_left
        · (intro w hSw; obtain ⟨s1, s2, s3⟩ := hSw; go_simp; try with_reducible rfl)
        simp only [Act.put, List.setIfInBounds_toArray, List.set_cons_zero, List.set_cons_succ]
        refine wpAnyH_take (i := 16) (oi := ⟨_, _, _, _, _, _⟩) (v := ?_) rfl (by kernel_rfl) (by kernel_rfl) (by kernel_rfl) (fun _ _ _ h => h) (Or.inl ⟨by kernel_rfl, ?_⟩) hHeld ?_
        rotate_left
        · (intro w hSw; obtain ⟨s1, s2, s3⟩ := hSw; go_simp; try with_reducible rfl)
        simp only [Act.put, List.setIfInBounds_toArray, List.set_cons_zero, List.set_cons_succ]
        refine wpAnyH_done (by kernel_rfl) ?_ _
        go_upto_region 42 with (fail)
        rename_i hKont
        refine wp_region_lit (wp_load_pkt (p := p) rfl rfl (by rfl) (HP.out.pk.keep HT6 (fun h => h)) ?_)
        have HV6 : PkAt w6 v zeroP := HP.out.res.keep HT6 (fun h => h)
        refine wp_store_pkt (g := v) p zeroP rfl rfl (by rfl) (by rfl) HV6 (by obtain ⟨A', c', hv', _⟩ := HOC.out.form; rw [hv']; rfl) (by obtain ⟨A', c', hv', _⟩ := own_form HOS.out; rw [hv']; rfl) ?_
        intro Wf HPf tf
        refine st_val (.bool true) (wanted_free rfl) (by exact rAssign (x := .const (.bool true)) rfl) ?_
        refine wpList_nil (hKont _ _ (wp_ret ?_))
        have hbel : Below w.heap.size w w6 := HP.out.below.trans (HT6.toBelow HP.out.below.size (fun _ _ h => h))
        exact ⟨rfl, _, rparse_results Wf v p true _ rfl rfl HPf.out, hbel.trans (tf.toBelow hbel.size (fun k hk e => by have := hv.out; omega)), .inl ⟨p, C, D, HPK.out, rfl,
          oi_mono ((HOC.out.turn HT6 (fun _ _ h => h)).turn tf (fun j hj e => by have h1 := (own_block_ge HOC.out j hj).1; have h2 := HP.out.rw_; have h3 := hv.out; omega)) (by have h2 := HP.out.rw_; omega) rfl,
          own_mono (own_turn (own_turn HOS.out HT6 (fun _ _ h => h)) tf (fun j hj e => by have h1 := (own_block_ge HOS.out j hj).1; have h2 := HP.out.rw_; have h3 := hv.out; omega)) (by have h2 := HP.out.rw_; omega)⟩⟩
      · have HNO : Hid (∀ p C D, ¬ IsPkt L p C D) := fun p' C' D' hI => hbe (HIP.out p' C' D' hI).2.2
        have hse : ((strOfNums LB).toList == (strOfNums L).toList) = false := by rw [eqb LB L HLBB.out HBY.out]; exact decide_eq_false hbe
        have hsn : ¬ (strOfNums LB).toList = (strOfNums L).toList := by simpa using hse
        clear HIP hLB hbe
        go_upto_region 40 with (fail)
        refine wp_region_held_drew (S := (fun W' => Hid (PkAt W' g p) ∧ W'.cell? ⟨r, 1, none⟩ = some (.bool false) ∧ (convert 22 9 (.slice (some x) L.length c)).run Tryd.prog W' = .ok (.string (strOfNums L)) W')) (by kernel_rfl) (by first | exact HK.out _ HT6 | exact HK.out _ HT5 | exact HK.out _ HT0) (fun hHeld => ?_)
        refine wpAnyH_take (i := 0) (oi := ⟨_, _, _, _, _, _⟩) (v := ?_) rfl (by kernel_rfl) (by kernel_rfl) (by kernel_rfl) (fun _ _ _ h => h) (Or.inl ⟨by kernel_rfl, ?_⟩) hHeld ?_
        rotate_left
        · (intro w hSw; obtain ⟨s1, s2, s3⟩ := hSw; go_simp; try with_reducible rfl)
        simp only [Act.put, List.setIfInBounds_toArray, List.set_cons_zero, List.set_cons_succ]
        refine wpAnyH_take (i := 1) (oi := ⟨_, _, _, _, _, _⟩) (v := ?_) rfl (by kernel_rfl) (by kernel_rfl) (by kernel_rfl) (fun _ _ _ h => h) (Or.inl ⟨by kernel_rfl, ?_⟩) hHeld ?_
        rotate_left
        · (intro w hSw; obtain ⟨s1, s2, s3⟩ := hSw; go_simp; try with_reducible rfl)
        simp only [Act.put, List.setIfInBounds_toArray, List.set_cons_zero, List.set_cons_succ]
        refine wpAnyH_take (i := 2) (oi := ⟨_, _, _, _, _, _⟩) (v := ?_) rfl (by kernel_rfl) (by kernel_rfl) (by kernel_rfl) (fun _ _ _ h => h) (Or.inl ⟨by kernel_rfl, ?_⟩) hHeld ?_
        rotate_left
        · (intro w hSw; obtain ⟨s1, s2, s3⟩ := hSw; go_simp; try with_reducible rfl)
        simp only [Act.put, List.setIfInBounds_toArray, List.set_cons_zero, List.set_cons_succ]
        refine wpAnyH_take (i := 3) (oi := ⟨_, _, _, _, _, _⟩) (v := ?_) rfl (by kernel_rfl) (by kernel_rfl) (by kernel_rfl) (fun _ _ _ h => h) (Or.inl ⟨by kernel_rfl, ?_⟩) hHeld ?_
        rotate_left
        · (intro w hSw; obtain ⟨s1, s2, s3⟩ := hSw; go_simp; try with_reducible rfl)
        simp only [Act.put, List.setIfInBounds_toArray, List.set_cons_zero, List.set_cons_succ]
        refine wpAnyH_take (i := 4) (oi := ⟨_, _, _, _, _, _⟩) (v := ?_) rfl (by kernel_rfl) (by kernel_rfl) (by kernel_rfl) (fun _ _ _ h => h) (Or.inl ⟨by kernel_rfl, ?_⟩) hHeld ?_
        rotate_left
        · (intro w hSw; obtain ⟨s1, s2, s3⟩ := hSw; go_simp; try with_reducible rfl)
        simp only [Act.put, List.setIfInBounds_toArray, List.set_cons_zero, List.set_cons_succ]
        refine wpAnyH_take (i := 5) (oi := ⟨_, _, _, _, _, _⟩) (v := .agg p.cells) rfl (by kernel_rfl) (by kernel_rfl) (by kernel_rfl) (fun _ _ _ h => h) (Or.inl ⟨by kernel_rfl, ?_⟩) hHeld ?_
        · (intro w hSw; obtain ⟨s1, s2, s3⟩ := hSw; exact rLoad (x := .tmp 5) rfl (by exact load_pkt _ _ _ s1.out))
        simp only [Act.put, List.setIfInBounds_toArray, List.set_cons_zero, List.set_cons_succ]
        refine wpAnyH_ready (rs := [6]) (by kernel_rfl) (by simp) ?_
        refine AllReadyH.cons rfl (fun K hK => ?_) AllReadyH.nil
        go_simp
        go_wp2_with (go_at_call 23; refine (HMAY.out _ (HT0.toBelow (Nat.le_refl _) (fun _ _ h => h))).mono ?_; rintro e w5 ⟨rfl, hb5⟩; have HT5 := HT0.trans (Turn.of_below hb5))
        refine hK.out _ _ (by first | exact HK.out _ HT6 | exact HK.out _ HT5 | exact HK.out _ HT0) (fun hHeld => ?_)
        clear hK K
        refine wpAnyH_take (i := 7) (oi := ⟨_, _, _, _, _, _⟩) (v := ?_) rfl (by kernel_rfl) (by kernel_rfl) (by kernel_rfl) (fun _ _ _ h => h) (Or.inl ⟨by kernel_rfl, ?_⟩) hHeld ?_
        rotate_left
        · (intro w hSw; obtain ⟨s1, s2, s3⟩ := hSw; go_simp; try with_reducible rfl)
        simp only [Act.put, List.setIfInBounds_toArray, List.set_cons_zero, List.set_cons_succ]
        refine wpAnyH_take (i := 8) (oi := ⟨_, _, _, _, _, _⟩) (v := ?_) rfl (by kernel_rfl) (by kernel_rfl) (by kernel_rfl) (fun _ _ _ h => h) (Or.inl ⟨by kernel_rfl, ?_⟩) hHeld ?_
        rotate_left
        · (intro w hSw; obtain ⟨s1, s2, s3⟩ := hSw; go_simp; try with_reducible rfl)
        simp only [Act.put, List.setIfInBounds_toArray, List.set_cons_zero, List.set_cons_succ]
        refine wpAnyH_take (i := 9) (oi := ⟨_, _, _, _, _, _⟩) (v := ?_) rfl (by kernel_rfl) (by kernel_rfl) (by kernel_rfl) (fun _ _ _ h => h) (Or.inl ⟨by kernel_rfl, ?_⟩) hHeld ?_
        rotate_left
        · (intro w hSw; obtain ⟨s1, s2, s3⟩ := hSw; go_simp; try with_reducible rfl)
        simp only [Act.put, List.setIfInBounds_toArray, List.set_cons_zero, List.set_cons_succ]
        refine wpAnyH_take (i := 10) (oi := ⟨_, _, _, _, _, _⟩) (v := .agg p.cells) rfl (by kernel_rfl) (by kernel_rfl) (by kernel_rfl) (fun _ _ _ h => h) (Or.inl ⟨by kernel_rfl, ?_⟩) hHeld ?_
        · (intro w hSw; obtain ⟨s1, s2, s3⟩ := hSw; exact rLoad (x := .tmp 5) rfl (by exact load_pkt _ _ _ s1.out))
        simp only [Act.put, List.setIfInBounds_toArray, List.set_cons_zero, List.set_cons_succ]
        refine wpAnyH_take (i := 13) (oi := ⟨_, _, _, _, _, _⟩) (v := ?_) rfl (by kernel_rfl) (by kernel_rfl) (by kernel_rfl) (fun _ _ _ h => h) (Or.inl ⟨by kernel_rfl, ?_⟩) hHeld ?_
        rotate_left
        · (intro w hSw; obtain ⟨s1, s2, s3⟩ := hSw; go_simp; try with_reducible rfl)
        simp only [Act.put, List.setIfInBounds_toArray, List.set_cons_zero, List.set_cons_succ]
        refine wpAnyH_take (i := 14) (oi := ⟨_, _, _, _, _, _⟩) (v := ?_) rfl (by kernel_rfl) (by kernel_rfl) (by kernel_rfl) (fun _ _ _ h => h) (Or.inl ⟨by kernel_rfl, ?_⟩) hHeld ?_
        rotate_left
        · (intro w hSw; obtain ⟨s1, s2, s3⟩ := hSw; go_simp; try with_reducible rfl)
        simp only [Act.put, List.setIfInBounds_toArray, List.set_cons_zero, List.set_cons_succ]
        refine wpAnyH_ready (rs := [11]) (by kernel_rfl) (by simp) ?_
        refine AllReadyH.cons rfl (fun K hK => ?_) AllReadyH.nil
        go_simp
        go_wp2_with (go_at_call 24; refine (HRB.out _ (HT5.toBelow (Nat.le_refl _) (fun _ _ h => h))).mono ?_; rintro e w6 ⟨A6, c6, rfl, ho6, hb6⟩; have HT6 := HT5.trans (Turn.of_below hb6); have hcv6 := conv_own (P := Tryd.prog) (W := w6) (src := 22) (dst := 9) Tryd.underlying22 Tryd.underlying5 Tryd.underlying9 ho6)
        refine hK.out _ _ (by first | exact HK.out _ HT6 | exact HK.out _ HT5 | exact HK.out _ HT0) (fun hHeld => ?_)
        clear hK K
        refine wpAnyH_ready (rs := [12]) (by kernel_rfl) (by simp) ?_
        refine AllReadyH.cons rfl (fun K hK => ?_) AllReadyH.nil
        go_simp
        skip
        refine hK.out _ _ (by first | exact HK.out _ HT6 | exact HK.out _ HT5 | exact HK.out _ HT0) (fun hHeld => ?_)
        clear hK K
        refine wpAnyH_take (i := 15) (oi := ⟨_, _, _, _, _, _⟩) (v := ?_) rfl (by kernel_rfl) (by kernel_rfl) (by kernel_rfl) (fun _ _ _ h => h) (Or.inl ⟨by kernel_rfl, ?_⟩) hHeld ?_
        rotate_left
        · (intro w hSw; obtain ⟨s1, s2, s3⟩ := hSw; go_simp; try with_reducible rfl)
        simp only [Act.put, List.setIfInBounds_toArray, List.set_cons_zero, List.set_cons_succ]
        refine wpAnyH_take (i := 16) (oi := ⟨_, _, _, _, _, _⟩) (v := ?_) rfl (by kernel_rfl) (by kernel_rfl) (by kernel_rfl) (fun _ _ _ h => h) (Or.inl ⟨by kernel_rfl, ?_⟩) hHeld ?_
        rotate_left
        · (intro w hSw; obtain ⟨s1, s2, s3⟩ := hSw; go_simp; try with_reducible rfl)
        simp only [Act.put, List.setIfInBounds_toArray, List.set_cons_zero, List.set_cons_succ]
        refine wpAnyH_done (by kernel_rfl) ?_ _
        go_upto_region 41 with (fail)
        rename_i hKont
        refine wp_region_lit ?_
        refine st_val (.agg zeroP.cells) (wanted_free rfl) (by exact rBuild0 rfl kBuildZ) ?_
        refine wp_store_pkt (g := v) zeroP zeroP rfl rfl (by rfl) (by rfl) (HP.out.res.keep HT6 (fun h => h)) (by rfl) (by rfl) ?_
        intro Wf HPf tf
        refine st_val (.bool false) (wanted_free rfl) (by exact rAssign (x := .const (.bool false)) rfl) ?_
        refine wpList_nil (hKont _ _ (wp_ret ?_))
        exact ⟨rfl, _, rparse_results Wf v zeroP false _ rfl rfl HPf.out, (HP.out.below.trans (HT6.toBelow HP.out.below.size (fun _ _ h => h))).trans (tf.toBelow (HP.out.below.trans (HT6.toBelow HP.out.below.size (fun _ _ h => h))).size (fun k hk e => by have := hv.out; omega)), .inr ⟨HNO.out, rfl⟩⟩
    · have HNO : Hid (∀ p C D, ¬ IsPkt L p C D) := fun p' C' D' hI => hm (HIP.out p' C' D' hI).2.1
      have HMAY : Hid (∀ W', Below Wn.heap.size Wn W' → Calls Tryd.prog 23 #[.agg p.cells] W' fun e w' => e = .returned (.bool false) ∧ Below W'.heap.size W' w') := Lib.hid fun W' hb => by
        have h := may_calls W' p C D (HL.out.keep hb)
        rw [decide_eq_false hm] at h
        exact h
      clear hm HIP
      go_upto_region 40 with (fail)
      refine wp_region_held_drew (S := (fun W' => Hid (PkAt W' g p) ∧ W'.cell? ⟨r, 1, none⟩ = some (.bool false) ∧ (convert 22 9 (.slice (some x) L.length c)).run Tryd.prog W' = .ok (.string (strOfNums L)) W')) (by kernel_rfl) (by first | exact HK.out _ HT6 | exact HK.out _ HT5 | exact HK.out _ HT0) (fun hHeld => ?_)
      refine wpAnyH_take (i := 0) (oi := ⟨_, _, _, _, _, _⟩) (v := ?_) rfl (by kernel_rfl) (by kernel_rfl) (by kernel_rfl) (fun _ _ _ h => h) (Or.inl ⟨by kernel_rfl, ?_⟩) hHeld ?_
      rotate_left
      · (intro w hSw; obtain ⟨s1, s2, s3⟩ := hSw; go_simp; try with_reducible rfl)
      simp only [Act.put, List.setIfInBounds_toArray, List.set_cons_zero, List.set_cons_succ]
      refine wpAnyH_take (i := 1) (oi := ⟨_, _, _, _, _, _⟩) (v := ?_) rfl (by kernel_rfl) (by kernel_rfl) (by kernel_rfl) (fun _ _ _ h => h) (Or.inl ⟨by kernel_rfl, ?_⟩) hHeld ?_
      rotate_left
      · (intro w hSw; obtain ⟨s1, s2, s3⟩ := hSw; go_simp; try with_reducible rfl)
      simp only [Act.put, List.setIfInBounds_toArray, List.set_cons_zero, List.set_cons_succ]
      refine wpAnyH_take (i := 2) (oi := ⟨_, _, _, _, _, _⟩) (v := ?_) rfl (by kernel_rfl) (by kernel_rfl) (by kernel_rfl) (fun _ _ _ h => h) (Or.inl ⟨by kernel_rfl, ?_⟩) hHeld ?_
      rotate_left
      · (intro w hSw; obtain ⟨s1, s2, s3⟩ := hSw; go_simp; try with_reducible rfl)
      simp only [Act.put, List.setIfInBounds_toArray, List.set_cons_zero, List.set_cons_succ]
      refine wpAnyH_take (i := 3) (oi := ⟨_, _, _, _, _, _⟩) (v := ?_) rfl (by kernel_rfl) (by kernel_rfl) (by kernel_rfl) (fun _ _ _ h => h) (Or.inl ⟨by kernel_rfl, ?_⟩) hHeld ?_
      rotate_left
      · (intro w hSw; obtain ⟨s1, s2, s3⟩ := hSw; go_simp; try with_reducible rfl)
      simp only [Act.put, List.setIfInBounds_toArray, List.set_cons_zero, List.set_cons_succ]
      refine wpAnyH_take (i := 4) (oi := ⟨_, _, _, _, _, _⟩) (v := ?_) rfl (by kernel_rfl) (by kernel_rfl) (by kernel_rfl) (fun _ _ _ h => h) (Or.inl ⟨by kernel_rfl, ?_⟩) hHeld ?_
      rotate_left
      · (intro w hSw; obtain ⟨s1, s2, s3⟩ := hSw; go_simp; try with_reducible rfl)
      simp only [Act.put, List.setIfInBounds_toArray, List.set_cons_zero, List.set_cons_succ]
      refine wpAnyH_take (i := 5) (oi := ⟨_, _, _, _, _, _⟩) (v := .agg p.cells) rfl (by kernel_rfl) (by kernel_rfl) (by kernel_rfl) (fun _ _ _ h => h) (Or.inl ⟨by kernel_rfl, ?_⟩) hHeld ?_
      · (intro w hSw; obtain ⟨s1, s2, s3⟩ := hSw; exact rLoad (x := .tmp 5) rfl (by exact load_pkt _ _ _ s1.out))
      simp only [Act.put, List.setIfInBounds_toArray, List.set_cons_zero, List.set_cons_succ]
      refine wpAnyH_ready (rs := [6]) (by kernel_rfl) (by simp) ?_
      refine AllReadyH.cons rfl (fun K hK => ?_) AllReadyH.nil
      go_simp
      go_wp2_with (go_at_call 23; refine (HMAY.out _ (HT0.toBelow (Nat.le_refl _) (fun _ _ h => h))).mono ?_; rintro e w5 ⟨rfl, hb5⟩; have HT5 := HT0.trans (Turn.of_below hb5))
      refine hK.out _ _ (by first | exact HK.out _ HT6 | exact HK.out _ HT5 | exact HK.out _ HT0) (fun hHeld => ?_)
      clear hK K
      refine wpAnyH_take (i := 7) (oi := ⟨_, _, _, _, _, _⟩) (v := ?_) rfl (by kernel_rfl) (by kernel_rfl) (by kernel_rfl) (fun _ _ _ h => h) (Or.inl ⟨by kernel_rfl, ?_⟩) hHeld ?_
      rotate_left
      · (intro w hSw; obtain ⟨s1, s2, s3⟩ := hSw; go_simp; try with_reducible rfl)
      simp only [Act.put, List.setIfInBounds_toArray, List.set_cons_zero, List.set_cons_succ]
      refine wpAnyH_take (i := 8) (oi := ⟨_, _, _, _, _, _⟩) (v := ?_) rfl (by kernel_rfl) (by kernel_rfl) (by kernel_rfl) (fun _ _ _ h => h) (Or.inl ⟨by kernel_rfl, ?_⟩) hHeld ?_
      rotate_left
      · (intro w hSw; obtain ⟨s1, s2, s3⟩ := hSw; go_simp; try with_reducible rfl)
      simp only [Act.put, List.setIfInBounds_toArray, List.set_cons_zero, List.set_cons_succ]
      refine wpAnyH_take (i := 9) (oi := ⟨_, _, _, _, _, _⟩) (v := ?_) rfl (by kernel_rfl) (by kernel_rfl) (by kernel_rfl) (fun _ _ _ h => h) (Or.inl ⟨by kernel_rfl, ?_⟩) hHeld ?_
      rotate_left
      · (intro w hSw; obtain ⟨s1, s2, s3⟩ := hSw; go_simp; try with_reducible rfl)
      simp only [Act.put, List.setIfInBounds_toArray, List.set_cons_zero, List.set_cons_succ]
      refine wpAnyH_take (i := 10) (oi := ⟨_, _, _, _, _, _⟩) rfl (by kernel_rfl) (by kernel_rfl) (by kernel_rfl) (fun _ _ _ h => h) (Or.inr ⟨by kernel_rfl, rfl⟩) hHeld ?_
      simp only [Act.put, List.setIfInBounds_toArray, List.set_cons_zero, List.set_cons_succ]
      refine wpAnyH_take (i := 11) (oi := ⟨_, _, _, _, _, _⟩) rfl (by kernel_rfl) (by kernel_rfl) (by kernel_rfl) (fun _ _ _ h => h) (Or.inr ⟨by kernel_rfl, rfl⟩) hHeld ?_
      simp only [Act.put, List.setIfInBounds_toArray, List.set_cons_zero, List.set_cons_succ]
      refine wpAnyH_take (i := 12) (oi := ⟨_, _, _, _, _, _⟩) rfl (by kernel_rfl) (by kernel_rfl) (by kernel_rfl) (fun _ _ _ h => h) (Or.inr ⟨by kernel_rfl, rfl⟩) hHeld ?_
      simp only [Act.put, List.setIfInBounds_toArray, List.set_cons_zero, List.set_cons_succ]
      refine wpAnyH_take (i := 13) (oi := ⟨_, _, _, _, _, _⟩) rfl (by kernel_rfl) (by kernel_rfl) (by kernel_rfl) (fun _ _ _ h => h) (Or.inr ⟨by kernel_rfl, rfl⟩) hHeld ?_
      simp only [Act.put, List.setIfInBounds_toArray, List.set_cons_zero, List.set_cons_succ]
      refine wpAnyH_take (i := 14) (oi := ⟨_, _, _, _, _, _⟩) rfl (by kernel_rfl) (by kernel_rfl) (by kernel_rfl) (fun _ _ _ h => h) (Or.inr ⟨by kernel_rfl, rfl⟩) hHeld ?_
      simp only [Act.put, List.setIfInBounds_toArray, List.set_cons_zero, List.set_cons_succ]
      refine wpAnyH_take (i := 15) (oi := ⟨_, _, _, _, _, _⟩) rfl (by kernel_rfl) (by kernel_rfl) (by kernel_rfl) (fun _ _ _ h => h) (Or.inr ⟨by kernel_rfl, rfl⟩) hHeld ?_
      simp only [Act.put, List.setIfInBounds_toArray, List.set_cons_zero, List.set_cons_succ]
      refine wpAnyH_take (i := 16) (oi := ⟨_, _, _, _, _, _⟩) (v := ?_) rfl (by kernel_rfl) (by kernel_rfl) (by kernel_rfl) (fun _ _ _ h => h) (Or.inl ⟨by kernel_rfl, ?_⟩) hHeld ?_
      rotate_left
      · (intro w hSw; obtain ⟨s1, s2, s3⟩ := hSw; go_simp; try with_reducible rfl)
      simp only [Act.put, List.setIfInBounds_toArray, List.set_cons_zero, List.set_cons_succ]
      refine wpAnyH_done (by kernel_rfl) ?_ _
      go_upto_region 41 with (fail)
      rename_i hKont
      refine wp_region_lit ?_
      refine st_val (.agg zeroP.cells) (wanted_free rfl) (by exact rBuild0 rfl kBuildZ) ?_
      refine wp_store_pkt (g := v) zeroP zeroP rfl rfl (by rfl) (by rfl) (HP.out.res.keep HT5 (fun h => h)) (by rfl) (by rfl) ?_
      intro Wf HPf tf
      refine st_val (.bool false) (wanted_free rfl) (by exact rAssign (x := .const (.bool false)) rfl) ?_
      refine wpList_nil (hKont _ _ (wp_ret ?_))
      exact ⟨rfl, _, rparse_results Wf v zeroP false _ rfl rfl HPf.out, (HP.out.below.trans (HT5.toBelow HP.out.below.size (fun _ _ h => h))).trans (tf.toBelow (HP.out.below.trans (HT5.toBelow HP.out.below.size (fun _ _ h => h))).size (fun k hk e => by have := hv.out; omega)), .inr ⟨HNO.out, rfl⟩⟩
end Ref
end Go.Proofs.YteigakkghkjakaaDoor

/- PacketAlone: no packet is the beginning of another. -/
import Derived.Test.YteigakkghkjakaaDoorPlU
namespace Go.Proofs.YteigakkghkjakaaDoor
open Go.RowKit Go.ChangeShapes
set_option linter.unusedVariables false
set_option linter.unusedSimpArgs false
namespace Pk
open Utf (nums nums_length nums_bytes IsStr nums_str)
open Var (BT digs digs_length tell tell_digs)

theorem is_alone {L M : List Int} {p : Pkt} {C : List Int} {D : List (ByteArray × Int)} (h : IsPkt L p C D) (hM : M ≠ []) : ∀ p' C' D', ¬ IsPkt (L ++ M) p' C' D' := by
  intro p' C' D' h'
  have hb := h.2.1.2
  have h1 : (((bodyB p C D).length : Nat) : Int) < 128 ^ (3 + 1) := by
    have e : (128 : Int) ^ (3 + 1) = 268435456 := by decide
    rw [e]; omega
  have hd : (L ++ M).drop 1 = digs 3 ((bodyB p C D).length : Int) ++ (bodyB p C D ++ M) := by
    rw [← h.2.2]
    simp [bytesB]
  have ht := tell_digs 3 true (L ++ M) 1 0 1 ((bodyB p C D).length : Int) _ (Int.natCast_nonneg _) h1 (.inl rfl) hd
  have ht' := (pkt_tell h').1
  have ht2 : tell 4 true (L ++ M) 1 0 1 = (0 + 1 * ((bodyB p C D).length : Int), ((1 : Nat) : Int) + (digs 3 ((bodyB p C D).length : Int)).length, 0) := ht
  rw [ht2] at ht'
  injection ht' with e1 e2
  injection e2 with e2 _
  have l1 := bytesB_length p C D
  have l2 := bytesB_length p' C' D'
  rw [h.2.2] at l1
  rw [h'.2.2, List.length_append] at l2
  have : 0 < M.length := List.length_pos_iff.2 hM
  omega
theorem is_alone_take {L : List Int} {p : Pkt} {C : List Int} {D : List (ByteArray × Int)} (h : IsPkt L p C D) (i : Nat) (hi : i < L.length) : ∀ p' C' D', ¬ IsPkt (L.take i) p' C' D' := by
  intro p' C' D' h'
  have hne : L.drop i ≠ [] := by
    intro e
    have := congrArg List.length e
    simp at this; omega
  refine is_alone h' hne p C D ?_
  rw [List.take_append_drop]; exact h

theorem own_lit' (w : World) (base : Nat) (hb : base ≤ w.heap.size) : OwnInts (w.alloc (.cells #[] BT)) base BT .u8 (.slice (some ⟨w.heap.size, 0, none⟩) 0 0) [] :=
  ⟨rfl, .inr ⟨w.heap.size, 0, #[], rfl, hb, heap_new _ _, Nat.le_refl _, by simp [maxLen], rfl, rfl⟩⟩
theorem turn_above' {w2 W w1 : World} {base : Nat} {e : TypeId} {k : IntKind} {v : Value} {L : List Int} (T : Turn (fun j => base ≤ j) w2 W) (HO : OwnInts W base e k v L) (t : Turn (fun j => v.ownBlock = some j) W w1) : Turn (fun j => base ≤ j) w2 w1 :=
  T.trans (t.mono fun k _ h => (own_block_ge HO k h).1)

set_option maxRecDepth 100000 in
set_option maxHeartbeats 2000000 in
theorem alone_walk (p : Pkt) (C : List Int) (D : List (ByteArray × Int)) (a1 : Option Addr) (len1 cap1 : Nat) (z1 : List Int) (w : World) (hF : Lies w p C D) (hS : Sized p C D) (w1 : IsRow .u8 w a1 len1 cap1 z1) (y1 : cap1 * 1 ≤ 140737488351232) (hT : Lib.Utf8Tabs 0 1 w) :
    Calls Tryd.prog 4 #[.agg p.cells, .slice a1 len1 cap1] w fun e w' => e = .returned (.bool true) ∧ Below w.heap.size w w' := by
  obtain ⟨hl, hR, hMb, hcap⟩ := row_reads8 w1
  have hnil : a1 = none → cap1 = 0 := by
    intro h
    rcases w1 with ⟨_, _, h3, _⟩ | ⟨x, hx, _⟩
    · exact h3
    · rw [h] at hx; cases hx
  obtain ⟨M, hMd⟩ : ∃ M, M = z1.take len1 := ⟨_, rfl⟩
  rw [← hMd] at hl hR hMb
  subst hl
  clear hMd w1
  have hMlen : (M.length : Int) ≤ 140737488351232 := by omega
  have HMB := Lib.hid hMb
  have HNIL := Lib.hid hnil
  have hA := at_box w p
  obtain ⟨W, hW⟩ : ∃ W, Hid (W = w.alloc (.cells p.cells PT)) := ⟨_, rfl⟩
  obtain ⟨g, hg⟩ : ∃ g, Hid (g = w.heap.size) := ⟨_, rfl⟩
  rw [← hW.out, ← hg.out] at hA
  have HB : Hid (Below w.heap.size w W) := hA.below
  have HP := Lib.hid hA.at_
  have HL : Hid (Lies W p C D) := hF.keep HB.out
  have HT : Hid (Lib.Utf8Tabs 0 1 W) := Utf.tabs_keep hT HB.out
  have HR : Hid (Reads .u8 W a1 M) := hR.keep HB.out
  have HS := Lib.hid hS
  clear hA hF hT hS hR hMb hnil
  go_enter Tryd.func4, Tryd.ntmps4
  go_upto_region 1 with (fail)
  rw [← hW.out, ← hg.out]
  go_wp2_with (with_reducible refine wp_load_pkt (o := ⟨some 12, _, _, _, _, _⟩) rfl rfl rfl HP.out ?_)
  refine (small_calls W p C D HL.out HS.out).mono ?_
  rintro e w1 ⟨hb1, b, rfl, hsm⟩
  have HB1 : Hid (Below w.heap.size w w1) := HB.out.trans (hb1.mono HB.out.size)
  have HP1 := Lib.hid (HP.out.keep (Turn.of_below (S := fun _ => False) hb1) (fun h => h))
  have HL1 := Lib.hid (HL.out.keep hb1)
  have HT1 : Hid (Lib.Utf8Tabs 0 1 w1) := Utf.tabs_keep HT.out hb1
  have HR1 : Hid (Reads .u8 w1 a1 M) := HR.out.keep hb1
  cases b with
  | false =>
    clear hb1 hsm
    go_wp2_with (fail)
    go_ret
    exact ⟨rfl, HB1.out⟩
  | true =>
  have HSM := Lib.hid (hsm rfl)
  have HLEN := Lib.hid (small_body HL1.out HSM.out)
  clear hb1 hsm
  by_cases hM0 : M.length = 0
  · have hMi : (M.length : Int) = 0 := by omega
    go_wp2_with (fail)
    go_ret
    exact ⟨rfl, HB1.out⟩
  have hMi : ((M.length : Int) == 0) = false := by rw [beq_eq_false_iff_ne]; omega
  by_cases hM3 : (300 : Int) < M.length
  · have hM3b : decide ((300 : Int) < M.length) = true := decide_eq_true hM3
    go_wp2_with (fail)
    go_ret
    exact ⟨rfl, HB1.out⟩
  have hM3b : decide ((300 : Int) < M.length) = false := decide_eq_false hM3
  have HM3 : Hid (0 < M.length ∧ M.length ≤ 300) := ⟨by omega, by omega⟩
  go_upto_region 3 with (fail)
  clear hMi hM3 hM3b hM0 hMlen
  go_wp2_with (with_reducible refine wp_load_pkt (o := ⟨some 26, _, _, _, _, _⟩) rfl rfl rfl HP1.out ?_)
  refine (bytes_calls w1 HT1.out p C D HL1.out HLEN.out).mono ?_
  rintro e w2 ⟨hb2, (⟨hm, A2, c2, rfl, ho2⟩ | ⟨_, rfl⟩)⟩
  · have HB2 : Hid (Below w.heap.size w w2) := HB1.out.trans (hb2.mono HB1.out.size)
    have HT2 : Hid (Lib.Utf8Tabs 0 1 w2) := Utf.tabs_keep HT1.out hb2
    have HR2 : Hid (Reads .u8 w2 a1 M) := HR1.out.keep hb2
    have hI : IsPkt (bytesB p C D) p C D := ⟨HL1.out.long, hm, rfl⟩
    have hby := bytesB_bytes HL1.out hm
    have hll := bytesB_length p C D
    have hdl := digs_length 3 ((bodyB p C D).length : Int)
    obtain ⟨_, _, ht2⟩ := pkt_tell hI
    obtain ⟨L, hL⟩ : ∃ L, Hid (L = bytesB p C D) := ⟨_, rfl⟩
    have hLb : (bytesB p C D).length ≤ 268435465 := by have := hm.2; omega
    rw [← hL.out] at ho2 hby ht2 hI hLb ⊢
    have HI := Lib.hid hI
    have HO2 := Lib.hid ho2
    have HBY := Lib.hid hby
    have hLi : (L.length : Int) ≤ 268435465 := by omega
    have hLi2 : ¬ (L.length : Int) < 2 := by omega
    clear hb2 ho2 hI hby hm hll hdl ht2 hLb
    go_upto_region 8 with (fail)
    clear hLi2
    go_wp2_with (at_builtin; go_must (refine wp_append_row (W := w2.alloc (.cells #[] BT)) w2.heap.size rfl _ _ 22 5 .u8 1 rfl Tryd.underlying22 Var.info_byte _ [] L A2 c2 rfl rfl (own_reads HO2.out).2.2.2 ((own_reads HO2.out).2.2.1.keep (Below.alloc (Below.refl _ _) (Nat.le_refl _) _)) (own_lit' _ _ (Nat.le_refl _)) (by simp) (by simp; omega) ?_))
    intro A3 c3 w3 ho3 ht3
    have HO3 := Lib.hid ho3
    have HT3 := Lib.hid (turn_above' (Turn.alloc w2 (.cells #[] BT)) (own_lit' w2 _ (Nat.le_refl _)) ht3)
    have HB3 : Hid (Below w2.heap.size w2 w3) := HT3.out.toBelow (Nat.le_refl _) (fun k hk h => by omega)
    have Hs3 := Lib.hid HT3.out.size
    clear ho3 ht3
    go_wp2_with (at_builtin; go_must (refine wp_append_row (W := w3) w2.heap.size rfl _ _ 22 5 .u8 1 rfl Tryd.underlying22 Var.info_byte (.slice A3 L.length c3) L M a1 cap1 rfl rfl HNIL.out (HR2.out.keep HB3.out) HO3.out Hs3.out (by have := HM3.out; omega) ?_))
    intro A4 c4 w4 ho4 ht4
    have HT4 := Lib.hid (turn_above' HT3.out HO3.out ht4)
    have HB4 : Hid (Below w2.heap.size w2 w4) := HT4.out.toBelow (Nat.le_refl _) (fun k hk h => by omega)
    have HBw4 : Hid (Below w.heap.size w w4) := HB2.out.trans (HB4.out.mono HB2.out.size)
    obtain ⟨X, hX⟩ : ∃ X, Hid (X = L ++ M) := ⟨_, rfl⟩
    have hXl : L.length + M.length = X.length := by rw [hX.out]; simp
    rw [hXl] at ho4 ⊢
    rw [← hX.out] at ho4
    have HR4 := Lib.hid (own_reads ho4).2.2.1
    have HC4 := Lib.hid (own_reads ho4).2.1
    have HC4b : Hid (c4 ≤ 9223372036854775807) := by obtain ⟨_, c', hv, _, h, _⟩ := ho4.form; injection hv with _ _ e; rw [e]; exact h
    have HXb : Hid (∀ x ∈ X, 0 ≤ x ∧ x < 256) := by
      intro x hx
      rw [hX.out] at hx
      rcases List.mem_append.1 hx with h | h
      · exact HBY.out x h
      · exact HMB.out x h
    have HXn : Hid (∀ p' C' D', ¬ IsPkt X p' C' D') := by
      rw [hX.out]
      exact is_alone HI.out (fun e => by have := HM3.out; rw [e] at this; simp at this)
    have HXl : Hid (X.length ≤ 900000000) := by have := HM3.out; rw [Hid]; omega
    clear ho4 ht4 hXl
    go_wp2_with (fail)
    refine (parse_calls w4 (Utf.tabs_keep HT2.out HB4.out) A4 X c4 HR4.out HC4.out HC4b.out HXb.out HXl.out).mono ?_
    rintro e w5 ⟨hb5, (⟨p', C', D', hI', _, _, _⟩ | ⟨hnI5, rfl⟩)⟩
    · exact absurd hI' (HXn.out p' C' D')
    have HB5 : Hid (Below w2.heap.size w2 w5) := HB4.out.trans (hb5.mono HB4.out.size)
    clear hb5 hnI5
    rename_i hK
    refine hK _ _ ?_
    refine st_val (.tuple #[.agg zeroP.cells, .int .i64 100]) (wanted_free rfl) (by exact rMove (x := .tmp 47) rfl) ?_
    refine st_val (.agg zeroP.cells) (wanted_free rfl) (by exact rExtract (x := .tmp 41) rfl (kExt0 _ _)) ?_
    refine st_val (.int .i64 100) (wanted_free rfl) (by exact rExtract (x := .tmp 41) rfl (kExt1 _ _)) ?_
    refine st_alloc (wanted_free rfl) rfl (by exact kAllocP _) ?_
    refine wp_store_pkt (g := w5.heap.size) zeroP zeroP rfl rfl rfl rfl (by exact heap_new _ _) rfl rfl ?_
    intro w6 HP6 t
    refine st_val (.int .i64 100) (wanted_free rfl) (by exact rAssign (x := .tmp 49) rfl) ?_
    refine wpList_nil ?_
    simp only [Exit.then, Act.put, List.setIfInBounds_toArray, List.set_cons_zero, List.set_cons_succ]
    have HW6 : Hid (Below w5.heap.size w5 w6) := (Below.alloc (Below.refl _ _) (Nat.le_refl _) _).trans (t.toBelow (by simp) (fun k hk e => by omega))
    have HB6 : Hid (Below w2.heap.size w2 w6) := HB5.out.trans (HW6.out.mono HB5.out.size)
    clear t hK HP6 HW6 HB5 HB4 HB3 HT3 HT4 HO3 Hs3 HR4
    obtain ⟨k0, hk0⟩ : ∃ k0, Hid (k0 = L.length) := ⟨_, rfl⟩
    go_wp2_with (fail)
    go_loopw [9, 10, 11] (fun x y z wr => ∃ k : Nat, k ≤ L.length ∧ x = .int .i64 k ∧ Hid (Below w2.heap.size w2 wr)) (fun x _ _ _ => L.length - (intOf x).toNat)
    case atStart => exact ⟨0, Nat.zero_le _, rfl, HB6.out⟩
    case round =>
      obtain ⟨k, hk, rfl, hBr⟩ := hrel
      have hkb : (k : Int) ≤ 268435465 := by omega
      by_cases hkl : k < L.length
      · have hlt : (L.take k).length = k := by simp; omega
        obtain ⟨c2n, hc2⟩ : ∃ c, Hid (L.length ≤ c2 ∧ c2 ≤ 9223372036854775807) := ⟨0, by obtain ⟨_, c', hv, h, h', _⟩ := HO2.out.form; injection hv with _ _ e; rw [e]; exact ⟨h, h'⟩⟩
        have HPC := parse_calls wr (Utf.tabs_keep HT2.out hBr.out) A2 (L.take k) c2 (reads_take k ((own_reads HO2.out).2.2.1.keep hBr.out)) (by have := hc2.out; rw [hlt]; omega) hc2.out.2 (fun x hx => HBY.out x (List.mem_of_mem_take hx)) (by rw [hlt]; omega)
        rw [hlt] at HPC
        have HPC' := Lib.hid HPC
        have HXk : Hid (∀ p' C' D', ¬ IsPkt (L.take k) p' C' D') := is_alone_take HI.out k hkl
        have hkc : k ≤ c2 := by have := hc2.out; omega
        clear HPC hlt
        go_wp2_with (fail)
        refine HPC'.out.mono ?_
        rintro e v5 ⟨hb5, (⟨p', C', D', hI', _, _, _⟩ | ⟨hnI5, rfl⟩)⟩
        · exact absurd hI' (HXk.out p' C' D')
        have HV5 : Hid (Below w2.heap.size w2 v5) := hBr.out.trans (hb5.mono hBr.out.size)
        clear hb5 hnI5
        rename_i hK
        refine hK _ _ ?_
        refine st_val (.tuple #[.agg zeroP.cells, .int .i64 100]) (wanted_free rfl) (by exact rMove (x := .tmp 60) rfl) ?_
        refine st_val (.agg zeroP.cells) (wanted_free rfl) (by exact rExtract (x := .tmp 56) rfl (kExt0 _ _)) ?_
        refine st_val (.int .i64 100) (wanted_free rfl) (by exact rExtract (x := .tmp 56) rfl (kExt1 _ _)) ?_
        refine st_alloc (wanted_free rfl) rfl (by exact kAllocP _) ?_
        refine wp_store_pkt (g := v5.heap.size) zeroP zeroP rfl rfl rfl rfl (by exact heap_new _ _) rfl rfl ?_
        intro v6 HP6 t
        refine st_val (.int .i64 100) (wanted_free rfl) (by exact rAssign (x := .tmp 62) rfl) ?_
        refine wpList_nil ?_
        simp only [Exit.then, Act.put, List.setIfInBounds_toArray, List.set_cons_zero, List.set_cons_succ]
        have HW6 : Hid (Below v5.heap.size v5 v6) := (Below.alloc (Below.refl _ _) (Nat.le_refl _) _).trans (t.toBelow (by simp) (fun k hk e => by omega))
        have HV6 : Hid (Below w2.heap.size w2 v6) := HV5.out.trans (HW6.out.mono HV5.out.size)
        clear t hK HP6 HW6 HV5
        go_wp2_with (fail)
        go_roundw
        case rel => exact ⟨k + 1, by omega, by go_num, HV6.out⟩
        case measure => simp [intOf]; omega
      · go_wp2_with (fail)
        refine (awake_calls wr (Utf.tabs_keep HT2.out hBr.out)).mono ?_
        rintro e v4 ⟨rfl, hb4⟩
        have HV4 := Lib.hid (HB2.out.trans ((hBr.out.trans (hb4.mono hBr.out.size)).mono HB2.out.size))
        clear hb4
        go_wp2_with (fail)
        go_ret
        exact ⟨rfl, HV4.out⟩
  · have HB2 : Hid (Below w.heap.size w w2) := HB1.out.trans (hb2.mono HB1.out.size)
    have HT2 : Hid (Lib.Utf8Tabs 0 1 w2) := Utf.tabs_keep HT1.out hb2
    clear hb2
    go_wp2_with (fail)
    refine (awake_calls w2 HT2.out).mono ?_
    rintro e w4 ⟨rfl, hb4⟩
    have HB4 := Lib.hid (HB2.out.trans (hb4.mono HB2.out.size))
    clear hb4
    go_wp2_with (fail)
    go_ret
    exact ⟨rfl, HB4.out⟩
end Pk
end Go.Proofs.YteigakkghkjakaaDoor

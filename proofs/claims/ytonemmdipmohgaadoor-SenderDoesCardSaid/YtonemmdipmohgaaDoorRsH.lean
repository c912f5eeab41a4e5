/- SenderDoes: a script of calls, answered as the reference answers it. -/
import Derived.Test.YtonemmdipmohgaaDoorRsG
namespace Go.Proofs.YtonemmdipmohgaaDoor
open Go.RowKit Go.ChangeShapes
set_option linter.unusedVariables false
set_option linter.unusedSimpArgs false
namespace Snd
open Pk Str

set_option maxRecDepth 100000 in
set_option maxHeartbeats 8000000 in
/-- SenderDoes. -/
theorem does_walk (a0 a1 : Int) (a2 : Option Addr) (len2 cap2 : Nat) (os : List OpX) (w : World) (w0 : (Lit.int .i64 a0).wf = true) (w1 : (Lit.int .i64 a1).wf = true) (h2 : len2 = os.length ∧ os.length ≤ cap2) (hP : OpReads w a2 os) (hF : ∀ y ∈ os, OpFit w y) (hT : Lib.Utf8Tabs 0 1 w) :
    Calls Tryd.prog 5 #[.int .i64 a0, .int .i64 a1, .slice a2 len2 cap2] w fun e w' => e = .returned (.bool true) ∧ Below w.heap.size w w' := by
  obtain ⟨rfl, hcap⟩ := h2
  have HT := Lib.hid hT
  have HP := Lib.hid hP
  have HF := Lib.hid hF
  have HC := Lib.hid hcap
  clear hT hP hF w0 w1 hcap
  go_enter Tryd.func5, Tryd.ntmps5
  go_wp2_with (fail)
  refine (few_calls w a2 cap2 os HC.out HP.out HF.out).mono ?_
  rintro e wa ⟨⟨hfew, rfl⟩ | ⟨_, rfl⟩, ta⟩
  case inr =>
    go_wp2_with (fail)
    go_ret
    exact ⟨rfl, ta.toBelow (Nat.le_refl _) (fun _ _ h => h)⟩
  have HFEW := Lib.hid hfew
  have HBa : Hid (Below w.heap.size w wa) := ta.toBelow (Nat.le_refl _) (fun _ _ h => h)
  clear hfew ta
  go_wp2_with (fail)
  refine (own_new w wa HBa.out a0 a1).mono ?_
  rintro e w1 (⟨q1, q2, q3, q4, s, T1, rfl, hO, _, _⟩ | ⟨hno, rfl, rfl⟩)
  case inr =>
    have HNO := Lib.hid hno
    clear hno
    go_wp2_with (fail)
    refine (asked_calls _ a0 a1).mono ?_
    rintro e w1 ⟨rfl, rfl⟩
    rw [decide_eq_false HNO.out]
    go_wp2_with (fail)
    refine (awake_calls _ (Utf.tabs_keep HT.out HBa.out)).mono ?_
    rintro e w2 ⟨rfl, hb⟩
    go_wp2_with (fail)
    go_ret
    exact ⟨rfl, HBa.out.trans (hb.mono HBa.out.size)⟩
  have H1 := Lib.hid hO
  have HYES : Hid (1 ≤ a0 ∧ a0 ≤ 16 ∧ 0 ≤ a1 ∧ a1 ≤ 64) := ⟨q1, q2, q3, q4⟩
  clear hO q1 q2 q3 q4
  go_wp2_with (fail)
  refine (asked_calls _ a0 a1).mono ?_
  rintro e w1 ⟨rfl, rfl⟩
  rw [decide_eq_true HYES.out]
  go_upto_region 9 with (fail)
  obtain ⟨W, hW⟩ : ∃ W, Hid (W = w1.alloc (.cells #[.int .i64 a0, .int .i64 a1, .slice none 0 0, .slice none 0 0, .slice none 0 0, .int .i64 0] RST)) := ⟨_, rfl⟩
  obtain ⟨R, hR⟩ : ∃ R, Hid (R = w1.heap.size) := ⟨_, rfl⟩
  have HN := Lib.hid (Two.new H1.out W hW.out R hR.out)
  rw [← hW.out, ← hR.out]
  clear hW hR H1
  go_wp2_with (fail)
  go_loopw [10] (fun iv wr => ∃ k : Nat, k ≤ os.length ∧ iv = .int .i64 k ∧ Hid (∃ T x vw vy vi, Two w wr T s x R vw vy vi x)) (fun iv _ => os.length - (intOf iv).toNat)
  case atStart => exact ⟨0, Nat.zero_le _, rfl, T1, _, _, _, _, HN.out⟩
  case round =>
    obtain ⟨k, hk, rfl, hRR⟩ := hrel
    have hk200 : (k : Int) ≤ 200 := by have := HFEW.out.1; omega
    obtain ⟨T, x, vw, vy, vi, hO⟩ := hRR.out
    have HO := Lib.hid hO
    clear hO hRR
    by_cases hlt : k < os.length
    · obtain ⟨x0, rfl, hc⟩ := (HP.out.keep HO.out.own.bel) k hlt
      obtain ⟨o, ho⟩ : ∃ o, Hid (o = os[k]'hlt) := ⟨os[k]'hlt, rfl⟩
      rw [← ho.out] at hc
      have HCE := Lib.hid hc
      have HOF : Hid (OpFit wr o) := by rw [ho.out]; exact (HF.out _ (List.getElem_mem hlt)).keep HO.out.own.bel
      have HSM : Hid (Small o) := by rw [ho.out]; exact HFEW.out.2 _ (List.getElem_mem hlt)
      have HK : Hid (k < os.length) := hlt
      clear hc ho
      go_wp2_with (refine wp_var (o1 := ⟨some 67, _, _, _, _, _⟩) OT 23 o.vals zeroO rfl rfl rfl rfl rfl rfl rfl (by rfl) (by rfl) isAggO sizeO o.len rfl HOF.out.one (kAllocO _) HCE.out ?_)
      intro w2 hv2 hb2
      obtain ⟨b, hb⟩ : ∃ b, Hid (b = wr.heap.size) := ⟨_, rfl⟩
      rw [← hb.out] at hv2 ⊢
      have t2 : Turn (fun _ => False) wr w2 := Turn.of_below hb2.out
      have HO2 := Lib.hid (HO.out.still t2)
      have HNB : Hid (¬ T b) := fun h => by have h1 := HO.out.own.lt b h; rw [hb.out] at h1; omega
      have HVS : Hid (∀ (S : Nat → Prop) W, Turn S w2 W → ¬ S b → ∀ j v, o.vals[j]? = some v → W.cell? ⟨b, j, none⟩ = some v) := fun S W t hS j v hj => by
        refine t.cell ?_ hS
        rw [cell_heap hv2.out, List.getElem?_toArray]
        exact hj
      have HPK : Hid (∀ (S : Nat → Prop) W, Turn S w2 W → ¬ S b → ∀ j v, o.pk.cells.toList[j]? = some v → W.cell? ((⟨b, 5, none⟩ : Addr).add j) = some v) := fun S W t hS j v hj => by
        rw [Addr.add_mid]
        exact HVS.out S W t hS (5 + j) v (by rw [o.pk_at]; exact hj)
      have HI : Hid (Inv x) := HO.out.own.inv
      have HND : Hid (x.ids.Nodup) := HO.out.own.obj.nodup.1
      have c0 : w2.cell? ⟨b, 0, none⟩ = some (.int .i64 o.call) := cell_heap hv2.out
      have c1 : w2.cell? ⟨b, 1, none⟩ = some (.string o.msg.topic) := cell_heap hv2.out
      have c2 : w2.cell? ⟨b, 2, none⟩ = some (.string o.msg.pay) := cell_heap hv2.out
      have c3 : w2.cell? ⟨b, 3, none⟩ = some (.int .i64 o.msg.qos) := cell_heap hv2.out
      have c4 : w2.cell? ⟨b, 4, none⟩ = some (.bool o.msg.retain) := cell_heap hv2.out
      refine wpList_nil ?_
      go_upto_region 13 with (fail)
      rename_i hKont
      refine wp_region_lit ?_
      refine st_val (.pointer (some ⟨b, 0, none⟩)) (wanted_free rfl) (by simp [execOp, go_sem, Act.put, Act.eval]) ?_
      refine st_val (.int .i64 o.call) (wanted_free rfl) (by simp [execOp, go_sem, c0, Act.put, Act.eval]) ?_
      refine wpList_nil (hKont _ _ ?_)
      simp only [Act.put, List.setIfInBounds_toArray, List.set_cons_zero, List.set_cons_succ]
      go_cut [12, 13, 14, 15, 16, 17, 18, 19, 20, 21, 22, 23] from 70 to 148 (fun _ _ _ _ _ _ _ _ _ _ _ _ wx => Hid (∃ T x vw vy vi, Two w wx T s x R vw vy vi x))
      case first =>
        clear hk hk200
        by_cases h0 : o.call = 0
        · have b0 : (o.call == 0) = true := by simpa using h0
          clear h0
          go_wp2_with (fail)
          refine (two_push w w2 HT.out T s x R vw vy vi x HO2.out o.msg HSM.out.1).mono ?_
          rintro e w3 ⟨rfl, T3, h3, m3⟩
          have HO3 := Lib.hid h3
          have d1 : w3.cell? ⟨b, 1, none⟩ = some (.string o.msg.topic) := HVS.out _ _ m3.1 HNB.out 1 _ rfl
          have d2 : w3.cell? ⟨b, 2, none⟩ = some (.string o.msg.pay) := HVS.out _ _ m3.1 HNB.out 2 _ rfl
          have d3 : w3.cell? ⟨b, 3, none⟩ = some (.int .i64 o.msg.qos) := HVS.out _ _ m3.1 HNB.out 3 _ rfl
          have d4 : w3.cell? ⟨b, 4, none⟩ = some (.bool o.msg.retain) := HVS.out _ _ m3.1 HNB.out 4 _ rfl
          clear h3 m3 c0 c1 c2 c3 c4
          go_wp2_with (fail)
          refine (two_rpush w w3 T3 s _ R vw vy vi x HO3.out HI.out.que.2 o.msg HSM.out.1).mono ?_
          rintro e w4 ⟨rfl, vw4, h4⟩
          have HO4 := Lib.hid h4
          clear h4
          go_wp2_with (fail)
          go_meet
          case rel => exact ⟨T3, _, _, _, _, HO4.out⟩
        have b0 : (o.call == 0) = false := by simpa using h0
        by_cases h1 : o.call = 1
        · have b1 : (o.call == 1) = true := by simpa using h1
          clear h0 h1
          go_wp2_with (fail)
          refine (two_next w w2 T s x R vw vy vi x HO2.out).mono ?_
          rintro e w3 ⟨A3, c3, T3, rfl, p3, h3⟩
          have HO3 := Lib.hid h3
          have P3 := Lib.hid p3
          clear h3 p3
          go_wp2_with (fail)
          refine (two_rnext w w3 T3 s _ R vw vy vi x HO3.out HI.out _ _ P3.out).mono ?_
          rintro e w4 ⟨A4, c4, vw4, vy4, vi4, rfl, p4, p3, h4⟩
          have HO4 := Lib.hid h4
          have P4 := Lib.hid p4
          have P5 := Lib.hid p3
          clear h4 p3 p4
          go_wp2_with (fail)
          refine (rows_eq w4 A3 A4 _ _ _ _ x.next.2 P5.out P4.out (fun p hp => (bare_next p hp).1) (by have := next_len HI.out; omega)).mono ?_
          rintro e w5 ⟨rfl, hb5⟩
          have HO5 := Lib.hid (HO4.out.still (Turn.of_below hb5))
          clear hb5
          go_wp2_with (fail)
          go_meet
          case rel => exact ⟨T3, _, _, _, _, HO5.out⟩
        have b1 : (o.call == 1) = false := by simpa using h1
        by_cases h2 : o.call = 2
        case neg =>
          have b2 : (o.call == 2) = false := by simpa using h2
          clear h0 h1 h2
          go_wp2_with (fail)
          refine (two_again w w2 T s x R vw vy vi x HO2.out).mono ?_
          rintro e w3 ⟨A3, c3, rfl, p3, h3⟩
          have HO3 := Lib.hid h3
          have P3 := Lib.hid p3
          clear h3 p3
          go_wp2_with (fail)
          refine (two_ragain w w3 T s _ R vw vy vi x HO3.out HI.out _ _ P3.out).mono ?_
          rintro e w4 ⟨A4, c4, rfl, p4, p3, h4⟩
          have HO4 := Lib.hid h4
          have P4 := Lib.hid p4
          have P5 := Lib.hid p3
          clear h4 p3 p4
          go_wp2_with (fail)
          refine (rows_eq w4 A3 A4 _ _ _ _ x.again P5.out P4.out (bare_again x) (by have := again_len HI.out; omega)).mono ?_
          rintro e w5 ⟨rfl, hb5⟩
          have HO5 := Lib.hid (HO4.out.still (Turn.of_below hb5))
          clear hb5
          go_wp2_with (fail)
          go_meet
          case rel => exact ⟨T, _, _, _, _, HO5.out⟩
        have b2 : (o.call == 2) = true := by simpa using h2
        clear h0 h1 h2
        have HPK2 := Lib.hid (HPK.out _ _ (Turn.refl (S := fun _ => False) w2) (fun h => h))
        go_wp2_with (refine wp_load_pkA (o := ⟨some 129, _, _, _, _, _⟩) (p := o.pk) rfl rfl rfl HPK2.out ?_)
        refine (two_take w w2 T s x R vw vy vi x HO2.out o.pk).mono ?_
        rintro e w3 ⟨A3, c3, T3, rfl, p3, h3, m3⟩
        have HO3 := Lib.hid h3
        have P3 := Lib.hid p3
        have HPK3 := Lib.hid (HPK.out _ _ m3.1 HNB.out)
        clear h3 p3 m3 c0 c1 c2 c4
        go_wp2_with (refine wp_load_pkA (o := ⟨some 136, _, _, _, _, _⟩) (p := o.pk) rfl rfl rfl HPK3.out ?_)
        refine (two_rtake w w3 T3 s _ R vw vy vi x HO3.out HI.out HND.out _ _ P3.out o.pk).mono ?_
        rintro e w4 ⟨A4, c4, vy4, vi4, rfl, p4, p3, h4⟩
        have HO4 := Lib.hid h4
        have P4 := Lib.hid p4
        have P5 := Lib.hid p3
        clear h4 p3 p4
        go_wp2_with (fail)
        refine (rows_eq w4 A3 A4 _ _ _ _ (x.take o.pk.ty o.pk.id).2.1 P5.out P4.out (bare_take x _ _).1 (by have := (bare_take x o.pk.ty o.pk.id).2; omega)).mono ?_
        rintro e w5 ⟨rfl, hb5⟩
        have HO5 := Lib.hid (HO4.out.still (Turn.of_below hb5))
        clear hb5
        go_wp2_with (fail)
        go_meet
        case rel => exact ⟨T3, _, _, _, _, HO5.out⟩
      case rest =>
        obtain ⟨T', y, vw', vy', vi', hOy⟩ := hcut.out
        have HY := Lib.hid hOy
        clear hOy hcut c0 c1 c2 c3 c4 hv2 hb2 t2
        clear HO HO2 HVS HPK HNB HI HND
        go_wp2_with (fail)
        refine (count_calls _ T' s y HY.out.own.obj).mono ?_
        rintro e w6 ⟨rfl, ht6⟩
        have HY6 := Lib.hid (HY.out.still ht6)
        obtain ⟨A1, c1, hvw, _⟩ := HY6.out.ref.wait.form
        obtain ⟨A2, c2, hvy, _⟩ := HY6.out.ref.ways.form
        have k2 : w6.cell? ⟨R, 2, none⟩ = some (.slice A1 y.wait.length c1) := by rw [← hvw]; exact cell_heap HY6.out.ref.obj
        have k3 : w6.cell? ⟨R, 3, none⟩ = some (.slice A2 y.ways.length c2) := by rw [← hvy]; exact cell_heap HY6.out.ref.obj
        clear ht6 hvw hvy
        go_wp2_with (fail)
        go_roundw
        case rel => exact ⟨k + 1, HK.out, by go_num, T', y, _, _, _, HY6.out⟩
        case measure => have := HK.out; simp [intOf]; omega
    · clear hk hk200
      go_wp2_with (fail)
      refine (awake_calls wr (HO.out.own.tabs HT.out)).mono ?_
      rintro e w8 ⟨rfl, hb8⟩
      go_wp2_with (fail)
      go_ret
      exact ⟨rfl, (HO.out.own.still (Turn.of_below hb8)).bel⟩
end Snd
end Go.Proofs.YtonemmdipmohgaaDoor

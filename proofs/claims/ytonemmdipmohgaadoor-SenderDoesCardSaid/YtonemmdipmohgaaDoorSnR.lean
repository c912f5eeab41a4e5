/- SenderWindow: windows, numbers, what was received. -/
import Derived.Test.YtonemmdipmohgaaDoorSnQ
namespace Go.Proofs.YtonemmdipmohgaaDoor
open Go.RowKit Go.ChangeShapes
set_option linter.unusedVariables false
set_option linter.unusedSimpArgs false
namespace Snd
open Pk Str

theorem OpX.pk_at (o : OpX) (j : Nat) : o.vals[5 + j]? = o.pk.cells.toList[j]? := by
  rw [Nat.add_comm]
  simp [OpX.vals, Msg.vals]
/-- What Take does to what Again tells. -/
theorem take_again (x : St) (ty id : Int) :
    ((x.take ty id).2.2 = 0 ∧ (x.take ty id).1.again.length ≤ x.again.length ∧ ((x.take ty id).1.again.length = x.again.length → ∀ i (h : i < x.again.length) (h' : i < (x.take ty id).1.again.length), (x.again[i].ty = 6 → (x.take ty id).1.again[i].ty = 6) ∧ x.again[i].id = (x.take ty id).1.again[i].id)) ∨
    ((x.take ty id).2.2 = 5 ∧ (x.take ty id).1 = x) := by
  unfold St.take
  split
  · exact .inr ⟨rfl, rfl⟩
  · rename_i y hy
    obtain ⟨hlt, hyid⟩ := at_some hy
    split
    · left
      have hl : (x.done id).again.length + 1 = x.again.length := by
        show ((x.ways.eraseIdx (x.at id)).map Way.pkt).length + 1 = (x.ways.map Way.pkt).length
        rw [List.length_map, List.length_map, List.length_eraseIdx_of_lt hlt]; omega
      refine ⟨rfl, ?_, fun h => ?_⟩
      · simp only; omega
      · simp only at h; omega
    · split
      · left
        have hl : (x.got id y).again.length = x.again.length := by
          show ((x.ways.set (x.at id) _).map Way.pkt).length = (x.ways.map Way.pkt).length
          simp
        refine ⟨rfl, by simp only; omega, fun _ i h h' => ?_⟩
        have e1 : x.again[i] = (x.ways[i]'(by simpa [St.again] using h)).pkt := by simp [St.again]
        have e2 : (x.got id y).again[i] = ((x.ways.set (x.at id) { y with got := true })[i]'(by simpa [St.again] using h)).pkt := by
          exact List.getElem_map Way.pkt
        simp only
        rw [e1, e2]
        by_cases hi : x.at id = i
        · subst hi
          have hyy : x.ways[x.at id] = y := by
            obtain ⟨_, h2⟩ := List.getElem?_eq_some_iff.1 hy; exact h2
          simp only [List.getElem_set_self]
          rw [hyy]
          refine ⟨fun _ => rfl, ?_⟩
          unfold Way.pkt
          cases y.got <;> rfl
        · rw [List.getElem_set_ne hi]
          exact ⟨fun h => h, rfl⟩
      · exact .inr ⟨rfl, rfl⟩
/-- What Again tells: numbers, marks. -/
theorem again_ids {x : St} (hI : Inv x) (hn : x.ids.Nodup) (hr : ∀ i ∈ x.ids, 1 ≤ i ∧ i ≤ 65535) :
    (∀ i (h : i < x.again.length), 1 ≤ x.again[i].id ∧ x.again[i].id ≤ 65535 ∧ (x.again[i].ty = 3 → x.again[i].dup = true)) ∧ (∀ i j (hi : i < x.again.length) (hj : j < x.again.length), i < j → x.again[i].id ≠ x.again[j].id) := by
  have hl : x.again.length = x.ways.length := by simp [St.again]
  have hid : ∀ i (h : i < x.again.length), x.again[i].id = x.ids[i]'(by rw [hI.ids, List.length_map]; omega) := by
    intro i h
    have e1 : x.again[i] = (x.ways[i]'(by omega)).pkt := by simp [St.again]
    have e2 : x.ids[i]'(by rw [hI.ids, List.length_map]; omega) = (x.ways[i]'(by omega)).id := by
      have := hI.ids
      simp only [this, List.getElem_map]
    rw [e1, e2]
    unfold Way.pkt
    split <;> rfl
  refine ⟨fun i h => ?_, fun i j hi hj hij => ?_⟩
  · have h1 := hr _ (List.getElem_mem (l := x.ids) (n := i) (by rw [hI.ids, List.length_map]; omega))
    rw [← hid i h] at h1
    refine ⟨h1.1, h1.2, ?_⟩
    have e1 : x.again[i] = (x.ways[i]'(by omega)).pkt := by simp [St.again]
    rw [e1]
    unfold Way.pkt
    split
    · intro h; exact absurd h (by show ¬ (6 : Int) = 3; decide)
    · intro _; rfl
  · rw [hid i hi, hid j hj]
    intro e
    have := (List.getElem_inj hn).1 e
    omega
theorem wp_load_pkA {ops : Array Oper} {rest : List Oper} {o : Oper} {a : Act} {W : World} {Q : Exit → Act → World → Prop} {x : Operand} {x0 : Addr} {p : Pkt} (hgd : o.guard = none) (ho : o.op = .load PT x) (hx : a.eval x = .pointer (some x0)) (h : ∀ j v, p.cells.toList[j]? = some v → W.cell? (x0.add j) = some v)
    (hK : wpList Tryd.prog ops Q rest (a.put o.dst (.agg p.cells)) W) : wpList Tryd.prog ops Q (o :: rest) a W :=
  st_val _ (wanted_free hgd) (rLoadRowA ho hx h) hK
theorem next_win (x : St) : x.next.1.win = x.win ∧ x.next.1.que = x.que := by
  obtain ⟨new, h1, h2, h3, h4, h5, h6⟩ := nextN_ways (n := x.wait.length) (x := x)
  exact ⟨h4, h5⟩
theorem take_win (x : St) (ty id : Int) : (x.take ty id).1.win = x.win ∧ (x.take ty id).1.que = x.que := by
  unfold St.take
  split
  · exact ⟨rfl, rfl⟩
  · split
    · exact ⟨rfl, rfl⟩
    · split <;> exact ⟨rfl, rfl⟩

set_option maxRecDepth 100000 in
set_option maxHeartbeats 8000000 in
/-- SenderWindow. -/
theorem window_walk (a0 a1 : Int) (a2 : Option Addr) (len2 cap2 : Nat) (os : List OpX) (w : World) (w0 : (Lit.int .i64 a0).wf = true) (w1 : (Lit.int .i64 a1).wf = true) (h2 : len2 = os.length ∧ os.length ≤ cap2) (hP : OpReads w a2 os) (hF : ∀ y ∈ os, OpFit w y) (hT : Lib.Utf8Tabs 0 1 w) :
    Calls Tryd.prog 7 #[.int .i64 a0, .int .i64 a1, .slice a2 len2 cap2] w fun e w' => e = .returned (.bool true) ∧ Below w.heap.size w w' := by
  obtain ⟨rfl, hcap⟩ := h2
  have HT := Lib.hid hT
  have HP := Lib.hid hP
  have HF := Lib.hid hF
  have HC := Lib.hid hcap
  clear hT hP hF w0 w1 hcap
  go_enter Tryd.func7, Tryd.ntmps7
  go_wp2_with (fail)
  refine (few_calls w a2 cap2 os HC.out HP.out HF.out).mono ?_
  rintro e wa ⟨⟨hfew, rfl⟩ | ⟨_, rfl⟩, ta⟩
  case inr =>
    go_wp2_with (fail)
    go_ret
    exact ⟨rfl, ta.toBelow (Nat.le_refl _) (fun _ _ h => h)⟩
  have HFEW := Lib.hid hfew
  have HBa : Hid (Below w.heap.size w wa) := ta.toBelow (Nat.le_refl _) (fun _ _ h => h)
  clear hfew ta
  go_wp2_with (fail)
  refine (own_new w wa HBa.out a0 a1).mono ?_
  rintro e w1 (⟨_, _, _, _, s, T1, rfl, hO, _, _⟩ | ⟨_, rfl, rfl⟩)
  case inr =>
    go_wp2_with (fail)
    refine (awake_calls _ (Utf.tabs_keep HT.out HBa.out)).mono ?_
    rintro e w2 ⟨rfl, hb⟩
    go_wp2_with (fail)
    go_ret
    exact ⟨rfl, HBa.out.trans (hb.mono HBa.out.size)⟩
  have H1 := Lib.hid hO
  clear hO
  go_wp2_with (fail)
  go_loopw [9] (fun iv wr => ∃ k : Nat, k ≤ os.length ∧ iv = .int .i64 k ∧ Hid (∃ T x, Own w wr T s x ∧ x.win = a0 ∧ x.que = a1)) (fun iv _ => os.length - (intOf iv).toNat)
  case atStart => exact ⟨0, Nat.zero_le _, rfl, T1, _, H1.out, rfl, rfl⟩
  case round =>
    obtain ⟨k, hk, rfl, hR⟩ := hrel
    have hk200 : (k : Int) ≤ 200 := by have := HFEW.out.1; omega
    obtain ⟨T, x, hO, hxw, hxq⟩ := hR.out
    have HO := Lib.hid hO
    have HXW := Lib.hid hxw
    have HXQ := Lib.hid hxq
    clear hO hxw hxq hR
    by_cases hlt : k < os.length
    · obtain ⟨x0, rfl, hc⟩ := (HP.out.keep HO.out.bel) k hlt
      obtain ⟨o, ho⟩ : ∃ o, Hid (o = os[k]'hlt) := ⟨os[k]'hlt, rfl⟩
      rw [← ho.out] at hc
      have HCE := Lib.hid hc
      have HOF : Hid (OpFit wr o) := by rw [ho.out]; exact (HF.out _ (List.getElem_mem hlt)).keep HO.out.bel
      have HSM : Hid (Small o) := by rw [ho.out]; exact HFEW.out.2 _ (List.getElem_mem hlt)
      have HK : Hid (k < os.length) := hlt
      clear hc ho
      go_wp2_with (refine wp_var (o1 := ⟨some 53, _, _, _, _, _⟩) OT 23 o.vals zeroO rfl rfl rfl rfl rfl rfl rfl (by rfl) (by rfl) isAggO sizeO o.len rfl HOF.out.one (kAllocO _) HCE.out ?_)
      intro w2 hv2 hb2
      obtain ⟨b, hb⟩ : ∃ b, Hid (b = wr.heap.size) := ⟨_, rfl⟩
      rw [← hb.out] at hv2 ⊢
      have t2 : Turn (fun _ => False) wr w2 := Turn.of_below hb2.out
      have HO2 := Lib.hid (HO.out.still t2)
      have HPK : Hid (∀ W, Turn (fun _ => False) w2 W → ∀ j v, o.pk.cells.toList[j]? = some v → W.cell? ((⟨b, 5, none⟩ : Addr).add j) = some v) := fun W t j v hj => by
        refine t.cell ?_ (fun h => h)
        rw [Addr.add_mid, cell_heap hv2.out]
        show (o.vals.toArray)[5 + j]? = some v
        rw [List.getElem?_toArray, o.pk_at]
        exact hj
      have c0 : w2.cell? ⟨b, 0, none⟩ = some (.int .i64 o.call) := cell_heap hv2.out
      have c1 : w2.cell? ⟨b, 1, none⟩ = some (.string o.msg.topic) := cell_heap hv2.out
      have c2 : w2.cell? ⟨b, 2, none⟩ = some (.string o.msg.pay) := cell_heap hv2.out
      have c3 : w2.cell? ⟨b, 3, none⟩ = some (.int .i64 o.msg.qos) := cell_heap hv2.out
      have c4 : w2.cell? ⟨b, 4, none⟩ = some (.bool o.msg.retain) := cell_heap hv2.out
      refine wpList_nil ?_
      go_upto_region 10 with (fail)
      rename_i hKont
      refine wp_region_lit ?_
      refine st_val (.pointer (some ⟨b, 0, none⟩)) (wanted_free rfl) (by simp [execOp, go_sem, Act.put, Act.eval]) ?_
      refine st_val (.int .i64 o.call) (wanted_free rfl) (by simp [execOp, go_sem, c0, Act.put, Act.eval]) ?_
      refine wpList_nil (hKont _ _ ?_)
      simp only [Act.put, List.setIfInBounds_toArray, List.set_cons_zero, List.set_cons_succ]
      go_cut [11, 12, 13, 14, 15, 16, 17] from 44 to 223 (fun _ _ _ _ _ _ _ wx => Hid (∃ T x, Own w wx T s x ∧ x.win = a0 ∧ x.que = a1))
      case first =>
        clear hk hk200
        by_cases h0 : o.call = 0
        · have b0 : (o.call == 0) = true := by simpa using h0
          clear h0
          go_wp2_with (fail)
          refine (own_push w w2 HT.out T s x HO2.out o.msg HSM.out.1).mono ?_
          rintro e w3 ⟨rfl, T3, hO3, _⟩
          have HO3 := Lib.hid hO3
          clear hO3
          go_wp2_with (fail)
          go_meet
          case rel => exact ⟨T3, _, HO3.out, by rw [(push_same x o.msg).1]; exact HXW.out, by rw [(push_same x o.msg).2.2.2]; exact HXQ.out⟩
        have b0 : (o.call == 0) = false := by simpa using h0
        by_cases h1 : o.call = 1
        · have b1 : (o.call == 1) = true := by simpa using h1
          clear h0 h1
          go_wp2_with (fail)
          refine (own_next w w2 T s x HO2.out).mono ?_
          rintro e w3 ⟨A3, n3, c3, T3, rfl, _, _, hO3, _⟩
          have HO3 := Lib.hid hO3
          clear hO3
          go_wp2_with (fail)
          go_meet
          case rel => exact ⟨T3, _, HO3.out, by rw [(next_win x).1]; exact HXW.out, by rw [(next_win x).2]; exact HXQ.out⟩
        have b1 : (o.call == 1) = false := by simpa using h1
        by_cases h2 : o.call = 2
        case neg =>
          have b2 : (o.call == 2) = false := by simpa using h2
          clear h0 h1 h2
          go_wp2_with (fail)
          go_meet
          case rel => exact ⟨T, x, HO2.out, HXW.out, HXQ.out⟩
        have b2 : (o.call == 2) = true := by simpa using h2
        clear h0 h1 h2
        go_wp2_with (fail)
        refine (own_again w w2 T s x HO2.out).mono ?_
        rintro e w3 ⟨⟨A3, n3, c3, T3, rfl, hP3, _, hO3, _⟩, ht3⟩
        obtain rfl := hP3.len
        have HO3 := Lib.hid hO3
        have P3 := Lib.hid hP3
        have HPK3 := Lib.hid (HPK.out w3 ht3)
        clear hO3 hP3 ht3
        go_wp2_with (refine wp_load_pkA (o := ⟨some 76, _, _, _, _, _⟩) (p := o.pk) rfl rfl rfl HPK3.out ?_)
        refine (own_take w w3 T3 s x HO3.out o.pk).mono ?_
        have hta := take_again x o.pk.ty o.pk.id
        have htw := take_win x o.pk.ty o.pk.id
        generalize hx' : (x.take o.pk.ty o.pk.id).1 = x' at *
        generalize (x.take o.pk.ty o.pk.id).2.1 = ps at *
        generalize (x.take o.pk.ty o.pk.id).2.2 = cd at *
        clear hx'
        rintro e w4 ⟨A4, n4, c4, T4, rfl, _, _, hO4, hm4⟩
        have HTA := Lib.hid hta
        have HTW := Lib.hid htw
        have HO4 := Lib.hid hO4
        have P4 := Lib.hid (HO3.out.prow hm4 P3.out)
        clear hta htw hO4 hm4
        go_wp2_with (fail)
        refine (own_again w w4 T4 s x' HO4.out).mono ?_
        rintro e w5 ⟨⟨A5, n5, c5, T5, rfl, hP5, _, hO5, _⟩, ht5⟩
        obtain rfl := hP5.len
        have HO5 := Lib.hid hO5
        have Q5 := Lib.hid hP5
        have P5 := Lib.hid (P4.out.still ht5)
        have hl16 : (x.again.length : Int) ≤ 16 := by have := again_len HO.out.inv; omega
        have hl16' : (x'.again.length : Int) ≤ 16 := by have := again_len HO5.out.inv; omega
        clear hO5 hP5 ht5
        go_upto_region 19 with (fail)
        go_cut [103] from 85 to 103 (fun v wx => v = .bool false ∧ Hid (Turn (fun _ => False) w5 wx))
        case first =>
          rcases HTA.out with ⟨hcd, hle, _⟩ | ⟨hcd, hxx⟩
          · subst hcd
            have hd : decide (x.again.length < x'.again.length) = false := decide_eq_false (by omega)
            clear hle
            go_wp2_with (fail)
            go_meet
            case rel => exact ⟨rfl, Turn.refl _ _⟩
          · subst hcd
            subst hxx
            go_wp2_with (fail)
            refine (rows_eq w5 A3 A5 _ _ c3 c5 x'.again P5.out Q5.out (bare_again _) (by omega)).mono ?_
            rintro e w6 ⟨rfl, hb6⟩
            go_wp2_with (fail)
            go_meet
            case rel => exact ⟨rfl, Turn.of_below hb6⟩
        case rest =>
          obtain ⟨rfl, hcut⟩ := hcut
          have HALL : Hid (x'.again.length = x.again.length → ∀ i (h : i < x.again.length) (h' : i < x'.again.length), (x.again[i].ty = 6 → x'.again[i].ty = 6) ∧ x.again[i].id = x'.again[i].id) := by
            rcases HTA.out with ⟨_, _, h⟩ | ⟨_, h⟩
            · exact h
            · subst h
              exact fun _ i h h' => ⟨fun h => h, rfl⟩
          go_wp2_with (fail)
          go_loopw [17] (fun iv wz => ∃ j : Nat, j ≤ x.again.length ∧ iv = .int .i64 j ∧ Hid (Turn (fun _ => False) w5 wz)) (fun iv _ => x.again.length - (intOf iv).toNat)
          case atStart => exact ⟨0, Nat.zero_le _, rfl, hcut.out⟩
          case round =>
            obtain ⟨j, hj, rfl, hz⟩ := hrel
            have hj16 : (j : Int) ≤ 16 := by omega
            by_cases heq : x'.again.length = x.again.length
            · have hbe : ((x'.again.length : Int) == (x.again.length : Int)) = true := by rw [heq]; simp
              by_cases hjl : j < x.again.length
              · obtain ⟨g3, o3, rfl, hc3⟩ := (P5.out.still hz.out).at hjl
                obtain ⟨g5, o5, rfl, hc5⟩ := (Q5.out.still hz.out).at (k := j) (by omega)
                obtain ⟨h6, hid⟩ := HALL.out heq j hjl (by omega)
                obtain ⟨p, hp⟩ : ∃ p, Hid (p = x.again[j]'hjl) := ⟨_, rfl⟩
                have hj' : j < x'.again.length := by omega
                obtain ⟨q, hq⟩ : ∃ q, Hid (q = x'.again[j]'hj') := ⟨x'.again[j]'hj', rfl⟩
                rw [← hp.out] at hc3 h6 hid
                rw [← hq.out] at hc5 h6 hid
                have k0 : wr.cell? ⟨g3, o3 + j * 18, none⟩ = some (.int .i64 p.ty) := hc3 0 _ rfl
                have k2 := hc3 2 (.int .i64 p.id) rfl
                have l0 : wr.cell? ⟨g5, o5 + j * 18, none⟩ = some (.int .i64 q.ty) := hc5 0 _ rfl
                have l2 := hc5 2 (.int .i64 q.id) rfl
                have bid : (p.id != q.id) = false := by simpa using hid
                have HJ : Hid (j < x.again.length) := hjl
                clear hc3 hc5 hp hq hid
                by_cases hty : p.ty = 6
                · have bt : (p.ty == 6) = true := by simpa using hty
                  have bt' : (q.ty != 6) = false := by simpa using h6 hty
                  clear h6 hty
                  go_wp2_with (fail)
                  go_quiet (fail)
                  go_wp2_with (fail)
                  go_roundw
                  case rel => exact ⟨j + 1, HJ.out, by go_num, hz.out.drewN _⟩
                  case measure => have := HJ.out; simp [intOf]; omega
                · have bt : (p.ty == 6) = false := by simpa using hty
                  clear h6 hty
                  go_wp2_with (fail)
                  go_quiet (fail)
                  go_wp2_with (fail)
                  go_roundw
                  case rel => exact ⟨j + 1, HJ.out, by go_num, hz.out.drewN _⟩
                  case measure => have := HJ.out; simp [intOf]; omega
              · go_wp2_with (fail)
                go_meet
                case rel => exact ⟨T5, x', HO5.out.still hz.out, by rw [HTW.out.1]; exact HXW.out, by rw [HTW.out.2]; exact HXQ.out⟩
            · have hbe : ((x'.again.length : Int) == (x.again.length : Int)) = false := by simp; omega
              by_cases hjl : j < x.again.length
              · go_wp2_with (fail)
                go_meet
                case rel => exact ⟨T5, x', HO5.out.still hz.out, by rw [HTW.out.1]; exact HXW.out, by rw [HTW.out.2]; exact HXQ.out⟩
              · go_wp2_with (fail)
                go_meet
                case rel => exact ⟨T5, x', HO5.out.still hz.out, by rw [HTW.out.1]; exact HXW.out, by rw [HTW.out.2]; exact HXQ.out⟩
      case rest =>
        obtain ⟨T', y, hOy, hyw, hyq⟩ := hcut.out
        have HY := Lib.hid hOy
        have HYW := Lib.hid hyw
        have HYQ := Lib.hid hyq
        clear hOy hyw hyq hcut c0 c1 c2 c3 c4 hv2 hb2 t2
        clear HO HXW HXQ HO2
        go_wp2_with (fail)
        refine (count_calls _ T' s y HY.out.obj).mono ?_
        rw [show y.ways.length = y.again.length by simp [St.again]]
        rintro e w6 ⟨rfl, ht6⟩
        have HY6 := Lib.hid (HY.out.still ht6)
        clear ht6
        go_wp2_with (fail)
        refine (own_again w w6 T' s y HY6.out).mono ?_
        rintro e w7 ⟨⟨A7, n7, c7, T7, rfl, hP7, _, hO7, _⟩, _⟩
        obtain rfl := hP7.len
        have HO7 := Lib.hid hO7
        have P7 := Lib.hid hP7
        have hl16 : (y.again.length : Int) ≤ 16 := by have := again_len hO7.inv; omega
        have HID := Lib.hid (again_ids hO7.inv hO7.obj.nodup.1 hO7.obj.nodup.2)
        have dq : decide (a1 < ((y.wait.length : Nat) : Int)) = false := decide_eq_false (by have h1 := hO7.inv.wait; rw [HYQ.out] at h1; omega)
        have dw : decide (a0 < ((y.again.length : Nat) : Int)) = false := decide_eq_false (by
          have h1 := hO7.inv.ways; rw [HYW.out] at h1
          have h2 : y.again.length = y.ways.length := by simp [St.again]
          omega)
        clear hO7 hP7
        go_wp2_with (fail)
        go_loopw [22, 23] (fun iv _ wz => ∃ j : Nat, j ≤ y.again.length ∧ iv = .int .i64 j ∧ Hid (Turn (fun _ => False) w7 wz)) (fun iv _ _ => y.again.length - (intOf iv).toNat)
        case atStart => exact ⟨0, Nat.zero_le _, rfl, Turn.refl _ _⟩
        case round =>
          obtain ⟨j, hj, rfl, hz⟩ := hrel
          have hj16 : (j : Int) ≤ 16 := by omega
          by_cases hjl : j < y.again.length
          · obtain ⟨g3, o3, rfl, hc3⟩ := (P7.out.still hz.out).at hjl
            obtain ⟨p, hp⟩ : ∃ p, Hid (p = y.again[j]'hjl) := ⟨_, rfl⟩
            have hpi := HID.out.1 j hjl
            rw [← hp.out] at hc3 hpi
            have k0 : wr.cell? ⟨g3, o3 + j * 18, none⟩ = some (.int .i64 p.ty) := hc3 0 _ rfl
            have k1 := hc3 1 (.bool p.dup) rfl
            have k2 := hc3 2 (.int .i64 p.id) rfl
            have d1 : decide (p.id < 1) = false := decide_eq_false (by omega)
            have d2 : decide (65535 < p.id) = false := decide_eq_false (by omega)
            have h3 := hpi.2.2
            have HJ : Hid (j < y.again.length) := hjl
            have HZ := Lib.hid hz.out
            clear hc3 hpi hz
            have hcase : Hid ((p.ty == 3) = false ∨ ((p.ty == 3) = true ∧ p.dup = true)) := by
              by_cases h : p.ty = 3
              · exact .inr ⟨by simpa using h, h3 h⟩
              · exact .inl (by simpa using h)
            clear h3
            go_upto_region 33 with (fail)
            go_cut [207] from 178 to 207 (fun v wx => v = .bool false ∧ Hid (wx = wr))
            case first =>
              rcases hcase.out with b3 | ⟨b3, bd⟩
              · go_wp2_with (fail)
                go_meet
                case rel => exact ⟨rfl, rfl⟩
              · rw [bd] at k1
                go_wp2_with (fail)
                go_meet
                case rel => exact ⟨rfl, rfl⟩
            case rest =>
              obtain ⟨rfl, hcut⟩ := hcut
              have hcw := hcut.out
              subst hcw
              go_wp2_with (fail)
              go_loopw [23] (fun iv wz => ∃ i : Nat, i ≤ j ∧ iv = .int .i64 i ∧ Hid (Turn (fun _ => False) w7 wz)) (fun iv _ => j - (intOf iv).toNat)
              case atStart => exact ⟨0, Nat.zero_le _, rfl, HZ.out⟩
              case round =>
                obtain ⟨i, hi, rfl, hz⟩ := hrel
                have hi16 : (i : Int) ≤ 16 := by omega
                by_cases hil : i < j
                · obtain ⟨g4, o4, e4, hc4⟩ := (P7.out.still hz.out).at (k := i) (by omega)
                  obtain ⟨g5, o5, e5, hc5⟩ := (P7.out.still hz.out).at (k := j) hjl
                  have hne := HID.out.2 i j (by omega) hjl hil
                  have hi' : i < y.again.length := by omega
                  obtain ⟨q, hq⟩ : ∃ q, Hid (q = y.again[i]'hi') := ⟨y.again[i]'hi', rfl⟩
                  obtain ⟨r, hr⟩ : ∃ r, Hid (r = y.again[j]'hjl) := ⟨_, rfl⟩
                  rw [← hq.out] at hc4 hne
                  rw [← hr.out] at hc5 hne
                  injection e4 with e4
                  injection e4 with e4 e4' _
                  subst e4 e4'
                  injection e5 with e5
                  injection e5 with e5 e5' _
                  subst e5 e5'
                  have m2 := hc4 2 (.int .i64 q.id) rfl
                  have m3 := hc5 2 (.int .i64 r.id) rfl
                  have bne : (q.id == r.id) = false := by simpa using hne
                  have HI : Hid (i < j) := hil
                  have hjl2 : j < y.again.length := hjl
                  clear hc4 hc5 hne hq hr k0 k1 k2
                  go_wp2_with (fail)
                  go_quiet (fail)
                  go_wp2_with (fail)
                  go_roundw
                  case rel => exact ⟨i + 1, HI.out, by go_num, hz.out.drewN _⟩
                  case measure => have := HI.out; simp [intOf]; omega
                · go_wp2_with (fail)
                  go_roundw
                  case rel => exact ⟨j + 1, HJ.out, by go_num, hz.out⟩
                  case measure => have := HJ.out; simp [intOf]; omega
          · go_wp2_with (fail)
            go_roundw
            case rel => exact ⟨k + 1, HK.out, by go_num, T7, y, HO7.out.still hz.out, HYW.out, HYQ.out⟩
            case measure => have := HK.out; simp [intOf]; omega
    · clear hk hk200
      go_wp2_with (fail)
      refine (awake_calls wr (HO.out.tabs HT.out)).mono ?_
      rintro e w8 ⟨rfl, hb8⟩
      go_wp2_with (fail)
      go_ret
      exact ⟨rfl, (HO.out.still (Turn.of_below hb8)).bel⟩
end Snd
end Go.Proofs.YtonemmdipmohgaaDoor

/- ReceiverMeets: over a line that loses packets all is handed on once, in order. -/
import Derived.Test.YtonemmdipmohgaaDoorRcJ
namespace Go.Proofs.YtonemmdipmohgaaDoor
open Go.RowKit Go.ChangeShapes
set_option linter.unusedVariables false
set_option linter.unusedSimpArgs false
namespace Rcv
open Pk Str Snd
open Ref (MayIn may_calls)

theorem wp_load_pkB {ops : Array Oper} {rest : List Oper} {o : Oper} {a : Act} {W : World} {Q : Exit → Act → World → Prop} {x : Operand} {x0 : Addr} {p : Pkt} (hgd : o.guard = none) (ho : o.op = .load PT x) (hx : a.eval x = .pointer (some x0)) (h : ∀ j v, p.cells.toList[j]? = some v → W.cell? (x0.add j) = some v)
    (hK : wpList Tryd.prog ops Q rest (a.put o.dst (.agg p.cells)) W) : wpList Tryd.prog ops Q (o :: rest) a W :=
  st_val _ (wanted_free hgd) (rLoadRowA ho hx h) hK
set_option maxRecDepth 100000 in
set_option maxHeartbeats 8000000 in
/-- ReceiverMeets. -/
theorem meets_walk (a0 : Option Addr) (len0 cap0 : Nat) (ms : List Msg) (a1 : Option Addr) (len1 cap1 : Nat) (z1 : List Int) (w : World) (h0 : len0 = ms.length ∧ ms.length ≤ cap0) (hP : MsReads w a0 ms) (hF : ∀ y ∈ ms, MsgFit y) (w1 : IsRow .i64 w a1 len1 cap1 z1) (y1 : cap1 * 8 ≤ 140737488351232) (hT : Lib.Utf8Tabs 0 1 w) :
    Calls Tryd.prog 4 #[.slice a0 len0 cap0, .slice a1 len1 cap1] w fun e w' => e = .returned (.bool true) ∧ Below w.heap.size w w' := by
  obtain ⟨rfl, hcap⟩ := h0
  have HT := Lib.hid hT
  have HP := Lib.hid hP
  have HF := Lib.hid hF
  have HZ := Lib.hid w1.form
  clear hT hP hF w1 y1
  by_cases h40 : (40 : Int) < (ms.length : Int)
  · have d1 : decide ((40 : Int) < (ms.length : Int)) = true := decide_eq_true h40
    clear h40
    go_enter Tryd.func4, Tryd.ntmps4
    go_wp2_with (fail)
    go_ret
    exact ⟨rfl, Below.refl _ _⟩
  have d1 : decide ((40 : Int) < (ms.length : Int)) = false := decide_eq_false h40
  have HB := Lib.hid h40
  clear h40
  by_cases h200 : (200 : Int) < (len1 : Int)
  · have d2 : decide ((200 : Int) < (len1 : Int)) = true := decide_eq_true h200
    clear h200
    go_enter Tryd.func4, Tryd.ntmps4
    go_wp2_with (fail)
    go_ret
    exact ⟨rfl, Below.refl _ _⟩
  have d2 : decide ((200 : Int) < (len1 : Int)) = false := decide_eq_false h200
  have HB2 := Lib.hid h200
  clear h200
  go_enter Tryd.func4, Tryd.ntmps4
  go_wp2_with (fail)
  refine (Snd.own_new w w (Below.refl _ _) 1 64).mono ?_
  rintro e w1 (⟨_, _, _, _, s, T1, rfl, hO, _, _⟩ | ⟨hno, rfl, rfl⟩)
  case inr => exact absurd ⟨by decide, by decide, by decide, by decide⟩ hno
  have H1 := Lib.hid hO
  clear hO
  go_wp2_with (fail)
  refine (Rcv.own_new w w1 H1.out.bel).mono ?_
  rintro e w2 ⟨R, b, rfl, hO, ht, hR, hb⟩
  have HD : Hid (Duo w w2 T1 s ⟨1, 64, [], [], [], 0⟩ R b []) := ⟨H1.out.still ht, hO, fun h => by have := H1.out.lt _ h; omega, fun h => by have := H1.out.lt _ h; omega⟩
  clear hO ht hR hb H1
  go_wp2_with (fail)
  go_loopw [8] (fun iv wr => ∃ (k : Nat), k ≤ ms.length ∧ iv = .int .i64 k ∧ Hid ((∀ m ∈ ms.take k, m.qos = 2) ∧ ∃ T x, Duo w wr T s x R b [] ∧ x.win = 1 ∧ x.que = 64 ∧ x.ways = [] ∧ x.wait = ms.take k)) (fun iv _ => ms.length - (intOf iv).toNat)
  case atStart => exact ⟨0, Nat.zero_le _, rfl, by simp, T1, _, HD.out, rfl, rfl, rfl, rfl⟩
  case round =>
    clear HD
    obtain ⟨k, hk, rfl, hR⟩ := hrel
    have hk40 : (k : Int) ≤ 40 := by have := HB.out; omega
    obtain ⟨hq2, T, x, hD, hxw, hxq, hxy, hxm⟩ := hR.out
    have HQ := Lib.hid hq2
    have HD := Lib.hid hD
    have HXW := Lib.hid hxw
    have HXQ := Lib.hid hxq
    have HXY := Lib.hid hxy
    have HXM := Lib.hid hxm
    clear hD hxw hxy hxm hxq hR hq2
    by_cases hlt : k < ms.length
    · obtain ⟨x0, rfl, hc⟩ := (HP.out.keep HD.out.own.bel) k hlt
      obtain ⟨m, hm⟩ : ∃ m, Hid (m = ms[k]'hlt) := ⟨ms[k]'hlt, rfl⟩
      rw [← hm.out] at hc
      have HM : Hid (MsgFit m) := by rw [hm.out]; exact HF.out _ (List.getElem_mem hlt)
      have HTK : Hid (ms.take (k + 1) = ms.take k ++ [m]) := by
        have h1 : ms[k]? = some m := by rw [hm.out]; exact List.getElem?_eq_getElem hlt
        rw [Hid, List.take_add_one, h1]; rfl
      have HK : Hid (k < ms.length) := hlt
      have s1 : (m.topic.size : Int) ≤ 140737488351232 := by have := HM.out.1; omega
      have s2 : (m.pay.size : Int) ≤ 140737488351232 := by have := HM.out.2; omega
      have s3 : ((m.topic.size : Int) + m.pay.size) ≤ 281474976702464 := by omega
      have e1 : wr.cell? ⟨(x0.add (k * 4)).block, (x0.add (k * 4)).off + 1, none⟩ = some (.string m.pay) := hc 1 _ rfl
      have e2 : wr.cell? ⟨(x0.add (k * 4)).block, (x0.add (k * 4)).off + 2, none⟩ = some (.int .i64 m.qos) := hc 2 _ rfl
      have e3 : wr.cell? ⟨(x0.add (k * 4)).block, (x0.add (k * 4)).off + 3, none⟩ = some (.bool m.retain) := hc 3 _ rfl
      have e0' : wr.cell? (x0.add (k * 4)) = some (.string m.topic) := by
        have := hc 0 _ rfl
        simpa [Addr.add] using this
      clear hc
      by_cases hsz : (300 : Int) < (m.topic.size : Int) + (m.pay.size : Int)
      · have d3 : decide ((300 : Int) < (m.topic.size : Int) + (m.pay.size : Int)) = true := decide_eq_true hsz
        clear hsz
        go_wp2_with (fail)
        go_quiet (fail)
        go_wp2_with (fail)
        go_ret
        exact ⟨rfl, (HD.out.own.still (Turn.drewN (Turn.refl _ _) _)).bel⟩
      · have d3 : decide ((300 : Int) < (m.topic.size : Int) + (m.pay.size : Int)) = false := decide_eq_false hsz
        have HS : Hid (m.topic.size + m.pay.size ≤ 300) := by rw [Hid]; omega
        clear hsz
        by_cases hq : m.qos = 2
        · have HQ2 := Lib.hid hq
          have hqb : (m.qos == 2) = true := by rw [hq]; rfl
          have hqn : (m.qos != 2) = false := by rw [hq]; rfl
          clear hq
          go_wp2_with (fail)
          go_quiet (fail)
          go_wp2_with (fail)
          have HDN := Lib.hid (HD.out.still (Turn.drewN (Turn.refl (fun _ => False) wr) nq))
          have hroom : Hid ((x.wait.length : Int) < x.que) := by
            rw [Hid, HXQ.out, HXM.out, List.length_take]; omega
          refine (own_push w _ HT.out T s x HDN.out.own m HS.out).mono ?_
          have HPU := Lib.hid (push3 (m := m) hroom.out)
          intro e w3 hpost
          rcases HPU.out with ep | ep
          · rw [ep] at hpost
            simp only at hpost
            obtain ⟨rfl, T3, hO3, hm3⟩ := hpost
            have H3 := Lib.hid hO3
            clear hO3 hm3 ep HPU e0' e1 e2 e3
            go_wp2_with (fail)
            refine (Rcv.awake_calls w3 (H3.out.tabs HT.out)).mono ?_
            rintro e w4 ⟨rfl, hb⟩
            go_wp2_with (fail)
            go_ret
            exact ⟨rfl, (H3.out.still (Turn.of_below hb)).bel⟩
          · rw [ep] at hpost
            simp only at hpost
            obtain ⟨rfl, T3, hO3, hm3⟩ := hpost
            have H3 := Lib.hid (HDN.out.move hO3 hm3)
            clear hO3 hm3 ep HPU e0' e1 e2 e3
            go_wp2_with (fail)
            go_roundw
            case rel =>
              refine ⟨k + 1, HK.out, by go_num, fun m' hm' => ?_, T3, _, H3.out, HXW.out, HXQ.out, HXY.out, ?_⟩
              · rw [HTK.out] at hm'
                rcases List.mem_append.1 hm' with h | h
                · exact HQ.out _ h
                · rw [List.mem_singleton.1 h]; exact HQ2.out
              · show x.wait ++ [m] = _
                rw [HXM.out, HTK.out]
            case measure => have := HK.out; simp [intOf]; omega
        · have hqb : (m.qos == 2) = false := by simpa using hq
          have hqn : (m.qos != 2) = true := by simpa using hq
          clear hq
          go_wp2_with (fail)
          go_quiet (fail)
          go_wp2_with (fail)
          go_ret
          exact ⟨rfl, (HD.out.own.still (Turn.drewN (Turn.refl _ _) _)).bel⟩
    · go_wp2_with (fail)
      have HTA : Hid (ms.take k = ms) := by rw [Hid]; exact List.take_of_length_le (by omega)
      have HALL : Hid (∀ m ∈ ms, m.qos = 2) := fun m hm => HQ.out m (by rw [HTA.out]; exact hm)
      have HRUN : Hid (RunM w wr s R b ms 0 0 (.slice none 0 0) [] (.slice none 0 0) []) := ⟨T, x, [], 0, HD.out, Meet.new HXW.out HALL.out HXY.out (by rw [HXM.out, HTA.out]), by simp, by have := mu_le HD.out.own.inv HXY.out; omega, mu_le HD.out.own.inv HXY.out, ⟨Mid.nil _ _ _ _, fun k hk => by cases hk⟩, fun h => absurd rfl h, by simp, PRow.nil _, fun k hk => by cases hk⟩
      clear hlt hk hk40 HQ HD HXW HXQ HXY HXM HTA
      go_loopw [11, 12, 13] (fun gv av nv wz => ∃ (n at_ : Nat) (G : List Msg) (AG : Option Addr) (cG : Nat), n ≤ 240 ∧ at_ ≤ 456 ∧ nv = .int .i64 n ∧ av = .int .i64 at_ ∧ gv = .slice AG G.length cG ∧ Hid (RunM w wz s R b ms n at_ (.slice AG G.length cG) G (.slice none 0 0) [])) (fun _ _ nv _ => 600 - (intOf nv).toNat)
      case atStart => exact ⟨0, 0, [], none, 0, by omega, by omega, rfl, rfl, rfl, HRUN.out⟩
      case round =>
        clear HRUN
        obtain ⟨n, at_, G, AG, cG, hn240, hat456, rfl, rfl, rfl, hS⟩ := hrel
        obtain ⟨T3, x3, L3, d3, hD, hM, hnd, hamu, hmu, hW, _, _, _, _⟩ := hS.out
        have HD := Lib.hid hD
        have HM := Lib.hid hM
        have HND := Lib.hid hnd
        have HAM := Lib.hid hamu
        have HMU := Lib.hid hmu
        have HW := Lib.hid hW
        have hn : (n : Int) ≤ 240 := by omega
        have hn6 : (n : Int) < 600 := by omega
        have hat : (at_ : Int) ≤ 456 := by omega
        clear hD hM hnd hamu hmu hW hS
        go_wp2_with (fail)
        refine (duo_next w wr T3 s x3 R b L3 HD.out).mono ?_
        rintro e w2 ⟨A2, c2, T2, rfl, hP2, hlo2, hD2, hm2⟩
        obtain ⟨hM2, hps1, hline, hempty, hways⟩ := meet_next HM.out hD2.own.inv
        have hf2 := fine_next x3
        have hmu2 := mu_next x3
        generalize x3.next.1 = x at *
        generalize x3.next.2 = ps at *
        have P2 := Lib.hid hP2
        have LO2 := Lib.hid hlo2
        have D2 := Lib.hid hD2
        have HM2 := Lib.hid hM2
        have HPS1 := Lib.hid hps1
        have HLINE := Lib.hid hline
        have HEMP := Lib.hid hempty
        have HWYS := Lib.hid hways
        have HF2 := Lib.hid hf2
        have HMU2 := Lib.hid hmu2
        have W2 := Lib.hid (HW.out.move hm2)
        clear hP2 hlo2 hD2 hm2 hM2 hps1 hline hempty hways hf2 hmu2 HD HM HW
        go_wp2_with (fail)
        refine (duo_again w w2 T2 s x R b L3 D2.out).mono ?_
        rintro e w3 ⟨A3, c3, rfl, hP3, hlo3, hD3, ht3⟩
        have P3 := Lib.hid hP3
        have LO3 := Lib.hid hlo3
        have D3 := Lib.hid hD3
        have P23 := Lib.hid (P2.out.still ht3)
        have W3 := Lib.hid (W2.out.still ht3)
        have HAL : Hid (x.again.length = x.ways.length) := by rw [Hid]; unfold St.again; exact List.length_map _
        have HWL : Hid (x.ways.length ≤ 1) := by
          have h1 := D3.out.own.inv.ways
          rw [HM2.out.win] at h1
          rw [Hid]; omega
        clear hP3 hlo3 hD3 ht3 P2 D2 W2
        go_upto_if 108 with (fail)
        go_cut [14] from 109 to 109 (fun lv wx => ∃ (AL : Option Addr) (cL : Nat) (ln : List Pkt), lv = .slice AL ln.length cL ∧ Hid (wx = w3 ∧ PRow w3 (.slice AL ln.length cL) ln ∧ (∀ k, (Value.slice AL ln.length cL).ownBlock = some k → w.heap.size ≤ k) ∧ ln.length ≤ 1 ∧ (ln ≠ [] → Line x ln) ∧ (∀ p ∈ ln, Fine p) ∧ (ln = [] → x.ways = [] ∧ x.wait = [])))
        case first =>
          by_cases he : ps.length = 0
          · have hbe : ((ps.length : Int) == 0) = true := by rw [he]; rfl
            clear he
            go_wp2_with (fail)
            go_meet
            case rel => exact ⟨A3, c3, x.again, rfl, rfl, P3.out, LO3.out, by have h1 := HAL.out; have h2 := HWL.out; omega, fun _ => Line.again x, fine_again x, fun h0 => by
              have h1 := HAL.out
              rw [h0] at h1
              have h2 : x.ways = [] := List.eq_nil_of_length_eq_zero h1.symm
              exact ⟨h2, HEMP.out h2⟩⟩
          · have hbe : ((ps.length : Int) == 0) = false := beq_eq_false_iff_ne.2 (by omega)
            have HNE := Lib.hid he
            clear he
            go_wp2_with (fail)
            go_meet
            case rel => exact ⟨A2, c2, ps, rfl, rfl, P23.out, LO2.out, HPS1.out, HLINE.out, HF2.out, fun h0 => absurd (by rw [h0]; rfl) HNE.out⟩
        case rest =>
          obtain ⟨AL, cL, ln, rfl, hcut⟩ := hcut
          obtain ⟨hwx, hPL, hLO, hl1, hLN, hFN, hEM⟩ := hcut.out
          subst hwx
          have PL := Lib.hid hPL
          have HLO := Lib.hid hLO
          have HL1 := Lib.hid hl1
          have HLN := Lib.hid hLN
          have HFN := Lib.hid hFN
          have HEM := Lib.hid hEM
          clear hPL hLO hl1 hLN hFN hEM hcut P3 LO3 P23 LO2 HPS1 HLINE HF2 HEMP HWYS HAL
          by_cases he : ln.length = 0
          · have hbe : ((ln.length : Int) == 0) = true := by rw [he]; rfl
            obtain ⟨hy0, hw0⟩ := HEM.out (List.eq_nil_of_length_eq_zero he)
            obtain ⟨hL0, hG0⟩ := HM2.out.fin hy0 hw0
            rw [hG0] at W3 ⊢
            rw [hL0] at D3
            have hm40 : (ms.length : Int) ≤ 40 := by have := HB.out; omega
            clear he hy0 hw0 hL0 hG0 HM2 PL HLO HLN HFN HEM HND HAM HMU HMU2 HWL hat hn hn6 hat456 hn240
            go_wp2_with (fail)
            go_loopw [24] (fun iv wz => ∃ i : Nat, i ≤ ms.length ∧ iv = .int .i64 i ∧ Hid (Turn (fun _ => False) wc wz)) (fun iv _ => ms.length - (intOf iv).toNat)
            case atStart => exact ⟨0, Nat.zero_le _, rfl, Turn.refl _ _⟩
            case round =>
              obtain ⟨i, hi, rfl, hz⟩ := hrel
              have hi40 : (i : Int) ≤ 40 := by omega
              by_cases hil : i < ms.length
              · obtain ⟨x0, rfl, hc⟩ := (HP.out.keep (D3.out.still hz.out).own.bel) i hil
                obtain ⟨gw, ow, rfl, hcw⟩ := (W3.out.still hz.out).at hil
                obtain ⟨m, hm⟩ : ∃ m, Hid (m = ms[i]'hil) := ⟨ms[i]'hil, rfl⟩
                rw [← hm.out] at hc hcw
                have e1 : wr.cell? ⟨(x0.add (i * 4)).block, (x0.add (i * 4)).off + 1, none⟩ = some (.string m.pay) := hc 1 _ rfl
                have e2 : wr.cell? ⟨(x0.add (i * 4)).block, (x0.add (i * 4)).off + 2, none⟩ = some (.int .i64 m.qos) := hc 2 _ rfl
                have e3 : wr.cell? ⟨(x0.add (i * 4)).block, (x0.add (i * 4)).off + 3, none⟩ = some (.bool m.retain) := hc 3 _ rfl
                have e0' : wr.cell? (x0.add (i * 4)) = some (.string m.topic) := by
                  have := hc 0 _ rfl
                  simpa [Addr.add] using this
                have m0 : wr.cell? ⟨gw, ow + i * 4, none⟩ = some (.string m.topic) := hcw 0 _ rfl
                have m1 := hcw 1 (.string m.pay) rfl
                have m2 := hcw 2 (.int .i64 m.qos) rfl
                have m3 := hcw 3 (.bool m.retain) rfl
                have HI : Hid (i < ms.length) := hil
                clear hc hcw hm
                go_wp2_with (fail)
                go_quiet (fail)
                go_wp2_with (fail)
                go_roundw
                case rel => exact ⟨i + 1, HI.out, by go_num, hz.out.drewN _⟩
                case measure => have := HI.out; simp [intOf]; omega
              · have D4 := Lib.hid (D3.out.still hz.out)
                go_wp2_with (fail)
                refine (Rcv.awake_calls wr (D4.out.own.tabs HT.out)).mono ?_
                rintro e w5 ⟨rfl, hb5⟩
                have D5 := Lib.hid (D4.out.still (Turn.of_below hb5))
                clear hb5
                go_wp2_with (fail)
                refine (own_held w w5 R b [] D5.out.rcv).mono ?_
                rintro e w6 ⟨⟨A6, n6, c6, rfl, S, rfl, hS, hperm, _, _⟩, hO, ht⟩
                obtain rfl : S = [] := List.perm_nil.1 hperm
                go_wp2_with (fail)
                go_ret
                exact ⟨rfl, hO.bel⟩
          · have hbe : ((ln.length : Int) == 0) = false := beq_eq_false_iff_ne.2 (by omega)
            have HNE := Lib.hid he
            clear he
            have HRUN : Hid (RunM w wc s R b ms (n + 1) at_ (.slice AG G.length cG) G (.slice AL ln.length cL) ln) := ⟨T2, x, L3, d3, D3.out, HM2.out, by have h1 := HND.out; have h2 := HNE.out; simp only [List.length_nil] at h1; omega, by have h1 := HAM.out; have h2 := HMU2.out; omega, by have h1 := HMU.out; have h2 := HMU2.out; omega, W3.out, HLN.out, HFN.out, PL.out, HLO.out⟩
            clear HND HAM HMU HMU2 D3 HM2 W3 HLN HFN PL HLO HEM HWL HNE
            go_wp2_with (fail)
            go_loopw [11, 12, 14] (fun gv av lv wz => ∃ (at2 : Nat) (G2 : List Msg) (AG2 : Option Addr) (cG2 : Nat) (l2 : List Pkt) (AL2 : Option Addr) (cL2 : Nat), at2 ≤ 456 ∧ av = .int .i64 at2 ∧ gv = .slice AG2 G2.length cG2 ∧ lv = .slice AL2 l2.length cL2 ∧ Hid (RunM w wz s R b ms (n + 1) at2 (.slice AG2 G2.length cG2) G2 (.slice AL2 l2.length cL2) l2)) (fun _ av _ _ => 1000 - (intOf av).toNat)
            case atStart => exact ⟨at_, G, AG, cG, ln, AL, cL, hat456, rfl, rfl, rfl, HRUN.out⟩
            case round =>
              clear HRUN hat hat456 hbe
              obtain ⟨at2, G2, AG2, cG2, l2, AL2, cL2, hat456, rfl, rfl, rfl, hS⟩ := hrel
              have hat : (at2 : Int) ≤ 456 := by omega
              have HS := hS
              obtain ⟨T4, x4, L4, d4, hD, hM, hnd, hamu, hmu, hW, hline, hfine, hP, hlo⟩ := hS.out
              have HND := Lib.hid hnd
              have HM4 := Lib.hid hM
              have HD4 := Lib.hid hD
              by_cases he : l2.length = 0
              · have hle : decide ((0 : Int) < (l2.length : Int)) = false := by rw [he]; rfl
                have hln : decide (0 < l2.length) = false := by rw [he]; rfl
                have hn2 : Hid (n + 1 ≤ d4 + min at2 200 ∧ n + 1 ≤ 240) := by
                  have h1 := HND.out; have h2 := HM4.out.le; have h3 := HB.out
                  rw [he] at h1
                  rw [Hid]; omega
                have HW4 := Lib.hid hW
                have HAM := Lib.hid hamu
                have HMU := Lib.hid hmu
                clear he hD hM hnd hamu hmu hW hline hfine hP hlo hS HS
                go_wp2_with (fail)
                go_roundw
                case rel => exact ⟨n + 1, at2, G2, AG2, cG2, hn2.out.2, hat456, by go_num, rfl, rfl, T4, x4, L4, d4, HD4.out, HM4.out, by have := hn2.out.1; simp only [List.length_nil]; omega, HAM.out, HMU.out, HW4.out, fun h => absurd rfl h, by simp, PRow.nil _, fun k hk => by cases hk⟩
                case measure => simp [intOf]; omega
              · obtain ⟨p, l6, rfl⟩ : ∃ p l6, l2 = p :: l6 := List.exists_cons_of_length_pos (by omega)
                have hL := hline (by simp)
                obtain ⟨hl6, hMay, on, L5, hrc, hM5, htk, hLT, hmuT, d5, hM6, hd5⟩ := meet_take hM hD.own.inv hD.own.obj.nodup.1 hD.own.obj.nodup.2 hL (hfine p (by simp))
                subst hl6
                have HFP : Hid (Fine p) := hfine p (by simp)
                have HMAY := Lib.hid hMay
                have HRC := Lib.hid hrc
                have HM5 := Lib.hid hM5
                have HTK := Lib.hid htk
                have HLT := Lib.hid hLT
                have HMT := Lib.hid hmuT
                have HM6 := Lib.hid hM6
                have HD5 := Lib.hid hd5
                have HAM := Lib.hid hamu
                have HMU := Lib.hid hmu
                have HW4 := Lib.hid hW
                have HLO4 := Lib.hid hlo
                have HP4 := Lib.hid hP
                have HBP : Hid (Bare p) := HFP.out.bare
                have HN1 : Hid (n + 1 ≤ d4 + min at2 200 + 1) := HND.out
                have hcap5 : 1 ≤ cL2 := hP.cap
                obtain ⟨g5, o5, rfl, hc5⟩ := hP.at (k := 0) (by simp)
                have hc5' : ∀ j v, p.cells.toList[j]? = some v → wr.cell? ((⟨g5, o5, none⟩ : Addr).add j) = some v := fun j v hj => by
                  rw [Addr.add_mid]
                  have := hc5 j v (by simpa using hj)
                  simpa using this
                have HC5 := Lib.hid hc5'
                rw [show [p].length = 1 from rfl] at HP4 HLO4 ⊢
                clear hL hMay hrc hM5 htk hLT hmuT hM6 hd5 hD hM hnd hamu hmu hW hline hfine hP hlo hS HS hc5 hc5' he HND
                go_wp2_with (refine wp_var (o1 := ⟨some 118, _, _, _, _, _⟩) PT 18 p.cells.toList zeroC rfl rfl rfl rfl rfl rfl rfl (by rfl) (by rfl) isAggP sizeP rfl rfl (cells_one p (by rw [HBP.out.1]; rfl) (by rw [HBP.out.2.1]; rfl)) (kAllocP _) HC5.out ?_)
                intro wv hv2 hb2
                obtain ⟨v, hv⟩ : ∃ v, Hid (v = wr.heap.size) := ⟨_, rfl⟩
                rw [← hv.out] at hv2 ⊢
                have tv : Turn (fun _ => False) wr wv := Turn.of_below hb2.out
                have D6 := Lib.hid (HD4.out.still tv)
                have P6 : Hid (PRow wv (.slice (some ⟨g5, o5, none⟩) 1 cL2) [p]) := HP4.out.still tv
                have W6 := Lib.hid (HW4.out.still tv)
                have HPV : Hid (PkAt wv v p) := hv2.out
                have HVB : Hid (v ≠ b) := by
                  have h1 := hv.out; have h2 := HD4.out.rcv.at_.set.lt
                  rw [Hid]; omega
                clear tv hb2 hv2 HD4 HP4 HW4 HC5
                refine wpList_nil ?_
                go_upto_region 27 with (fail)
                go_cut [14] from 119 to 120 (fun vv wx => ∃ (A6 : Option Addr) (c6 : Nat), vv = .slice A6 0 c6 ∧ Hid (wx = wv ∧ PRow wv (.slice A6 0 c6) [] ∧ ∀ k, (Value.slice A6 0 c6).ownBlock = some k → w.heap.size ≤ k))
                case first =>
                  by_cases hc1 : cL2 = 1
                  · subst hc1
                    go_wp2_with (fail)
                    go_meet
                    case rel => exact ⟨_, _, rfl, rfl, PRow.tail1 P6.out, fun k hk => HLO4.out k hk⟩
                  · have hcb : (cL2 == 1) = false := by simpa using hc1
                    go_wp2_with (fail)
                    go_meet
                    case rel => exact ⟨_, _, rfl, rfl, PRow.tail (l := []) P6.out, fun k hk => HLO4.out k hk⟩
                case rest =>
                  obtain ⟨A6, c6, rfl, hcut⟩ := hcut
                  obtain ⟨hwx, hP6, hlo6⟩ := hcut.out
                  subst hwx
                  have PT6 := Lib.hid hP6
                  have HLO6 := Lib.hid hlo6
                  clear hcut hP6 hlo6 P6 HLO4 hcap5
                  go_upto_region 28 with (fail)
                  go_cut [12] from 121 to 122 (fun tv wx => ∃ at3 : Nat, tv = .int .i64 at3 ∧ Hid (at3 = at2 + 1) ∧ Hid (wx = wc))
                  case first =>
                    go_wp2_with (fail)
                    go_meet
                    case rel => exact ⟨at2 + 1, by go_num, rfl, rfl⟩
                  case rest =>
                    obtain ⟨at3, rfl, hat3, hwx⟩ := hcut
                    have hwx' := hwx.out
                    subst hwx'
                    have hat3' : (at3 : Int) ≤ 457 := by have := hat3.out; omega
                    clear hat hat456 hwx
                    go_upto_region 29 with (fail)
                    go_cut [134] from 123 to 134 (fun v wx => ∃ q : Bool, v = .bool q ∧ Hid (wx = wc) ∧ Hid (q = true → at3 < 200))
                    case first =>
                      by_cases hnz : at3 < len1
                      · obtain ⟨xz, rfl, hcz⟩ := HZ.out.2.2 (by omega)
                        have hcn := (hcz at3 hnz).1
                        have hcn4 : wc.cell? (xz.add at3) = some (.int .i64 (lat z1 at3)) := by
                          rw [D6.out.own.bel.cell (World.block_lt_of_cell? w _ hcn)]; exact hcn
                        have H200 : Hid (at3 < 200) := by have := HB2.out; rw [Hid]; omega
                        clear hcz hcn
                        go_wp2_with (fail)
                        go_meet
                        case rel => exact ⟨_, rfl, rfl, fun _ => H200.out⟩
                      · go_wp2_with (fail)
                        go_meet
                        case rel => exact ⟨_, rfl, rfl, fun h => by cases h⟩
                    case rest =>
                      obtain ⟨q, rfl, hcut, hq⟩ := hcut
                      have hcw := hcut.out
                      subst hcw
                      clear hcut
                      go_upto_if 134 with (fail)
                      cases q with
                      | true =>
                        have HB5 : Hid (n + 1 ≤ d4 + min at3 200 ∧ n + 1 ≤ 240 ∧ at3 + 2 * mu x4 ≤ 456 ∧ at3 ≤ 456) := by
                          have h1 := hq.out rfl; have h2 := HN1.out; have h3 := hat3.out; have h4 := HMU.out; have h5 := HM5.out.le; have h6 := HB.out
                          rw [Hid]; omega
                        go_wp2_with (fail)
                        go_roundw
                        case rel =>
                          exact ⟨n + 1, at3, G2, AG2, cG2, HB5.out.2.1, HB5.out.2.2.2, by go_num, rfl, rfl, T4, x4, L4, d4, D6.out, HM4.out, by have := HB5.out.1; simp only [List.length_nil]; omega, HB5.out.2.2.1, HMU.out, W6.out, fun h => absurd rfl h, by simp, PRow.nil _, fun k hk => by cases hk⟩
                        case measure => simp [intOf]; omega
                      | false =>
                        clear hq
                        go_wp2_with (with_reducible refine wp_load_pkt (o := ⟨some 137, _, _, _, _, _⟩) rfl rfl rfl HPV.out ?_)
                        refine (duo_rtake w wc HT.out T4 s x4 R b L4 D6.out p on (ansP p) L5 HRC.out HBP.out (fine_pay HFP.out HMAY.out)).mono ?_
                        rintro e w7 ⟨A7, c7, rfl, hP7, hD7, ht7, hK7⟩
                        have P7 := Lib.hid hP7
                        have D7 := Lib.hid hD7
                        have PT7 := Lib.hid (hK7 _ _ PT6.out)
                        have W7 := Lib.hid (want_rcv W6.out D6.out ht7)
                        have HPV7 := Lib.hid (PkAt.keep HPV.out ht7 HVB.out)
                        have hml : Hid (G2.length ≤ 40) := by
                          have h1 : G2.length ≤ ms.length := by
                            rcases HM4.out.st with ⟨_, _, e⟩ | ⟨y, _, ⟨_, _, e⟩ | ⟨_, _, e⟩ | ⟨_, _, e⟩⟩ <;> rw [e] <;> exact List.length_take_le' _ _
                          have h2 := HB.out
                          rw [Hid]; omega
                        obtain ⟨G3, hG3⟩ : ∃ G3, Hid (G3 = if on = true then G2 ++ [pmsg p] else G2) := ⟨_, rfl⟩
                        rw [← hG3.out] at HM5 HM6
                        clear hP7 hD7 ht7 hK7 PT6 W6 D6 HPV HVB HM4 HRC
                        go_upto_if 149 with (fail)
                        go_cut [11] from 150 to 154 (fun gv wx => ∃ (AG3 : Option Addr) (cG3 : Nat), gv = .slice AG3 G3.length cG3 ∧ Hid (Duo w wx T4 s x4 R b L5 ∧ Want w wx T4 (.slice AG3 G3.length cG3) G3 ∧ PRow wx (.slice A7 1 c7) [ansP p] ∧ PRow wx (.slice A6 0 c6) []))
                        case first =>
                          cases on with
                          | false =>
                            go_wp2_with (fail)
                            go_meet
                            case rel =>
                              have e3 : G3 = G2 := hG3.out
                              subst e3
                              exact ⟨AG2, cG2, rfl, D7.out, W7.out, P7.out, PT7.out⟩
                          | true =>
                            have e3 : Hid (G3 = G2 ++ [pmsg p]) := hG3.out
                            have k3 : w7.cell? ⟨v, 3, none⟩ = some (.string (pmsg p).topic) := by rw [cell_heap HPV7.out]; rfl
                            have k4 : w7.cell? ⟨v, 4, none⟩ = some (.string (pmsg p).pay) := by rw [cell_heap HPV7.out]; rfl
                            have k5 : w7.cell? ⟨v, 5, none⟩ = some (.int .i64 (pmsg p).qos) := by rw [cell_heap HPV7.out]; rfl
                            have k6 : w7.cell? ⟨v, 6, none⟩ = some (.bool (pmsg p).retain) := by rw [cell_heap HPV7.out]; rfl
                            have hlen : Hid (G2.length + 1 ≤ maxLen ∧ (G2.length + 1) * 48 ≤ 140737488355328) := by rw [Hid]; have := hml.out; simp only [maxLen]; omega
                            go_wp2_with (at_builtin; refine wp_append_mid (W := w7.alloc (.cells (pmsg p).vals.toArray MsT)) 0 rfl (.tmp 150) (.tmp 153) 40 MsT _ 4 48 rfl Tryd.underlying40 info_msg rfl (by decide) (.slice AG2 G2.length cG2) G2.length (wcells G2) rfl (W7.out.1.turn (Turn.alloc (S := fun _ => False) _ _) (fun _ _ h => h)) ⟨w7.heap.size, 0, none⟩ 1 1 (pmsg p).vals rfl (by decide) rfl (fun j u hu => lit_cells w7 MsT (pmsg p).vals _ rfl j u hu) (by simp [Msg.vals, Value.oneCell']) (Nat.zero_le _) hlen.out.1 hlen.out.2 ?_)
                            intro g9 o9 c9 w9 hM9 ht9 hl9
                            have ta : Turn (fun _ => False) w7 (w7.alloc (.cells (pmsg p).vals.toArray MsT)) := Turn.alloc _ _
                            have WA := W7.out.still ta
                            have D9 : Hid (Duo w w9 T4 s x4 R b L5) := (D7.out.still ta).got WA ht9
                            have P9 : Hid (PRow w9 (.slice A7 1 c7) [ansP p]) := (P7.out.still ta).turn ht9 (fun k hk cur hc => by
                              obtain ⟨cur', h2⟩ := WA.1.typ k hk
                              exact obj_ne h2 hc (cells_ne (by decide)) rfl)
                            have PT9 : Hid (PRow w9 (.slice A6 0 c6) []) := (PT7.out.still ta).turn ht9 (fun k hk cur hc => by
                              obtain ⟨cur', h2⟩ := WA.1.typ k hk
                              exact obj_ne h2 hc (cells_ne (by decide)) rfl)
                            have W9 : Hid (Want w w9 T4 (.slice (some ⟨g9, o9, none⟩) G3.length c9) G3) := by
                              rw [e3.out]
                              refine ⟨?_, fun k hk => ?_⟩
                              · rw [List.length_append, List.length_singleton, wcells_snoc]; exact hM9
                              · have hk' : g9 = k := Option.some.inj hk
                                subst hk'
                                rcases hl9 with h | h
                                · exact W7.out.2 _ h
                                · have h1 := D7.out.own.bel.size
                                  have h2 := ta.size
                                  refine ⟨by omega, fun hT2 => ?_⟩
                                  have := D7.out.own.lt _ hT2
                                  omega
                            have hgl : Hid (G3.length = G2.length + 1) := by rw [Hid, e3.out, List.length_append, List.length_singleton]
                            clear hM9 ht9 hl9 ta WA
                            go_wp2_with (fail)
                            go_meet
                            case rel => exact ⟨_, c9, by rw [hgl.out], D9.out, W9.out, P9.out, PT9.out⟩
                        case rest =>
                          obtain ⟨AG3, cG3, rfl, hcut⟩ := hcut
                          obtain ⟨hD8, hW8, hP8, hPT8⟩ := hcut.out
                          have D8 := Lib.hid hD8
                          have W8 := Lib.hid hW8
                          have P8 := Lib.hid hP8
                          have PT8 := Lib.hid hPT8
                          clear hD8 hW8 hP8 hPT8 hcut D7 W7 P7 PT7 HPV7
                          go_upto_region 35 with (fail)
                          go_cut [12] from 155 to 156 (fun tv wx => ∃ at4 : Nat, tv = .int .i64 at4 ∧ Hid (at4 = at3 + 1) ∧ Hid (wx = wc))
                          case first =>
                            go_wp2_with (fail)
                            go_meet
                            case rel => exact ⟨at3 + 1, by go_num, rfl, rfl⟩
                          case rest =>
                            obtain ⟨at4, rfl, hat4, hwx⟩ := hcut
                            have hwx' := hwx.out
                            subst hwx'
                            have hat4' : (at4 : Int) ≤ 458 := by have := hat4.out; omega
                            clear hwx hat3'
                            go_upto_region 36 with (fail)
                            go_cut [168] from 157 to 168 (fun v wx => ∃ q : Bool, v = .bool q ∧ Hid (wx = wc) ∧ Hid (q = true → at4 < 200))
                            case first =>
                              by_cases hnz : at4 < len1
                              · obtain ⟨xz, rfl, hcz⟩ := HZ.out.2.2 (by omega)
                                have hcn := (hcz at4 hnz).1
                                have hcn4 : wc.cell? (xz.add at4) = some (.int .i64 (lat z1 at4)) := by
                                  rw [D8.out.own.bel.cell (World.block_lt_of_cell? w _ hcn)]; exact hcn
                                have H200 : Hid (at4 < 200) := by have := HB2.out; rw [Hid]; omega
                                clear hcz hcn
                                go_wp2_with (fail)
                                go_meet
                                case rel => exact ⟨_, rfl, rfl, fun _ => H200.out⟩
                              · go_wp2_with (fail)
                                go_meet
                                case rel => exact ⟨_, rfl, rfl, fun h => by cases h⟩
                            case rest =>
                              obtain ⟨q, rfl, hcut, hq⟩ := hcut
                              have hcw := hcut.out
                              subst hcw
                              clear hcut
                              go_upto_if 168 with (fail)
                              cases q with
                              | true =>
                                have HB5 : Hid (n + 1 ≤ d4 + min at4 200 ∧ n + 1 ≤ 240 ∧ at4 + 2 * mu x4 ≤ 456 ∧ at4 ≤ 456) := by
                                  have h1 := hq.out rfl; have h2 := HN1.out; have h3 := hat3.out; have h3' := hat4.out; have h4 := HMU.out; have h5 := HM5.out.le; have h6 := HB.out
                                  rw [Hid]; omega
                                go_wp2_with (fail)
                                go_roundw
                                case rel => exact ⟨n + 1, at4, G3, AG3, cG3, HB5.out.2.1, HB5.out.2.2.2, by go_num, rfl, rfl, T4, x4, L5, d4, D8.out, HM5.out, by have := HB5.out.1; simp only [List.length_nil]; omega, HB5.out.2.2.1, HMU.out, W8.out, fun h => absurd rfl h, by simp, PRow.nil _, fun k hk => by cases hk⟩
                                case measure => simp [intOf]; omega
                              | false =>
                                clear hq
                                obtain ⟨g8, o8, rfl, hc8⟩ := P8.out.at (k := 0) (by simp)
                                have HC8 : Hid (∀ j v, (ansP p).cells.toList[j]? = some v → wc.cell? ((⟨g8, o8, none⟩ : Addr).add j) = some v) := fun j v hj => by
                                  rw [Addr.add_mid]
                                  have := hc8 j v (by simpa using hj)
                                  simpa using this
                                clear hc8
                                go_wp2_with (refine wp_load_pkB (o := ⟨some 173, _, _, _, _, _⟩) (p := ansP p) rfl rfl rfl HC8.out ?_)
                                refine (duo_take w wc T4 s x4 R b L5 D8.out (ansP p)).mono ?_
                                have HFT := Lib.hid (fine_take x4 (ansP p).ty (ansP p).id)
                                generalize x4.take (ansP p).ty (ansP p).id = r at *
                                obtain ⟨x9, ps9, cd⟩ := r
                                rintro e w9 ⟨A9, c9, T9, rfl, hP9, hD9, hm9⟩
                                have htk0 : cd = 0 := HTK.out
                                subst htk0
                                simp only at HFT HLT HMT HM6 HD5 hP9 hD9
                                have D9 := Lib.hid hD9
                                have P9 := Lib.hid hP9
                                have PL9 := Lib.hid (D8.out.own.prow hm9 PT8.out)
                                have W9 := Lib.hid (W8.out.move hm9)
                                have hps9 : Hid (([] : List Pkt).length + ps9.length ≤ 100000) := by
                                  have h1 := HD5.out; have h2 := HM6.out.le; have h3 := HB.out
                                  have h4 : ps9.length ≤ d4 + 1 := by omega
                                  have h5 := HM5.out.le
                                  simp only [List.length_nil]
                                  rw [Hid]; omega
                                clear hP9 hD9 hm9 D8 P8 PT8 W8
                                go_wp2_with (at_builtin; refine wp_append_rows (o := ⟨some 179, _, _, _, _, _⟩) rfl (.tmp 177) (.tmp 178) rfl A6 A9 0 ps9.length c6 c9 [] ps9 rfl PL9.out rfl P9.out hps9.out ?_)
                                intro A10 c10 w10 P10 ht10 hl10
                                have D10 : Hid (Duo w w10 T9 s x9 R b L5) := D9.out.line PL9.out HLO6.out ht10.out
                                have W10 : Hid (Want w w10 T9 (.slice AG3 G3.length cG3) G3) := W9.out.put ht10.out (fun k hk e => W9.out.ne PL9.out k hk e)
                                have HLO10 : Hid (∀ k, (Value.slice A10 ps9.length c10).ownBlock = some k → w.heap.size ≤ k) := fun k hk => by
                                  rcases hl10.out k hk with h | h
                                  · exact HLO6.out k h
                                  · have := D9.out.own.bel.size; omega
                                have HNN : Hid (n + 1 ≤ d5 + min at4 200 + ps9.length ∧ at4 + 2 * mu x9 ≤ 456 ∧ mu x9 ≤ 128 ∧ at4 ≤ 456) := by
                                  have h1 := HD5.out; have h2 := HN1.out; have h3 := hat3.out; have h4 := hat4.out; have h5 := HMT.out; have h6 := HAM.out; have h7 := HMU.out
                                  rw [Hid]; omega
                                go_wp2_with (fail)
                                go_roundw
                                case rel => exact ⟨at4, G3, AG3, cG3, ps9, A10, c10, HNN.out.2.2.2, rfl, rfl, rfl, T9, x9, L5, d5, D10.out, HM6.out, HNN.out.1, HNN.out.2.1, HNN.out.2.2.1, W10.out, fun _ => HLT.out, HFT.out, P10.out, HLO10.out⟩
                                case measure => have h1 := hat3.out; have h2 := hat4.out; simp [intOf]; omega
end Rcv
end Go.Proofs.YtonemmdipmohgaaDoor

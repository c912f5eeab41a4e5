/- SenderAgain: what Again tells is what is under way. -/
import Derived.Test.YtonemmdipmohgaaDoorSnM
import Derived.Test.YtonemmdipmohgaaDoorSnO
namespace Go.Proofs.YtonemmdipmohgaaDoor
open Go.RowKit Go.ChangeShapes
set_option linter.unusedVariables false
set_option linter.unusedSimpArgs false
namespace Snd
open Pk Str

theorem nextN_ways {n : Nat} : ∀ {x : St}, ∃ new : List Way, (x.nextN n).1.ways = x.ways ++ new ∧ (x.nextN n).2 = new.map (fun y => pubP y.id y.msg false) ∧ (∀ y ∈ new, y.got = false) ∧ (x.nextN n).1.win = x.win ∧ (x.nextN n).1.que = x.que ∧ x.wait = new.map Way.msg ++ (x.nextN n).1.wait := by
  induction n with
  | zero => intro x; exact ⟨[], by simp [St.nextN]⟩
  | succ n ih =>
    intro x
    unfold St.nextN
    split
    · rename_i h; exact ⟨[], by simp [h]⟩
    · rename_i m r hw
      split
      · obtain ⟨new, h1, h2, h3, h4, h5, h6⟩ := ih (x := x.take1 m r)
        refine ⟨⟨ff x.ids x.last, m, false⟩ :: new, ?_, ?_, ?_, h4, h5, ?_⟩
        · rw [h1]; show (x.ways ++ [_]) ++ new = _; simp
        · simp [h2]
        · intro y hy
          rcases List.mem_cons.1 hy with rfl | hy
          · rfl
          · exact h3 y hy
        · have : (x.take1 m r).wait = r := rfl
          rw [this] at h6
          rw [hw]
          simp only [List.map_cons, List.cons_append]
          rw [← h6]
      · exact ⟨[], by simp⟩
theorem nextN_stop {n : Nat} : ∀ {x : St}, x.wait.length ≤ n → ¬ (((x.nextN n).1.ways.length : Int) < (x.nextN n).1.win ∧ 0 < (x.nextN n).1.wait.length) := by
  induction n with
  | zero =>
    intro x h
    have : x.wait = [] := List.eq_nil_of_length_eq_zero (by omega)
    simp [St.nextN, this]
  | succ n ih =>
    intro x h
    unfold St.nextN
    split
    · rename_i h; simp [h]
    · rename_i m r hw
      split
      · refine ih ?_
        show r.length ≤ n
        rw [hw] at h
        simpa using h
      · rename_i hn; exact fun h => hn h.1
def dupP (p : Pkt) : Pkt := { p with dup := true }
theorem pcells_set : ∀ (ps : List Pkt) (i : Nat), i < ps.length → (pcells ((ps.take i).map dupP ++ ps.drop i)).set (i * 18 + 1) (.bool true) = pcells ((ps.take (i + 1)).map dupP ++ ps.drop (i + 1))
  | [], i, h => absurd h (by simp)
  | p :: ps, 0, _ => by
    have e : ∀ q l, pcells (q :: l) = q.cells.toList ++ pcells l := fun q l => by simp [pcells]
    simp only [List.take_zero, List.map_nil, List.nil_append, List.drop_zero, List.take_succ_cons, List.map_cons, List.drop_succ_cons, List.cons_append, e]
    rw [List.set_append_left _ _ (by simp [Pkt.cells])]
    rfl
  | p :: ps, i + 1, h => by
    have e : ∀ q l, pcells (q :: l) = q.cells.toList ++ pcells l := fun q l => by simp [pcells]
    have hl : ∀ q : Pkt, q.cells.toList.length = 18 := fun q => by simp [Pkt.cells]
    simp only [List.take_succ_cons, List.map_cons, List.drop_succ_cons, List.cons_append, e]
    rw [List.set_append_right _ _ (by rw [hl]; omega), hl, show (i + 1) * 18 + 1 - 18 = i * 18 + 1 by omega, pcells_set ps i (by simpa using h)]
theorem pcells_length (ps : List Pkt) : (pcells ps).length = ps.length * 18 := by
  induction ps with
  | nil => rfl
  | cons p ps ih =>
    have e : pcells (p :: ps) = p.cells.toList ++ pcells ps := by simp [pcells]
    rw [e, List.length_append, ih]; simp [Pkt.cells]; omega
theorem PRow.mark {w : World} {g off n c k : Nat} {ps : List Pkt} (h : PRow w (.slice (some ⟨g, off, none⟩) n c) ((ps.take k).map dupP ++ ps.drop k)) (hk : k < ps.length) :
    PRow (w.setCell ⟨g, off + (k * 18 + 1), none⟩ (.bool true)) (.slice (some ⟨g, off, none⟩) n c) ((ps.take (k + 1)).map dupP ++ ps.drop (k + 1)) := by
  have hl : ((ps.take (k + 1)).map dupP ++ ps.drop (k + 1)).length = ((ps.take k).map dupP ++ ps.drop k).length := by simp; omega
  refine ⟨?_, fun p hp => ?_⟩
  · have hn := h.len
    subst hn
    have := mid_set (u := .bool true) h.1 (o := k * 18 + 1) (by rw [pcells_length]; simp; omega)
    rw [pcells_set ps k hk] at this
    rw [hl]
    exact this
  · have hall : ∀ q ∈ ps, q.codes = nilV ∧ q.subs = nilV := by
      intro q hq
      rw [← List.take_append_drop k ps] at hq
      rcases List.mem_append.1 hq with hq | hq
      · exact h.2 (dupP q) (List.mem_append_left _ (List.mem_map.2 ⟨q, hq, rfl⟩))
      · exact h.2 q (List.mem_append_right _ hq)
    rcases List.mem_append.1 hp with hp | hp
    · obtain ⟨q, hq, rfl⟩ := List.mem_map.1 hp
      exact hall q (List.mem_of_mem_take hq)
    · exact hall p (List.mem_of_mem_drop hp)
theorem Own.put {w0 w w' : World} {T S : Nat → Prop} {s : Nat} {x : St} (h : Own w0 w T s x) (t : Turn S w w') (hS : ∀ k, T k → ¬ S k) (hl : ∀ k, k < w0.heap.size → ¬ S k) : Own w0 w' T s x :=
  ⟨h.obj.turn t hS, h.hi, t.belowTrans h.bel h.bel.size hl, h.inv⟩
theorem push_same (x : St) (m : Msg) : (x.push m).2.2.win = x.win ∧ (x.push m).2.2.ways = x.ways ∧ (x.push m).2.2.ids = x.ids ∧ (x.push m).2.2.que = x.que := by
  unfold St.push
  split
  · exact ⟨rfl, rfl, rfl, rfl⟩
  · split <;> exact ⟨rfl, rfl, rfl, rfl⟩
theorem MsReads.keep {w w' : World} {a : Option Addr} {ms : List Msg} (h : MsReads w a ms) (b : Below w.heap.size w w') : MsReads w' a ms := by
  intro i hi
  obtain ⟨x0, e, hc⟩ := h i hi
  exact ⟨x0, e, fun j v hj => by rw [b.cell (World.block_lt_of_cell? w _ (hc j v hj))]; exact hc j v hj⟩

theorem next_all {x : St} (hI : Inv x) (hy : x.ways = []) : x.next.2.map dupP = x.next.1.again ∧ x.next.1.next = (x.next.1, []) ∧ x.next.1.ways.length = x.next.2.length ∧ (x.next.1.wait.length = 0 ∨ (x.next.2.length : Int) = x.win) ∧ (∀ p ∈ x.next.2, Bare p) := by
  obtain ⟨new, h1, h2, h3, h4, h5, h6⟩ := nextN_ways (n := x.wait.length) (x := x)
  have hs := nextN_stop (n := x.wait.length) (x := x) (Nat.le_refl _)
  rw [hy, List.nil_append] at h1
  have hl : x.next.1.ways.length = x.next.2.length := by
    show (x.nextN x.wait.length).1.ways.length = (x.nextN x.wait.length).2.length
    rw [h1, h2, List.length_map]
  refine ⟨?_, next_stop hs _, hl, ?_, fun p hp => (bare_next p hp).1⟩
  · show (x.nextN x.wait.length).2.map dupP = (x.nextN x.wait.length).1.ways.map Way.pkt
    rw [h1, h2, List.map_map]
    refine List.map_congr_left fun y hy => ?_
    show dupP (pubP y.id y.msg false) = Way.pkt y
    unfold Way.pkt
    rw [h3 y hy]; rfl
  · rcases Nat.eq_zero_or_pos x.next.1.wait.length with h | h
    · exact .inl h
    · right
      have hi := hI.next.ways
      have hw : x.next.1.win = x.win := h4
      rw [hw, hl] at hi
      have : ¬ ((x.next.1.ways.length : Int) < x.next.1.win) := fun hh => hs ⟨hh, h⟩
      rw [hw, hl] at this
      omega

set_option maxRecDepth 100000 in
set_option maxHeartbeats 4000000 in
/-- SenderAgain. -/
theorem again_walk (a0 a1 : Int) (a2 : Option Addr) (len2 cap2 : Nat) (ms : List Msg) (w : World) (w0 : (Lit.int .i64 a0).wf = true) (w1 : (Lit.int .i64 a1).wf = true) (h2 : len2 = ms.length ∧ ms.length ≤ cap2) (hP : MsReads w a2 ms) (hF : ∀ y ∈ ms, MsgFit y) (hT : Lib.Utf8Tabs 0 1 w) :
    Calls Tryd.prog 9 #[.int .i64 a0, .int .i64 a1, .slice a2 len2 cap2] w fun e w' => e = .returned (.bool true) ∧ Below w.heap.size w w' := by
  obtain ⟨rfl, hcap⟩ := h2
  have HT := Lib.hid hT
  have HP := Lib.hid hP
  have HF := Lib.hid hF
  clear hT hP hF w0 w1
  by_cases hbig : (100 : Int) < (ms.length : Int)
  · have d1 : decide ((100 : Int) < (ms.length : Int)) = true := decide_eq_true hbig
    clear hbig
    go_enter Tryd.func9, Tryd.ntmps9
    go_wp2_with (fail)
    go_ret
    exact ⟨rfl, Below.refl _ _⟩
  have d1 : decide ((100 : Int) < (ms.length : Int)) = false := decide_eq_false hbig
  have HB := Lib.hid hbig
  clear hbig
  go_enter Tryd.func9, Tryd.ntmps9
  go_wp2_with (fail)
  refine (own_new w w (Below.refl _ _) a0 a1).mono ?_
  rintro e w1 (⟨_, _, _, _, s, T1, rfl, hO, _, _⟩ | ⟨_, rfl, rfl⟩)
  case inr =>
    go_wp2_with (fail)
    refine (awake_calls _ HT.out).mono ?_
    rintro e w2 ⟨rfl, hb⟩
    go_wp2_with (fail)
    go_ret
    exact ⟨rfl, hb⟩
  have H1 := Lib.hid hO
  clear hO
  go_wp2_with (fail)
  go_loopw [9] (fun iv wr => ∃ k : Nat, k ≤ ms.length ∧ iv = .int .i64 k ∧ Hid (∃ T x, Own w wr T s x ∧ x.win = a0 ∧ x.ways = [])) (fun iv _ => ms.length - (intOf iv).toNat)
  case atStart => exact ⟨0, Nat.zero_le _, rfl, T1, _, H1.out, rfl, rfl⟩
  case round =>
    obtain ⟨k, hk, rfl, hR⟩ := hrel
    have hk100 : (k : Int) ≤ 100 := by have := HB.out; omega
    obtain ⟨T, x, hO, hxw, hxy⟩ := hR.out
    have HO := Lib.hid hO
    have HXW := Lib.hid hxw
    have HXY := Lib.hid hxy
    clear hO hxw hxy hR
    by_cases hlt : k < ms.length
    · obtain ⟨x0, rfl, hc⟩ := (HP.out.keep HO.out.bel) k hlt
      obtain ⟨m, hm⟩ : ∃ m, Hid (m = ms[k]'hlt) := ⟨ms[k]'hlt, rfl⟩
      rw [← hm.out] at hc
      have HM : Hid (MsgFit m) := by rw [hm.out]; exact HF.out _ (List.getElem_mem hlt)
      have e1 : wr.cell? ⟨(x0.add (k * 4)).block, (x0.add (k * 4)).off + 1, none⟩ = some (.string m.pay) := hc 1 _ rfl
      have e2 : wr.cell? ⟨(x0.add (k * 4)).block, (x0.add (k * 4)).off + 2, none⟩ = some (.int .i64 m.qos) := hc 2 _ rfl
      have e3 : wr.cell? ⟨(x0.add (k * 4)).block, (x0.add (k * 4)).off + 3, none⟩ = some (.bool m.retain) := hc 3 _ rfl
      have e0' : wr.cell? (x0.add (k * 4)) = some (.string m.topic) := by
        have := hc 0 _ rfl
        simpa [Addr.add] using this
      have HK : Hid (k < ms.length) := hlt
      clear hc hm
      have s1 : (m.topic.size : Int) ≤ 140737488351232 := by have := HM.out.1; omega
      have s2 : (m.pay.size : Int) ≤ 140737488351232 := by have := HM.out.2; omega
      have s3 : ((m.topic.size : Int) + m.pay.size) ≤ 281474976702464 := by omega
      by_cases hsz : (300 : Int) < (m.topic.size : Int) + (m.pay.size : Int)
      · have d2 : decide ((300 : Int) < (m.topic.size : Int) + (m.pay.size : Int)) = true := decide_eq_true hsz
        clear hsz
        go_wp2_with (fail)
        go_quiet (fail)
        go_wp2_with (fail)
        go_ret
        exact ⟨rfl, (HO.out.still (Turn.drewN (Turn.refl _ _) _)).bel⟩
      · have d2 : decide ((300 : Int) < (m.topic.size : Int) + (m.pay.size : Int)) = false := decide_eq_false hsz
        have HS : Hid (m.topic.size + m.pay.size ≤ 300) := by rw [Hid]; omega
        clear hsz
        go_wp2_with (fail)
        go_quiet (fail)
        go_wp2_with (fail)
        refine (own_push w _ HT.out T s x (HO.out.still (Turn.drewN (Turn.refl _ _) _)) m HS.out).mono ?_
        rintro e w2 ⟨rfl, T2, hO2, _⟩
        have HO2 := Lib.hid hO2
        clear hO2
        go_wp2_with (fail)
        go_roundw
        case rel => exact ⟨k + 1, HK.out, by go_num, T2, _, HO2.out, by rw [(push_same x m).1]; exact HXW.out, by rw [(push_same x m).2.1]; exact HXY.out⟩
        case measure => have := HK.out; simp [intOf]; omega
    · go_wp2_with (fail)
      clear hlt hk hk100
      refine (own_next w wr T s x HO.out).mono ?_
      obtain ⟨hA1, hA2, hA3, hA4, hA5⟩ := next_all HO.out.inv HXY.out
      rw [HXW.out] at hA4
      generalize x.next.1 = y at *
      generalize x.next.2 = ps at *
      rintro e w2 ⟨A2, n2, c2, T2, rfl, hP2, hb2, hO2, hm2⟩
      obtain rfl := hP2.len
      have D1 := Lib.hid hA1
      have D2 := Lib.hid hA2
      have D3 := Lib.hid hA3
      have D4 := Lib.hid hA4
      have D5 := Lib.hid hA5
      have P2 := Lib.hid hP2
      have B2 := Lib.hid hb2
      have O2 := Lib.hid hO2
      have hl16 : (ps.length : Int) ≤ 16 := by have h1 := hO2.inv.ways; have h2 := hO2.inv.win; omega
      clear hA1 hA2 hA3 hA4 hA5 hP2 hb2 hO2 hm2
      go_wp2_with (fail)
      refine (own_again w w2 T2 s y O2.out).mono ?_
      rintro e w3 ⟨⟨A3, n3, c3, T3, rfl, hP3, hb3, hO3, hm3⟩, ht3⟩
      have P3 := Lib.hid hP3
      have B3 := Lib.hid hb3
      have O3 := Lib.hid hO3
      have Q3 := Lib.hid (P2.out.still ht3)
      have Z3 : Hid (w2.heap.size ≤ w3.heap.size) := ht3.size
      clear hP3 hb3 hO3 hm3 ht3
      go_wp2_with (fail)
      refine (own_again w w3 T3 s y O3.out).mono ?_
      rintro e w4 ⟨⟨A4, n4, c4, T4, rfl, hP4, hb4, hO4, hm4⟩, ht4⟩
      have P4 := Lib.hid hP4
      have B4 := Lib.hid hb4
      have O4 := Lib.hid hO4
      have Q4 := Lib.hid (Q3.out.still ht4)
      have R4 := Lib.hid (P3.out.still ht4)
      clear hP4 hb4 hO4 hm4 ht4
      go_wp2_with (fail)
      go_loopw [16] (fun iv wx => ∃ j : Nat, j ≤ ps.length ∧ iv = .int .i64 j ∧ Hid (PRow wx (.slice A2 ps.length c2) ((ps.take j).map dupP ++ ps.drop j) ∧ Own w wx T4 s y ∧ PRow wx (.slice A3 n3 c3) y.again ∧ PRow wx (.slice A4 n4 c4) y.again)) (fun iv _ => ps.length - (intOf iv).toNat)
      case atStart => exact ⟨0, Nat.zero_le _, rfl, by simpa using Q4.out, O4.out, R4.out, P4.out⟩
      case round =>
        obtain ⟨j, hj, rfl, hS⟩ := hrel
        have hj16 : (j : Int) ≤ 16 := by omega
        by_cases hjl : j < ps.length
        · obtain ⟨A', c', hv, _, _, hcell⟩ := hS.out.1.1.form
          injection hv with e1 e2 e3
          subst e1 e3
          obtain ⟨g, off, rfl, _, hgl, hcc⟩ := hcell (by omega)
          have hdl : ((ps.take j).map dupP).length = j := by simp; omega
          have c1 : wr.cell? ⟨g, off + j * 18 + 1, none⟩ = some (.bool (ps[j]'hjl).dup) := by
            have := hcc (j * 18 + 1) _ (pcells_at _ j (by simp; omega) 1 (.bool (ps[j]'hjl).dup) (by
              rw [List.getElem_append_right (by omega)]
              simp only [hdl, List.getElem_drop, Nat.sub_self, Nat.add_zero]
              rfl))
            rw [← Nat.add_assoc] at this
            exact this
          have hgt : Hid (∃ cur, wr.heap[g]? = some (.cells cur PT (0, 0))) := hS.out.1.1.typ g rfl
          have f1 : wr.frozen? ⟨g, off + j * 18 + 1, none⟩ = false := by obtain ⟨cur, h⟩ := hgt.out; exact frozen_heap h
          have HN : Hid (PRow (wr.setCell ⟨g, off + j * 18 + 1, none⟩ (.bool true)) (.slice (some ⟨g, off, none⟩) ps.length c2) ((ps.take (j + 1)).map dupP ++ ps.drop (j + 1)) ∧ Own w (wr.setCell ⟨g, off + j * 18 + 1, none⟩ (.bool true)) T4 s y ∧ PRow (wr.setCell ⟨g, off + j * 18 + 1, none⟩ (.bool true)) (.slice A3 n3 c3) y.again ∧ PRow (wr.setCell ⟨g, off + j * 18 + 1, none⟩ (.bool true)) (.slice A4 n4 c4) y.again) := by
            have tc : Turn (fun k => k = g) wr (wr.setCell ⟨g, off + j * 18 + 1, none⟩ (.bool true)) := Turn.setCell wr _ rfl
            have hgw := B2.out g rfl
            have hg2 := (P2.out.1.lt g rfl).2
            refine ⟨?_, hS.out.2.1.put tc (fun k hk e => ?_) (fun k hk e => ?_), ⟨hS.out.2.2.1.1.turn tc (fun k hk e => ?_), hS.out.2.2.1.2⟩, ⟨hS.out.2.2.2.1.turn tc (fun k hk e => ?_), hS.out.2.2.2.2⟩⟩
            · rw [Nat.add_assoc]; exact hS.out.1.mark hjl
            · subst e
              obtain ⟨cur, h⟩ := hgt.out
              exact hS.out.2.1.other k hk cur h
            · have := HO.out.bel.size; omega
            · have := B3.out k hk; omega
            · have := B4.out k hk; have := Z3.out; omega
          have HJ : Hid (j < ps.length) := hjl
          generalize (ps[j]'hjl).dup = bb at c1
          clear hcc hdl hcell hS hgt hgl
          clear hjl
          have hjl2 : j < ps.length := HJ.out
          clear e2
          go_wp2_with (fail)
          go_roundw
          case rel => exact ⟨j + 1, HJ.out, by go_num, HN.out⟩
          case measure => have := HJ.out; simp [intOf]; omega
        · have hjn : j = ps.length := by omega
          subst hjn
          have hPd : PRow wr (.slice A2 ps.length c2) y.again := by
            have h1 := hS.out.1
            simp only [List.take_length, List.drop_length, List.append_nil] at h1
            rw [D1.out] at h1
            exact h1
          have PD := Lib.hid hPd
          have O5 := Lib.hid hS.out.2.1
          have R5 := Lib.hid hS.out.2.2.1
          have S5 := Lib.hid hS.out.2.2.2
          clear hPd hS
          go_wp2_with (fail)
          refine (own_next w wr T4 s y O5.out).mono ?_
          rw [D2.out]
          rintro e w6 ⟨A6, n6, c6, T6, rfl, hP6, _, hO6, hm6⟩
          have hn6 : n6 = 0 := hP6.len
          subst hn6
          have O6 := Lib.hid hO6
          have PD6 := Lib.hid (O5.out.prow hm6 PD.out)
          have R6 := Lib.hid (O5.out.prow hm6 R5.out)
          have S6 := Lib.hid (O5.out.prow hm6 S5.out)
          clear hP6 hO6 hm6
          go_wp2_with (fail)
          refine (count_calls w6 T6 s y O6.out.obj).mono ?_
          rw [D3.out]
          rintro e w7 ⟨rfl, ht7⟩
          have O7 := Lib.hid (O6.out.still ht7)
          have PD7 := Lib.hid (PD6.out.still ht7)
          have R7 := Lib.hid (R6.out.still ht7)
          have S7 := Lib.hid (S6.out.still ht7)
          clear ht7
          go_wp2_with (fail)
          refine (awake_calls w7 (O7.out.tabs HT.out)).mono ?_
          rintro e w8 ⟨rfl, hb8⟩
          have t8 : Hid (Turn (fun _ => False) w7 w8) := Turn.of_below hb8
          clear hb8
          have hla : Hid (y.again.length ≤ 1000) := by have := again_len O7.out.inv; rw [Hid]; omega
          go_wp2_with (fail)
          refine (rows_eq w8 A2 A3 ps.length n3 c2 c3 y.again (PD7.out.still t8.out) (R7.out.still t8.out) (bare_again y) hla.out).mono ?_
          rintro e w9 ⟨rfl, hb9⟩
          have t9 : Hid (Turn (fun _ => False) w7 w9) := t8.out.trans (Turn.of_below hb9)
          clear hb9
          go_wp2_with (fail)
          refine (rows_eq w9 A3 A4 n3 n4 c3 c4 y.again (R7.out.still t9.out) (S7.out.still t9.out) (bare_again y) hla.out).mono ?_
          rintro e wa ⟨rfl, hba⟩
          have ta : Hid (Turn (fun _ => False) w7 wa) := t9.out.trans (Turn.of_below hba)
          clear hba
          rcases D4.out with h0 | h0
          · rw [h0]
            clear h0
            go_wp2_with (fail)
            go_ret
            exact ⟨rfl, (O7.out.still ta.out).bel⟩
          · have hd : (((ps.length : Nat) : Int) == a0) = true := by simpa using h0
            clear h0
            by_cases h1 : ((y.wait.length : Nat) : Int) = 0
            · have hd1 : (((y.wait.length : Nat) : Int) == 0) = true := by simpa using h1
              clear h1
              go_wp2_with (fail)
              go_ret
              exact ⟨rfl, (O7.out.still ta.out).bel⟩
            · have hd1 : (((y.wait.length : Nat) : Int) == 0) = false := by simpa using h1
              clear h1
              go_wp2_with (fail)
              go_ret
              exact ⟨rfl, (O7.out.still ta.out).bel⟩
end Snd
end Go.Proofs.YtonemmdipmohgaaDoor

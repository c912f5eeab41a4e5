/- ReceiverTakes: packets that come are answered as the document says. -/
import Derived.Test.YtonemmdipmohgaaDoorRcG
import Derived.Deep.RegionHeld
namespace Go.Proofs.YtonemmdipmohgaaDoor
open Go.RowKit Go.ChangeShapes
set_option linter.unusedVariables false
set_option linter.unusedSimpArgs false
namespace Rcv
open Pk Str Snd
open Ref (MayIn may_calls)
open Utf (ints_calls)

theorem wp_load_pkR {ops : Array Oper} {rest : List Oper} {o : Oper} {a : Act} {W : World} {Q : Exit → Act → World → Prop} {x : Operand} {x0 : Addr} {p : Pkt} (hgd : o.guard = none) (ho : o.op = .load PT x) (hx : a.eval x = .pointer (some x0)) (h : ∀ j v, p.cells.toList[j]? = some v → W.cell? (x0.add j) = some v)
    (hK : wpList Tryd.prog ops Q rest (a.put o.dst (.agg p.cells)) W) : wpList Tryd.prog ops Q (o :: rest) a W :=
  st_val _ (wanted_free hgd) (rLoadRowA ho hx h) hK
theorem sorted_eq : ∀ (S T : List Int), S.Perm T → S.Pairwise (· ≤ ·) → T.Pairwise (· ≤ ·) → S = T
  | [], T, h, _, _ => (List.nil_perm.1 h).symm
  | x :: S, [], h, _, _ => by have := h.length_eq; simp at this
  | x :: S, y :: T, h, h1, h2 => by
    have hx : x ∈ y :: T := h.mem_iff.1 (by simp)
    have hy : y ∈ x :: S := h.mem_iff.2 (by simp)
    have e : x = y := by
      rcases List.mem_cons.1 hx with e | hx'
      · exact e
      · rcases List.mem_cons.1 hy with e | hy'
        · exact e.symm
        · have := (List.pairwise_cons.1 h1).1 y hy'
          have := (List.pairwise_cons.1 h2).1 x hx'
          omega
    subst e
    rw [sorted_eq S T (List.Perm.cons_inv h) (List.pairwise_cons.1 h1).2 (List.pairwise_cons.1 h2).2]
theorem RcAt.map_ne {w : World} {R b : Nat} {L : List Int} (h : RcAt w R b L) : ∀ cs t, w.heap[b]? ≠ some (.cells cs t (0, 0)) := by
  intro cs t hc
  obtain ⟨_, _, D, ⟨es, clock, hb, _⟩, _⟩ := h.set
  exact obj_ne hb hc (by intro e; cases e) rfl
theorem OwnR.put {w0 w w' : World} {R b F : Nat} {L L' : List Int} (h : OwnR w0 w R b L) (hf : RfAt w F L') (hlo : w0.heap.size ≤ F) (t : Turn (fun k => k = F) w w') : OwnR w0 w' R b L := by
  obtain ⟨v, S, hF⟩ := hf
  exact ⟨h.at_.turn t (fun e => obj_ne h.at_.obj hF.obj (cells_ne (by decide)) e) (fun e => by
    have h1 := h.at_.map_ne _ _ (by rw [e]; exact hF.obj)
    exact h1), h.lo, t.belowTrans h.bel h.bel.size (fun k hk e => by omega)⟩
theorem SmallP.mayin {w : World} {x : PkX} (h : SmallP x) (hL : Lies w x.1 x.2.1 x.2.2) : MayIn w x.1 x.2.1 x.2.2 :=
  ⟨hL, by have := h.1; simp only [sumP] at this; omega, by have := h.2; omega, by have := h.1; simp only [sumP] at this; omega, by have := h.1; simp only [sumP] at this; omega, SmallP.len h hL⟩
theorem RfAt.fresh (w : World) : RfAt (w.alloc (.cells #[.slice none 0 0] FT)) w.heap.size [] := ⟨.slice none 0 0, [], heap_new _ _, OwnInts.nil _ _ _ _, .refl _, .nil⟩
theorem bare_rcv (L : List Int) (p : Pkt) (C : List Int) (D : List (ByteArray × Int)) : (∀ q ∈ (rcv L p C D).2.1, Bare q) ∧ (rcv L p C D).2.1.length ≤ 1000 := by
  unfold rcv
  split
  · simp
  · split
    · simp [bare_ack]
    · split
      · simp
      · split
        · simp
        · split <;> simp [bare_ack]

set_option maxRecDepth 100000 in
set_option maxHeartbeats 4000000 in
/-- ReceiverTakes. -/
theorem takes_walk (a0 : Option Addr) (len0 cap0 : Nat) (ps : List PkX) (w : World) (h0 : len0 = ps.length ∧ ps.length ≤ cap0) (hP : PkReadsA w a0 ps) (hF : ∀ y ∈ ps, PkFit0 y) (hT : Lib.Utf8Tabs 0 1 w) :
    Calls Tryd.prog 10 #[.slice a0 len0 cap0] w fun e w' => e = .returned (.bool true) ∧ Below w.heap.size w w' := by
  obtain ⟨rfl, hcap⟩ := h0
  have HT := Lib.hid hT
  have HP := Lib.hid hP
  have HF := Lib.hid hF
  have HC := Lib.hid hcap
  clear hT hP hF hcap
  go_enter Tryd.func10, Tryd.ntmps10
  go_wp2_with (fail)
  refine (few_calls w a0 cap0 ps HC.out HP.out HF.out).mono ?_
  rintro e wa ⟨⟨hfew, rfl⟩ | ⟨_, rfl⟩, ta⟩
  case inr =>
    go_wp2_with (fail)
    go_ret
    exact ⟨rfl, ta.toBelow (Nat.le_refl _) (fun _ _ h => h)⟩
  have HFEW := Lib.hid hfew
  have HBa : Hid (Below w.heap.size w wa) := ta.toBelow (Nat.le_refl _) (fun _ _ h => h)
  clear hfew ta
  go_wp2_with (fail)
  refine (own_new w wa HBa.out).mono ?_
  rintro e w1 ⟨R, b, rfl, hO, _, _, _⟩
  have H1 := Lib.hid (hO.still (Turn.alloc (S := fun _ => False) w1 (.cells #[.slice none 0 0] FT)))
  have HF1 := Lib.hid (RfAt.fresh w1)
  obtain ⟨F, hFe⟩ : ∃ F, Hid (F = w1.heap.size) := ⟨_, rfl⟩
  have HFlo : Hid (w.heap.size ≤ F) := by rw [hFe.out]; exact hO.bel.size
  rw [← hFe.out] at HF1
  clear hO
  go_upto_region 7 with (fail)
  rw [← hFe.out]
  go_wp2_with (fail)
  go_loopw [5] (fun iv wr => ∃ k : Nat, k ≤ ps.length ∧ iv = .int .i64 k ∧ Hid (∃ L, OwnR w wr R b L ∧ RfAt wr F L)) (fun iv _ => ps.length - (intOf iv).toNat)
  case atStart => exact ⟨0, Nat.zero_le _, rfl, [], H1.out, HF1.out⟩
  case round =>
    obtain ⟨k, hk, rfl, hR⟩ := hrel
    have hk200 : (k : Int) ≤ 200 := by have := HFEW.out.1; omega
    obtain ⟨L, hO, hf⟩ := hR.out
    have HO := Lib.hid hO
    have HFT := Lib.hid hf
    clear hO hf hR
    by_cases hlt : k < ps.length
    · obtain ⟨x0, rfl, hc, hL⟩ := (HP.out.keep HO.out.bel) k hlt
      obtain ⟨⟨p, C, D⟩, ho⟩ : ∃ o, Hid (o = ps[k]'hlt) := ⟨ps[k]'hlt, rfl⟩
      have hsm := HFEW.out.2 _ (List.getElem_mem hlt)
      rw [← ho.out] at hc hL hsm
      have HCE := Lib.hid hc
      have HL := Lib.hid hL
      have HSM := Lib.hid hsm
      have HK : Hid (k < ps.length) := hlt
      have HBR := Lib.hid (bare_rcv L p C D)
      clear hc hL hsm
      go_wp2_with (refine wp_load_pkR (o := ⟨some 31, _, _, _, _, _⟩) (p := p) rfl rfl rfl HCE.out ?_)
      refine (own_take w wr HT.out R b L HO.out p C D HL.out (SmallP.len (x := (p, C, D)) HSM.out HL.out)).mono ?_
      rintro e w3 ⟨A3, n3, c3, rfl, hp3, hown3, hO3, ht3, _⟩
      obtain rfl := hp3.len
      have HO3 := Lib.hid hO3
      have HP3 := Lib.hid hp3
      have HF3 := Lib.hid (HFT.out.turn ht3 (fun k hk => by subst hk; exact HO.out.at_.map_ne))
      obtain ⟨x1, e1, hc3, hL3⟩ := (HP.out.keep HO3.out.bel) k hlt
      injection e1 with e1
      subst e1
      rw [← ho.out] at hc3 hL3
      have HC3 := Lib.hid hc3
      have HL3 := Lib.hid hL3
      clear hO3 hp3 hown3 ht3 hc3 hL3 ho
      go_wp2_with (refine wp_load_pkR (o := ⟨some 41, _, _, _, _, _⟩) (p := p) rfl rfl rfl HC3.out ?_)
      refine (rtake_calls w3 F L HF3.out HO.out.at_.set.nodup HO.out.at_.set.range p C D (SmallP.mayin (x := (p, C, D)) HSM.out HL3.out)).mono ?_
      generalize rcv L p C D = r at *
      obtain ⟨on, ans, cd, L'⟩ := r
      simp only at HBR HP3
      rintro e w4 ⟨A4, n4, c4, rfl, hp4, hf4, ht4⟩
      obtain rfl := hp4.len
      have HO4 := Lib.hid (HO3.out.put HF3.out HFlo.out ht4)
      have P4 := Lib.hid hp4
      have HP4 : Hid (PRow w4 (.slice A3 ans.length c3) ans) := HP3.out.turn ht4 (fun k hk cur hc => by
        subst hk
        obtain ⟨v, S, h⟩ := HF3.out
        exact obj_ne h.obj hc (cells_ne (by decide)) rfl)
      have HF4 := Lib.hid hf4
      clear hp4 hf4 ht4
      obtain ⟨v, S, hS⟩ := HF4.out
      obtain ⟨AF, cF, rfl, _⟩ := hS.own.form
      have HSF := Lib.hid hS
      have HSL : Hid ((S.length : Int) ≤ 70000) := by
        have h1 : S.length = L'.length := hS.perm.length_eq
        have h2 : L'.length ≤ 65535 := Ids.nodup_le 65535 L' HO4.out.at_.set.nodup HO4.out.at_.set.range
        rw [Hid]; omega
      clear hS
      have hfc : ∀ W, Turn (fun _ => False) w4 W → W.cell? ⟨F, 0, none⟩ = some (.slice AF S.length cF) := fun W t => cell_heap (HSF.out.turn t (fun h => h) (fun _ _ h => h)).obj
      have HFC := Lib.hid hfc
      clear hfc
      have HTD : Hid (Turn (fun _ => False) w4 w4.drew) := Turn.drew (Turn.refl _ _)
      go_wp2_with (fail)
      go_region_held (fun W' => W'.cell? ⟨F, 0, none⟩ = some (.slice AF S.length cF)) (first | exact HFC.out _ HTD.out | exact HFC.out _ HT5.out | exact HFC.out _ HT6.out | exact HFC.out _ HT7.out)
        (first
          | (go_at_call 28; refine (rows_eq w4.drew A3 A4 ans.length ans.length c3 c4 ans (HP4.out.still HTD.out) (P4.out.still HTD.out) HBR.out.1 HBR.out.2).mono ?_; rintro e w5 ⟨rfl, hb5⟩; have HT5 : Hid (Turn (fun _ => False) w4 w5) := HTD.out.trans (Turn.of_below hb5); clear hb5)
          | (go_at_call 18; refine (own_held w w5 R b L' (HO4.out.still HT5.out)).mono ?_; rintro e w6 ⟨⟨A6, n6, c6, rfl, S6, rfl, hS6, hperm6, hsort6, _⟩, hO6, ht6⟩; have HT6 : Hid (Turn (fun _ => False) w4 w6) := HT5.out.trans ht6; have HS6 := Lib.hid hS6; have HQ6 : Hid (S6 = S) := sorted_eq S6 S (hperm6.trans HSF.out.perm.symm) hsort6 HSF.out.sort; clear hS6 hperm6 hsort6 hO6 ht6)
          | (go_at_call 17; refine (ints_calls w6 A6 AF S6 S c6 cF (own_reads HS6.out).2.2.1 (own_reads (HSF.out.turn HT6.out (fun h => h) (fun _ _ h => h)).own).2.2.1 (by rw [HQ6.out]; exact HSL.out)).mono ?_; rw [decide_eq_true HQ6.out]; rintro e w7 ⟨rfl, hb7⟩; have HT7 : Hid (Turn (fun _ => False) w4 w7) := HT6.out.trans (Turn.of_below hb7); clear hb7))
      go_wp2_with (fail)
      go_roundw
      case rel => exact ⟨k + 1, HK.out, by go_num, L', HO4.out.still HT7.out, HF4.out.still HT7.out⟩
      case measure => have := HK.out; simp [intOf]; omega
    · go_wp2_with (fail)
      refine (awake_calls wr (Utf.tabs_keep HT.out HO.out.bel)).mono ?_
      rintro e w8 ⟨rfl, hb8⟩
      go_wp2_with (fail)
      go_ret
      exact ⟨rfl, (HO.out.still (Turn.of_below hb8)).bel⟩
end Rcv
end Go.Proofs.YtonemmdipmohgaaDoor

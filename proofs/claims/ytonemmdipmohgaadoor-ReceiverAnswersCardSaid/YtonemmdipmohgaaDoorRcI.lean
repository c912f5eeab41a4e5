/- ReceiverAnswers: each packet is answered; what is held. -/
import Derived.Test.YtonemmdipmohgaaDoorRcH
import Derived.BigQuiet
namespace Go.Proofs.YtonemmdipmohgaaDoor
open Go.RowKit Go.ChangeShapes
set_option linter.unusedVariables false
set_option linter.unusedSimpArgs false
namespace Rcv
open Pk Str Snd
open Ref (MayIn may_calls)
open Utf (ints_calls)
open Ids (upTo upTo_succ mem_upTo)

abbrev AT : TypeId := 26
def isF : Value → Bool
  | .bool false => true
  | _ => false
theorem zero_size : Tryd.zeroCells26.size = 65536 := by kernel_rfl
theorem zero_all : Tryd.zeroCells26.toList.all isF = true := by kernel_rfl
theorem zero_arr (i : Nat) (hi : i < 65536) : Tryd.zeroCells26[i]? = some (.bool false) := by
  have h1 := List.all_eq_true.1 zero_all
  have h2 : i < Tryd.zeroCells26.size := by rw [zero_size]; exact hi
  rw [Array.getElem?_eq_getElem h2]
  have h3 := h1 _ (Array.getElem_mem_toList h2)
  generalize Tryd.zeroCells26[i] = v at h3 ⊢
  match v, h3 with
  | .bool false, _ => rfl
structure ArrAt (w : World) (g : Nat) (L : List Int) : Prop where
  blk : ∃ cs, w.heap[g]? = some (.cells cs AT (0, 0)) ∧ cs.size = 65536 ∧ ∀ i : Nat, i < 65536 → cs[i]? = some (.bool (decide ((i : Int) ∈ L)))
theorem ArrAt.cell {w : World} {g : Nat} {L : List Int} (h : ArrAt w g L) {i : Nat} (hi : i < 65536) : w.cell? ⟨g, i, none⟩ = some (.bool (decide ((i : Int) ∈ L))) := by
  obtain ⟨cs, hb, _, hc⟩ := h.blk
  rw [cell_heap hb]; exact hc i hi
theorem ArrAt.frozen {w : World} {g : Nat} {L : List Int} (h : ArrAt w g L) (i : Nat) : w.frozen? ⟨g, i, none⟩ = false := by
  obtain ⟨cs, hb, _⟩ := h.blk
  exact frozen_heap hb
theorem ArrAt.turn {w w' : World} {g : Nat} {L : List Int} {S : Nat → Prop} (h : ArrAt w g L) (t : Turn S w w') (hn : ¬ S g) : ArrAt w' g L := by
  obtain ⟨cs, hb, r⟩ := h.blk
  exact ⟨cs, (t.block g (heap_lt hb) hn).trans hb, r⟩
theorem ArrAt.still {w w' : World} {g : Nat} {L : List Int} (h : ArrAt w g L) (t : Turn (fun _ => False) w w') : ArrAt w' g L := h.turn t (fun h => h)
theorem ArrAt.lt {w : World} {g : Nat} {L : List Int} (h : ArrAt w g L) : g < w.heap.size := by
  obtain ⟨cs, hb, _⟩ := h.blk
  exact heap_lt hb
theorem ArrAt.set {w : World} {g : Nat} {L L' : List Int} (h : ArrAt w g L) {id : Int} (h1 : 1 ≤ id) (h2 : id ≤ 65535) (q : Bool) (hL : ∀ i : Int, i ≠ id → (i ∈ L' ↔ i ∈ L)) (hq : q = decide (id ∈ L')) : ArrAt (w.setCell ⟨g, id.toNat, none⟩ (.bool q)) g L' := by
  obtain ⟨cs, hb, hs, hc⟩ := h.blk
  refine ⟨_, heap_set_same w g id.toNat _ hb, by simpa using hs, fun i hi => ?_⟩
  simp only [Array.set!_eq_setIfInBounds, Array.getElem?_setIfInBounds]
  by_cases e : id.toNat = i
  · rw [if_pos e, if_pos (by omega), hq]
    have : (i : Int) = id := by omega
    rw [this]
  · rw [if_neg e, hc i hi]
    congr 2
    rw [decide_eq_decide]
    exact (hL i (by omega)).symm
theorem OwnR.arr {w0 w w' : World} {R b g : Nat} {L L' : List Int} (h : OwnR w0 w R b L) (hf : ArrAt w g L') (hlo : w0.heap.size ≤ g) (t : Turn (fun k => k = g) w w') : OwnR w0 w' R b L := by
  obtain ⟨cs, hb, _⟩ := hf.blk
  exact ⟨h.at_.turn t (fun e => obj_ne h.at_.obj hb (cells_ne (by decide)) e) (fun e => by
    have h1 := h.at_.map_ne _ _ (by rw [e]; exact hb)
    exact h1), h.lo, t.belowTrans h.bel h.bel.size (fun k hk e => by omega)⟩
theorem OwnR.turn {w0 w w' : World} {R b : Nat} {L : List Int} {S : Nat → Prop} (h : OwnR w0 w R b L) (t : Turn S w w') (h1 : ¬ S R) (h2 : ¬ S b) (h3 : ∀ k, k < w0.heap.size → ¬ S k) : OwnR w0 w' R b L :=
  ⟨h.at_.turn t h1 h2, h.lo, t.belowTrans h.bel h.bel.size h3⟩
theorem may_in (W : World) (t id : Int) : MayIn W (ackP t id) [] [] :=
  ⟨lies_ack W _ ⟨rfl, rfl, rfl, rfl, rfl⟩, by simp, by simp, by show ((0 : Nat) : Int) ≤ _; decide, by show ((0 : Nat) : Int) ≤ _; decide, len_ack W t id⟩
theorem rcv_code {L : List Int} {p : Pkt} {C : List Int} {D : List (ByteArray × Int)} (hM : Pk.May p C D) : (rcv L p C D).2.2.1 ≠ 1 := by
  unfold rcv
  rw [if_neg (fun h => h hM)]
  split
  · simp
  · split
    · simp
    · split
      · simp
      · split <;> simp
def heldTo (L : List Int) (k : Nat) : List Int := (upTo k).filter (fun x => decide (x ∈ L))
theorem heldTo_succ (L : List Int) (k : Nat) : heldTo L (k + 1) = heldTo L k ++ (if ((k : Int) + 1) ∈ L then [(k : Int) + 1] else []) := by
  unfold heldTo
  rw [upTo_succ, List.filter_append]
  congr 1
  by_cases h : ((k : Int) + 1) ∈ L <;> simp [h]
theorem heldTo_len (L : List Int) (k : Nat) : (heldTo L k).length ≤ k := by
  have h1 := List.length_filter_le (fun x => decide (x ∈ L)) (upTo k)
  rw [Ids.length_upTo] at h1
  exact h1
theorem sorted_upTo (k : Nat) : (upTo k).Pairwise (· ≤ ·) := by
  induction k with
  | zero => simp [upTo]
  | succ k ih =>
    rw [upTo_succ]
    exact List.pairwise_append.2 ⟨ih, by simp, fun a ha c hc => by
      rw [List.mem_singleton.1 hc]
      have := ((mem_upTo k a).1 ha).2
      omega⟩
theorem heldTo_all {L : List Int} (hn : L.Nodup) (hr : ∀ x ∈ L, 1 ≤ x ∧ x ≤ 65535) : (heldTo L 65535).Perm L ∧ (heldTo L 65535).Pairwise (· ≤ ·) := by
  refine ⟨(List.perm_ext_iff_of_nodup ((Ids.nodup_upTo _).filter _) hn).2 fun x => ?_, (sorted_upTo _).filter _⟩
  show x ∈ (upTo 65535).filter (fun x => decide (x ∈ L)) ↔ _
  rw [List.mem_filter, mem_upTo]
  simp only [decide_eq_true_eq]
  exact ⟨fun h => h.2, fun h => ⟨⟨(hr x h).1, by have := (hr x h).2; omega⟩, h⟩⟩

set_option maxRecDepth 100000 in
set_option maxHeartbeats 8000000 in
/-- ReceiverAnswers. -/
theorem answers_walk (a0 : Option Addr) (len0 cap0 : Nat) (ps : List PkX) (w : World) (h0 : len0 = ps.length ∧ ps.length ≤ cap0) (hP : PkReadsA w a0 ps) (hF : ∀ y ∈ ps, PkFit0 y) (hT : Lib.Utf8Tabs 0 1 w) :
    Calls Tryd.prog 3 #[.slice a0 len0 cap0] w fun e w' => e = .returned (.bool true) ∧ Below w.heap.size w w' := by
  obtain ⟨rfl, hcap⟩ := h0
  have HT := Lib.hid hT
  have HP := Lib.hid hP
  have HF := Lib.hid hF
  have HC := Lib.hid hcap
  clear hT hP hF hcap
  go_enter Tryd.func3, Tryd.ntmps3
  go_wp2_with (fail)
  refine (few_calls w a0 cap0 ps HC.out HP.out HF.out).mono ?_
  rintro e wa ⟨⟨hfew, rfl⟩ | ⟨_, rfl⟩, ta⟩
  case inr =>
    go_wp2_with (fail)
    go_ret
    exact ⟨rfl, ta.toBelow (Nat.le_refl _) (fun _ _ h => h)⟩
  have HFEW := Lib.hid hfew
  have HBa : Hid (Below w.heap.size w wa) := ta.toBelow (Nat.le_refl _) (fun _ _ h => h)
  clear hfew ta
  go_wp2_with (fail)
  refine (own_new w wa HBa.out).mono ?_
  rintro e w1 ⟨R, b, rfl, hO, _, _, _⟩
  have H1 := Lib.hid (hO.still (Turn.alloc (S := fun _ => False) w1 (.cells Tryd.zeroCells26 AT)))
  obtain ⟨g, hg⟩ : ∃ g, Hid (g = w1.heap.size) := ⟨_, rfl⟩
  have HG : Hid (w.heap.size ≤ g) := by rw [hg.out]; exact hO.bel.size
  have HA1 : Hid (ArrAt (w1.alloc (.cells Tryd.zeroCells26 AT)) g []) := by
    refine ⟨_, by rw [hg.out]; exact heap_new _ _, zero_size, fun i hi => ?_⟩
    rw [zero_arr i hi]; simp
  clear hO
  obtain ⟨w2, hw2⟩ : ∃ w2, Hid (w2 = w1.alloc (.cells Tryd.zeroCells26 AT)) := ⟨_, rfl⟩
  rw [← hw2.out] at H1 HA1
  go_upto_region 7 with (fail)
  rw [← hw2.out, ← hg.out]
  go_wp2_with (fail)
  go_loopw [5] (fun iv wr => ∃ k : Nat, k ≤ ps.length ∧ iv = .int .i64 k ∧ Hid (∃ L, OwnR w wr R b L ∧ ArrAt wr g L)) (fun iv _ => ps.length - (intOf iv).toNat)
  case atStart => exact ⟨0, Nat.zero_le _, rfl, [], H1.out, HA1.out⟩
  case round =>
    obtain ⟨k, hk, rfl, hR⟩ := hrel
    have hk200 : (k : Int) ≤ 200 := by have := HFEW.out.1; omega
    obtain ⟨L, hO, ha⟩ := hR.out
    have HO := Lib.hid hO
    have HA := Lib.hid ha
    clear hO ha hR
    by_cases hlt : k < ps.length
    · obtain ⟨x0, rfl, hc, hL⟩ := (HP.out.keep HO.out.bel) k hlt
      obtain ⟨⟨p, C, D⟩, ho⟩ : ∃ o, Hid (o = ps[k]'hlt) := ⟨ps[k]'hlt, rfl⟩
      have hsm := HFEW.out.2 _ (List.getElem_mem hlt)
      rw [← ho.out] at hc hL hsm
      have HCE := Lib.hid hc
      have HL := Lib.hid hL
      have HSM := Lib.hid hsm
      have HK : Hid (k < ps.length) := hlt
      clear hc hL hsm
      go_wp2_with (refine wp_var (o1 := ⟨some 28, _, _, _, _, _⟩) PT 18 p.cells.toList zeroC rfl rfl rfl rfl rfl rfl rfl (by rfl) (by rfl) isAggP sizeP rfl rfl (Lies.one HL.out) (kAllocP _) HCE.out ?_)
      intro wv hv2 hb2
      obtain ⟨v, hv⟩ : ∃ v, Hid (v = wr.heap.size) := ⟨_, rfl⟩
      rw [← hv.out] at hv2 ⊢
      have t2 : Turn (fun _ => False) wr wv := Turn.of_below hb2.out
      have HOV := Lib.hid (HO.out.still t2)
      have HAV := Lib.hid (HA.out.still t2)
      have HLV := Lib.hid (HL.out.keep (t2.toBelow (Nat.le_refl _) (fun _ _ h => h)))
      have HPV : Hid (PkAt wv v p) := hv2.out
      clear t2 hb2
      refine wpList_nil ?_
      go_wp2_with (with_reducible refine wp_load_pkt (o := ⟨some 31, _, _, _, _, _⟩) rfl rfl rfl HPV.out ?_)
      refine (own_take w wv HT.out R b L HOV.out p C D HLV.out (SmallP.len (x := (p, C, D)) HSM.out HLV.out)).mono ?_
      obtain ⟨r, hr⟩ : ∃ r, Hid (r = rcv L p C D) := ⟨_, rfl⟩
      rw [← hr.out]
      obtain ⟨on, ans, cd, L'⟩ := r
      rintro e w3 ⟨A3, n3, c3, rfl, hp3, _, hO3, ht3, _⟩
      obtain rfl := hp3.len
      simp only at hp3 hO3
      have HO3 := Lib.hid hO3
      have HP3 := Lib.hid hp3
      have hvb : v ≠ b := fun e => HOV.out.at_.pk.2 _ (by rw [← e]; exact HPV.out)
      have HV3 : Hid (PkAt w3 v p) := (ht3.block v (heap_lt HPV.out) hvb).trans HPV.out
      have HA3 : Hid (ArrAt w3 g L) := HAV.out.turn ht3 (fun e => by
        obtain ⟨cs, hb, _⟩ := HAV.out.blk
        exact HOV.out.at_.map_ne _ _ (by rw [← e]; exact hb))
      have HL3 : Hid (Lies w3 p C D) := by
        obtain ⟨x1, _, _, hL⟩ := (HP.out.keep HO3.out.bel) k HK.out
        rw [← ho.out] at hL
        exact hL
      have HMI : Hid (MayIn w3 p C D) := SmallP.mayin (x := (p, C, D)) HSM.out HL3.out
      clear hp3 hO3 ht3 hvb
      go_wp2_with (with_reducible refine wp_load_pkt (o := ⟨some 38, _, _, _, _, _⟩) rfl rfl rfl HV3.out ?_)
      refine (may_calls w3 p C D HMI.out).mono ?_
      rintro e w4 ⟨rfl, hb4⟩
      have t4 : Turn (fun _ => False) w3 w4 := Turn.of_below hb4
      have HO4 := Lib.hid (HO3.out.still t4)
      have HA4 := Lib.hid (HA3.out.still t4)
      have HP4 := Lib.hid (HP3.out.still t4)
      have HV4 : Hid (PkAt w4 v p) := (t4.block v (heap_lt HV3.out) (fun h => h)).trans HV3.out
      have c0 : w4.cell? ⟨v, 0, none⟩ = some (.int .i64 p.ty) := cell_heap HV4.out
      have c2 : w4.cell? ⟨v, 2, none⟩ = some (.int .i64 p.id) := cell_heap HV4.out
      have c5 : w4.cell? ⟨v, 3 + 2, none⟩ = some (.int .i64 p.qos) := cell_heap HV4.out
      clear hb4 t4
      by_cases hM : Pk.May p C D
      case neg =>
        rw [decide_eq_false hM]
        have e := hr.out
        rw [rcv_bad hM] at e
        simp only [Prod.mk.injEq] at e
        obtain ⟨rfl, rfl, rfl, rfl⟩ := e
        clear hM hr
        go_wp2_with (fail)
        go_roundw
        case rel => exact ⟨k + 1, HK.out, by go_num, L', HO4.out, HA4.out⟩
        case measure => have := HK.out; simp [intOf]; omega
      rw [decide_eq_true hM]
      have HM := Lib.hid hM
      have hids := may_ids hM
      have HI := Lib.hid hids
      clear hM hids
      by_cases h6 : p.ty = 6
      · have HIR := Lib.hid (HI.out.1 h6)
        have e : (on, ans, cd, L') = (false, [ackP 7 p.id], 0, L.filter (· ≠ p.id)) := by
          rw [hr.out]
          unfold rcv
          rw [if_neg (fun h => h HM.out), if_pos h6]
        simp only [Prod.mk.injEq] at e
        obtain ⟨rfl, rfl, rfl, rfl⟩ := e
        have b6 : (p.ty == 6) = true := by simpa using h6
        have i1 : 0 ≤ p.id := by have := HIR.out; omega
        have i2 : p.id < 65536 := by have := HIR.out; omega
        have ca : w4.cell? ⟨g, p.id.toNat, none⟩ = some (.bool (decide ((p.id.toNat : Int) ∈ L))) := HA4.out.cell (by omega)
        have fa : w4.frozen? ⟨g, p.id.toNat, none⟩ = false := HA4.out.frozen _
        obtain ⟨w5, hw5⟩ : ∃ w5, Hid (w5 = w4.setCell ⟨g, p.id.toNat, none⟩ (.bool false)) := ⟨_, rfl⟩
        have t5 : Hid (Turn (fun k => k = g) w4 w5) := by rw [hw5.out]; exact Turn.setCell w4 _ rfl
        have HA5 : Hid (ArrAt w5 g (L.filter (· ≠ p.id))) := by
          rw [hw5.out]
          exact HA4.out.set HIR.out.1 HIR.out.2 false (fun i hi => by rw [mem_strike]; exact ⟨fun x => x.1, fun x => ⟨x, hi⟩⟩) (by rw [decide_eq_false]; rw [mem_strike]; exact fun x => x.2 rfl)
        have HO5 := Lib.hid (HO4.out.arr HA4.out HG.out t5.out)
        have hgp : ∀ cur, w4.heap[g]? ≠ some (.cells cur PT (0, 0)) := fun cur hc => by
          obtain ⟨cs, hb, _⟩ := HA4.out.blk
          exact obj_ne hb hc (cells_ne (by decide)) rfl
        have HP5 : Hid (PRow w5 (.slice A3 ([ackP 7 p.id] : List Pkt).length c3) [ackP 7 p.id]) := HP4.out.turn t5.out (fun k hk cur => by subst hk; exact hgp cur)
        have HV5 : Hid (PkAt w5 v p) := (t5.out.block v (heap_lt HV4.out) (fun e => hgp _ (by rw [← e]; exact HV4.out))).trans HV4.out
        clear h6 hr hgp
        obtain ⟨g3, o3, rfl, hc3⟩ := HP5.out.at (k := 0) (by simp)
        have HKW : Hid (Hid (∀ j u, (ackP 7 p.id).cells.toList[j]? = some u → w5.cell? ((⟨g3, o3, none⟩ : Addr).add j) = some u) ∧ w5.cell? ⟨g3, o3, none⟩ = some (.int .i64 7) ∧ w5.cell? ⟨g3, o3 + 2, none⟩ = some (.int .i64 p.id) ∧ w5.cell? ⟨v, 2, none⟩ = some (.int .i64 p.id)) := by
          refine ⟨fun j u hu => ?_, by simpa using hc3 0 (.int .i64 7) rfl, by simpa using hc3 2 (.int .i64 p.id) rfl, ?_⟩
          · rw [Addr.add_mid]; simpa using hc3 j u (by simpa using hu)
          · exact cell_heap HV5.out
        clear hc3
        go_upto_region 26 with (fail)
        rw [← hw5.out]
        clear c0 c2 c5 ca fa
        · skip
          have HTD : Hid (Turn (fun _ => False) w5 (w5).drew) := Turn.drew (Turn.refl _ _)
          have HKP : Hid (∀ W', Turn (fun _ => False) w5 W' → Hid (∀ j u, (ackP 7 p.id).cells.toList[j]? = some u → W'.cell? ((⟨g3, o3, none⟩ : Addr).add j) = some u) ∧ W'.cell? ⟨g3, o3, none⟩ = some (.int .i64 7) ∧ W'.cell? ⟨g3, o3 + 2, none⟩ = some (.int .i64 p.id) ∧ W'.cell? ⟨v, 2, none⟩ = some (.int .i64 p.id)) := fun W' t => by
            obtain ⟨q1, q2, q3, q4⟩ := HKW.out
            exact ⟨fun j u hu => t.cell (q1.out j u hu) (fun h => h), t.cell q2 (fun h => h), t.cell q3 (fun h => h), t.cell q4 (fun h => h)⟩
          refine wp_region_held_drew (S := (fun W' => Hid (∀ j u, (ackP 7 p.id).cells.toList[j]? = some u → W'.cell? ((⟨g3, o3, none⟩ : Addr).add j) = some u) ∧ W'.cell? ⟨g3, o3, none⟩ = some (.int .i64 7) ∧ W'.cell? ⟨g3, o3 + 2, none⟩ = some (.int .i64 p.id) ∧ W'.cell? ⟨v, 2, none⟩ = some (.int .i64 p.id))) (by kernel_rfl) (by first | exact HKP.out _ HTD.out | exact HKP.out _ HT6.out) (fun hHeld => ?_)
          refine wpAnyH_take (i := 0) (oi := ⟨_, _, _, _, _, _⟩) (v := ?_) rfl (by kernel_rfl) (by kernel_rfl) (by kernel_rfl) (fun _ _ _ h => h) (Or.inl ⟨by kernel_rfl, ?_⟩) hHeld ?_
          rotate_left
          · (intro w hSw; obtain ⟨s1, s2, s3, s4⟩ := hSw; go_simp; try with_reducible rfl)
          simp only [Act.put, List.setIfInBounds_toArray, List.set_cons_zero, List.set_cons_succ]
          refine wpAnyH_take (i := 1) (oi := ⟨_, _, _, _, _, _⟩) (v := ?_) rfl (by kernel_rfl) (by kernel_rfl) (by kernel_rfl) (fun _ _ _ h => h) (Or.inl ⟨by kernel_rfl, ?_⟩) hHeld ?_
          rotate_left
          · (intro w hSw; obtain ⟨s1, s2, s3, s4⟩ := hSw; go_simp; try with_reducible rfl)
          simp only [Act.put, List.setIfInBounds_toArray, List.set_cons_zero, List.set_cons_succ]
          refine wpAnyH_take (i := 2) (oi := ⟨_, _, _, _, _, _⟩) (v := ?_) rfl (by kernel_rfl) (by kernel_rfl) (by kernel_rfl) (fun _ _ _ h => h) (Or.inl ⟨by kernel_rfl, ?_⟩) hHeld ?_
          rotate_left
          · (intro w hSw; obtain ⟨s1, s2, s3, s4⟩ := hSw; go_simp; try with_reducible rfl)
          simp only [Act.put, List.setIfInBounds_toArray, List.set_cons_zero, List.set_cons_succ]
          refine wpAnyH_take (i := 3) (oi := ⟨_, _, _, _, _, _⟩) rfl (by kernel_rfl) (by kernel_rfl) (by kernel_rfl) (fun _ _ _ h => h) (Or.inr ⟨by kernel_rfl, rfl⟩) hHeld ?_
          simp only [Act.put, List.setIfInBounds_toArray, List.set_cons_zero, List.set_cons_succ]
          refine wpAnyH_take (i := 4) (oi := ⟨_, _, _, _, _, _⟩) rfl (by kernel_rfl) (by kernel_rfl) (by kernel_rfl) (fun _ _ _ h => h) (Or.inr ⟨by kernel_rfl, rfl⟩) hHeld ?_
          simp only [Act.put, List.setIfInBounds_toArray, List.set_cons_zero, List.set_cons_succ]
          refine wpAnyH_take (i := 5) (oi := ⟨_, _, _, _, _, _⟩) rfl (by kernel_rfl) (by kernel_rfl) (by kernel_rfl) (fun _ _ _ h => h) (Or.inr ⟨by kernel_rfl, rfl⟩) hHeld ?_
          simp only [Act.put, List.setIfInBounds_toArray, List.set_cons_zero, List.set_cons_succ]
          refine wpAnyH_take (i := 6) (oi := ⟨_, _, _, _, _, _⟩) (v := ?_) rfl (by kernel_rfl) (by kernel_rfl) (by kernel_rfl) (fun _ _ _ h => h) (Or.inl ⟨by kernel_rfl, ?_⟩) hHeld ?_
          rotate_left
          · (intro w hSw; obtain ⟨s1, s2, s3, s4⟩ := hSw; go_simp; try with_reducible rfl)
          simp only [Act.put, List.setIfInBounds_toArray, List.set_cons_zero, List.set_cons_succ]
          refine wpAnyH_take (i := 7) (oi := ⟨_, _, _, _, _, _⟩) (v := ?_) rfl (by kernel_rfl) (by kernel_rfl) (by kernel_rfl) (fun _ _ _ h => h) (Or.inl ⟨by kernel_rfl, ?_⟩) hHeld ?_
          rotate_left
          · (intro w hSw; obtain ⟨s1, s2, s3, s4⟩ := hSw; go_simp; try with_reducible rfl)
          simp only [Act.put, List.setIfInBounds_toArray, List.set_cons_zero, List.set_cons_succ]
          refine wpAnyH_take (i := 8) (oi := ⟨_, _, _, _, _, _⟩) (v := ?_) rfl (by kernel_rfl) (by kernel_rfl) (by kernel_rfl) (fun _ _ _ h => h) (Or.inl ⟨by kernel_rfl, ?_⟩) hHeld ?_
          rotate_left
          · (intro w hSw; obtain ⟨s1, s2, s3, s4⟩ := hSw; go_simp; try with_reducible rfl)
          simp only [Act.put, List.setIfInBounds_toArray, List.set_cons_zero, List.set_cons_succ]
          refine wpAnyH_take (i := 9) (oi := ⟨_, _, _, _, _, _⟩) (v := ?_) rfl (by kernel_rfl) (by kernel_rfl) (by kernel_rfl) (fun _ _ _ h => h) (Or.inl ⟨by kernel_rfl, ?_⟩) hHeld ?_
          rotate_left
          · (intro w hSw; obtain ⟨s1, s2, s3, s4⟩ := hSw; go_simp; try with_reducible rfl)
          simp only [Act.put, List.setIfInBounds_toArray, List.set_cons_zero, List.set_cons_succ]
          refine wpAnyH_take (i := 10) (oi := ⟨_, _, _, _, _, _⟩) (v := ?_) rfl (by kernel_rfl) (by kernel_rfl) (by kernel_rfl) (fun _ _ _ h => h) (Or.inl ⟨by kernel_rfl, ?_⟩) hHeld ?_
          rotate_left
          · (intro w hSw; obtain ⟨s1, s2, s3, s4⟩ := hSw; go_simp; try with_reducible rfl)
          simp only [Act.put, List.setIfInBounds_toArray, List.set_cons_zero, List.set_cons_succ]
          refine wpAnyH_take (i := 11) (oi := ⟨_, _, _, _, _, _⟩) (v := ?_) rfl (by kernel_rfl) (by kernel_rfl) (by kernel_rfl) (fun _ _ _ h => h) (Or.inl ⟨by kernel_rfl, ?_⟩) hHeld ?_
          rotate_left
          · (intro w hSw; obtain ⟨s1, s2, s3, s4⟩ := hSw; go_simp; try with_reducible rfl)
          simp only [Act.put, List.setIfInBounds_toArray, List.set_cons_zero, List.set_cons_succ]
          refine wpAnyH_take (i := 12) (oi := ⟨_, _, _, _, _, _⟩) (v := ?_) rfl (by kernel_rfl) (by kernel_rfl) (by kernel_rfl) (fun _ _ _ h => h) (Or.inl ⟨by kernel_rfl, ?_⟩) hHeld ?_
          rotate_left
          · (intro w hSw; obtain ⟨s1, s2, s3, s4⟩ := hSw; go_simp; try with_reducible rfl)
          simp only [Act.put, List.setIfInBounds_toArray, List.set_cons_zero, List.set_cons_succ]
          refine wpAnyH_take (i := 13) (oi := ⟨_, _, _, _, _, _⟩) (v := ?_) rfl (by kernel_rfl) (by kernel_rfl) (by kernel_rfl) (fun _ _ _ h => h) (Or.inl ⟨by kernel_rfl, ?_⟩) hHeld ?_
          rotate_left
          · (intro w hSw; obtain ⟨s1, s2, s3, s4⟩ := hSw; go_simp; try with_reducible rfl)
          simp only [Act.put, List.setIfInBounds_toArray, List.set_cons_zero, List.set_cons_succ]
          refine wpAnyH_take (i := 14) (oi := ⟨_, _, _, _, _, _⟩) (v := ?_) rfl (by kernel_rfl) (by kernel_rfl) (by kernel_rfl) (fun _ _ _ h => h) (Or.inl ⟨by kernel_rfl, ?_⟩) hHeld ?_
          rotate_left
          · (intro w hSw; obtain ⟨s1, s2, s3, s4⟩ := hSw; go_simp; try with_reducible rfl)
          simp only [Act.put, List.setIfInBounds_toArray, List.set_cons_zero, List.set_cons_succ]
          refine wpAnyH_take (i := 15) (oi := ⟨_, _, _, _, _, _⟩) (v := ?_) rfl (by kernel_rfl) (by kernel_rfl) (by kernel_rfl) (fun _ _ _ h => h) (Or.inl ⟨by kernel_rfl, ?_⟩) hHeld ?_
          rotate_left
          · (intro w hSw; obtain ⟨s1, s2, s3, s4⟩ := hSw; go_simp; try with_reducible rfl)
          simp only [Act.put, List.setIfInBounds_toArray, List.set_cons_zero, List.set_cons_succ]
          refine wpAnyH_take (i := 16) (oi := ⟨_, _, _, _, _, _⟩) (v := ?_) rfl (by kernel_rfl) (by kernel_rfl) (by kernel_rfl) (fun _ _ _ h => h) (Or.inl ⟨by kernel_rfl, ?_⟩) hHeld ?_
          rotate_left
          · (intro w hSw; obtain ⟨s1, s2, s3, s4⟩ := hSw; go_simp; try with_reducible rfl)
          simp only [Act.put, List.setIfInBounds_toArray, List.set_cons_zero, List.set_cons_succ]
          refine wpAnyH_take (i := 17) (oi := ⟨_, _, _, _, _, _⟩) (v := ?_) rfl (by kernel_rfl) (by kernel_rfl) (by kernel_rfl) (fun _ _ _ h => h) (Or.inl ⟨by kernel_rfl, ?_⟩) hHeld ?_
          rotate_left
          · (intro w hSw; obtain ⟨s1, s2, s3, s4⟩ := hSw; go_simp; try with_reducible rfl)
          simp only [Act.put, List.setIfInBounds_toArray, List.set_cons_zero, List.set_cons_succ]
          refine wpAnyH_take (i := 18) (oi := ⟨_, _, _, _, _, _⟩) (v := ?_) rfl (by kernel_rfl) (by kernel_rfl) (by kernel_rfl) (fun _ _ _ h => h) (Or.inl ⟨by kernel_rfl, ?_⟩) hHeld ?_
          rotate_left
          · (intro w hSw; obtain ⟨s1, s2, s3, s4⟩ := hSw; go_simp; try with_reducible rfl)
          simp only [Act.put, List.setIfInBounds_toArray, List.set_cons_zero, List.set_cons_succ]
          refine wpAnyH_take (i := 19) (oi := ⟨_, _, _, _, _, _⟩) (v := ?_) rfl (by kernel_rfl) (by kernel_rfl) (by kernel_rfl) (fun _ _ _ h => h) (Or.inl ⟨by kernel_rfl, ?_⟩) hHeld ?_
          rotate_left
          · (intro w hSw; obtain ⟨s1, s2, s3, s4⟩ := hSw; go_simp; try with_reducible rfl)
          simp only [Act.put, List.setIfInBounds_toArray, List.set_cons_zero, List.set_cons_succ]
          refine wpAnyH_take (i := 20) (oi := ⟨_, _, _, _, _, _⟩) (v := ?_) rfl (by kernel_rfl) (by kernel_rfl) (by kernel_rfl) (fun _ _ _ h => h) (Or.inl ⟨by kernel_rfl, ?_⟩) hHeld ?_
          rotate_left
          · (intro w hSw; obtain ⟨s1, s2, s3, s4⟩ := hSw; go_simp; try with_reducible rfl)
          simp only [Act.put, List.setIfInBounds_toArray, List.set_cons_zero, List.set_cons_succ]
          refine wpAnyH_take (i := 21) (oi := ⟨_, _, _, _, _, _⟩) (v := ?_) rfl (by kernel_rfl) (by kernel_rfl) (by kernel_rfl) (fun _ _ _ h => h) (Or.inl ⟨by kernel_rfl, ?_⟩) hHeld ?_
          rotate_left
          · (intro w hSw; obtain ⟨s1, s2, s3, s4⟩ := hSw; go_simp; try with_reducible rfl)
          simp only [Act.put, List.setIfInBounds_toArray, List.set_cons_zero, List.set_cons_succ]
          refine wpAnyH_take (i := 22) (oi := ⟨_, _, _, _, _, _⟩) (v := ?_) rfl (by kernel_rfl) (by kernel_rfl) (by kernel_rfl) (fun _ _ _ h => h) (Or.inl ⟨by kernel_rfl, ?_⟩) hHeld ?_
          rotate_left
          · (intro w hSw; obtain ⟨s1, s2, s3, s4⟩ := hSw; go_simp; try with_reducible rfl)
          simp only [Act.put, List.setIfInBounds_toArray, List.set_cons_zero, List.set_cons_succ]
          refine wpAnyH_take (i := 23) (oi := ⟨_, _, _, _, _, _⟩) (v := ?_) rfl (by kernel_rfl) (by kernel_rfl) (by kernel_rfl) (fun _ _ _ h => h) (Or.inl ⟨by kernel_rfl, ?_⟩) hHeld ?_
          rotate_left
          · (intro w hSw; obtain ⟨s1, s2, s3, s4⟩ := hSw; go_simp; try with_reducible rfl)
          simp only [Act.put, List.setIfInBounds_toArray, List.set_cons_zero, List.set_cons_succ]
          refine wpAnyH_take (i := 24) (oi := ⟨_, _, _, _, _, _⟩) (v := ?_) rfl (by kernel_rfl) (by kernel_rfl) (by kernel_rfl) (fun _ _ _ h => h) (Or.inl ⟨by kernel_rfl, ?_⟩) hHeld ?_
          rotate_left
          · (intro w hSw; obtain ⟨s1, s2, s3, s4⟩ := hSw; go_simp; try with_reducible rfl)
          simp only [Act.put, List.setIfInBounds_toArray, List.set_cons_zero, List.set_cons_succ]
          refine wpAnyH_take (i := 25) (oi := ⟨_, _, _, _, _, _⟩) (v := ?_) rfl (by kernel_rfl) (by kernel_rfl) (by kernel_rfl) (fun _ _ _ h => h) (Or.inl ⟨by kernel_rfl, ?_⟩) hHeld ?_
          rotate_left
          · (intro w hSw; obtain ⟨s1, s2, s3, s4⟩ := hSw; go_simp; try with_reducible rfl)
          simp only [Act.put, List.setIfInBounds_toArray, List.set_cons_zero, List.set_cons_succ]
          refine wpAnyH_take (i := 26) (oi := ⟨_, _, _, _, _, _⟩) (v := ?_) rfl (by kernel_rfl) (by kernel_rfl) (by kernel_rfl) (fun _ _ _ h => h) (Or.inl ⟨by kernel_rfl, ?_⟩) hHeld ?_
          rotate_left
          · (intro w hSw; obtain ⟨s1, s2, s3, s4⟩ := hSw; go_simp; try with_reducible rfl)
          simp only [Act.put, List.setIfInBounds_toArray, List.set_cons_zero, List.set_cons_succ]
          refine wpAnyH_take (i := 27) (oi := ⟨_, _, _, _, _, _⟩) (v := ?_) rfl (by kernel_rfl) (by kernel_rfl) (by kernel_rfl) (fun _ _ _ h => h) (Or.inl ⟨by kernel_rfl, ?_⟩) hHeld ?_
          rotate_left
          · (intro w hSw; obtain ⟨s1, s2, s3, s4⟩ := hSw; go_simp; try with_reducible rfl)
          simp only [Act.put, List.setIfInBounds_toArray, List.set_cons_zero, List.set_cons_succ]
          refine wpAnyH_take (i := 28) (oi := ⟨_, _, _, _, _, _⟩) (v := ?_) rfl (by kernel_rfl) (by kernel_rfl) (by kernel_rfl) (fun _ _ _ h => h) (Or.inl ⟨by kernel_rfl, ?_⟩) hHeld ?_
          rotate_left
          · (intro w hSw; obtain ⟨s1, s2, s3, s4⟩ := hSw; go_simp; try with_reducible rfl)
          simp only [Act.put, List.setIfInBounds_toArray, List.set_cons_zero, List.set_cons_succ]
          refine wpAnyH_take (i := 29) (oi := ⟨_, _, _, _, _, _⟩) (v := ?_) rfl (by kernel_rfl) (by kernel_rfl) (by kernel_rfl) (fun _ _ _ h => h) (Or.inl ⟨by kernel_rfl, ?_⟩) hHeld ?_
          rotate_left
          · (intro w hSw; obtain ⟨s1, s2, s3, s4⟩ := hSw; go_simp; try with_reducible rfl)
          simp only [Act.put, List.setIfInBounds_toArray, List.set_cons_zero, List.set_cons_succ]
          refine wpAnyH_take (i := 30) (oi := ⟨_, _, _, _, _, _⟩) (v := ?_) rfl (by kernel_rfl) (by kernel_rfl) (by kernel_rfl) (fun _ _ _ h => h) (Or.inl ⟨by kernel_rfl, ?_⟩) hHeld ?_
          rotate_left
          · (intro w hSw; obtain ⟨s1, s2, s3, s4⟩ := hSw; go_simp; try with_reducible rfl)
          simp only [Act.put, List.setIfInBounds_toArray, List.set_cons_zero, List.set_cons_succ]
          refine wpAnyH_take (i := 31) (oi := ⟨_, _, _, _, _, _⟩) (v := ?_) rfl (by kernel_rfl) (by kernel_rfl) (by kernel_rfl) (fun _ _ _ h => h) (Or.inl ⟨by kernel_rfl, ?_⟩) hHeld ?_
          rotate_left
          · (intro w hSw; obtain ⟨s1, s2, s3, s4⟩ := hSw; go_simp; try with_reducible rfl)
          simp only [Act.put, List.setIfInBounds_toArray, List.set_cons_zero, List.set_cons_succ]
          refine wpAnyH_take (i := 32) (oi := ⟨_, _, _, _, _, _⟩) (v := ?_) rfl (by kernel_rfl) (by kernel_rfl) (by kernel_rfl) (fun _ _ _ h => h) (Or.inl ⟨by kernel_rfl, ?_⟩) hHeld ?_
          rotate_left
          · (intro w hSw; obtain ⟨s1, s2, s3, s4⟩ := hSw; go_simp; try with_reducible rfl)
          simp only [Act.put, List.setIfInBounds_toArray, List.set_cons_zero, List.set_cons_succ]
          refine wpAnyH_take (i := 33) (oi := ⟨_, _, _, _, _, _⟩) (v := ?_) rfl (by kernel_rfl) (by kernel_rfl) (by kernel_rfl) (fun _ _ _ h => h) (Or.inl ⟨by kernel_rfl, ?_⟩) hHeld ?_
          rotate_left
          · (intro w hSw; obtain ⟨s1, s2, s3, s4⟩ := hSw; go_simp; try with_reducible rfl)
          simp only [Act.put, List.setIfInBounds_toArray, List.set_cons_zero, List.set_cons_succ]
          refine wpAnyH_take (i := 34) (oi := ⟨_, _, _, _, _, _⟩) (v := .agg (ackP 7 p.id).cells) rfl (by kernel_rfl) (by kernel_rfl) (by kernel_rfl) (fun _ _ _ h => h) (Or.inl ⟨by kernel_rfl, ?_⟩) hHeld ?_
          · (intro w hSw; obtain ⟨s1, s2, s3, s4⟩ := hSw; exact rLoadRowA (x0 := ⟨g3, o3, none⟩) (p := ackP 7 p.id) rfl (by with_unfolding_all rfl) s1.out)
          simp only [Act.put, List.setIfInBounds_toArray, List.set_cons_zero, List.set_cons_succ]
          refine wpAnyH_ready (rs := [35]) (by kernel_rfl) (by simp) ?_
          refine AllReadyH.cons rfl (fun K hK => ?_) AllReadyH.nil
          go_simp
          go_wp2_with (go_at_call 15; refine (may_calls _ (ackP 7 p.id) [] [] (may_in _ _ _)).mono ?_; rw [decide_eq_true (may_ack (by decide) HIR.out.1 HIR.out.2)]; rintro e w6 ⟨rfl, hb6⟩; have HT6 : Hid (Turn (fun _ => False) w5 w6) := HTD.out.trans (Turn.of_below hb6); clear hb6)
          refine hK.out _ _ (by first | exact HKP.out _ HTD.out | exact HKP.out _ HT6.out) (fun hHeld => ?_)
          clear hK K
          refine wpAnyH_take (i := 36) (oi := ⟨_, _, _, _, _, _⟩) (v := ?_) rfl (by kernel_rfl) (by kernel_rfl) (by kernel_rfl) (fun _ _ _ h => h) (Or.inl ⟨by kernel_rfl, ?_⟩) hHeld ?_
          rotate_left
          · (intro w hSw; obtain ⟨s1, s2, s3, s4⟩ := hSw; go_simp; try with_reducible rfl)
          simp only [Act.put, List.setIfInBounds_toArray, List.set_cons_zero, List.set_cons_succ]
          refine wpAnyH_take (i := 37) (oi := ⟨_, _, _, _, _, _⟩) (v := ?_) rfl (by kernel_rfl) (by kernel_rfl) (by kernel_rfl) (fun _ _ _ h => h) (Or.inl ⟨by kernel_rfl, ?_⟩) hHeld ?_
          rotate_left
          · (intro w hSw; obtain ⟨s1, s2, s3, s4⟩ := hSw; go_simp; try with_reducible rfl)
          simp only [Act.put, List.setIfInBounds_toArray, List.set_cons_zero, List.set_cons_succ]
          refine wpAnyH_take (i := 38) (oi := ⟨_, _, _, _, _, _⟩) (v := ?_) rfl (by kernel_rfl) (by kernel_rfl) (by kernel_rfl) (fun _ _ _ h => h) (Or.inl ⟨by kernel_rfl, ?_⟩) hHeld ?_
          rotate_left
          · (intro w hSw; obtain ⟨s1, s2, s3, s4⟩ := hSw; go_simp; try with_reducible rfl)
          simp only [Act.put, List.setIfInBounds_toArray, List.set_cons_zero, List.set_cons_succ]
          refine wpAnyH_take (i := 39) (oi := ⟨_, _, _, _, _, _⟩) (v := ?_) rfl (by kernel_rfl) (by kernel_rfl) (by kernel_rfl) (fun _ _ _ h => h) (Or.inl ⟨by kernel_rfl, ?_⟩) hHeld ?_
          rotate_left
          · (intro w hSw; obtain ⟨s1, s2, s3, s4⟩ := hSw; go_simp; try with_reducible rfl)
          simp only [Act.put, List.setIfInBounds_toArray, List.set_cons_zero, List.set_cons_succ]
          refine wpAnyH_done (by kernel_rfl) ?_ _
          go_wp2_with (fail)
          go_roundw
          case rel => exact ⟨k + 1, HK.out, by go_num, _, HO5.out.still HT6.out, HA5.out.still HT6.out⟩
          case measure => have := HK.out; simp [intOf]; omega
      have b6 : (p.ty == 6) = false := by simpa using h6
      have H6 := Lib.hid h6
      clear h6
      by_cases h3 : p.ty = 3
      case neg =>
        have e : (on, ans, cd, L') = (false, [], 5, L) := by
          rw [hr.out]
          unfold rcv
          rw [if_neg (fun h => h HM.out), if_neg H6.out, if_pos h3]
        simp only [Prod.mk.injEq] at e
        obtain ⟨rfl, rfl, rfl, rfl⟩ := e
        clear h3 hr
        go_wp2_with (fail)
        go_roundw
        case rel => exact ⟨k + 1, HK.out, by go_num, L', HO4.out, HA4.out⟩
        case measure => have := HK.out; simp [intOf]; omega
      have H3 := Lib.hid h3
      clear h3
      by_cases h0 : p.qos = 0
      · have e : (on, ans, cd, L') = (true, [], 0, L) := by
          rw [hr.out]
          unfold rcv
          rw [if_neg (fun h => h HM.out), if_neg H6.out, if_neg (fun h => h H3.out), if_pos h0]
        simp only [Prod.mk.injEq] at e
        obtain ⟨rfl, rfl, rfl, rfl⟩ := e
        have q1 : (p.qos == 1) = false := by rw [h0]; rfl
        have q2 : (p.qos == 2) = false := by rw [h0]; rfl
        clear h0 hr
        go_upto_region 26 with (fail)
        go_quiet (fail)
        go_wp2_with (fail)
        go_roundw
        case rel => exact ⟨k + 1, HK.out, by go_num, L', HO4.out.still (Turn.drewN (Turn.refl _ _) _), HA4.out.still (Turn.drewN (Turn.refl _ _) _)⟩
        case measure => have := HK.out; simp [intOf]; omega
      have HIR := Lib.hid (HI.out.2.1 H3.out h0)
      have H0 := Lib.hid h0
      clear h0
      by_cases h1 : p.qos = 1
      · have e : (on, ans, cd, L') = (true, [ackP 4 p.id], 0, L) := by
          rw [hr.out]
          unfold rcv
          rw [if_neg (fun h => h HM.out), if_neg H6.out, if_neg (fun h => h H3.out), if_neg H0.out, if_pos h1]
        simp only [Prod.mk.injEq] at e
        obtain ⟨rfl, rfl, rfl, rfl⟩ := e
        have q1 : (p.qos == 1) = true := by simpa using h1
        clear h1 hr
        obtain ⟨g3, o3, rfl, hc3⟩ := HP4.out.at (k := 0) (by simp)
        have HKW : Hid (Hid (∀ j u, (ackP 4 p.id).cells.toList[j]? = some u → w4.cell? ((⟨g3, o3, none⟩ : Addr).add j) = some u) ∧ w4.cell? ⟨g3, o3, none⟩ = some (.int .i64 4) ∧ w4.cell? ⟨g3, o3 + 2, none⟩ = some (.int .i64 p.id) ∧ w4.cell? ⟨v, 2, none⟩ = some (.int .i64 p.id)) := by
          refine ⟨fun j u hu => ?_, by simpa using hc3 0 (.int .i64 4) rfl, by simpa using hc3 2 (.int .i64 p.id) rfl, ?_⟩
          · rw [Addr.add_mid]; simpa using hc3 j u (by simpa using hu)
          · exact cell_heap HV4.out
        clear hc3
        go_upto_region 26 with (fail)
        · skip
          have HTD : Hid (Turn (fun _ => False) w4 (w4).drew) := Turn.drew (Turn.refl _ _)
          have HKP : Hid (∀ W', Turn (fun _ => False) w4 W' → Hid (∀ j u, (ackP 4 p.id).cells.toList[j]? = some u → W'.cell? ((⟨g3, o3, none⟩ : Addr).add j) = some u) ∧ W'.cell? ⟨g3, o3, none⟩ = some (.int .i64 4) ∧ W'.cell? ⟨g3, o3 + 2, none⟩ = some (.int .i64 p.id) ∧ W'.cell? ⟨v, 2, none⟩ = some (.int .i64 p.id)) := fun W' t => by
            obtain ⟨q1, q2, q3, q4⟩ := HKW.out
            exact ⟨fun j u hu => t.cell (q1.out j u hu) (fun h => h), t.cell q2 (fun h => h), t.cell q3 (fun h => h), t.cell q4 (fun h => h)⟩
          refine wp_region_held_drew (S := (fun W' => Hid (∀ j u, (ackP 4 p.id).cells.toList[j]? = some u → W'.cell? ((⟨g3, o3, none⟩ : Addr).add j) = some u) ∧ W'.cell? ⟨g3, o3, none⟩ = some (.int .i64 4) ∧ W'.cell? ⟨g3, o3 + 2, none⟩ = some (.int .i64 p.id) ∧ W'.cell? ⟨v, 2, none⟩ = some (.int .i64 p.id))) (by kernel_rfl) (by first | exact HKP.out _ HTD.out | exact HKP.out _ HT6.out) (fun hHeld => ?_)
          refine wpAnyH_take (i := 0) (oi := ⟨_, _, _, _, _, _⟩) (v := ?_) rfl (by kernel_rfl) (by kernel_rfl) (by kernel_rfl) (fun _ _ _ h => h) (Or.inl ⟨by kernel_rfl, ?_⟩) hHeld ?_
          rotate_left
          · (intro w hSw; obtain ⟨s1, s2, s3, s4⟩ := hSw; go_simp; try with_reducible rfl)
          simp only [Act.put, List.setIfInBounds_toArray, List.set_cons_zero, List.set_cons_succ]
          refine wpAnyH_take (i := 1) (oi := ⟨_, _, _, _, _, _⟩) (v := ?_) rfl (by kernel_rfl) (by kernel_rfl) (by kernel_rfl) (fun _ _ _ h => h) (Or.inl ⟨by kernel_rfl, ?_⟩) hHeld ?_
          rotate_left
          · (intro w hSw; obtain ⟨s1, s2, s3, s4⟩ := hSw; go_simp; try with_reducible rfl)
          simp only [Act.put, List.setIfInBounds_toArray, List.set_cons_zero, List.set_cons_succ]
          refine wpAnyH_take (i := 2) (oi := ⟨_, _, _, _, _, _⟩) (v := ?_) rfl (by kernel_rfl) (by kernel_rfl) (by kernel_rfl) (fun _ _ _ h => h) (Or.inl ⟨by kernel_rfl, ?_⟩) hHeld ?_
          rotate_left
          · (intro w hSw; obtain ⟨s1, s2, s3, s4⟩ := hSw; go_simp; try with_reducible rfl)
          simp only [Act.put, List.setIfInBounds_toArray, List.set_cons_zero, List.set_cons_succ]
          refine wpAnyH_take (i := 3) (oi := ⟨_, _, _, _, _, _⟩) rfl (by kernel_rfl) (by kernel_rfl) (by kernel_rfl) (fun _ _ _ h => h) (Or.inr ⟨by kernel_rfl, rfl⟩) hHeld ?_
          simp only [Act.put, List.setIfInBounds_toArray, List.set_cons_zero, List.set_cons_succ]
          refine wpAnyH_take (i := 4) (oi := ⟨_, _, _, _, _, _⟩) rfl (by kernel_rfl) (by kernel_rfl) (by kernel_rfl) (fun _ _ _ h => h) (Or.inr ⟨by kernel_rfl, rfl⟩) hHeld ?_
          simp only [Act.put, List.setIfInBounds_toArray, List.set_cons_zero, List.set_cons_succ]
          refine wpAnyH_take (i := 5) (oi := ⟨_, _, _, _, _, _⟩) rfl (by kernel_rfl) (by kernel_rfl) (by kernel_rfl) (fun _ _ _ h => h) (Or.inr ⟨by kernel_rfl, rfl⟩) hHeld ?_
          simp only [Act.put, List.setIfInBounds_toArray, List.set_cons_zero, List.set_cons_succ]
          refine wpAnyH_take (i := 6) (oi := ⟨_, _, _, _, _, _⟩) (v := ?_) rfl (by kernel_rfl) (by kernel_rfl) (by kernel_rfl) (fun _ _ _ h => h) (Or.inl ⟨by kernel_rfl, ?_⟩) hHeld ?_
          rotate_left
          · (intro w hSw; obtain ⟨s1, s2, s3, s4⟩ := hSw; go_simp; try with_reducible rfl)
          simp only [Act.put, List.setIfInBounds_toArray, List.set_cons_zero, List.set_cons_succ]
          refine wpAnyH_take (i := 7) (oi := ⟨_, _, _, _, _, _⟩) (v := ?_) rfl (by kernel_rfl) (by kernel_rfl) (by kernel_rfl) (fun _ _ _ h => h) (Or.inl ⟨by kernel_rfl, ?_⟩) hHeld ?_
          rotate_left
          · (intro w hSw; obtain ⟨s1, s2, s3, s4⟩ := hSw; go_simp; try with_reducible rfl)
          simp only [Act.put, List.setIfInBounds_toArray, List.set_cons_zero, List.set_cons_succ]
          refine wpAnyH_take (i := 8) (oi := ⟨_, _, _, _, _, _⟩) (v := ?_) rfl (by kernel_rfl) (by kernel_rfl) (by kernel_rfl) (fun _ _ _ h => h) (Or.inl ⟨by kernel_rfl, ?_⟩) hHeld ?_
          rotate_left
          · (intro w hSw; obtain ⟨s1, s2, s3, s4⟩ := hSw; go_simp; try with_reducible rfl)
          simp only [Act.put, List.setIfInBounds_toArray, List.set_cons_zero, List.set_cons_succ]
          refine wpAnyH_take (i := 9) (oi := ⟨_, _, _, _, _, _⟩) (v := ?_) rfl (by kernel_rfl) (by kernel_rfl) (by kernel_rfl) (fun _ _ _ h => h) (Or.inl ⟨by kernel_rfl, ?_⟩) hHeld ?_
          rotate_left
          · (intro w hSw; obtain ⟨s1, s2, s3, s4⟩ := hSw; go_simp; try with_reducible rfl)
          simp only [Act.put, List.setIfInBounds_toArray, List.set_cons_zero, List.set_cons_succ]
          refine wpAnyH_take (i := 10) (oi := ⟨_, _, _, _, _, _⟩) (v := ?_) rfl (by kernel_rfl) (by kernel_rfl) (by kernel_rfl) (fun _ _ _ h => h) (Or.inl ⟨by kernel_rfl, ?_⟩) hHeld ?_
          rotate_left
          · (intro w hSw; obtain ⟨s1, s2, s3, s4⟩ := hSw; go_simp; try with_reducible rfl)
          simp only [Act.put, List.setIfInBounds_toArray, List.set_cons_zero, List.set_cons_succ]
          refine wpAnyH_take (i := 11) (oi := ⟨_, _, _, _, _, _⟩) (v := ?_) rfl (by kernel_rfl) (by kernel_rfl) (by kernel_rfl) (fun _ _ _ h => h) (Or.inl ⟨by kernel_rfl, ?_⟩) hHeld ?_
          rotate_left
          · (intro w hSw; obtain ⟨s1, s2, s3, s4⟩ := hSw; go_simp; try with_reducible rfl)
          simp only [Act.put, List.setIfInBounds_toArray, List.set_cons_zero, List.set_cons_succ]
          refine wpAnyH_take (i := 12) (oi := ⟨_, _, _, _, _, _⟩) (v := ?_) rfl (by kernel_rfl) (by kernel_rfl) (by kernel_rfl) (fun _ _ _ h => h) (Or.inl ⟨by kernel_rfl, ?_⟩) hHeld ?_
          rotate_left
          · (intro w hSw; obtain ⟨s1, s2, s3, s4⟩ := hSw; go_simp; try with_reducible rfl)
          simp only [Act.put, List.setIfInBounds_toArray, List.set_cons_zero, List.set_cons_succ]
          refine wpAnyH_take (i := 13) (oi := ⟨_, _, _, _, _, _⟩) (v := ?_) rfl (by kernel_rfl) (by kernel_rfl) (by kernel_rfl) (fun _ _ _ h => h) (Or.inl ⟨by kernel_rfl, ?_⟩) hHeld ?_
          rotate_left
          · (intro w hSw; obtain ⟨s1, s2, s3, s4⟩ := hSw; go_simp; try with_reducible rfl)
          simp only [Act.put, List.setIfInBounds_toArray, List.set_cons_zero, List.set_cons_succ]
          refine wpAnyH_take (i := 14) (oi := ⟨_, _, _, _, _, _⟩) (v := ?_) rfl (by kernel_rfl) (by kernel_rfl) (by kernel_rfl) (fun _ _ _ h => h) (Or.inl ⟨by kernel_rfl, ?_⟩) hHeld ?_
          rotate_left
          · (intro w hSw; obtain ⟨s1, s2, s3, s4⟩ := hSw; go_simp; try with_reducible rfl)
          simp only [Act.put, List.setIfInBounds_toArray, List.set_cons_zero, List.set_cons_succ]
          refine wpAnyH_take (i := 15) (oi := ⟨_, _, _, _, _, _⟩) (v := ?_) rfl (by kernel_rfl) (by kernel_rfl) (by kernel_rfl) (fun _ _ _ h => h) (Or.inl ⟨by kernel_rfl, ?_⟩) hHeld ?_
          rotate_left
          · (intro w hSw; obtain ⟨s1, s2, s3, s4⟩ := hSw; go_simp; try with_reducible rfl)
          simp only [Act.put, List.setIfInBounds_toArray, List.set_cons_zero, List.set_cons_succ]
          refine wpAnyH_take (i := 16) (oi := ⟨_, _, _, _, _, _⟩) (v := ?_) rfl (by kernel_rfl) (by kernel_rfl) (by kernel_rfl) (fun _ _ _ h => h) (Or.inl ⟨by kernel_rfl, ?_⟩) hHeld ?_
          rotate_left
          · (intro w hSw; obtain ⟨s1, s2, s3, s4⟩ := hSw; go_simp; try with_reducible rfl)
          simp only [Act.put, List.setIfInBounds_toArray, List.set_cons_zero, List.set_cons_succ]
          refine wpAnyH_take (i := 17) (oi := ⟨_, _, _, _, _, _⟩) (v := ?_) rfl (by kernel_rfl) (by kernel_rfl) (by kernel_rfl) (fun _ _ _ h => h) (Or.inl ⟨by kernel_rfl, ?_⟩) hHeld ?_
          rotate_left
          · (intro w hSw; obtain ⟨s1, s2, s3, s4⟩ := hSw; go_simp; try with_reducible rfl)
          simp only [Act.put, List.setIfInBounds_toArray, List.set_cons_zero, List.set_cons_succ]
          refine wpAnyH_take (i := 18) (oi := ⟨_, _, _, _, _, _⟩) (v := ?_) rfl (by kernel_rfl) (by kernel_rfl) (by kernel_rfl) (fun _ _ _ h => h) (Or.inl ⟨by kernel_rfl, ?_⟩) hHeld ?_
          rotate_left
          · (intro w hSw; obtain ⟨s1, s2, s3, s4⟩ := hSw; go_simp; try with_reducible rfl)
          simp only [Act.put, List.setIfInBounds_toArray, List.set_cons_zero, List.set_cons_succ]
          refine wpAnyH_take (i := 19) (oi := ⟨_, _, _, _, _, _⟩) (v := ?_) rfl (by kernel_rfl) (by kernel_rfl) (by kernel_rfl) (fun _ _ _ h => h) (Or.inl ⟨by kernel_rfl, ?_⟩) hHeld ?_
          rotate_left
          · (intro w hSw; obtain ⟨s1, s2, s3, s4⟩ := hSw; go_simp; try with_reducible rfl)
          simp only [Act.put, List.setIfInBounds_toArray, List.set_cons_zero, List.set_cons_succ]
          refine wpAnyH_take (i := 20) (oi := ⟨_, _, _, _, _, _⟩) (v := ?_) rfl (by kernel_rfl) (by kernel_rfl) (by kernel_rfl) (fun _ _ _ h => h) (Or.inl ⟨by kernel_rfl, ?_⟩) hHeld ?_
          rotate_left
          · (intro w hSw; obtain ⟨s1, s2, s3, s4⟩ := hSw; go_simp; try with_reducible rfl)
          simp only [Act.put, List.setIfInBounds_toArray, List.set_cons_zero, List.set_cons_succ]
          refine wpAnyH_take (i := 21) (oi := ⟨_, _, _, _, _, _⟩) (v := ?_) rfl (by kernel_rfl) (by kernel_rfl) (by kernel_rfl) (fun _ _ _ h => h) (Or.inl ⟨by kernel_rfl, ?_⟩) hHeld ?_
          rotate_left
          · (intro w hSw; obtain ⟨s1, s2, s3, s4⟩ := hSw; go_simp; try with_reducible rfl)
          simp only [Act.put, List.setIfInBounds_toArray, List.set_cons_zero, List.set_cons_succ]
          refine wpAnyH_take (i := 22) (oi := ⟨_, _, _, _, _, _⟩) (v := ?_) rfl (by kernel_rfl) (by kernel_rfl) (by kernel_rfl) (fun _ _ _ h => h) (Or.inl ⟨by kernel_rfl, ?_⟩) hHeld ?_
          rotate_left
          · (intro w hSw; obtain ⟨s1, s2, s3, s4⟩ := hSw; go_simp; try with_reducible rfl)
          simp only [Act.put, List.setIfInBounds_toArray, List.set_cons_zero, List.set_cons_succ]
          refine wpAnyH_take (i := 23) (oi := ⟨_, _, _, _, _, _⟩) (v := ?_) rfl (by kernel_rfl) (by kernel_rfl) (by kernel_rfl) (fun _ _ _ h => h) (Or.inl ⟨by kernel_rfl, ?_⟩) hHeld ?_
          rotate_left
          · (intro w hSw; obtain ⟨s1, s2, s3, s4⟩ := hSw; go_simp; try with_reducible rfl)
          simp only [Act.put, List.setIfInBounds_toArray, List.set_cons_zero, List.set_cons_succ]
          refine wpAnyH_take (i := 24) (oi := ⟨_, _, _, _, _, _⟩) (v := ?_) rfl (by kernel_rfl) (by kernel_rfl) (by kernel_rfl) (fun _ _ _ h => h) (Or.inl ⟨by kernel_rfl, ?_⟩) hHeld ?_
          rotate_left
          · (intro w hSw; obtain ⟨s1, s2, s3, s4⟩ := hSw; go_simp; try with_reducible rfl)
          simp only [Act.put, List.setIfInBounds_toArray, List.set_cons_zero, List.set_cons_succ]
          refine wpAnyH_take (i := 25) (oi := ⟨_, _, _, _, _, _⟩) (v := ?_) rfl (by kernel_rfl) (by kernel_rfl) (by kernel_rfl) (fun _ _ _ h => h) (Or.inl ⟨by kernel_rfl, ?_⟩) hHeld ?_
          rotate_left
          · (intro w hSw; obtain ⟨s1, s2, s3, s4⟩ := hSw; go_simp; try with_reducible rfl)
          simp only [Act.put, List.setIfInBounds_toArray, List.set_cons_zero, List.set_cons_succ]
          refine wpAnyH_take (i := 26) (oi := ⟨_, _, _, _, _, _⟩) (v := ?_) rfl (by kernel_rfl) (by kernel_rfl) (by kernel_rfl) (fun _ _ _ h => h) (Or.inl ⟨by kernel_rfl, ?_⟩) hHeld ?_
          rotate_left
          · (intro w hSw; obtain ⟨s1, s2, s3, s4⟩ := hSw; go_simp; try with_reducible rfl)
          simp only [Act.put, List.setIfInBounds_toArray, List.set_cons_zero, List.set_cons_succ]
          refine wpAnyH_take (i := 27) (oi := ⟨_, _, _, _, _, _⟩) (v := ?_) rfl (by kernel_rfl) (by kernel_rfl) (by kernel_rfl) (fun _ _ _ h => h) (Or.inl ⟨by kernel_rfl, ?_⟩) hHeld ?_
          rotate_left
          · (intro w hSw; obtain ⟨s1, s2, s3, s4⟩ := hSw; go_simp; try with_reducible rfl)
          simp only [Act.put, List.setIfInBounds_toArray, List.set_cons_zero, List.set_cons_succ]
          refine wpAnyH_take (i := 28) (oi := ⟨_, _, _, _, _, _⟩) (v := ?_) rfl (by kernel_rfl) (by kernel_rfl) (by kernel_rfl) (fun _ _ _ h => h) (Or.inl ⟨by kernel_rfl, ?_⟩) hHeld ?_
          rotate_left
          · (intro w hSw; obtain ⟨s1, s2, s3, s4⟩ := hSw; go_simp; try with_reducible rfl)
          simp only [Act.put, List.setIfInBounds_toArray, List.set_cons_zero, List.set_cons_succ]
          refine wpAnyH_take (i := 29) (oi := ⟨_, _, _, _, _, _⟩) (v := ?_) rfl (by kernel_rfl) (by kernel_rfl) (by kernel_rfl) (fun _ _ _ h => h) (Or.inl ⟨by kernel_rfl, ?_⟩) hHeld ?_
          rotate_left
          · (intro w hSw; obtain ⟨s1, s2, s3, s4⟩ := hSw; go_simp; try with_reducible rfl)
          simp only [Act.put, List.setIfInBounds_toArray, List.set_cons_zero, List.set_cons_succ]
          refine wpAnyH_take (i := 30) (oi := ⟨_, _, _, _, _, _⟩) (v := ?_) rfl (by kernel_rfl) (by kernel_rfl) (by kernel_rfl) (fun _ _ _ h => h) (Or.inl ⟨by kernel_rfl, ?_⟩) hHeld ?_
          rotate_left
          · (intro w hSw; obtain ⟨s1, s2, s3, s4⟩ := hSw; go_simp; try with_reducible rfl)
          simp only [Act.put, List.setIfInBounds_toArray, List.set_cons_zero, List.set_cons_succ]
          refine wpAnyH_take (i := 31) (oi := ⟨_, _, _, _, _, _⟩) (v := ?_) rfl (by kernel_rfl) (by kernel_rfl) (by kernel_rfl) (fun _ _ _ h => h) (Or.inl ⟨by kernel_rfl, ?_⟩) hHeld ?_
          rotate_left
          · (intro w hSw; obtain ⟨s1, s2, s3, s4⟩ := hSw; go_simp; try with_reducible rfl)
          simp only [Act.put, List.setIfInBounds_toArray, List.set_cons_zero, List.set_cons_succ]
          refine wpAnyH_take (i := 32) (oi := ⟨_, _, _, _, _, _⟩) (v := ?_) rfl (by kernel_rfl) (by kernel_rfl) (by kernel_rfl) (fun _ _ _ h => h) (Or.inl ⟨by kernel_rfl, ?_⟩) hHeld ?_
          rotate_left
          · (intro w hSw; obtain ⟨s1, s2, s3, s4⟩ := hSw; go_simp; try with_reducible rfl)
          simp only [Act.put, List.setIfInBounds_toArray, List.set_cons_zero, List.set_cons_succ]
          refine wpAnyH_take (i := 33) (oi := ⟨_, _, _, _, _, _⟩) (v := ?_) rfl (by kernel_rfl) (by kernel_rfl) (by kernel_rfl) (fun _ _ _ h => h) (Or.inl ⟨by kernel_rfl, ?_⟩) hHeld ?_
          rotate_left
          · (intro w hSw; obtain ⟨s1, s2, s3, s4⟩ := hSw; go_simp; try with_reducible rfl)
          simp only [Act.put, List.setIfInBounds_toArray, List.set_cons_zero, List.set_cons_succ]
          refine wpAnyH_take (i := 34) (oi := ⟨_, _, _, _, _, _⟩) (v := .agg (ackP 4 p.id).cells) rfl (by kernel_rfl) (by kernel_rfl) (by kernel_rfl) (fun _ _ _ h => h) (Or.inl ⟨by kernel_rfl, ?_⟩) hHeld ?_
          · (intro w hSw; obtain ⟨s1, s2, s3, s4⟩ := hSw; exact rLoadRowA (x0 := ⟨g3, o3, none⟩) (p := ackP 4 p.id) rfl (by with_unfolding_all rfl) s1.out)
          simp only [Act.put, List.setIfInBounds_toArray, List.set_cons_zero, List.set_cons_succ]
          refine wpAnyH_ready (rs := [35]) (by kernel_rfl) (by simp) ?_
          refine AllReadyH.cons rfl (fun K hK => ?_) AllReadyH.nil
          go_simp
          go_wp2_with (go_at_call 15; refine (may_calls _ (ackP 4 p.id) [] [] (may_in _ _ _)).mono ?_; rw [decide_eq_true (may_ack (by decide) HIR.out.1 HIR.out.2)]; rintro e w6 ⟨rfl, hb6⟩; have HT6 : Hid (Turn (fun _ => False) w4 w6) := HTD.out.trans (Turn.of_below hb6); clear hb6)
          refine hK.out _ _ (by first | exact HKP.out _ HTD.out | exact HKP.out _ HT6.out) (fun hHeld => ?_)
          clear hK K
          refine wpAnyH_take (i := 36) (oi := ⟨_, _, _, _, _, _⟩) (v := ?_) rfl (by kernel_rfl) (by kernel_rfl) (by kernel_rfl) (fun _ _ _ h => h) (Or.inl ⟨by kernel_rfl, ?_⟩) hHeld ?_
          rotate_left
          · (intro w hSw; obtain ⟨s1, s2, s3, s4⟩ := hSw; go_simp; try with_reducible rfl)
          simp only [Act.put, List.setIfInBounds_toArray, List.set_cons_zero, List.set_cons_succ]
          refine wpAnyH_take (i := 37) (oi := ⟨_, _, _, _, _, _⟩) (v := ?_) rfl (by kernel_rfl) (by kernel_rfl) (by kernel_rfl) (fun _ _ _ h => h) (Or.inl ⟨by kernel_rfl, ?_⟩) hHeld ?_
          rotate_left
          · (intro w hSw; obtain ⟨s1, s2, s3, s4⟩ := hSw; go_simp; try with_reducible rfl)
          simp only [Act.put, List.setIfInBounds_toArray, List.set_cons_zero, List.set_cons_succ]
          refine wpAnyH_take (i := 38) (oi := ⟨_, _, _, _, _, _⟩) (v := ?_) rfl (by kernel_rfl) (by kernel_rfl) (by kernel_rfl) (fun _ _ _ h => h) (Or.inl ⟨by kernel_rfl, ?_⟩) hHeld ?_
          rotate_left
          · (intro w hSw; obtain ⟨s1, s2, s3, s4⟩ := hSw; go_simp; try with_reducible rfl)
          simp only [Act.put, List.setIfInBounds_toArray, List.set_cons_zero, List.set_cons_succ]
          refine wpAnyH_take (i := 39) (oi := ⟨_, _, _, _, _, _⟩) (v := ?_) rfl (by kernel_rfl) (by kernel_rfl) (by kernel_rfl) (fun _ _ _ h => h) (Or.inl ⟨by kernel_rfl, ?_⟩) hHeld ?_
          rotate_left
          · (intro w hSw; obtain ⟨s1, s2, s3, s4⟩ := hSw; go_simp; try with_reducible rfl)
          simp only [Act.put, List.setIfInBounds_toArray, List.set_cons_zero, List.set_cons_succ]
          refine wpAnyH_done (by kernel_rfl) ?_ _
          go_wp2_with (fail)
          go_roundw
          case rel => exact ⟨k + 1, HK.out, by go_num, L', HO4.out.still HT6.out, HA4.out.still HT6.out⟩
          case measure => have := HK.out; simp [intOf]; omega
      have h2 : p.qos = 2 := by have := HI.out.2.2 H3.out; have := H0.out; omega
      have e : (on, ans, cd, L') = (!decide (p.id ∈ L), [ackP 5 p.id], 0, if p.id ∈ L then L else L ++ [p.id]) := by
        rw [hr.out]
        unfold rcv
        rw [if_neg (fun h => h HM.out), if_neg H6.out, if_neg (fun h => h H3.out), if_neg H0.out, if_neg h1]
      simp only [Prod.mk.injEq] at e
      obtain ⟨_, rfl, rfl, hLL⟩ := e
      have HLL := Lib.hid hLL
      have q1 : (p.qos == 1) = false := by simpa using h1
      have q2 : (p.qos == 2) = true := by simpa using h2
      have i1 : 0 ≤ p.id := by have := HIR.out; omega
      have i2 : p.id < 65536 := by have := HIR.out; omega
      have ca : w4.cell? ⟨g, p.id.toNat, none⟩ = some (.bool (decide ((p.id.toNat : Int) ∈ L))) := HA4.out.cell (by omega)
      have fa : w4.frozen? ⟨g, p.id.toNat, none⟩ = false := HA4.out.frozen _
      obtain ⟨w5, hw5⟩ : ∃ w5, Hid (w5 = w4.setCell ⟨g, p.id.toNat, none⟩ (.bool true)) := ⟨_, rfl⟩
      have t5 : Hid (Turn (fun k => k = g) w4 w5) := by rw [hw5.out]; exact Turn.setCell w4 _ rfl
      have HA5 : Hid (ArrAt w5 g L') := by
        rw [hw5.out, HLL.out]
        exact HA4.out.set HIR.out.1 HIR.out.2 true (fun i hi => by rw [mem_put]; exact ⟨fun x => x.elim id (fun e => absurd e hi), .inl⟩) (by rw [decide_eq_true]; rw [mem_put]; exact .inr rfl)
      have HO5 := Lib.hid (HO4.out.arr HA4.out HG.out t5.out)
      have hgp : ∀ cur, w4.heap[g]? ≠ some (.cells cur PT (0, 0)) := fun cur hc => by
        obtain ⟨cs, hb, _⟩ := HA4.out.blk
        exact obj_ne hb hc (cells_ne (by decide)) rfl
      have HP5 : Hid (PRow w5 (.slice A3 ([ackP 5 p.id] : List Pkt).length c3) [ackP 5 p.id]) := HP4.out.turn t5.out (fun k hk cur => by subst hk; exact hgp cur)
      have HV5 : Hid (PkAt w5 v p) := (t5.out.block v (heap_lt HV4.out) (fun e => hgp _ (by rw [← e]; exact HV4.out))).trans HV4.out
      clear h1 h2 hr hLL hgp
      obtain ⟨g3, o3, rfl, hc3⟩ := HP5.out.at (k := 0) (by simp)
      have HKW : Hid (Hid (∀ j u, (ackP 5 p.id).cells.toList[j]? = some u → w5.cell? ((⟨g3, o3, none⟩ : Addr).add j) = some u) ∧ w5.cell? ⟨g3, o3, none⟩ = some (.int .i64 5) ∧ w5.cell? ⟨g3, o3 + 2, none⟩ = some (.int .i64 p.id) ∧ w5.cell? ⟨v, 2, none⟩ = some (.int .i64 p.id)) := by
        refine ⟨fun j u hu => ?_, by simpa using hc3 0 (.int .i64 5) rfl, by simpa using hc3 2 (.int .i64 p.id) rfl, ?_⟩
        · rw [Addr.add_mid]; simpa using hc3 j u (by simpa using hu)
        · exact cell_heap HV5.out
      clear hc3
      go_upto_region 26 with (fail)
      rw [← hw5.out]
      clear c0 c2 c5 ca fa
      · skip
        have HTD : Hid (Turn (fun _ => False) w5 (w5).drew) := Turn.drew (Turn.refl _ _)
        have HKP : Hid (∀ W', Turn (fun _ => False) w5 W' → Hid (∀ j u, (ackP 5 p.id).cells.toList[j]? = some u → W'.cell? ((⟨g3, o3, none⟩ : Addr).add j) = some u) ∧ W'.cell? ⟨g3, o3, none⟩ = some (.int .i64 5) ∧ W'.cell? ⟨g3, o3 + 2, none⟩ = some (.int .i64 p.id) ∧ W'.cell? ⟨v, 2, none⟩ = some (.int .i64 p.id)) := fun W' t => by
          obtain ⟨q1, q2, q3, q4⟩ := HKW.out
          exact ⟨fun j u hu => t.cell (q1.out j u hu) (fun h => h), t.cell q2 (fun h => h), t.cell q3 (fun h => h), t.cell q4 (fun h => h)⟩
        refine wp_region_held_drew (S := (fun W' => Hid (∀ j u, (ackP 5 p.id).cells.toList[j]? = some u → W'.cell? ((⟨g3, o3, none⟩ : Addr).add j) = some u) ∧ W'.cell? ⟨g3, o3, none⟩ = some (.int .i64 5) ∧ W'.cell? ⟨g3, o3 + 2, none⟩ = some (.int .i64 p.id) ∧ W'.cell? ⟨v, 2, none⟩ = some (.int .i64 p.id))) (by kernel_rfl) (by first | exact HKP.out _ HTD.out | exact HKP.out _ HT6.out) (fun hHeld => ?_)
        refine wpAnyH_take (i := 0) (oi := ⟨_, _, _, _, _, _⟩) (v := ?_) rfl (by kernel_rfl) (by kernel_rfl) (by kernel_rfl) (fun _ _ _ h => h) (Or.inl ⟨by kernel_rfl, ?_⟩) hHeld ?_
        rotate_left
        · (intro w hSw; obtain ⟨s1, s2, s3, s4⟩ := hSw; go_simp; try with_reducible rfl)
        simp only [Act.put, List.setIfInBounds_toArray, List.set_cons_zero, List.set_cons_succ]
        refine wpAnyH_take (i := 1) (oi := ⟨_, _, _, _, _, _⟩) (v := ?_) rfl (by kernel_rfl) (by kernel_rfl) (by kernel_rfl) (fun _ _ _ h => h) (Or.inl ⟨by kernel_rfl, ?_⟩) hHeld ?_
        rotate_left
        · (intro w hSw; obtain ⟨s1, s2, s3, s4⟩ := hSw; go_simp; try with_reducible rfl)
        simp only [Act.put, List.setIfInBounds_toArray, List.set_cons_zero, List.set_cons_succ]
        refine wpAnyH_take (i := 2) (oi := ⟨_, _, _, _, _, _⟩) (v := ?_) rfl (by kernel_rfl) (by kernel_rfl) (by kernel_rfl) (fun _ _ _ h => h) (Or.inl ⟨by kernel_rfl, ?_⟩) hHeld ?_
        rotate_left
        · (intro w hSw; obtain ⟨s1, s2, s3, s4⟩ := hSw; go_simp; try with_reducible rfl)
        simp only [Act.put, List.setIfInBounds_toArray, List.set_cons_zero, List.set_cons_succ]
        refine wpAnyH_take (i := 3) (oi := ⟨_, _, _, _, _, _⟩) rfl (by kernel_rfl) (by kernel_rfl) (by kernel_rfl) (fun _ _ _ h => h) (Or.inr ⟨by kernel_rfl, rfl⟩) hHeld ?_
        simp only [Act.put, List.setIfInBounds_toArray, List.set_cons_zero, List.set_cons_succ]
        refine wpAnyH_take (i := 4) (oi := ⟨_, _, _, _, _, _⟩) rfl (by kernel_rfl) (by kernel_rfl) (by kernel_rfl) (fun _ _ _ h => h) (Or.inr ⟨by kernel_rfl, rfl⟩) hHeld ?_
        simp only [Act.put, List.setIfInBounds_toArray, List.set_cons_zero, List.set_cons_succ]
        refine wpAnyH_take (i := 5) (oi := ⟨_, _, _, _, _, _⟩) rfl (by kernel_rfl) (by kernel_rfl) (by kernel_rfl) (fun _ _ _ h => h) (Or.inr ⟨by kernel_rfl, rfl⟩) hHeld ?_
        simp only [Act.put, List.setIfInBounds_toArray, List.set_cons_zero, List.set_cons_succ]
        refine wpAnyH_take (i := 6) (oi := ⟨_, _, _, _, _, _⟩) (v := ?_) rfl (by kernel_rfl) (by kernel_rfl) (by kernel_rfl) (fun _ _ _ h => h) (Or.inl ⟨by kernel_rfl, ?_⟩) hHeld ?_
        rotate_left
        · (intro w hSw; obtain ⟨s1, s2, s3, s4⟩ := hSw; go_simp; try with_reducible rfl)
        simp only [Act.put, List.setIfInBounds_toArray, List.set_cons_zero, List.set_cons_succ]
        refine wpAnyH_take (i := 7) (oi := ⟨_, _, _, _, _, _⟩) (v := ?_) rfl (by kernel_rfl) (by kernel_rfl) (by kernel_rfl) (fun _ _ _ h => h) (Or.inl ⟨by kernel_rfl, ?_⟩) hHeld ?_
        rotate_left
        · (intro w hSw; obtain ⟨s1, s2, s3, s4⟩ := hSw; go_simp; try with_reducible rfl)
        simp only [Act.put, List.setIfInBounds_toArray, List.set_cons_zero, List.set_cons_succ]
        refine wpAnyH_take (i := 8) (oi := ⟨_, _, _, _, _, _⟩) (v := ?_) rfl (by kernel_rfl) (by kernel_rfl) (by kernel_rfl) (fun _ _ _ h => h) (Or.inl ⟨by kernel_rfl, ?_⟩) hHeld ?_
        rotate_left
        · (intro w hSw; obtain ⟨s1, s2, s3, s4⟩ := hSw; go_simp; try with_reducible rfl)
        simp only [Act.put, List.setIfInBounds_toArray, List.set_cons_zero, List.set_cons_succ]
        refine wpAnyH_take (i := 9) (oi := ⟨_, _, _, _, _, _⟩) (v := ?_) rfl (by kernel_rfl) (by kernel_rfl) (by kernel_rfl) (fun _ _ _ h => h) (Or.inl ⟨by kernel_rfl, ?_⟩) hHeld ?_
        rotate_left
        · (intro w hSw; obtain ⟨s1, s2, s3, s4⟩ := hSw; go_simp; try with_reducible rfl)
        simp only [Act.put, List.setIfInBounds_toArray, List.set_cons_zero, List.set_cons_succ]
        refine wpAnyH_take (i := 10) (oi := ⟨_, _, _, _, _, _⟩) (v := ?_) rfl (by kernel_rfl) (by kernel_rfl) (by kernel_rfl) (fun _ _ _ h => h) (Or.inl ⟨by kernel_rfl, ?_⟩) hHeld ?_
        rotate_left
        · (intro w hSw; obtain ⟨s1, s2, s3, s4⟩ := hSw; go_simp; try with_reducible rfl)
        simp only [Act.put, List.setIfInBounds_toArray, List.set_cons_zero, List.set_cons_succ]
        refine wpAnyH_take (i := 11) (oi := ⟨_, _, _, _, _, _⟩) (v := ?_) rfl (by kernel_rfl) (by kernel_rfl) (by kernel_rfl) (fun _ _ _ h => h) (Or.inl ⟨by kernel_rfl, ?_⟩) hHeld ?_
        rotate_left
        · (intro w hSw; obtain ⟨s1, s2, s3, s4⟩ := hSw; go_simp; try with_reducible rfl)
        simp only [Act.put, List.setIfInBounds_toArray, List.set_cons_zero, List.set_cons_succ]
        refine wpAnyH_take (i := 12) (oi := ⟨_, _, _, _, _, _⟩) (v := ?_) rfl (by kernel_rfl) (by kernel_rfl) (by kernel_rfl) (fun _ _ _ h => h) (Or.inl ⟨by kernel_rfl, ?_⟩) hHeld ?_
        rotate_left
        · (intro w hSw; obtain ⟨s1, s2, s3, s4⟩ := hSw; go_simp; try with_reducible rfl)
        simp only [Act.put, List.setIfInBounds_toArray, List.set_cons_zero, List.set_cons_succ]
        refine wpAnyH_take (i := 13) (oi := ⟨_, _, _, _, _, _⟩) (v := ?_) rfl (by kernel_rfl) (by kernel_rfl) (by kernel_rfl) (fun _ _ _ h => h) (Or.inl ⟨by kernel_rfl, ?_⟩) hHeld ?_
        rotate_left
        · (intro w hSw; obtain ⟨s1, s2, s3, s4⟩ := hSw; go_simp; try with_reducible rfl)
        simp only [Act.put, List.setIfInBounds_toArray, List.set_cons_zero, List.set_cons_succ]
        refine wpAnyH_take (i := 14) (oi := ⟨_, _, _, _, _, _⟩) (v := ?_) rfl (by kernel_rfl) (by kernel_rfl) (by kernel_rfl) (fun _ _ _ h => h) (Or.inl ⟨by kernel_rfl, ?_⟩) hHeld ?_
        rotate_left
        · (intro w hSw; obtain ⟨s1, s2, s3, s4⟩ := hSw; go_simp; try with_reducible rfl)
        simp only [Act.put, List.setIfInBounds_toArray, List.set_cons_zero, List.set_cons_succ]
        refine wpAnyH_take (i := 15) (oi := ⟨_, _, _, _, _, _⟩) (v := ?_) rfl (by kernel_rfl) (by kernel_rfl) (by kernel_rfl) (fun _ _ _ h => h) (Or.inl ⟨by kernel_rfl, ?_⟩) hHeld ?_
        rotate_left
        · (intro w hSw; obtain ⟨s1, s2, s3, s4⟩ := hSw; go_simp; try with_reducible rfl)
        simp only [Act.put, List.setIfInBounds_toArray, List.set_cons_zero, List.set_cons_succ]
        refine wpAnyH_take (i := 16) (oi := ⟨_, _, _, _, _, _⟩) (v := ?_) rfl (by kernel_rfl) (by kernel_rfl) (by kernel_rfl) (fun _ _ _ h => h) (Or.inl ⟨by kernel_rfl, ?_⟩) hHeld ?_
        rotate_left
        · (intro w hSw; obtain ⟨s1, s2, s3, s4⟩ := hSw; go_simp; try with_reducible rfl)
        simp only [Act.put, List.setIfInBounds_toArray, List.set_cons_zero, List.set_cons_succ]
        refine wpAnyH_take (i := 17) (oi := ⟨_, _, _, _, _, _⟩) (v := ?_) rfl (by kernel_rfl) (by kernel_rfl) (by kernel_rfl) (fun _ _ _ h => h) (Or.inl ⟨by kernel_rfl, ?_⟩) hHeld ?_
        rotate_left
        · (intro w hSw; obtain ⟨s1, s2, s3, s4⟩ := hSw; go_simp; try with_reducible rfl)
        simp only [Act.put, List.setIfInBounds_toArray, List.set_cons_zero, List.set_cons_succ]
        refine wpAnyH_take (i := 18) (oi := ⟨_, _, _, _, _, _⟩) (v := ?_) rfl (by kernel_rfl) (by kernel_rfl) (by kernel_rfl) (fun _ _ _ h => h) (Or.inl ⟨by kernel_rfl, ?_⟩) hHeld ?_
        rotate_left
        · (intro w hSw; obtain ⟨s1, s2, s3, s4⟩ := hSw; go_simp; try with_reducible rfl)
        simp only [Act.put, List.setIfInBounds_toArray, List.set_cons_zero, List.set_cons_succ]
        refine wpAnyH_take (i := 19) (oi := ⟨_, _, _, _, _, _⟩) (v := ?_) rfl (by kernel_rfl) (by kernel_rfl) (by kernel_rfl) (fun _ _ _ h => h) (Or.inl ⟨by kernel_rfl, ?_⟩) hHeld ?_
        rotate_left
        · (intro w hSw; obtain ⟨s1, s2, s3, s4⟩ := hSw; go_simp; try with_reducible rfl)
        simp only [Act.put, List.setIfInBounds_toArray, List.set_cons_zero, List.set_cons_succ]
        refine wpAnyH_take (i := 20) (oi := ⟨_, _, _, _, _, _⟩) (v := ?_) rfl (by kernel_rfl) (by kernel_rfl) (by kernel_rfl) (fun _ _ _ h => h) (Or.inl ⟨by kernel_rfl, ?_⟩) hHeld ?_
        rotate_left
        · (intro w hSw; obtain ⟨s1, s2, s3, s4⟩ := hSw; go_simp; try with_reducible rfl)
        simp only [Act.put, List.setIfInBounds_toArray, List.set_cons_zero, List.set_cons_succ]
        refine wpAnyH_take (i := 21) (oi := ⟨_, _, _, _, _, _⟩) (v := ?_) rfl (by kernel_rfl) (by kernel_rfl) (by kernel_rfl) (fun _ _ _ h => h) (Or.inl ⟨by kernel_rfl, ?_⟩) hHeld ?_
        rotate_left
        · (intro w hSw; obtain ⟨s1, s2, s3, s4⟩ := hSw; go_simp; try with_reducible rfl)
        simp only [Act.put, List.setIfInBounds_toArray, List.set_cons_zero, List.set_cons_succ]
        refine wpAnyH_take (i := 22) (oi := ⟨_, _, _, _, _, _⟩) (v := ?_) rfl (by kernel_rfl) (by kernel_rfl) (by kernel_rfl) (fun _ _ _ h => h) (Or.inl ⟨by kernel_rfl, ?_⟩) hHeld ?_
        rotate_left
        · (intro w hSw; obtain ⟨s1, s2, s3, s4⟩ := hSw; go_simp; try with_reducible rfl)
        simp only [Act.put, List.setIfInBounds_toArray, List.set_cons_zero, List.set_cons_succ]
        refine wpAnyH_take (i := 23) (oi := ⟨_, _, _, _, _, _⟩) (v := ?_) rfl (by kernel_rfl) (by kernel_rfl) (by kernel_rfl) (fun _ _ _ h => h) (Or.inl ⟨by kernel_rfl, ?_⟩) hHeld ?_
        rotate_left
        · (intro w hSw; obtain ⟨s1, s2, s3, s4⟩ := hSw; go_simp; try with_reducible rfl)
        simp only [Act.put, List.setIfInBounds_toArray, List.set_cons_zero, List.set_cons_succ]
        refine wpAnyH_take (i := 24) (oi := ⟨_, _, _, _, _, _⟩) (v := ?_) rfl (by kernel_rfl) (by kernel_rfl) (by kernel_rfl) (fun _ _ _ h => h) (Or.inl ⟨by kernel_rfl, ?_⟩) hHeld ?_
        rotate_left
        · (intro w hSw; obtain ⟨s1, s2, s3, s4⟩ := hSw; go_simp; try with_reducible rfl)
        simp only [Act.put, List.setIfInBounds_toArray, List.set_cons_zero, List.set_cons_succ]
        refine wpAnyH_take (i := 25) (oi := ⟨_, _, _, _, _, _⟩) (v := ?_) rfl (by kernel_rfl) (by kernel_rfl) (by kernel_rfl) (fun _ _ _ h => h) (Or.inl ⟨by kernel_rfl, ?_⟩) hHeld ?_
        rotate_left
        · (intro w hSw; obtain ⟨s1, s2, s3, s4⟩ := hSw; go_simp; try with_reducible rfl)
        simp only [Act.put, List.setIfInBounds_toArray, List.set_cons_zero, List.set_cons_succ]
        refine wpAnyH_take (i := 26) (oi := ⟨_, _, _, _, _, _⟩) (v := ?_) rfl (by kernel_rfl) (by kernel_rfl) (by kernel_rfl) (fun _ _ _ h => h) (Or.inl ⟨by kernel_rfl, ?_⟩) hHeld ?_
        rotate_left
        · (intro w hSw; obtain ⟨s1, s2, s3, s4⟩ := hSw; go_simp; try with_reducible rfl)
        simp only [Act.put, List.setIfInBounds_toArray, List.set_cons_zero, List.set_cons_succ]
        refine wpAnyH_take (i := 27) (oi := ⟨_, _, _, _, _, _⟩) (v := ?_) rfl (by kernel_rfl) (by kernel_rfl) (by kernel_rfl) (fun _ _ _ h => h) (Or.inl ⟨by kernel_rfl, ?_⟩) hHeld ?_
        rotate_left
        · (intro w hSw; obtain ⟨s1, s2, s3, s4⟩ := hSw; go_simp; try with_reducible rfl)
        simp only [Act.put, List.setIfInBounds_toArray, List.set_cons_zero, List.set_cons_succ]
        refine wpAnyH_take (i := 28) (oi := ⟨_, _, _, _, _, _⟩) (v := ?_) rfl (by kernel_rfl) (by kernel_rfl) (by kernel_rfl) (fun _ _ _ h => h) (Or.inl ⟨by kernel_rfl, ?_⟩) hHeld ?_
        rotate_left
        · (intro w hSw; obtain ⟨s1, s2, s3, s4⟩ := hSw; go_simp; try with_reducible rfl)
        simp only [Act.put, List.setIfInBounds_toArray, List.set_cons_zero, List.set_cons_succ]
        refine wpAnyH_take (i := 29) (oi := ⟨_, _, _, _, _, _⟩) (v := ?_) rfl (by kernel_rfl) (by kernel_rfl) (by kernel_rfl) (fun _ _ _ h => h) (Or.inl ⟨by kernel_rfl, ?_⟩) hHeld ?_
        rotate_left
        · (intro w hSw; obtain ⟨s1, s2, s3, s4⟩ := hSw; go_simp; try with_reducible rfl)
        simp only [Act.put, List.setIfInBounds_toArray, List.set_cons_zero, List.set_cons_succ]
        refine wpAnyH_take (i := 30) (oi := ⟨_, _, _, _, _, _⟩) (v := ?_) rfl (by kernel_rfl) (by kernel_rfl) (by kernel_rfl) (fun _ _ _ h => h) (Or.inl ⟨by kernel_rfl, ?_⟩) hHeld ?_
        rotate_left
        · (intro w hSw; obtain ⟨s1, s2, s3, s4⟩ := hSw; go_simp; try with_reducible rfl)
        simp only [Act.put, List.setIfInBounds_toArray, List.set_cons_zero, List.set_cons_succ]
        refine wpAnyH_take (i := 31) (oi := ⟨_, _, _, _, _, _⟩) (v := ?_) rfl (by kernel_rfl) (by kernel_rfl) (by kernel_rfl) (fun _ _ _ h => h) (Or.inl ⟨by kernel_rfl, ?_⟩) hHeld ?_
        rotate_left
        · (intro w hSw; obtain ⟨s1, s2, s3, s4⟩ := hSw; go_simp; try with_reducible rfl)
        simp only [Act.put, List.setIfInBounds_toArray, List.set_cons_zero, List.set_cons_succ]
        refine wpAnyH_take (i := 32) (oi := ⟨_, _, _, _, _, _⟩) (v := ?_) rfl (by kernel_rfl) (by kernel_rfl) (by kernel_rfl) (fun _ _ _ h => h) (Or.inl ⟨by kernel_rfl, ?_⟩) hHeld ?_
        rotate_left
        · (intro w hSw; obtain ⟨s1, s2, s3, s4⟩ := hSw; go_simp; try with_reducible rfl)
        simp only [Act.put, List.setIfInBounds_toArray, List.set_cons_zero, List.set_cons_succ]
        refine wpAnyH_take (i := 33) (oi := ⟨_, _, _, _, _, _⟩) (v := ?_) rfl (by kernel_rfl) (by kernel_rfl) (by kernel_rfl) (fun _ _ _ h => h) (Or.inl ⟨by kernel_rfl, ?_⟩) hHeld ?_
        rotate_left
        · (intro w hSw; obtain ⟨s1, s2, s3, s4⟩ := hSw; go_simp; try with_reducible rfl)
        simp only [Act.put, List.setIfInBounds_toArray, List.set_cons_zero, List.set_cons_succ]
        refine wpAnyH_take (i := 34) (oi := ⟨_, _, _, _, _, _⟩) (v := .agg (ackP 5 p.id).cells) rfl (by kernel_rfl) (by kernel_rfl) (by kernel_rfl) (fun _ _ _ h => h) (Or.inl ⟨by kernel_rfl, ?_⟩) hHeld ?_
        · (intro w hSw; obtain ⟨s1, s2, s3, s4⟩ := hSw; exact rLoadRowA (x0 := ⟨g3, o3, none⟩) (p := ackP 5 p.id) rfl (by with_unfolding_all rfl) s1.out)
        simp only [Act.put, List.setIfInBounds_toArray, List.set_cons_zero, List.set_cons_succ]
        refine wpAnyH_ready (rs := [35]) (by kernel_rfl) (by simp) ?_
        refine AllReadyH.cons rfl (fun K hK => ?_) AllReadyH.nil
        go_simp
        go_wp2_with (go_at_call 15; refine (may_calls _ (ackP 5 p.id) [] [] (may_in _ _ _)).mono ?_; rw [decide_eq_true (may_ack (by decide) HIR.out.1 HIR.out.2)]; rintro e w6 ⟨rfl, hb6⟩; have HT6 : Hid (Turn (fun _ => False) w5 w6) := HTD.out.trans (Turn.of_below hb6); clear hb6)
        refine hK.out _ _ (by first | exact HKP.out _ HTD.out | exact HKP.out _ HT6.out) (fun hHeld => ?_)
        clear hK K
        refine wpAnyH_take (i := 36) (oi := ⟨_, _, _, _, _, _⟩) (v := ?_) rfl (by kernel_rfl) (by kernel_rfl) (by kernel_rfl) (fun _ _ _ h => h) (Or.inl ⟨by kernel_rfl, ?_⟩) hHeld ?_
        rotate_left
        · (intro w hSw; obtain ⟨s1, s2, s3, s4⟩ := hSw; go_simp; try with_reducible rfl)
        simp only [Act.put, List.setIfInBounds_toArray, List.set_cons_zero, List.set_cons_succ]
        refine wpAnyH_take (i := 37) (oi := ⟨_, _, _, _, _, _⟩) (v := ?_) rfl (by kernel_rfl) (by kernel_rfl) (by kernel_rfl) (fun _ _ _ h => h) (Or.inl ⟨by kernel_rfl, ?_⟩) hHeld ?_
        rotate_left
        · (intro w hSw; obtain ⟨s1, s2, s3, s4⟩ := hSw; go_simp; try with_reducible rfl)
        simp only [Act.put, List.setIfInBounds_toArray, List.set_cons_zero, List.set_cons_succ]
        refine wpAnyH_take (i := 38) (oi := ⟨_, _, _, _, _, _⟩) (v := ?_) rfl (by kernel_rfl) (by kernel_rfl) (by kernel_rfl) (fun _ _ _ h => h) (Or.inl ⟨by kernel_rfl, ?_⟩) hHeld ?_
        rotate_left
        · (intro w hSw; obtain ⟨s1, s2, s3, s4⟩ := hSw; go_simp; try with_reducible rfl)
        simp only [Act.put, List.setIfInBounds_toArray, List.set_cons_zero, List.set_cons_succ]
        refine wpAnyH_take (i := 39) (oi := ⟨_, _, _, _, _, _⟩) (v := ?_) rfl (by kernel_rfl) (by kernel_rfl) (by kernel_rfl) (fun _ _ _ h => h) (Or.inl ⟨by kernel_rfl, ?_⟩) hHeld ?_
        rotate_left
        · (intro w hSw; obtain ⟨s1, s2, s3, s4⟩ := hSw; go_simp; try with_reducible rfl)
        simp only [Act.put, List.setIfInBounds_toArray, List.set_cons_zero, List.set_cons_succ]
        refine wpAnyH_done (by kernel_rfl) ?_ _
        go_wp2_with (fail)
        go_roundw
        case rel => exact ⟨k + 1, HK.out, by go_num, L', HO5.out.still HT6.out, HA5.out.still HT6.out⟩
        case measure => have := HK.out; simp [intOf]; omega
    · clear hk hk200
      obtain ⟨nb, hnb⟩ : ∃ nb, Hid (nb = wr.heap.size) := ⟨_, rfl⟩
      have HNB : Hid (w.heap.size ≤ nb ∧ R < nb ∧ b < nb ∧ g < nb) := by
        rw [Hid, hnb.out]
        exact ⟨HO.out.bel.size, heap_lt HO.out.at_.obj, HO.out.at_.set.lt, HA.out.lt⟩
      have HW0 : Hid (nb ≤ wr.heap.size) := by rw [hnb.out]; exact Nat.le_refl _
      go_wp2_with (fail)
      go_loopw [11, 12] (fun l iv wz => ∃ j : Nat, j ≤ 65535 ∧ iv = .int .i64 ((j : Int) + 1) ∧ ∃ A1 c1, l = .slice A1 (heldTo L j).length c1 ∧ Hid (OwnInts wz nb 3 .i64 (.slice A1 (heldTo L j).length c1) (heldTo L j) ∧ OwnR w wz R b L ∧ ArrAt wz g L ∧ nb ≤ wz.heap.size)) (fun _ iv _ => 65536 - (intOf iv).toNat)
      case atStart => exact ⟨0, by omega, rfl, none, 0, rfl, OwnInts.nil _ _ _ _, HO.out, HA.out, HW0.out⟩
      case round =>
        obtain ⟨j, hj, rfl, A1, c1, rfl, hS⟩ := hrel
        have HML := Lib.hid (heldTo_len L j)
        have HSU := Lib.hid (heldTo_succ L j)
        obtain ⟨M, hM⟩ : ∃ M, Hid (M = heldTo L j) := ⟨_, rfl⟩
        rw [← hM.out] at hS HML HSU ⊢
        have hj65 : (j : Int) ≤ 65535 := by omega
        have HJ := Lib.hid hj
        by_cases hjl : (j : Int) < 65535
        · have hjl' : (j : Int) + 1 ≤ 65535 := by omega
          have ca : wr.cell? ⟨g, j + 1, none⟩ = some (.bool (decide (((j + 1 : Nat) : Int) ∈ L))) := hS.out.2.2.1.cell (by omega)
          have HJL := Lib.hid hjl
          clear hj
          by_cases hin : ((j : Int) + 1) ∈ L
          · rw [show (((j + 1 : Nat) : Int)) = (j : Int) + 1 by omega, decide_eq_true hin] at ca
            have HU : Hid (heldTo L (j + 1) = M ++ [(j : Int) + 1]) := by rw [HSU.out, if_pos hin]; rfl
            have HO2 := Lib.hid hS.out.1
            have HMl : Hid (M.length + 1 ≤ 140737488355328 ∧ (M.length + 1) * 8 ≤ 140737488355328) := by have := HML.out; have := HJ.out; rw [Hid]; omega
            have HNW := Lib.hid hS.out.2.2.2
            clear hin
            go_wp2_with (at_builtin; refine wp_append_int wr nb rfl _ _ 29 3 .i64 8 rfl Tryd.underlying29 Utf.info_int (.slice A1 M.length c1) M ((j : Int) + 1) rfl _ rfl (heap_new _ _) (Nat.le_refl _) (Turn.alloc _ _) HO2.out HNW.out HMl.out ?_)
            intro g2 c2 w5 hown2 ht2 hloc hsz2
            have hge : ∀ k, (Value.slice A1 M.length c1).ownBlock = some k → nb ≤ k := fun k hk => (own_block_ge HO2.out k hk).1
            have HO5 : Hid (OwnR w w5 R b L) := hS.out.2.1.turn ht2 (fun e => by have := hge _ e; have := HNB.out; omega) (fun e => by have := hge _ e; have := HNB.out; omega) (fun k hk e => by have := hge _ e; have := HNB.out; omega)
            have HA5 : Hid (ArrAt w5 g L) := hS.out.2.2.1.turn ht2 (fun e => by have := hge _ e; have := HNB.out; omega)
            have HN5 : Hid (nb ≤ w5.heap.size) := Nat.le_trans HNW.out ht2.size
            have HW5 := Lib.hid hown2
            clear hown2 ht2 hloc hge
            go_wp2_with (fail)
            go_roundw
            case rel =>
              refine ⟨j + 1, by have := HJL.out; omega, by go_num, some ⟨g2, 0, none⟩, c2, ?_, ?_⟩
              · rw [HU.out, List.length_append, List.length_singleton]
              · rw [HU.out, List.length_append, List.length_singleton]
                exact ⟨HW5.out, HO5.out, HA5.out, HN5.out⟩
            case measure => have := HJL.out; simp [intOf]; omega
          · rw [show (((j + 1 : Nat) : Int)) = (j : Int) + 1 by omega, decide_eq_false hin] at ca
            have HU : Hid (heldTo L (j + 1) = M) := by rw [HSU.out, if_neg hin, List.append_nil]; rfl
            clear hin
            go_wp2_with (fail)
            go_roundw
            case rel =>
              refine ⟨j + 1, by have := HJL.out; omega, by go_num, A1, c1, ?_, ?_⟩
              · rw [HU.out]
              · rw [HU.out]; exact hS.out
            case measure => have := HJL.out; simp [intOf]; omega
        · have hje : j = 65535 := by omega
          subst hje
          have HPM := Lib.hid (heldTo_all hS.out.2.1.at_.set.nodup hS.out.2.1.at_.set.range)
          rw [← hM.out] at HPM
          have HO6 := Lib.hid hS.out.2.1
          have HW6 := Lib.hid hS.out.1
          clear hj hjl
          go_wp2_with (fail)
          refine (awake_calls wr (Utf.tabs_keep HT.out HO6.out.bel)).mono ?_
          rintro e w8 ⟨rfl, hb8⟩
          have t8 : Hid (Turn (fun _ => False) wr w8) := Turn.of_below hb8
          clear hb8
          go_wp2_with (fail)
          refine (own_held w w8 R b L (HO6.out.still t8.out)).mono ?_
          rintro e w9 ⟨⟨A9, n9, c9, rfl, S9, rfl, hS9, hperm9, hsort9, _⟩, hO9, ht9⟩
          have HO9 := Lib.hid hO9
          have HS9 := Lib.hid hS9
          have HQ9 : Hid (S9 = M) := sorted_eq S9 M (hperm9.trans HPM.out.1.symm) hsort9 HPM.out.2
          have t9 : Hid (Turn (fun _ => False) wr w9) := t8.out.trans ht9
          clear hO9 hS9 hperm9 hsort9 ht9
          go_wp2_with (fail)
          refine (ints_calls w9 A9 A1 S9 M c9 c1 (own_reads HS9.out).2.2.1 (own_reads (HW6.out.turn t9.out (fun _ _ h => h))).2.2.1 (by rw [HQ9.out]; have := HML.out; omega)).mono ?_
          rw [decide_eq_true HQ9.out]
          rintro e wb ⟨rfl, hb⟩
          go_wp2_with (fail)
          go_ret
          exact ⟨rfl, (HO9.out.still (Turn.of_below hb)).bel⟩
end Rcv
end Go.Proofs.YtonemmdipmohgaaDoor

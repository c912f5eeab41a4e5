/- ReceiverOnce: a message is handed on once an epoch. -/
import Derived.Test.YtonemmdipmohgaaDoorRcD
namespace Go.Proofs.YtonemmdipmohgaaDoor
open Go.RowKit Go.ChangeShapes
set_option linter.unusedVariables false
set_option linter.unusedSimpArgs false
namespace Rcv
open Pk Str Snd

theorem mem_strike (L : List Int) (i j : Int) : i ∈ L.filter (· ≠ j) ↔ i ∈ L ∧ i ≠ j := by simp
theorem mem_put (L : List Int) (i j : Int) : i ∈ (if j ∈ L then L else L ++ [j]) ↔ i ∈ L ∨ i = j := by
  split
  · constructor
    · exact .inl
    · rintro (h | rfl)
      · exact h
      · assumption
  · simp
/-- What Take does to one number. -/
theorem rcv_other (L : List Int) (p : Pkt) (C : List Int) (D : List (ByteArray × Int)) (i : Int) (h : (rcv L p C D).2.2.1 ≠ 0 ∨ p.id ≠ i) : i ∈ (rcv L p C D).2.2.2 ↔ i ∈ L := by
  unfold rcv at h ⊢
  split
  · rfl
  · rename_i h1
    rw [if_neg h1] at h
    split
    · rename_i h2
      rw [if_pos h2] at h
      have hi : p.id ≠ i := by simpa using h
      show i ∈ L.filter (· ≠ p.id) ↔ _
      rw [mem_strike]
      exact ⟨fun x => x.1, fun x => ⟨x, fun e => hi e.symm⟩⟩
    · rename_i h2
      rw [if_neg h2] at h
      split
      · rfl
      · rename_i h3
        rw [if_neg h3] at h
        split
        · rfl
        · rename_i h4
          rw [if_neg h4] at h
          split
          · rfl
          · rename_i h5
            rw [if_neg h5] at h
            have hi : p.id ≠ i := by simpa using h
            show i ∈ (if p.id ∈ L then L else L ++ [p.id]) ↔ _
            rw [mem_put]
            exact ⟨fun x => x.elim id (fun e => absurd e.symm hi), .inl⟩
theorem rcv_bad {L : List Int} {p : Pkt} {C : List Int} {D : List (ByteArray × Int)} (h : ¬ Pk.May p C D) : rcv L p C D = (false, [], 1, L) := by
  unfold rcv
  rw [if_pos h]
theorem rcv_may {L : List Int} {p : Pkt} {C : List Int} {D : List (ByteArray × Int)} (h : (rcv L p C D).2.2.1 = 0) : Pk.May p C D := by
  refine Classical.byContradiction fun hn => ?_
  rw [rcv_bad hn] at h
  exact absurd h (by show ¬ (1 : Int) = 0; decide)
theorem rcv_pub2 {L : List Int} {p : Pkt} {C : List Int} {D : List (ByteArray × Int)} (h : (rcv L p C D).2.2.1 = 0) (h3 : p.ty = 3) (h2 : p.qos = 2) : (rcv L p C D).1 = !decide (p.id ∈ L) ∧ p.id ∈ (rcv L p C D).2.2.2 := by
  have hm := rcv_may h
  have e : rcv L p C D = (!decide (p.id ∈ L), [ackP 5 p.id], 0, if p.id ∈ L then L else L ++ [p.id]) := by
    unfold rcv
    rw [if_neg (fun h => h hm), if_neg (by omega), if_neg (fun h => h h3), if_neg (by omega), if_neg (by omega)]
  rw [e]
  exact ⟨rfl, (mem_put _ _ _).2 (.inr rfl)⟩
theorem rcv_rel {L : List Int} {p : Pkt} {C : List Int} {D : List (ByteArray × Int)} (h : (rcv L p C D).2.2.1 = 0) (h6 : p.ty = 6) : p.id ∉ (rcv L p C D).2.2.2 := by
  have hm := rcv_may h
  have e : rcv L p C D = (false, [ackP 7 p.id], 0, L.filter (· ≠ p.id)) := by
    unfold rcv
    rw [if_neg (fun h => h hm), if_pos h6]
  rw [e]
  show p.id ∉ L.filter (· ≠ p.id)
  rw [mem_strike]
  exact fun x => x.2 rfl
theorem rcv_else {L : List Int} {p : Pkt} {C : List Int} {D : List (ByteArray × Int)} (h : (rcv L p C D).2.2.1 = 0) (h6 : p.ty ≠ 6) (h3 : ¬ (p.ty = 3 ∧ p.qos = 2)) : (rcv L p C D).2.2.2 = L := by
  have hm := rcv_may h
  unfold rcv
  rw [if_neg (fun h => h hm), if_neg h6]
  by_cases h4 : p.ty = 3
  · rw [if_neg (fun h => h h4)]
    by_cases h5 : p.qos = 0
    · rw [if_pos h5]
    · rw [if_neg h5]
      by_cases h7 : p.qos = 1
      · rw [if_pos h7]
      · have := (may_ids hm).2.2 h4
        exact absurd ⟨h4, by omega⟩ h3
  · rw [if_pos h4]

def zeroPk : Array Value := zeroC
set_option maxRecDepth 100000 in
set_option maxHeartbeats 4000000 in
/-- ReceiverOnce. -/
theorem once_walk (a0 : Option Addr) (len0 cap0 : Nat) (ps : List PkX) (a1 : Int) (w : World) (h0 : len0 = ps.length ∧ ps.length ≤ cap0) (hP : PkReadsA w a0 ps) (hF : ∀ y ∈ ps, PkFit0 y) (w1 : (Lit.int .i64 a1).wf = true) (hT : Lib.Utf8Tabs 0 1 w) :
    Calls Tryd.prog 11 #[.slice a0 len0 cap0, .int .i64 a1] w fun e w' => e = .returned (.bool true) ∧ Below w.heap.size w w' := by
  obtain ⟨rfl, hcap⟩ := h0
  have HT := Lib.hid hT
  have HP := Lib.hid hP
  have HF := Lib.hid hF
  have HC := Lib.hid hcap
  clear hT hP hF w1 hcap
  go_enter Tryd.func11, Tryd.ntmps11
  go_wp2_with (fail)
  refine (few_calls w a0 cap0 ps HC.out HP.out HF.out).mono ?_
  rintro e wa ⟨⟨hfew, rfl⟩ | ⟨_, rfl⟩, ta⟩
  case inr =>
    go_wp2_with (fail)
    go_ret
    exact ⟨rfl, ta.toBelow (Nat.le_refl _) (fun _ _ h => h)⟩
  have HFEW := Lib.hid hfew
  have HBa : Hid (Below w.heap.size w wa) := ta.toBelow (Nat.le_refl _) (fun _ _ h => h)
  clear hfew ta
  by_cases g1 : a1 < 1
  · have d1 : decide (a1 < 1) = true := decide_eq_true g1
    clear g1
    go_wp2_with (fail)
    go_ret
    exact ⟨rfl, HBa.out⟩
  have d1 : decide (a1 < 1) = false := decide_eq_false g1
  by_cases g2 : 65535 < a1
  · have d2 : decide (65535 < a1) = true := decide_eq_true g2
    clear g1 g2
    go_wp2_with (fail)
    go_ret
    exact ⟨rfl, HBa.out⟩
  have d2 : decide (65535 < a1) = false := decide_eq_false g2
  clear g1 g2
  go_wp2_with (fail)
  refine (own_new w wa HBa.out).mono ?_
  rintro e w1 ⟨R, b, rfl, hO, _, _, _⟩
  have H1 := Lib.hid hO
  clear hO
  go_wp2_with (fail)
  go_loopw [6, 7, 8, 9] (fun ev hv ov iv wr => ∃ k n : Nat, k ≤ ps.length ∧ n ≤ k ∧ iv = .int .i64 k ∧ ev = .int .i64 n ∧ hv = .int .i64 n ∧ ∃ q : Bool, ov = .bool q ∧ Hid (∃ L, OwnR w wr R b L ∧ q = decide (a1 ∈ L))) (fun _ _ _ iv _ => ps.length - (intOf iv).toNat)
  case atStart => exact ⟨0, 0, Nat.zero_le _, Nat.le_refl _, rfl, rfl, rfl, false, rfl, [], H1.out, by simp⟩
  case round =>
    obtain ⟨k, n, hk, hnk, rfl, rfl, rfl, q, rfl, hR⟩ := hrel
    have hk200 : (k : Int) ≤ 200 := by have := HFEW.out.1; omega
    have hn200 : (n : Int) ≤ 200 := by omega
    have HNK := Lib.hid hnk
    obtain ⟨L, hO, hq⟩ := hR.out
    have HO := Lib.hid hO
    have HQ := Lib.hid hq
    clear hO hq hR hnk
    by_cases hlt : k < ps.length
    · obtain ⟨x0, rfl, hc, hL⟩ := (HP.out.keep HO.out.bel) k hlt
      obtain ⟨⟨p, C, D⟩, ho⟩ : ∃ o, Hid (o = ps[k]'hlt) := ⟨ps[k]'hlt, rfl⟩
      have hsm := HFEW.out.2 _ (List.getElem_mem hlt)
      rw [← ho.out] at hc hL hsm
      have HCE := Lib.hid hc
      have HL := Lib.hid hL
      have HSM := Lib.hid hsm
      have HK : Hid (k < ps.length) := hlt
      clear hc hL hsm ho
      go_wp2_with (refine wp_var (o1 := ⟨some 37, _, _, _, _, _⟩) PT 18 p.cells.toList zeroC rfl rfl rfl rfl rfl rfl rfl (by rfl) (by rfl) isAggP sizeP rfl rfl (Lies.one HL.out) (kAllocP _) HCE.out ?_)
      intro w2 hv2 hb2
      obtain ⟨v, hv⟩ : ∃ v, Hid (v = wr.heap.size) := ⟨_, rfl⟩
      rw [← hv.out] at hv2 ⊢
      have t2 : Turn (fun _ => False) wr w2 := Turn.of_below hb2.out
      have HO2 := Lib.hid (HO.out.still t2)
      have HL2 := Lib.hid (HL.out.keep (t2.toBelow (Nat.le_refl _) (fun _ _ h => h)))
      have HPV : Hid (PkAt w2 v p) := hv2.out
      clear t2 hb2
      refine wpList_nil ?_
      go_wp2_with (with_reducible refine wp_load_pkt (o := ⟨some 40, _, _, _, _, _⟩) rfl rfl rfl HPV.out ?_)
      refine (own_take w w2 HT.out R b L HO2.out p C D HL2.out (SmallP.len (x := (p, C, D)) HSM.out HL2.out)).mono ?_
      have HRO := Lib.hid (rcv_other L p C D a1)
      have HRP := Lib.hid (rcv_pub2 (L := L) (p := p) (C := C) (D := D))
      have HRR := Lib.hid (rcv_rel (L := L) (p := p) (C := C) (D := D))
      have HRE := Lib.hid (rcv_else (L := L) (p := p) (C := C) (D := D))
      generalize rcv L p C D = r at *
      obtain ⟨on, ans, cd, L'⟩ := r
      simp only at HRO HRP HRR HRE
      rintro e w3 ⟨A3, n3, c3, rfl, _, _, hO3, ht3, _⟩
      have HO3 := Lib.hid hO3
      have hvb : v ≠ b := fun e => HO2.out.at_.pk.2 _ (by rw [← e]; exact HPV.out)
      have hv3 : Hid (w3.heap[v]? = some (.cells p.cells PT)) := (ht3.block v (heap_lt HPV.out) hvb).trans HPV.out
      have c0 : w3.cell? ⟨v, 0, none⟩ = some (.int .i64 p.ty) := cell_heap hv3.out
      have c2 : w3.cell? ⟨v, 2, none⟩ = some (.int .i64 p.id) := cell_heap hv3.out
      have c5 : w3.cell? ⟨v, 3 + 2, none⟩ = some (.int .i64 p.qos) := cell_heap hv3.out
      clear hO3 ht3 hvb HPV
      by_cases hcd : cd = 0
      case neg =>
        have bc : (cd != 0) = true := by simpa using hcd
        have HX : Hid (q = decide (a1 ∈ L')) := by rw [HQ.out, Hid, decide_eq_decide]; exact (HRO.out (.inl hcd)).symm
        clear hcd
        go_wp2_with (fail)
        go_roundw
        case rel => exact ⟨k + 1, n, HK.out, by have := HNK.out; omega, by go_num, rfl, rfl, q, rfl, L', HO3.out, HX.out⟩
        case measure => have := HK.out; simp [intOf]; omega
      subst hcd
      by_cases hid : p.id = a1
      case neg =>
        have bc : (p.id != a1) = true := by simpa using hid
        have HX : Hid (q = decide (a1 ∈ L')) := by rw [HQ.out, Hid, decide_eq_decide]; exact (HRO.out (.inr hid)).symm
        clear hid
        go_wp2_with (fail)
        go_roundw
        case rel => exact ⟨k + 1, n, HK.out, by have := HNK.out; omega, by go_num, rfl, rfl, q, rfl, L', HO3.out, HX.out⟩
        case measure => have := HK.out; simp [intOf]; omega
      have bi : (p.id != a1) = false := by simpa using hid
      have HID := Lib.hid hid
      clear hid
      by_cases h32 : p.ty = 3 ∧ p.qos = 2
      · have b3 : (p.ty == 3) = true := by simpa using h32.1
        have b2 : (p.qos == 2) = true := by simpa using h32.2
        obtain ⟨hon, hin⟩ := HRP.out rfl h32.1 h32.2
        rw [HID.out] at hon hin
        rw [← HQ.out] at hon
        subst hon
        have HIN := Lib.hid hin
        clear h32 hin
        cases q with
        | false =>
          go_wp2_with (fail)
          go_roundw
          case rel => exact ⟨k + 1, n + 1, HK.out, by have := HNK.out; omega, by go_num, by go_num, by go_num, true, rfl, L', HO3.out, by rw [decide_eq_true HIN.out]⟩
          case measure => have := HK.out; simp [intOf]; omega
        | true =>
          go_wp2_with (fail)
          go_roundw
          case rel => exact ⟨k + 1, n, HK.out, by have := HNK.out; omega, by go_num, rfl, rfl, true, rfl, L', HO3.out, by rw [decide_eq_true HIN.out]⟩
          case measure => have := HK.out; simp [intOf]; omega
      · have hcase : Hid ((p.ty == 3) = false ∨ ((p.ty == 3) = true ∧ (p.qos == 2) = false)) := by
          by_cases h3 : p.ty = 3
          · exact .inr ⟨by simpa using h3, by simpa using fun h => h32 ⟨h3, h⟩⟩
          · exact .inl (by simpa using h3)
        by_cases h6 : p.ty = 6
        · have b6 : (p.ty == 6) = true := by simpa using h6
          have b3 : (p.ty == 3) = false := by rw [h6]; rfl
          have hout := HRR.out rfl h6
          rw [HID.out] at hout
          have HOUT := Lib.hid hout
          clear h32 h6 hout
          go_wp2_with (fail)
          go_roundw
          case rel => exact ⟨k + 1, n, HK.out, by have := HNK.out; omega, by go_num, rfl, rfl, false, rfl, L', HO3.out, by rw [decide_eq_false HOUT.out]⟩
          case measure => have := HK.out; simp [intOf]; omega
        · have b6 : (p.ty == 6) = false := by simpa using h6
          have HX : Hid (q = decide (a1 ∈ L')) := by rw [HRE.out rfl h6 h32]; exact HQ.out
          clear h32 h6
          rcases hcase.out with b3 | ⟨b3, b2⟩
          all_goals
            go_wp2_with (fail)
            go_roundw
            case rel => exact ⟨k + 1, n, HK.out, by have := HNK.out; omega, by go_num, rfl, rfl, q, rfl, L', HO3.out, HX.out⟩
            case measure => have := HK.out; simp [intOf]; omega
    · go_wp2_with (fail)
      refine (awake_calls wr (Utf.tabs_keep HT.out HO.out.bel)).mono ?_
      rintro e w8 ⟨rfl, hb8⟩
      go_wp2_with (fail)
      go_ret
      exact ⟨rfl, (HO.out.still (Turn.of_below hb8)).bel⟩
end Rcv
end Go.Proofs.YtonemmdipmohgaaDoor

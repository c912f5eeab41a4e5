/- The reference: subs, connect. -/
import Derived.Test.YtonemmdipmohgaaDoorRfF
namespace Go.Proofs.YtonemmdipmohgaaDoor
open Go.RowKit Go.ChangeShapes
set_option linter.unusedVariables false
set_option linter.unusedSimpArgs false
namespace Ref
open Utf (nums nums_length nums_bytes IsStr nums_str)
open Var (BT info_byte GivesBytes digs digs_length)
open Pk

set_option maxRecDepth 100000 in
set_option maxHeartbeats 2000000 in
theorem subs_calls (w : World) (p : Pkt) (C : List Int) (D : List (ByteArray × Int)) (hF : Lies w p C D) (hty : p.ty = 8 ∨ p.ty = 10) : Calls Tryd.prog 41 #[.agg p.cells] w fun e w' => e = .returned (.bool (decide (0 < D.length ∧ ∀ s ∈ D, SubOk p.ty s))) ∧ Below w.heap.size w w' := by
  have hA := at_box w p
  obtain ⟨W, hW⟩ : ∃ W, Hid (W = w.alloc (.cells p.cells PT)) := ⟨_, rfl⟩
  obtain ⟨g, hg⟩ : ∃ g, Hid (g = w.heap.size) := ⟨_, rfl⟩
  rw [← hW.out, ← hg.out] at hA
  have HA := Lib.hid hA
  obtain ⟨As, sc, hss, hDr⟩ := hF.subs
  have HD := Lib.hid hDr
  have HC17 : Hid (∀ Wx, At w Wx g p → Wx.cell? ⟨g, 17, none⟩ = some (.slice As D.length sc)) := fun Wx h => by rw [← hss]; exact h.at_.cell 17
  have hlD : (D.length : Int) ≤ 1000000000000000000 := hF.lenD
  obtain ⟨r, hr⟩ : ∃ r, Hid (decide (0 < D.length ∧ ∀ s ∈ D, SubOk p.ty s) = r) := ⟨decide (0 < D.length ∧ ∀ s ∈ D, SubOk p.ty s), by rw [Hid]⟩
  rw [hr.out]
  have k17 : W.cell? ⟨g, 17, none⟩ = some (.slice As D.length sc) := HC17.out W hA
  clear hA hDr hss hF
  go_enter Tryd.func41, Tryd.ntmps41
  go_upto_region 1 with (fail)
  rw [← hW.out, ← hg.out]
  obtain ⟨kk, hkk⟩ : ∃ kk : Nat, Hid (kk = D.length) := ⟨D.length, by rw [Hid]⟩
  go_wp2_with (fail)
  clear k17
  go_loopw [3, 4] (fun x y wr => ∃ k : Nat, k ≤ D.length ∧ x = .int .i64 k ∧ Hid (∀ s ∈ D.take k, SubOk p.ty s) ∧ Hid (At w wr g p)) (fun x _ _ => D.length - (intOf x).toNat)
  case atStart => exact ⟨0, Nat.zero_le _, rfl, by rw [List.take_zero, Hid]; simp, HA.out⟩
  case round =>
    obtain ⟨k, hk, rfl, hok, HAr⟩ := hrel
    have hkb : (k : Int) ≤ 1000000000000000000 := by omega
    have q17 := HC17.out wr HAr.out
    have q0 : wr.cell? ⟨g, 0, none⟩ = some (.int .i64 p.ty) := HAr.out.at_.cell 0
    by_cases hkl : k < D.length
    · obtain ⟨x, rfl, hcx⟩ := (HD.out.keep HAr.out.below) (by omega)
      obtain ⟨hx0, hx1⟩ := hcx k hkl
      rw [Nat.mul_comm] at hx0 hx1
      obtain ⟨⟨s, q⟩, hse⟩ : ∃ s, Hid (s = D[k]) := ⟨D[k], by rw [Hid]⟩
      rw [← hse.out] at hx0 hx1
      have hx0' : wr.cell? (x.add (k * 2)) = some (.string s) := hx0
      have hx1' : wr.cell? ⟨(x.add (k * 2)).block, (x.add (k * 2)).off + 1, none⟩ = some (.int .i64 q) := by
        have e : (⟨(x.add (k * 2)).block, (x.add (k * 2)).off + 1, none⟩ : Addr) = (x.add (k * 2)).add 1 := by simp [Addr.add]
        rw [e, add_add]; exact hx1
      have hmem : Hid ((s, q) ∈ D) := by rw [hse.out]; exact List.getElem_mem hkl
      have hnext : Hid (SubOk p.ty (s, q) → ∀ c ∈ D.take (k + 1), SubOk p.ty c) := by
        intro hc
        rw [List.take_succ_eq_append_getElem hkl]
        intro c hcm
        rcases List.mem_append.1 hcm with h | h
        · exact hok.out c h
        · rw [List.mem_singleton.1 h, ← hse.out]; exact hc
      have hbad : Hid (¬ SubOk p.ty (s, q) → r = false) := fun hc => by rw [← hr.out]; exact decide_eq_false (fun h => hc (h.2 _ hmem.out))
      clear hcx hx0 hx1
      go_wp2_with (fail)
      refine (full_calls wr s).mono ?_
      rintro e w1 ⟨rfl, hb1⟩
      have HA1 : Hid (At w w1 g p) := HAr.out.old hb1
      have m0 : w1.cell? ⟨g, 0, none⟩ = some (.int .i64 p.ty) := HA1.out.at_.cell 0
      clear hb1
      by_cases hf : Full s
      · have df : decide (Full s) = true := decide_eq_true hf
        by_cases h0 : q < 0
        · have d0 : decide (q < 0) = true := decide_eq_true h0
          have hrf := hbad.out (fun h => by have := h.2.1; omega)
          subst hrf
          go_wp2_with (fail)
          go_ret
          exact ⟨rfl, HA1.out.below⟩
        have d0 : decide (q < 0) = false := decide_eq_false h0
        by_cases h2 : 2 < q
        · have d2 : decide (2 < q) = true := decide_eq_true h2
          have hrf := hbad.out (fun h => by have := h.2.2.1; omega)
          subst hrf
          go_wp2_with (fail)
          go_ret
          exact ⟨rfl, HA1.out.below⟩
        have d2 : decide (2 < q) = false := decide_eq_false h2
        rcases hty with h8 | h10
        · rw [h8] at m0
          have hn := hnext.out ⟨hf, by omega, by omega, .inl h8⟩
          have HN := Lib.hid hn
          clear hn
          go_wp2_with (fail)
          go_roundw
          case rel => exact ⟨k + 1, by omega, by go_num, HN.out, HA1.out⟩
          case measure => simp [intOf]; omega
        · rw [h10] at m0
          by_cases hq : q = 0
          · have hn := hnext.out ⟨hf, by omega, by omega, .inr hq⟩
            have HN := Lib.hid hn
            clear hn
            subst hq
            go_wp2_with (fail)
            go_roundw
            case rel => exact ⟨k + 1, by omega, by go_num, HN.out, HA1.out⟩
            case measure => simp [intOf]; omega
          · have dq : (q != 0) = true := bne_iff_ne.2 hq
            have hrf := hbad.out (fun h => by rcases h.2.2.2 with h | h <;> omega)
            subst hrf
            go_wp2_with (fail)
            go_ret
            exact ⟨rfl, HA1.out.below⟩
      · have df : decide (Full s) = false := decide_eq_false hf
        have hrf := hbad.out (fun h => hf h.1)
        subst hrf
        go_wp2_with (fail)
        go_ret
        exact ⟨rfl, HA1.out.below⟩
    · have ht : D.take k = D := List.take_of_length_le (by omega)
      rw [ht] at hok
      have hre : Hid (decide ((0 : Int) < D.length) = r) := by
        rw [Hid, ← hr.out, decide_eq_decide]
        exact ⟨fun h => ⟨by omega, hok.out⟩, fun h => by omega⟩
      go_wp2_with (fail)
      go_ret
      refine ⟨?_, HAr.out.below⟩
      rw [← hre.out]; simp

/-- Whether a Connect may be, but for what its type has no use for. -/
def ConR (p : Pkt) : Prop := Str p.client ∧ 0 ≤ p.alive ∧ p.alive ≤ 65535 ∧ (p.huser = true ∨ p.hpass = false) ∧ Str p.user ∧ p.pass.size ≤ 65535 ∧ (p.will = true → Full p.topic ∧ p.payload.size ≤ 65535 ∧ 0 ≤ p.qos ∧ p.qos ≤ 2)
noncomputable instance (p : Pkt) : Decidable (ConR p) := Classical.propDecidable _
set_option maxRecDepth 100000 in
set_option maxHeartbeats 2000000 in
theorem connect_calls (w : World) (p : Pkt) (hs1 : (p.pass.size : Int) ≤ 140737488351232) (hs2 : (p.payload.size : Int) ≤ 140737488351232) : Calls Tryd.prog 39 #[.agg p.cells] w fun e w' => e = .returned (.bool (decide (ConR p))) ∧ Below w.heap.size w w' := by
  have hA := at_box w p
  obtain ⟨W, hW⟩ : ∃ W, Hid (W = w.alloc (.cells p.cells PT)) := ⟨_, rfl⟩
  obtain ⟨g, hg⟩ : ∃ g, Hid (g = w.heap.size) := ⟨_, rfl⟩
  rw [← hW.out, ← hg.out] at hA
  have HA := Lib.hid hA
  have k7 : W.cell? ⟨g, 7, none⟩ = some (.string p.client) := hA.at_.cell 7
  clear hA
  obtain ⟨r, hr⟩ : ∃ r, Hid (decide (ConR p) = r) := ⟨decide (ConR p), by rw [Hid]⟩
  rw [hr.out]
  have hbad : Hid (¬ ConR p → r = false) := fun hc => by rw [← hr.out]; exact decide_eq_false hc
  go_enter Tryd.func39, Tryd.ntmps39
  go_upto_region 1 with (fail)
  rw [← hW.out, ← hg.out]
  go_wp2_with (fail)
  refine (is09_calls W p.client).mono ?_
  rintro e w1 ⟨rfl, hb1⟩
  have HA1 : Hid (At w w1 g p) := HA.out.old hb1
  clear hb1 k7
  by_cases c1 : Str p.client
  case neg =>
    have d1 : decide (Str p.client) = false := decide_eq_false c1
    have hrf := hbad.out (fun h => c1 h.1)
    subst hrf
    go_wp2_with (fail)
    go_ret
    exact ⟨rfl, HA1.out.below⟩
  have d1 : decide (Str p.client) = true := decide_eq_true c1
  have k9 : w1.cell? ⟨g, 9, none⟩ = some (.int .i64 p.alive) := HA1.out.at_.cell 9
  have HC1 := Lib.hid c1
  clear c1
  go_wp2_with (fail)
  refine (is01_calls w1 p.alive).mono ?_
  rintro e w' ⟨rfl, rfl⟩
  by_cases c2 : 0 ≤ p.alive ∧ p.alive ≤ 65535
  case neg =>
    have d2 : decide (0 ≤ p.alive ∧ p.alive ≤ 65535) = false := decide_eq_false c2
    have hrf := hbad.out (fun h => c2 ⟨h.2.1, h.2.2.1⟩)
    subst hrf
    rw [d2]
    go_wp2_with (fail)
    go_ret
    exact ⟨rfl, HA1.out.below⟩
  rw [decide_eq_true c2]
  have HC2 := Lib.hid c2
  clear c2 k9
  have k12 : w1.cell? ⟨g, 12, none⟩ = some (.bool p.hpass) := HA1.out.at_.cell 12
  have k11 : w1.cell? ⟨g, 11, none⟩ = some (.bool p.huser) := HA1.out.at_.cell 11
  have k13 : w1.cell? ⟨g, 13, none⟩ = some (.string p.user) := HA1.out.at_.cell 13
  by_cases c3 : p.huser = true ∨ p.hpass = false
  case neg =>
    have e1 : p.hpass = true := by cases h : p.hpass <;> simp_all
    have e2 : p.huser = false := by cases h : p.huser <;> simp_all
    have hrf := hbad.out (fun h => c3 h.2.2.2.1)
    subst hrf
    rw [e1] at k12
    rw [e2] at k11
    clear c3
    go_wp2_with (fail)
    go_ret
    exact ⟨rfl, HA1.out.below⟩
  have HC3 := Lib.hid c3
  have hcase : Hid (p.hpass = false ∨ (p.hpass = true ∧ p.huser = true)) := by
    rw [Hid]; cases h1 : p.hpass <;> cases h2 : p.huser <;> simp_all
  clear c3
  rcases hcase.out with e1 | ⟨e1, e2⟩
  · rw [e1] at k12
    go_wp2_with (fail)
    refine (is09_calls w1 p.user).mono ?_
    rintro e w2 ⟨rfl, hb2⟩
    have HA2 : Hid (At w w2 g p) := HA1.out.old hb2
    clear hb2
    by_cases c4 : Str p.user
    case neg =>
      have d4 : decide (Str p.user) = false := decide_eq_false c4
      have hrf := hbad.out (fun h => c4 h.2.2.2.2.1)
      subst hrf
      go_wp2_with (fail)
      go_ret
      exact ⟨rfl, HA2.out.below⟩
    have d4 : decide (Str p.user) = true := decide_eq_true c4
    have HC4 := Lib.hid c4
    clear c4
    have j14 : w2.cell? ⟨g, 14, none⟩ = some (.string p.pass) := HA2.out.at_.cell 14
    by_cases c5 : (p.pass.size : Int) ≤ 65535
    case neg =>
      have d5 : decide ((65535 : Int) < p.pass.size) = true := decide_eq_true (by omega)
      have hrf := hbad.out (fun h => c5 (by have := h.2.2.2.2.2.1; omega))
      subst hrf
      go_wp2_with (fail)
      go_ret
      exact ⟨rfl, HA2.out.below⟩
    have d5 : decide ((65535 : Int) < p.pass.size) = false := decide_eq_false (by omega)
    have HC5 := Lib.hid c5
    clear c5
    have j10 : w2.cell? ⟨g, 10, none⟩ = some (.bool p.will) := HA2.out.at_.cell 10
    have j3 : w2.cell? ⟨g, 3, none⟩ = some (.string p.topic) := HA2.out.at_.cell 3
    cases hwl : p.will with
    | false =>
      rw [hwl] at j10
      have hre : r = true := by rw [← hr.out]; exact decide_eq_true ⟨HC1.out, HC2.out.1, HC2.out.2, HC3.out, HC4.out, by have := HC5.out; omega, fun h => by rw [hwl] at h; cases h⟩
      subst hre
      go_wp2_with (fail)
      go_ret
      exact ⟨rfl, HA2.out.below⟩
    | true =>
      rw [hwl] at j10
      have HRE : Hid (Full p.topic ∧ p.payload.size ≤ 65535 ∧ 0 ≤ p.qos ∧ p.qos ≤ 2 → r = true) := fun h => by rw [← hr.out]; exact decide_eq_true ⟨HC1.out, HC2.out.1, HC2.out.2, HC3.out, HC4.out, by have := HC5.out; omega, fun _ => h⟩
      have HBD : Hid (¬ (Full p.topic ∧ p.payload.size ≤ 65535 ∧ 0 ≤ p.qos ∧ p.qos ≤ 2) → r = false) := fun h => hbad.out (fun hc => h (hc.2.2.2.2.2.2 hwl))
      go_wp2_with (fail)
      refine (full_calls w2 p.topic).mono ?_
      rintro e w3 ⟨rfl, hb3⟩
      have HA3 : Hid (At w w3 g p) := HA2.out.old hb3
      clear hb3
      have i4 : w3.cell? ⟨g, 4, none⟩ = some (.string p.payload) := HA3.out.at_.cell 4
      have i5 : w3.cell? ⟨g, 5, none⟩ = some (.int .i64 p.qos) := HA3.out.at_.cell 5
      by_cases b1 : Full p.topic
      case neg =>
        have f1 : decide (Full p.topic) = false := decide_eq_false b1
        have hrf := HBD.out (fun h => b1 h.1)
        subst hrf
        go_wp2_with (fail)
        go_ret
        exact ⟨rfl, HA3.out.below⟩
      have f1 : decide (Full p.topic) = true := decide_eq_true b1
      by_cases b2 : (p.payload.size : Int) ≤ 65535
      case neg =>
        have f2 : decide ((p.payload.size : Int) ≤ 65535) = false := decide_eq_false b2
        have f2n : decide (p.payload.size ≤ 65535) = false := decide_eq_false (by omega)
        have hrf := HBD.out (fun h => b2 (by have := h.2.1; omega))
        subst hrf
        go_wp2_with (fail)
        go_ret
        exact ⟨rfl, HA3.out.below⟩
      have f2 : decide ((p.payload.size : Int) ≤ 65535) = true := decide_eq_true b2
      have f2n : decide (p.payload.size ≤ 65535) = true := decide_eq_true (by omega)
      by_cases b3 : 0 ≤ p.qos
      case neg =>
        have f3 : decide (0 ≤ p.qos) = false := decide_eq_false b3
        have hrf := HBD.out (fun h => b3 h.2.2.1)
        subst hrf
        go_wp2_with (fail)
        go_ret
        exact ⟨rfl, HA3.out.below⟩
      have f3 : decide (0 ≤ p.qos) = true := decide_eq_true b3
      by_cases b4 : p.qos ≤ 2
      case neg =>
        have f4 : decide (p.qos ≤ 2) = false := decide_eq_false b4
        have hrf := HBD.out (fun h => b4 h.2.2.2)
        subst hrf
        go_wp2_with (fail)
        go_ret
        exact ⟨by simp [b4], HA3.out.below⟩
      have f4 : decide (p.qos ≤ 2) = true := decide_eq_true b4
      have hre := HRE.out ⟨b1, by omega, b3, b4⟩
      subst hre
      go_wp2_with (fail)
      go_ret
      exact ⟨by simp [b4], HA3.out.below⟩
  · rw [e1] at k12
    rw [e2] at k11
    go_wp2_with (fail)
    refine (is09_calls w1 p.user).mono ?_
    rintro e w2 ⟨rfl, hb2⟩
    have HA2 : Hid (At w w2 g p) := HA1.out.old hb2
    clear hb2
    by_cases c4 : Str p.user
    case neg =>
      have d4 : decide (Str p.user) = false := decide_eq_false c4
      have hrf := hbad.out (fun h => c4 h.2.2.2.2.1)
      subst hrf
      go_wp2_with (fail)
      go_ret
      exact ⟨rfl, HA2.out.below⟩
    have d4 : decide (Str p.user) = true := decide_eq_true c4
    have HC4 := Lib.hid c4
    clear c4
    have j14 : w2.cell? ⟨g, 14, none⟩ = some (.string p.pass) := HA2.out.at_.cell 14
    by_cases c5 : (p.pass.size : Int) ≤ 65535
    case neg =>
      have d5 : decide ((65535 : Int) < p.pass.size) = true := decide_eq_true (by omega)
      have hrf := hbad.out (fun h => c5 (by have := h.2.2.2.2.2.1; omega))
      subst hrf
      go_wp2_with (fail)
      go_ret
      exact ⟨rfl, HA2.out.below⟩
    have d5 : decide ((65535 : Int) < p.pass.size) = false := decide_eq_false (by omega)
    have HC5 := Lib.hid c5
    clear c5
    have j10 : w2.cell? ⟨g, 10, none⟩ = some (.bool p.will) := HA2.out.at_.cell 10
    have j3 : w2.cell? ⟨g, 3, none⟩ = some (.string p.topic) := HA2.out.at_.cell 3
    cases hwl : p.will with
    | false =>
      rw [hwl] at j10
      have hre : r = true := by rw [← hr.out]; exact decide_eq_true ⟨HC1.out, HC2.out.1, HC2.out.2, HC3.out, HC4.out, by have := HC5.out; omega, fun h => by rw [hwl] at h; cases h⟩
      subst hre
      go_wp2_with (fail)
      go_ret
      exact ⟨rfl, HA2.out.below⟩
    | true =>
      rw [hwl] at j10
      have HRE : Hid (Full p.topic ∧ p.payload.size ≤ 65535 ∧ 0 ≤ p.qos ∧ p.qos ≤ 2 → r = true) := fun h => by rw [← hr.out]; exact decide_eq_true ⟨HC1.out, HC2.out.1, HC2.out.2, HC3.out, HC4.out, by have := HC5.out; omega, fun _ => h⟩
      have HBD : Hid (¬ (Full p.topic ∧ p.payload.size ≤ 65535 ∧ 0 ≤ p.qos ∧ p.qos ≤ 2) → r = false) := fun h => hbad.out (fun hc => h (hc.2.2.2.2.2.2 hwl))
      go_wp2_with (fail)
      refine (full_calls w2 p.topic).mono ?_
      rintro e w3 ⟨rfl, hb3⟩
      have HA3 : Hid (At w w3 g p) := HA2.out.old hb3
      clear hb3
      have i4 : w3.cell? ⟨g, 4, none⟩ = some (.string p.payload) := HA3.out.at_.cell 4
      have i5 : w3.cell? ⟨g, 5, none⟩ = some (.int .i64 p.qos) := HA3.out.at_.cell 5
      by_cases b1 : Full p.topic
      case neg =>
        have f1 : decide (Full p.topic) = false := decide_eq_false b1
        have hrf := HBD.out (fun h => b1 h.1)
        subst hrf
        go_wp2_with (fail)
        go_ret
        exact ⟨rfl, HA3.out.below⟩
      have f1 : decide (Full p.topic) = true := decide_eq_true b1
      by_cases b2 : (p.payload.size : Int) ≤ 65535
      case neg =>
        have f2 : decide ((p.payload.size : Int) ≤ 65535) = false := decide_eq_false b2
        have f2n : decide (p.payload.size ≤ 65535) = false := decide_eq_false (by omega)
        have hrf := HBD.out (fun h => b2 (by have := h.2.1; omega))
        subst hrf
        go_wp2_with (fail)
        go_ret
        exact ⟨rfl, HA3.out.below⟩
      have f2 : decide ((p.payload.size : Int) ≤ 65535) = true := decide_eq_true b2
      have f2n : decide (p.payload.size ≤ 65535) = true := decide_eq_true (by omega)
      by_cases b3 : 0 ≤ p.qos
      case neg =>
        have f3 : decide (0 ≤ p.qos) = false := decide_eq_false b3
        have hrf := HBD.out (fun h => b3 h.2.2.1)
        subst hrf
        go_wp2_with (fail)
        go_ret
        exact ⟨rfl, HA3.out.below⟩
      have f3 : decide (0 ≤ p.qos) = true := decide_eq_true b3
      by_cases b4 : p.qos ≤ 2
      case neg =>
        have f4 : decide (p.qos ≤ 2) = false := decide_eq_false b4
        have hrf := HBD.out (fun h => b4 h.2.2.2)
        subst hrf
        go_wp2_with (fail)
        go_ret
        exact ⟨by simp [b4], HA3.out.below⟩
      have f4 : decide (p.qos ≤ 2) = true := decide_eq_true b4
      have hre := HRE.out ⟨b1, by omega, b3, b4⟩
      subst hre
      go_wp2_with (fail)
      go_ret
      exact ⟨by simp [b4], HA3.out.below⟩
end Ref
end Go.Proofs.YtonemmdipmohgaaDoor

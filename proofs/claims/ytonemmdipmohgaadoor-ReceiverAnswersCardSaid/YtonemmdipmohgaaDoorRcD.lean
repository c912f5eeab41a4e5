/- receiver: few; ReceiverOnce. -/
import Derived.Test.YtonemmdipmohgaaDoorRcC
namespace Go.Proofs.YtonemmdipmohgaaDoor
open Go.RowKit Go.ChangeShapes
set_option linter.unusedVariables false
set_option linter.unusedSimpArgs false
namespace Rcv
open Pk Str Snd

def sumP (x : PkX) : Int := (x.1.topic.size : Int) + (x.1.payload.size : Int) + (x.1.client.size : Int) + (x.1.user.size : Int) + (x.1.pass.size : Int) + (x.2.1.length : Int)
def SmallP (x : PkX) : Prop := sumP x ≤ 500 ∧ (x.2.2.length : Int) ≤ 10
def FewP (ps : List PkX) : Prop := (ps.length : Int) ≤ 200 ∧ ∀ x ∈ ps, SmallP x
set_option maxRecDepth 100000 in
set_option maxHeartbeats 4000000 in
theorem few_calls (w : World) (a : Option Addr) (cap : Nat) (ps : List PkX) (hc : ps.length ≤ cap) (hR : PkReadsA w a ps) (hF : ∀ o ∈ ps, PkFit0 o) :
    Calls Tryd.prog 12 #[.slice a ps.length cap] w fun e w' => ((FewP ps ∧ e = .returned (.bool true)) ∨ (¬ FewP ps ∧ e = .returned (.bool false))) ∧ Turn (fun _ => False) w w' := by
  have HR := Lib.hid hR
  have HF := Lib.hid hF
  clear hR hF
  by_cases hbig : (200 : Int) < (ps.length : Int)
  · have d1 : decide ((200 : Int) < (ps.length : Int)) = true := decide_eq_true hbig
    have HN : Hid (¬ FewP ps) := fun h => by have := h.1; omega
    clear hbig
    go_enter Tryd.func12, Tryd.ntmps12
    go_wp2_with (fail)
    go_ret
    exact ⟨.inr ⟨HN.out, rfl⟩, Turn.refl _ _⟩
  have d1 : decide ((200 : Int) < (ps.length : Int)) = false := decide_eq_false hbig
  have HB : Hid (ps.length ≤ 200) := by rw [Hid]; omega
  clear hbig
  go_enter Tryd.func12, Tryd.ntmps12
  go_wp2_with (fail)
  go_loopw [3] (fun iv wr => ∃ k : Nat, k ≤ ps.length ∧ iv = .int .i64 k ∧ Hid ((∀ j (hj : j < ps.length), j < k → SmallP ps[j]) ∧ Turn (fun _ => False) w wr)) (fun iv _ => ps.length - (intOf iv).toNat)
  case atStart => exact ⟨0, Nat.zero_le _, rfl, fun j _ hj => absurd hj (by omega), Turn.refl _ _⟩
  case round =>
    obtain ⟨k, hk, rfl, hS⟩ := hrel
    have hk200 : (k : Int) ≤ 200 := by have := HB.out; omega
    by_cases hlt : k < ps.length
    · have hbl : Below w.heap.size w wr := hS.out.2.toBelow (Nat.le_refl _) (fun _ _ h => h)
      obtain ⟨x0, rfl, hc, hL⟩ := (HR.out.keep hbl) k hlt
      obtain ⟨⟨p, C, D⟩, ho⟩ : ∃ o, Hid (o = ps[k]'hlt) := ⟨ps[k]'hlt, rfl⟩
      have hfit := HF.out _ (List.getElem_mem hlt)
      rw [← ho.out] at hc hL hfit
      obtain ⟨A1, c1, h1, _⟩ := hL.codes
      obtain ⟨A2, c2, h2, _⟩ := hL.subs
      have v1 : p.cells.toList[16]? = some p.codes := rfl
      have v2 : p.cells.toList[17]? = some p.subs := rfl
      have e3 : wr.cell? ⟨(x0.add (k * 18)).block, (x0.add (k * 18)).off + 3, none⟩ = some (.string p.topic) := hc 3 _ rfl
      have e4 : wr.cell? ⟨(x0.add (k * 18)).block, (x0.add (k * 18)).off + 3 + 1, none⟩ = some (.string p.payload) := hc 4 _ rfl
      have e7 : wr.cell? ⟨(x0.add (k * 18)).block, (x0.add (k * 18)).off + 7, none⟩ = some (.string p.client) := hc 7 _ rfl
      have e13 : wr.cell? ⟨(x0.add (k * 18)).block, (x0.add (k * 18)).off + 13, none⟩ = some (.string p.user) := hc 13 _ rfl
      have e14 : wr.cell? ⟨(x0.add (k * 18)).block, (x0.add (k * 18)).off + 14, none⟩ = some (.string p.pass) := hc 14 _ rfl
      have e16 : wr.cell? ⟨(x0.add (k * 18)).block, (x0.add (k * 18)).off + 16, none⟩ = some (.slice A1 C.length c1) := hc 16 _ (by rw [v1, h1])
      have e17 : wr.cell? ⟨(x0.add (k * 18)).block, (x0.add (k * 18)).off + 17, none⟩ = some (.slice A2 D.length c2) := hc 17 _ (by rw [v2, h2])
      have s1 : (p.topic.size : Int) ≤ 140737488351232 := by have := hfit.2.2.topic; simp only at this; omega
      have s2 : (p.payload.size : Int) ≤ 140737488351232 := by have := hfit.2.2.payload; simp only at this; omega
      have s3 : (p.client.size : Int) ≤ 140737488351232 := by have := hfit.2.2.client; simp only at this; omega
      have s4 : (p.user.size : Int) ≤ 140737488351232 := by have := hfit.2.2.user; simp only at this; omega
      have s5 : (p.pass.size : Int) ≤ 140737488351232 := by have := hfit.2.2.pass; simp only at this; omega
      have s6 : (C.length : Int) ≤ 140737488351232 := by have := hfit.1; simp only at this; omega
      have t1 : (p.topic.size : Int) + (p.payload.size : Int) ≤ 281474976702464 := by omega
      have t2 : (p.topic.size : Int) + (p.payload.size : Int) + (p.client.size : Int) ≤ 422212465053696 := by omega
      have t3 : (p.topic.size : Int) + (p.payload.size : Int) + (p.client.size : Int) + (p.user.size : Int) ≤ 562949953404928 := by omega
      have t4 : (p.topic.size : Int) + (p.payload.size : Int) + (p.client.size : Int) + (p.user.size : Int) + (p.pass.size : Int) ≤ 703687441756160 := by omega
      have t5 : (p.topic.size : Int) + (p.payload.size : Int) + (p.client.size : Int) + (p.user.size : Int) + (p.pass.size : Int) + (C.length : Int) ≤ 844424930107392 := by omega
      have HK : Hid (k < ps.length) := hlt
      have HNS : Hid (¬ SmallP (p, C, D) → ¬ FewP ps) := fun h hf => h (by rw [ho.out]; exact hf.2 _ (List.getElem_mem hlt))
      have HYS : Hid (SmallP (p, C, D) → ∀ j (hj : j < ps.length), j < k + 1 → SmallP ps[j]) := fun h j hj hjk => by
        rcases Nat.lt_succ_iff_lt_or_eq.1 hjk with h3 | h3
        · exact hS.out.1 j hj h3
        · subst h3; rw [← ho.out]; exact h
      have HTW : Hid (Turn (fun _ => False) w wr) := hS.out.2
      clear hc v1 v2 h1 h2 hbl hS ho hL hfit s1 s2 s3 s4 s5 s6
      by_cases h500 : (500 : Int) < (p.topic.size : Int) + (p.payload.size : Int) + (p.client.size : Int) + (p.user.size : Int) + (p.pass.size : Int) + (C.length : Int)
      · have d2 : decide ((500 : Int) < (p.topic.size : Int) + (p.payload.size : Int) + (p.client.size : Int) + (p.user.size : Int) + (p.pass.size : Int) + (C.length : Int)) = true := decide_eq_true h500
        have HN : Hid (¬ FewP ps) := HNS.out (fun h => by have := h.1; simp only [sumP] at this; omega)
        clear h500
        go_wp2_with (fail)
        go_quiet (fail)
        go_wp2_with (fail)
        go_ret
        exact ⟨.inr ⟨HN.out, rfl⟩, HTW.out.drewN _⟩
      have d2 : decide ((500 : Int) < (p.topic.size : Int) + (p.payload.size : Int) + (p.client.size : Int) + (p.user.size : Int) + (p.pass.size : Int) + (C.length : Int)) = false := decide_eq_false h500
      by_cases h10 : (10 : Int) < (D.length : Int)
      · have d3 : decide ((10 : Int) < (D.length : Int)) = true := decide_eq_true h10
        have HN : Hid (¬ FewP ps) := HNS.out (fun h => by have := h.2; simp only at this; omega)
        clear h500 h10
        go_wp2_with (fail)
        go_quiet (fail)
        go_wp2_with (fail)
        go_ret
        exact ⟨.inr ⟨HN.out, rfl⟩, HTW.out.drewN _⟩
      have d3 : decide ((10 : Int) < (D.length : Int)) = false := decide_eq_false h10
      have HY := Lib.hid (HYS.out ⟨by simp only [sumP]; omega, by simp only; omega⟩)
      clear h500 h10
      go_wp2_with (fail)
      go_quiet (fail)
      go_wp2_with (fail)
      go_roundw
      case rel => exact ⟨k + 1, HK.out, by go_num, HY.out, HTW.out.drewN _⟩
      case measure => have := HK.out; simp [intOf]; omega
    · have HY : Hid (FewP ps) := ⟨by have := HB.out; omega, fun o ho => by
        obtain ⟨j, hj, rfl⟩ := List.getElem_of_mem ho
        exact hS.out.1 j hj (by omega)⟩
      go_wp2_with (fail)
      go_ret
      exact ⟨.inl ⟨HY.out, rfl⟩, hS.out.2⟩
theorem SmallP.len {w : World} {x : PkX} (h : SmallP x) (hL : Lies w x.1 x.2.1 x.2.2) : Pk.Good x.1 x.2.1 x.2.2 → (bodyB x.1 x.2.1 x.2.2).length ≤ 70368744177664 := fun hG =>
  good_len hL hG (by have := h.1; simp only [sumP] at this; omega) (by have := h.2; omega) (fun _ => by have := h.1; simp only [sumP] at this; omega)
end Rcv
end Go.Proofs.YtonemmdipmohgaaDoor

/- The reference's used and a packet's after: which fields are empty. -/
import Derived.Test.YtonemmdipmohgaaDoorRfH
namespace Go.Proofs.YtonemmdipmohgaaDoor
open Go.RowKit Go.ChangeShapes
set_option linter.unusedVariables false
set_option linter.unusedSimpArgs false
namespace Ref
open Utf (nums nums_length nums_bytes IsStr nums_str)
open Var (BT info_byte GivesBytes digs digs_length)
open Pk

def usedC (p : Pkt) (C : List Int) : List Int := if p.ty = 2 ∨ p.ty = 9 then C else []
def usedD (p : Pkt) (D : List (ByteArray × Int)) : List (ByteArray × Int) := if p.ty = 8 ∨ p.ty = 10 then D else []
theorem lies_used {w : World} {p : Pkt} {C : List Int} {D : List (ByteArray × Int)} (hF : Lies w p C D) : Lies w (usedP p) (usedC p C) (usedD p D) := by
  obtain ⟨⟨A, c, h1, h1'⟩, ⟨B, d, h2, h2'⟩, h3, h4, h5⟩ := hF
  have nC : ∀ (q : Pkt), q.codes = nilV → ∃ A c, q.codes = .slice A ([] : List Int).length c ∧ Reads .i64 w A [] := fun q h => ⟨none, 0, h, by intro h0; exact absurd h0 (by decide)⟩
  have nD : ∀ (q : Pkt), q.subs = nilV → ∃ A c, q.subs = .slice A ([] : List (ByteArray × Int)).length c ∧ ReadsSub w A [] := fun q h => ⟨none, 0, h, by intro h0; exact absurd h0 (by decide)⟩
  have z : ∀ b : Bool, ∀ s : ByteArray, (if b = true then s else ⟨#[]⟩).size ≤ s.size := fun b s => by cases b <;> first | exact Nat.zero_le _ | exact Nat.le_refl _
  have zs : (usedP p).client.size + (usedP p).user.size + (usedP p).pass.size ≤ p.client.size + p.user.size + p.pass.size := by
    have z1 := z p.huser p.user
    have z2 := z p.hpass p.pass
    unfold usedP
    split
    · show p.client.size + (if p.huser = true then p.user else ⟨#[]⟩).size + (if p.hpass = true then p.pass else ⟨#[]⟩).size ≤ _
      omega
    · have e0 : ((⟨#[]⟩ : ByteArray).size) = 0 := rfl
      repeat' split
      all_goals
        show (⟨#[]⟩ : ByteArray).size + (⟨#[]⟩ : ByteArray).size + (⟨#[]⟩ : ByteArray).size ≤ _
        omega
  refine ⟨?_, ?_, by omega, ?_, ?_⟩
  · by_cases h : p.ty = 2 ∨ p.ty = 9
    · rw [usedC, if_pos h]
      refine ⟨A, c, ?_, h1'⟩
      rw [← h1]
      rcases h with h | h
      · rw [usedP, if_neg (by omega), if_pos h]
      · rw [usedP, if_neg (by omega), if_neg (by omega), if_neg (by omega), if_neg (by omega), if_neg (by omega), if_pos h]
    · rw [usedC, if_neg h]
      refine nC _ ?_
      unfold usedP
      rw [if_neg (show ¬ p.ty = 2 by omega), if_neg (show ¬ p.ty = 9 by omega)]
      repeat' split
      all_goals rfl
  · by_cases h : p.ty = 8 ∨ p.ty = 10
    · rw [usedD, if_pos h]
      refine ⟨B, d, ?_, h2'⟩
      rw [← h2, usedP, if_neg (by omega), if_neg (by omega), if_neg (by omega), if_neg (by omega), if_pos h]
    · rw [usedD, if_neg h]
      refine nD _ ?_
      unfold usedP
      rw [if_neg h]
      repeat' split
      all_goals rfl
  · unfold usedC
    split
    · exact h4
    · exact by decide
  · unfold usedD
    split
    · exact h5
    · exact by decide

theorem same_iff (p q : Pkt) (C C' : List Int) (D D' : List (ByteArray × Int)) : SameP p q C C' D D' ↔ eqP p q ∧ C = C' ∧ D = D' := by rw [SameP, eqP_iff]
theorem em_iff (s : ByteArray) : s = ⟨#[]⟩ ↔ s.size = 0 := by
  constructor
  · intro h; rw [h]; rfl
  · intro h; exact ba_toList (by simpa using list_em h)
/-- The packet and itself with the fields of use alone. -/
def Uses (p : Pkt) (C : List Int) (D : List (ByteArray × Int)) : Prop := SameP p (usedP p) C (usedC p C) D (usedD p D)
noncomputable instance (p : Pkt) (C : List Int) (D : List (ByteArray × Int)) : Decidable (Uses p C D) := Classical.propDecidable _
theorem good_1 (p : Pkt) (C : List Int) (D : List (ByteArray × Int)) (hL : Long p C D) (h : p.ty = 1) : Pk.Good p C D ↔ Uses p C D ∧ ConR p := by
  have ho : Ok p C D ↔ ConOk p := ⟨fun o => o.1 h, fun c => ⟨fun _ => c, fun h' => absurd h' (by omega), fun h' => absurd h' (by omega), fun h' => absurd h' (by omega), fun h' => absurd h' (by omega), fun h' => absurd h' (by omega)⟩⟩
  have hE : (⟨#[]⟩ : ByteArray) = ByteArray.empty := rfl
  have hN : Pk.rowLen (Value.slice none 0 0) = 0 := rfl
  obtain ⟨l1, l2⟩ := hL
  unfold Pk.Good Uses
  rw [zero_iff, same_iff, ho]
  unfold ConOk ConR MsgOk
  cases hw : p.will <;> cases hu : p.huser <;> cases hp : p.hpass <;> simp [Pkt.after, h, hw, hu, hp, Pkt.noCon, Pkt.noMsg, eqP, usedP, typeP, zeroP, em_iff, usedC, usedD, l1, l2] <;> grind
theorem good_2 (p : Pkt) (C : List Int) (D : List (ByteArray × Int)) (hL : Long p C D) (h : p.ty = 2) : Pk.Good p C D ↔ Uses p C D ∧ (C.length = 1 ∧ 0 ≤ lat C 0 ∧ lat C 0 ≤ 5 ∧ (p.present = false ∨ lat C 0 = 0)) := by
  have ho : Ok p C D ↔ (C.length = 1 ∧ 0 ≤ lat C 0 ∧ lat C 0 ≤ 5 ∧ (p.present = false ∨ lat C 0 = 0)) := ⟨fun o => o.2.1 h, fun c => ⟨fun h' => absurd h' (by omega), fun _ => c, fun h' => absurd h' (by omega), fun h' => absurd h' (by omega), fun h' => absurd h' (by omega), fun h' => absurd h' (by omega)⟩⟩
  have hE : (⟨#[]⟩ : ByteArray) = ByteArray.empty := rfl
  have hN : Pk.rowLen (Value.slice none 0 0) = 0 := rfl
  obtain ⟨l1, l2⟩ := hL
  unfold Pk.Good Uses
  rw [zero_iff, same_iff, ho]
  simp [Pkt.after, h, Pkt.noCodes, rowLen, nilV, eqP, usedP, typeP, zeroP, em_iff, usedC, usedD, l1, l2] <;> grind
theorem good_3 (p : Pkt) (C : List Int) (D : List (ByteArray × Int)) (hL : Long p C D) (h : p.ty = 3) : Pk.Good p C D ↔ Uses p C D ∧ (Full p.topic ∧ 0 ≤ p.qos ∧ p.qos ≤ 2 ∧ ((0 < p.qos ∧ IdOk p) ∨ (p.qos = 0 ∧ p.id = 0 ∧ p.dup = false))) := by
  have ho : Ok p C D ↔ ((p.qos ≠ 0 → IdOk p) ∧ MsgOk p) := ⟨fun o => o.2.2.1 h, fun c => ⟨fun h' => absurd h' (by omega), fun h' => absurd h' (by omega), fun _ => c, fun h' => absurd h' (by omega), fun h' => absurd h' (by omega), fun h' => absurd h' (by omega)⟩⟩
  have hE : (⟨#[]⟩ : ByteArray) = ByteArray.empty := rfl
  have hN : Pk.rowLen (Value.slice none 0 0) = 0 := rfl
  obtain ⟨l1, l2⟩ := hL
  unfold Pk.Good Uses
  rw [zero_iff, same_iff, ho]
  unfold MsgOk
  by_cases hq : p.qos = 0 <;> simp [Pkt.after, h, hq, Pkt.noMsg, Pkt.noId, rowLen, nilV, eqP, usedP, typeP, zeroP, em_iff, usedC, usedD, l1, l2] <;> grind
theorem good_id (p : Pkt) (C : List Int) (D : List (ByteArray × Int)) (hL : Long p C D) (h : p.ty = 4 ∨ p.ty = 5 ∨ p.ty = 6 ∨ p.ty = 7 ∨ p.ty = 11) : Pk.Good p C D ↔ Uses p C D ∧ IdOk p := by
  have ho : Ok p C D ↔ IdOk p := ⟨fun o => o.2.2.2.1 (by omega) (by omega), fun c => ⟨fun h' => absurd h' (by omega), fun h' => absurd h' (by omega), fun h' => absurd h' (by omega), fun _ _ => c, fun h' => absurd h' (by omega), fun h' => absurd h' (by omega)⟩⟩
  have hE : (⟨#[]⟩ : ByteArray) = ByteArray.empty := rfl
  have hN : Pk.rowLen (Value.slice none 0 0) = 0 := rfl
  obtain ⟨l1, l2⟩ := hL
  unfold Pk.Good Uses
  rw [zero_iff, same_iff, ho]
  rcases h with h | h | h | h | h <;> simp [Pkt.after, h, Pkt.noId, rowLen, nilV, eqP, usedP, typeP, zeroP, em_iff, usedC, usedD, l1, l2] <;> grind
theorem good_8 (p : Pkt) (C : List Int) (D : List (ByteArray × Int)) (hL : Long p C D) (h : p.ty = 8 ∨ p.ty = 10) : Pk.Good p C D ↔ Uses p C D ∧ (IdOk p ∧ (0 < D.length ∧ ∀ s ∈ D, SubOk p.ty s)) := by
  have ho : Ok p C D ↔ (IdOk p ∧ (0 < D.length ∧ ∀ s ∈ D, SubOk p.ty s)) := ⟨fun o => ⟨o.2.2.2.1 (by omega) (by omega), o.2.2.2.2.1 h⟩, fun c => ⟨fun h' => absurd h' (by omega), fun h' => absurd h' (by omega), fun h' => absurd h' (by omega), fun _ _ => c.1, fun _ => c.2, fun h' => absurd h' (by omega)⟩⟩
  have hE : (⟨#[]⟩ : ByteArray) = ByteArray.empty := rfl
  have hN : Pk.rowLen (Value.slice none 0 0) = 0 := rfl
  obtain ⟨l1, l2⟩ := hL
  unfold Pk.Good Uses
  rw [zero_iff, same_iff, ho]
  generalize (∀ s ∈ D, SubOk p.ty s) = X
  rcases h with h | h <;> simp [Pkt.after, h, Pkt.noId, Pkt.noSubs, rowLen, nilV, eqP, usedP, typeP, zeroP, em_iff, usedC, usedD, l1, l2] <;> grind
theorem good_9 (p : Pkt) (C : List Int) (D : List (ByteArray × Int)) (hL : Long p C D) (h : p.ty = 9) : Pk.Good p C D ↔ Uses p C D ∧ (IdOk p ∧ (0 < C.length ∧ ∀ c ∈ C, CodeOk c)) := by
  have ho : Ok p C D ↔ (IdOk p ∧ (0 < C.length ∧ ∀ c ∈ C, CodeOk c)) := ⟨fun o => ⟨o.2.2.2.1 (by omega) (by omega), o.2.2.2.2.2 h⟩, fun c => ⟨fun h' => absurd h' (by omega), fun h' => absurd h' (by omega), fun h' => absurd h' (by omega), fun _ _ => c.1, fun h' => absurd h' (by omega), fun _ => c.2⟩⟩
  have hE : (⟨#[]⟩ : ByteArray) = ByteArray.empty := rfl
  have hN : Pk.rowLen (Value.slice none 0 0) = 0 := rfl
  obtain ⟨l1, l2⟩ := hL
  unfold Pk.Good Uses
  rw [zero_iff, same_iff, ho]
  generalize (∀ c ∈ C, CodeOk c) = X
  simp [Pkt.after, h, Pkt.noId, Pkt.noCodes, rowLen, nilV, eqP, usedP, typeP, zeroP, em_iff, usedC, usedD, l1, l2] <;> grind
theorem good_0 (p : Pkt) (C : List Int) (D : List (ByteArray × Int)) (hL : Long p C D) (h : p.ty = 12 ∨ p.ty = 13 ∨ p.ty = 14) : Pk.Good p C D ↔ Uses p C D := by
  have ho : Ok p C D ↔ True := ⟨fun _ => trivial, fun c => ⟨fun h' => absurd h' (by omega), fun h' => absurd h' (by omega), fun h' => absurd h' (by omega), fun _ h' => absurd h' (by omega), fun h' => absurd h' (by omega), fun h' => absurd h' (by omega)⟩⟩
  have hE : (⟨#[]⟩ : ByteArray) = ByteArray.empty := rfl
  have hN : Pk.rowLen (Value.slice none 0 0) = 0 := rfl
  obtain ⟨l1, l2⟩ := hL
  unfold Pk.Good Uses
  rw [zero_iff, same_iff, ho]
  rcases h with h | h | h <;> simp [Pkt.after, h, eqP, usedP, typeP, zeroP, em_iff, usedC, usedD, l1, l2] <;> grind
theorem good_uses (p : Pkt) (C : List Int) (D : List (ByteArray × Int)) (hL : Long p C D) (hG : Pk.Good p C D) : Uses p C D := by
  have h1 := hG.1
  have h2 := hG.2.1
  rcases (by omega : p.ty = 1 ∨ p.ty = 2 ∨ p.ty = 3 ∨ (p.ty = 4 ∨ p.ty = 5 ∨ p.ty = 6 ∨ p.ty = 7 ∨ p.ty = 11) ∨ (p.ty = 8 ∨ p.ty = 10) ∨ p.ty = 9 ∨ (p.ty = 12 ∨ p.ty = 13 ∨ p.ty = 14)) with h | h | h | h | h | h | h
  · exact ((good_1 p C D hL h).1 hG).1
  · exact ((good_2 p C D hL h).1 hG).1
  · exact ((good_3 p C D hL h).1 hG).1
  · exact ((good_id p C D hL h).1 hG).1
  · exact ((good_8 p C D hL h).1 hG).1
  · exact ((good_9 p C D hL h).1 hG).1
  · exact (good_0 p C D hL h).1 hG
/-- What has no use for codes, filters, a number has none. -/
theorem uses_C {p : Pkt} {C : List Int} {D : List (ByteArray × Int)} (h : Uses p C D) : (p.ty ≠ 2 → p.ty ≠ 9 → C = []) ∧ (p.ty ≠ 8 → p.ty ≠ 10 → D = []) := by
  obtain ⟨_, h2, h3⟩ := (same_iff _ _ _ _ _ _).1 h
  refine ⟨fun a b => ?_, fun a b => ?_⟩
  · rw [usedC, if_neg (by omega)] at h2; exact h2
  · rw [usedD, if_neg (by omega)] at h3; exact h3
theorem uses_id {p : Pkt} {C : List Int} {D : List (ByteArray × Int)} (h : Uses p C D) (ht : p.ty = 1 ∨ p.ty = 2 ∨ p.ty = 12 ∨ p.ty = 13 ∨ p.ty = 14) : p.id = 0 := by
  obtain ⟨h1, _, _⟩ := (same_iff _ _ _ _ _ _).1 h
  have := h1.2.2.1
  rcases ht with h | h | h | h | h <;> simpa [usedP, h, typeP, zeroP] using this
end Ref
end Go.Proofs.YtonemmdipmohgaaDoor

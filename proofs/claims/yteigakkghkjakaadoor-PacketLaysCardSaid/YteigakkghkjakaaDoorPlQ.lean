/- What is laid down is read back: the plain law. What is laid down is read back: any packet that may be. -/
import Derived.Test.YteigakkghkjakaaDoorPlF
namespace Go.Proofs.YteigakkghkjakaaDoor
open Go.RowKit
set_option linter.unusedVariables false
set_option linter.unusedSimpArgs false
namespace Pk
open Utf (nums nums_length nums_bytes IsStr)
open Var (BT)

theorem str_of_nums (s : ByteArray) : strOfNums (nums s) = s := by
  unfold strOfNums nums
  cases s with
  | mk d =>
    congr 1
    apply Array.ext'
    simp
    conv => rhs; rw [← List.map_id d.toList]
    apply List.map_congr_left
    intro b _
    simp
theorem rdWord_word (n : Int) (R : List Int) : rdWord (wordB n ++ R) = some (n, R) := by
  simp only [wordB, List.cons_append, List.nil_append, rdWord]
  rw [show 256 * (n / 256) + n % 256 = n by omega]
theorem rdText_text (s : ByteArray) (R : List Int) : rdText (textB s ++ R) = some (s, R) := by
  rw [rdText, textB, List.append_assoc, rdWord_word]
  have h : ((s.size : Nat) : Int).toNat = (nums s).length := by rw [nums_length]; omega
  simp only []
  rw [h, if_pos (by simp), List.take_left, List.drop_left, str_of_nums]
theorem conF_flags (p : Pkt) (hq : 0 ≤ p.qos ∧ p.qos ≤ 2) : flagB (conF p) 2 = p.clean ∧ flagB (conF p) 4 = p.will ∧ flagB (conF p) 64 = p.hpass ∧ flagB (conF p) 128 = p.huser ∧ bits .and .i64 (conF p / 8) 3 = p.qos ∧ flagB (conF p) 32 = p.retain := by
  rw [conF_eq p hq]
  have h : p.qos = 0 ∨ p.qos = 1 ∨ p.qos = 2 := by omega
  rcases h with h | h | h <;> rw [h] <;> cases p.clean <;> cases p.will <;> cases p.retain <;> cases p.hpass <;> cases p.huser <;> decide
theorem pub_flags (p : Pkt) (hq : 0 ≤ p.qos ∧ p.qos ≤ 2) : flagB (48 + (bitN p.dup 8 + 2 * p.qos + bitN p.retain 1)) 8 = p.dup ∧ bits .and .i64 ((48 + (bitN p.dup 8 + 2 * p.qos + bitN p.retain 1)) / 2) 3 = p.qos ∧ flagB (48 + (bitN p.dup 8 + 2 * p.qos + bitN p.retain 1)) 1 = p.retain := by
  have h : p.qos = 0 ∨ p.qos = 1 ∨ p.qos = 2 := by omega
  rcases h with h | h | h <;> rw [h] <;> cases p.dup <;> cases p.retain <;> decide
theorem rdSubs_back (ty : Int) : ∀ (D : List (ByteArray × Int)) (k : Nat), (subsB ty D).length ≤ k → (ty ≠ 8 → ∀ s ∈ D, s.2 = 0) → rdSubs k ty (subsB ty D) = some D := by
  intro D
  induction D with
  | nil => intro k _ _; rw [show subsB ty [] = [] from rfl]; exact rdSubs_nil k ty
  | cons x D ih =>
    intro k hk h0
    obtain ⟨s, q⟩ := x
    have hcons : subsB ty ((s, q) :: D) = subB ty (s, q) ++ subsB ty D := rfl
    rw [hcons] at hk ⊢
    rw [List.length_append, subB, List.length_append, textB_length] at hk
    cases k with
    | zero => omega
    | succ k =>
      have hne : ¬ (subB ty (s, q) ++ subsB ty D = []) := by
        intro h
        have := congrArg List.length h
        rw [List.length_append, subB, List.length_append, textB_length] at this
        simp at this
      rw [rdSubs, if_neg hne, subB, List.append_assoc, rdText_text, Option.bind_some]
      by_cases h8 : ty = 8
      · rw [if_pos h8] at hk
        rw [if_pos h8, if_pos h8]
        simp only [List.cons_append, List.nil_append, rdOct, Option.bind_some]
        rw [ih k (by simp at hk; omega) (fun h => absurd h8 h)]
        rfl
      · rw [if_neg h8] at hk
        rw [if_neg h8, if_neg h8, List.nil_append, ih k (by simp at hk; omega) (fun h s hs => h0 h s (List.mem_cons_of_mem _ hs))]
        have : q = 0 := h0 h8 (s, q) (List.mem_cons_self ..)
        rw [this]; rfl

theorem size0 {s : ByteArray} (h : s.size = 0) : s = ⟨#[]⟩ := empty_of h
theorem con9_back (p : Pkt) (s : ByteArray) (hp : p.hpass = false → s = p.pass) : con9 p (if p.hpass then textB s else []) = some ({ p with pass := s }, []) := by
  unfold con9
  by_cases h : p.hpass = true
  · rw [if_pos h, if_pos h]
    rw [show textB s = textB s ++ [] by simp, rdText_text]
    rfl
  · rw [if_neg h, if_neg h, hp (by simpa using h)]
theorem con8_back (p : Pkt) (u s : ByteArray) (hu : p.huser = false → u = p.user) (hp : p.hpass = false → s = p.pass) : con8 p ((if p.huser then textB u else []) ++ (if p.hpass then textB s else [])) = some ({ p with user := u, pass := s }, []) := by
  unfold con8
  by_cases h : p.huser = true
  · rw [if_pos h, if_pos h, rdText_text, Option.bind_some]
    exact con9_back { p with user := u } s hp
  · rw [if_neg h, if_neg h, List.nil_append, con9_back p s hp, hu (by simpa using h)]
theorem con_back (p : Pkt) (hq : 0 ≤ p.qos ∧ p.qos ≤ 2) (hw : p.will = false → p.topic = ⟨#[]⟩ ∧ p.payload = ⟨#[]⟩ ∧ p.qos = 0 ∧ p.retain = false) (hu : p.huser = false → p.user = ⟨#[]⟩) (hp : p.hpass = false → p.pass = ⟨#[]⟩) :
    rdCon (typeP 1) (conB p) = some ({ typeP 1 with clean := p.clean, will := p.will, huser := p.huser, hpass := p.hpass, alive := p.alive, client := p.client, topic := p.topic, payload := p.payload, qos := p.qos, retain := p.retain, user := p.user, pass := p.pass }, []) := by
  obtain ⟨f1, f2, f3, f4, f5, f6⟩ := conF_flags p hq
  unfold rdCon conB conH
  rw [List.append_assoc, List.append_assoc, rdText_text, Option.bind_some]
  have hm : mqtt.toList = [77, 81, 84, 84] := by rw [ByteArray.toList_eq]
  simp only []
  rw [if_pos hm]
  unfold con1
  simp only [List.cons_append, List.nil_append, rdOct, Option.bind_some, if_true]
  unfold con2
  simp only [rdOct, Option.bind_some]
  unfold con3
  rw [rdWord_word, Option.bind_some]
  unfold con4
  simp only []
  rw [rdText_text, Option.bind_some]
  unfold con5 Pkt.flag
  simp only [f1, f2, f3, f4, f5, f6]
  by_cases hwl : p.will = true
  · rw [if_pos hwl, if_pos hwl]
    unfold con6
    rw [List.append_assoc, rdText_text, Option.bind_some]
    unfold con7
    simp only []
    rw [rdText_text, Option.bind_some]
    simp only []
    have := con8_back { typeP 1 with clean := p.clean, will := p.will, huser := p.huser, hpass := p.hpass, alive := p.alive, client := p.client, topic := p.topic, payload := p.payload, qos := p.qos, retain := p.retain } p.user p.pass hu hp
    exact this
  · rw [if_neg hwl, if_neg hwl, List.nil_append]
    obtain ⟨w1, w2, w3, w4⟩ := hw (by simpa using hwl)
    rw [w1, w2, w3, w4]
    have := con8_back { typeP 1 with clean := p.clean, will := p.will, huser := p.huser, hpass := p.hpass, alive := p.alive, client := p.client } p.user p.pass hu hp
    exact this
end Pk
end Go.Proofs.YteigakkghkjakaaDoor

namespace Go.Proofs.YteigakkghkjakaaDoor
open Go.RowKit
set_option linter.unusedVariables false
set_option linter.unusedSimpArgs false
namespace Pk
open Utf (nums nums_length nums_bytes IsStr)
open Var (BT)

/-- A packet's rows are as long as the lists. -/
def Long (p : Pkt) (C : List Int) (D : List (ByteArray × Int)) : Prop := rowLen p.codes = C.length ∧ rowLen p.subs = D.length

theorem read_back (p : Pkt) (C : List Int) (D : List (ByteArray × Int)) (hG : Good p C D) (hL : Long p C D) : rdPkt (16 * p.ty + flagsN p) (bodyB p C D) = some (p.rows nilV nilV, C, D) := by
  obtain ⟨t1, t2, ⟨o1, o2, o3, o4, o5, o6⟩, hz⟩ := hG
  have hz' := (zero_iff _ _ _).1 hz
  clear hz
  rcases (by omega : p.ty = 1 ∨ p.ty = 2 ∨ p.ty = 3 ∨ (p.ty = 4 ∨ p.ty = 5 ∨ p.ty = 6 ∨ p.ty = 7 ∨ p.ty = 11) ∨ (p.ty = 8 ∨ p.ty = 10) ∨ p.ty = 9 ∨ (p.ty = 12 ∨ p.ty = 13 ∨ p.ty = 14)) with h | h | h | h | h | h | h
  · -- Connect
    have hf : 16 * p.ty + flagsN p = 16 := by unfold flagsN; rw [if_neg (by omega), if_neg (by omega)]; omega
    have hb : bodyB p C D = conB p := by unfold bodyB; rw [if_pos h]
    obtain ⟨c1, c2, c3, c4, c5, c6, c7, c8, c9⟩ := o1 h
    have hA : p.after = (if p.will then p.noMsg else p).noCon := by unfold Pkt.after; rw [if_pos h]
    rw [hA] at hz'
    have hdup : p.dup = false := by have := hz'.2.2.1; cases hw : p.will <;> rw [hw] at this <;> exact this
    have hid : p.id = 0 := by have := hz'.2.1; cases hw : p.will <;> rw [hw] at this <;> exact this
    have hpre : p.present = false := by have := hz'.2.2.2.2.2.2.2.1; cases hw : p.will <;> rw [hw] at this <;> exact this
    have hC : C.length = 0 := by have := hz'.2.2.2.1; rw [← hL.1]; cases hw : p.will <;> rw [hw] at this <;> exact this
    have hD : D.length = 0 := by have := hz'.2.2.2.2.1; rw [← hL.2]; cases hw : p.will <;> rw [hw] at this <;> exact this
    have hw : p.will = false → p.topic = ⟨#[]⟩ ∧ p.payload = ⟨#[]⟩ ∧ p.qos = 0 ∧ p.retain = false := by
      intro hw
      have := hz'.1
      rw [hw] at this
      exact ⟨size0 this.1, size0 this.2.1, this.2.2.1, this.2.2.2⟩
    have hq : 0 ≤ p.qos ∧ p.qos ≤ 2 := by
      by_cases hwl : p.will = true
      · exact (c7 hwl).2.2
      · have := (hw (by simpa using hwl)).2.2.1; omega
    have hu : p.huser = false → p.user = ⟨#[]⟩ := fun hx => by rcases c8 with e | e; (rw [hx] at e; cases e); exact size0 e
    have hp : p.hpass = false → p.pass = ⟨#[]⟩ := fun hx => by rcases c9 with e | e; (rw [hx] at e; cases e); exact size0 e
    rw [hf, hb]
    unfold rdPkt
    rw [if_pos (by decide), con_back p hq hw hu hp, Option.bind_some]
    obtain rfl := List.eq_nil_of_length_eq_zero hC
    obtain rfl := List.eq_nil_of_length_eq_zero hD
    simp only [typeP, zeroP, Pkt.rows]
    rw [hdup, hid, hpre, h]
  · -- Connack
    obtain ⟨c1, c2, c3, c4⟩ := o2 h
    have hf : 16 * p.ty + flagsN p = 32 := by unfold flagsN; rw [if_neg (by omega), if_neg (by omega)]; omega
    have hb : bodyB p C D = [bitN p.present 1, lat C 0] := by unfold bodyB; rw [if_neg (by omega), if_pos h]
    have hA : p.after = { p.noCodes with present := false } := by unfold Pkt.after; rw [if_neg (by omega), if_pos h]
    rw [hA] at hz'
    have hz1 : (p.topic.size = 0 ∧ p.payload.size = 0 ∧ p.qos = 0 ∧ p.retain = false) ∧ p.id = 0 ∧ p.dup = false ∧ (0 : Nat) = 0 ∧ rowLen p.subs = 0 ∧ (p.client.size = 0 ∧ p.user.size = 0 ∧ p.pass.size = 0) ∧ p.clean = false ∧ false = false ∧ p.will = false ∧ p.huser = false ∧ p.hpass = false ∧ p.alive = 0 := hz'
    obtain ⟨⟨z1, z2, z3, z4⟩, z5, z6, _, z8, ⟨z9, z10, z11⟩, z12, _, z13, z14, z15, z16⟩ := hz1
    obtain ⟨c, rfl⟩ : ∃ c, C = [c] := by
      match C, c1 with
      | [c], _ => exact ⟨c, rfl⟩
    have hD : D.length = 0 := by rw [← hL.2]; exact z8
    obtain rfl := List.eq_nil_of_length_eq_zero hD
    rw [hf, hb]
    unfold rdPkt
    rw [if_neg (by decide), if_pos (by decide)]
    simp only [rdOct, Option.bind_some]
    have hpr : (bitN p.present 1 == 1) = p.present := by cases p.present <;> rfl
    simp only [typeP, zeroP, Pkt.rows]
    rw [hpr, size0 z1, size0 z2, z3, z4, z5, z6, size0 z9, size0 z10, size0 z11, z12, z13, z14, z15, z16, h]
    rfl
  · -- Publish
    obtain ⟨c1, c2⟩ := o3 h
    have hq : 0 ≤ p.qos ∧ p.qos ≤ 2 := c2.2
    have hfl : flagsN p = bitN p.dup 8 + 2 * p.qos + bitN p.retain 1 := by unfold flagsN; rw [if_pos h]
    have hf : 16 * p.ty + flagsN p = 48 + (bitN p.dup 8 + 2 * p.qos + bitN p.retain 1) := by rw [hfl, h]; omega
    have hb : bodyB p C D = textB p.topic ++ ((if p.qos = 0 then [] else wordB p.id) ++ nums p.payload) := by unfold bodyB; rw [if_neg (by omega), if_neg (by omega), if_pos h]
    have hA : p.after = (if p.qos = 0 then p else { p.noId with dup := false }).noMsg := by unfold Pkt.after; rw [if_neg (by omega), if_neg (by omega), if_pos h]
    rw [hA] at hz'
    have hz1 : rowLen p.codes = 0 ∧ rowLen p.subs = 0 ∧ (p.client.size = 0 ∧ p.user.size = 0 ∧ p.pass.size = 0) ∧ p.clean = false ∧ p.present = false ∧ p.will = false ∧ p.huser = false ∧ p.hpass = false ∧ p.alive = 0 := by
      have := hz'.2.2.2
      by_cases hq0 : p.qos = 0
      · rw [if_pos hq0] at this; exact this
      · rw [if_neg hq0] at this; exact this
    have hz0 : p.qos = 0 → p.id = 0 := by
      intro hq0
      have := hz'.2.1
      rw [if_pos hq0] at this; exact this
    obtain ⟨z7, z8, ⟨z9, z10, z11⟩, z12, zp, z13, z14, z15, z16⟩ := hz1
    have hC : C.length = 0 := by rw [← hL.1]; exact z7
    have hD : D.length = 0 := by rw [← hL.2]; exact z8
    obtain rfl := List.eq_nil_of_length_eq_zero hC
    obtain rfl := List.eq_nil_of_length_eq_zero hD
    obtain ⟨f1, f2, f3⟩ := pub_flags p hq
    have hr : 0 ≤ bitN p.dup 8 + 2 * p.qos + bitN p.retain 1 ∧ bitN p.dup 8 + 2 * p.qos + bitN p.retain 1 < 16 := by
      have h1 := bitN_range p.dup 8 (by decide)
      have h2 := bitN_range p.retain 1 (by decide)
      omega
    rw [hf, hb]
    generalize hN : 48 + (bitN p.dup 8 + 2 * p.qos + bitN p.retain 1) = N at f1 f2 f3 ⊢
    unfold rdPkt
    rw [if_neg (by omega), if_neg (by omega), if_pos (by omega), rdText_text, Option.bind_some]
    unfold pub3
    rw [f2]
    simp only [f1, f3]
    by_cases hq0 : p.qos = 0
    · rw [if_neg (by omega), if_pos hq0, List.nil_append, str_of_nums]
      simp only [typeP, zeroP, Pkt.rows]
      rw [hz0 hq0, size0 z9, size0 z10, size0 z11, z12, zp, z13, z14, z15, z16, h, hq0]
    · rw [if_pos (by omega), if_neg hq0, rdWord_word, Option.bind_some, str_of_nums]
      simp only [typeP, zeroP, Pkt.rows]
      rw [size0 z9, size0 z10, size0 z11, z12, zp, z13, z14, z15, z16, h]
  · -- an Id alone
    have hA : p.after = p.noId := by unfold Pkt.after; rw [if_neg (by omega), if_neg (by omega), if_neg (by omega), if_pos h]
    rw [hA] at hz'
    have hz1 : (p.topic.size = 0 ∧ p.payload.size = 0 ∧ p.qos = 0 ∧ p.retain = false) ∧ (0 : Int) = 0 ∧ p.dup = false ∧ rowLen p.codes = 0 ∧ rowLen p.subs = 0 ∧ (p.client.size = 0 ∧ p.user.size = 0 ∧ p.pass.size = 0) ∧ p.clean = false ∧ p.present = false ∧ p.will = false ∧ p.huser = false ∧ p.hpass = false ∧ p.alive = 0 := hz'
    obtain ⟨⟨z1, z2, z3, z4⟩, _, z6, z7, z8, ⟨z9, z10, z11⟩, z12, zp, z13, z14, z15, z16⟩ := hz1
    have hC : C.length = 0 := by rw [← hL.1]; exact z7
    have hD : D.length = 0 := by rw [← hL.2]; exact z8
    obtain rfl := List.eq_nil_of_length_eq_zero hC
    obtain rfl := List.eq_nil_of_length_eq_zero hD
    have hb : bodyB p [] [] = wordB p.id ++ [] := by unfold bodyB; rw [if_neg (by omega), if_neg (by omega), if_neg (by omega), if_neg (by omega)]; rfl
    have hfl : 0 ≤ flagsN p ∧ flagsN p < 16 := by unfold flagsN; rw [if_neg (by omega)]; split <;> omega
    have hd : (16 * p.ty + flagsN p) / 16 = p.ty := by omega
    rw [hb]
    unfold rdPkt
    rw [hd, if_neg (by omega), if_neg (by omega), if_neg (by omega), if_neg (by omega), rdWord_word, Option.bind_some, if_neg (by omega), if_neg (by omega)]
    simp only [typeP, zeroP, Pkt.rows]
    rw [size0 z1, size0 z2, z3, z4, z6, size0 z9, size0 z10, size0 z11, z12, zp, z13, z14, z15, z16]
  · -- filters
    have hA : p.after = p.noId.noSubs := by unfold Pkt.after; rw [if_neg (by omega), if_neg (by omega), if_neg (by omega), if_neg (by omega), if_pos h]
    rw [hA] at hz'
    have hz1 : (p.topic.size = 0 ∧ p.payload.size = 0 ∧ p.qos = 0 ∧ p.retain = false) ∧ (0 : Int) = 0 ∧ p.dup = false ∧ rowLen p.codes = 0 ∧ (0 : Nat) = 0 ∧ (p.client.size = 0 ∧ p.user.size = 0 ∧ p.pass.size = 0) ∧ p.clean = false ∧ p.present = false ∧ p.will = false ∧ p.huser = false ∧ p.hpass = false ∧ p.alive = 0 := hz'
    obtain ⟨⟨z1, z2, z3, z4⟩, _, z6, z7, _, ⟨z9, z10, z11⟩, z12, zp, z13, z14, z15, z16⟩ := hz1
    have hC : C.length = 0 := by rw [← hL.1]; exact z7
    obtain rfl := List.eq_nil_of_length_eq_zero hC
    have hb : bodyB p [] D = wordB p.id ++ subsB p.ty D := by unfold bodyB; rw [if_neg (by omega), if_neg (by omega), if_neg (by omega), if_neg (by omega), List.append_nil]
    have hfl : flagsN p = 2 := by unfold flagsN; rw [if_neg (by omega), if_pos (by omega)]
    have hd : (16 * p.ty + flagsN p) / 16 = p.ty := by omega
    have hs := rdSubs_back p.ty D (subsB p.ty D).length (Nat.le_refl _) (fun h8 s hs => by have := ((o5 h).2 s hs).2.2.2; rcases this with e | e; exact absurd e h8; exact e)
    rw [hb]
    unfold rdPkt
    rw [hd, if_neg (by omega), if_neg (by omega), if_neg (by omega), if_neg (by omega), rdWord_word, Option.bind_some, if_neg (by omega), if_pos h]
    simp only []
    rw [hs, Option.bind_some]
    simp only [typeP, zeroP, Pkt.rows]
    rw [size0 z1, size0 z2, z3, z4, z6, size0 z9, size0 z10, size0 z11, z12, zp, z13, z14, z15, z16]
  · -- Suback
    have hA : p.after = p.noId.noCodes := by unfold Pkt.after; rw [if_neg (by omega), if_neg (by omega), if_neg (by omega), if_neg (by omega), if_neg (by omega), if_pos h]
    rw [hA] at hz'
    have hz1 : (p.topic.size = 0 ∧ p.payload.size = 0 ∧ p.qos = 0 ∧ p.retain = false) ∧ (0 : Int) = 0 ∧ p.dup = false ∧ (0 : Nat) = 0 ∧ rowLen p.subs = 0 ∧ (p.client.size = 0 ∧ p.user.size = 0 ∧ p.pass.size = 0) ∧ p.clean = false ∧ p.present = false ∧ p.will = false ∧ p.huser = false ∧ p.hpass = false ∧ p.alive = 0 := hz'
    obtain ⟨⟨z1, z2, z3, z4⟩, _, z6, _, z8, ⟨z9, z10, z11⟩, z12, zp, z13, z14, z15, z16⟩ := hz1
    have hD : D.length = 0 := by rw [← hL.2]; exact z8
    obtain rfl := List.eq_nil_of_length_eq_zero hD
    have hb : bodyB p C [] = wordB p.id ++ C := by unfold bodyB; rw [if_neg (by omega), if_neg (by omega), if_neg (by omega), if_neg (by omega)]; rfl
    have hfl : flagsN p = 0 := by unfold flagsN; rw [if_neg (by omega), if_neg (by omega)]
    have hd : (16 * p.ty + flagsN p) / 16 = p.ty := by omega
    rw [hb]
    unfold rdPkt
    rw [hd, if_neg (by omega), if_neg (by omega), if_neg (by omega), if_neg (by omega), rdWord_word, Option.bind_some, if_pos h]
    simp only [typeP, zeroP, Pkt.rows]
    rw [size0 z1, size0 z2, z3, z4, z6, size0 z9, size0 z10, size0 z11, z12, zp, z13, z14, z15, z16, h]
  · -- nothing
    have hA : p.after = p := by unfold Pkt.after; rw [if_neg (by omega), if_neg (by omega), if_neg (by omega), if_neg (by omega), if_neg (by omega), if_neg (by omega)]
    rw [hA] at hz'
    obtain ⟨⟨z1, z2, z3, z4⟩, z5, z6, z7, z8, ⟨z9, z10, z11⟩, z12, zp, z13, z14, z15, z16⟩ := hz'
    have hC : C.length = 0 := by rw [← hL.1]; exact z7
    have hD : D.length = 0 := by rw [← hL.2]; exact z8
    obtain rfl := List.eq_nil_of_length_eq_zero hC
    obtain rfl := List.eq_nil_of_length_eq_zero hD
    have hb : bodyB p [] [] = [] := by unfold bodyB; rw [if_neg (by omega), if_neg (by omega), if_neg (by omega), if_pos h]
    have hfl : flagsN p = 0 := by unfold flagsN; rw [if_neg (by omega), if_neg (by omega)]
    have hd : (16 * p.ty + flagsN p) / 16 = p.ty := by omega
    rw [hb]
    unfold rdPkt
    rw [hd, if_neg (by omega), if_neg (by omega), if_neg (by omega), if_pos h]
    simp only [typeP, zeroP, Pkt.rows]
    rw [size0 z1, size0 z2, z3, z4, z5, z6, size0 z9, size0 z10, size0 z11, z12, zp, z13, z14, z15, z16]
end Pk
end Go.Proofs.YteigakkghkjakaaDoor

/- What is laid down is read back: the plain law. What is laid down is read back: any packet that may be. The reader: read, whatever comes; Parse's closure. Parse's closure. Plain laws on what is read: sizes, bytes. Parse's closure: the walk. packet.Parse. The document's examples of packet. basculelaw10.awake. What is known of a packet that Parse has read. -/
import Derived.Test.YtonemmdipmohgaaDoorPlF
import Derived.Test.YtonemmdipmohgaaDoorShelf
import Derived.Deep.RegionHeldLaw
import Derived.Lib.SlBytesConst
namespace Go.Proofs.YtonemmdipmohgaaDoor
open Go.RowKit
set_option linter.unusedVariables false
set_option linter.unusedSimpArgs false
namespace Pk
open Utf (nums nums_length nums_bytes IsStr)
open Var (BT)

theorem str_of_nums (s : ByteArray) : strOfNums (nums s) = s := by
  unfold strOfNums nums
  cases s with
  | mk d =>
    congr 1
    apply Array.ext'
    simp
    conv => rhs; rw [← List.map_id d.toList]
    apply List.map_congr_left
    intro b _
    simp
theorem rdWord_word (n : Int) (R : List Int) : rdWord (wordB n ++ R) = some (n, R) := by
  simp only [wordB, List.cons_append, List.nil_append, rdWord]
  rw [show 256 * (n / 256) + n % 256 = n by omega]
theorem rdText_text (s : ByteArray) (R : List Int) : rdText (textB s ++ R) = some (s, R) := by
  rw [rdText, textB, List.append_assoc, rdWord_word]
  have h : ((s.size : Nat) : Int).toNat = (nums s).length := by rw [nums_length]; omega
  simp only []
  rw [h, if_pos (by simp), List.take_left, List.drop_left, str_of_nums]
theorem conF_flags (p : Pkt) (hq : 0 ≤ p.qos ∧ p.qos ≤ 2) : flagB (conF p) 2 = p.clean ∧ flagB (conF p) 4 = p.will ∧ flagB (conF p) 64 = p.hpass ∧ flagB (conF p) 128 = p.huser ∧ bits .and .i64 (conF p / 8) 3 = p.qos ∧ flagB (conF p) 32 = p.retain := by
  rw [conF_eq p hq]
  have h : p.qos = 0 ∨ p.qos = 1 ∨ p.qos = 2 := by omega
  rcases h with h | h | h <;> rw [h] <;> cases p.clean <;> cases p.will <;> cases p.retain <;> cases p.hpass <;> cases p.huser <;> decide
theorem pub_flags (p : Pkt) (hq : 0 ≤ p.qos ∧ p.qos ≤ 2) : flagB (48 + (bitN p.dup 8 + 2 * p.qos + bitN p.retain 1)) 8 = p.dup ∧ bits .and .i64 ((48 + (bitN p.dup 8 + 2 * p.qos + bitN p.retain 1)) / 2) 3 = p.qos ∧ flagB (48 + (bitN p.dup 8 + 2 * p.qos + bitN p.retain 1)) 1 = p.retain := by
  have h : p.qos = 0 ∨ p.qos = 1 ∨ p.qos = 2 := by omega
  rcases h with h | h | h <;> rw [h] <;> cases p.dup <;> cases p.retain <;> decide
theorem rdSubs_back (ty : Int) : ∀ (D : List (ByteArray × Int)) (k : Nat), (subsB ty D).length ≤ k → (ty ≠ 8 → ∀ s ∈ D, s.2 = 0) → rdSubs k ty (subsB ty D) = some D := by
  intro D
  induction D with
  | nil => intro k _ _; rw [show subsB ty [] = [] from rfl]; exact rdSubs_nil k ty
  | cons x D ih =>
    intro k hk h0
    obtain ⟨s, q⟩ := x
    have hcons : subsB ty ((s, q) :: D) = subB ty (s, q) ++ subsB ty D := rfl
    rw [hcons] at hk ⊢
    rw [List.length_append, subB, List.length_append, textB_length] at hk
    cases k with
    | zero => omega
    | succ k =>
      have hne : ¬ (subB ty (s, q) ++ subsB ty D = []) := by
        intro h
        have := congrArg List.length h
        rw [List.length_append, subB, List.length_append, textB_length] at this
        simp at this
      rw [rdSubs, if_neg hne, subB, List.append_assoc, rdText_text, Option.bind_some]
      by_cases h8 : ty = 8
      · rw [if_pos h8] at hk
        rw [if_pos h8, if_pos h8]
        simp only [List.cons_append, List.nil_append, rdOct, Option.bind_some]
        rw [ih k (by simp at hk; omega) (fun h => absurd h8 h)]
        rfl
      · rw [if_neg h8] at hk
        rw [if_neg h8, if_neg h8, List.nil_append, ih k (by simp at hk; omega) (fun h s hs => h0 h s (List.mem_cons_of_mem _ hs))]
        have : q = 0 := h0 h8 (s, q) (List.mem_cons_self ..)
        rw [this]; rfl

theorem size0 {s : ByteArray} (h : s.size = 0) : s = ⟨#[]⟩ := empty_of h
theorem con9_back (p : Pkt) (s : ByteArray) (hp : p.hpass = false → s = p.pass) : con9 p (if p.hpass then textB s else []) = some ({ p with pass := s }, []) := by
  unfold con9
  by_cases h : p.hpass = true
  · rw [if_pos h, if_pos h]
    rw [show textB s = textB s ++ [] by simp, rdText_text]
    rfl
  · rw [if_neg h, if_neg h, hp (by simpa using h)]
theorem con8_back (p : Pkt) (u s : ByteArray) (hu : p.huser = false → u = p.user) (hp : p.hpass = false → s = p.pass) : con8 p ((if p.huser then textB u else []) ++ (if p.hpass then textB s else [])) = some ({ p with user := u, pass := s }, []) := by
  unfold con8
  by_cases h : p.huser = true
  · rw [if_pos h, if_pos h, rdText_text, Option.bind_some]
    exact con9_back { p with user := u } s hp
  · rw [if_neg h, if_neg h, List.nil_append, con9_back p s hp, hu (by simpa using h)]
theorem con_back (p : Pkt) (hq : 0 ≤ p.qos ∧ p.qos ≤ 2) (hw : p.will = false → p.topic = ⟨#[]⟩ ∧ p.payload = ⟨#[]⟩ ∧ p.qos = 0 ∧ p.retain = false) (hu : p.huser = false → p.user = ⟨#[]⟩) (hp : p.hpass = false → p.pass = ⟨#[]⟩) :
    rdCon (typeP 1) (conB p) = some ({ typeP 1 with clean := p.clean, will := p.will, huser := p.huser, hpass := p.hpass, alive := p.alive, client := p.client, topic := p.topic, payload := p.payload, qos := p.qos, retain := p.retain, user := p.user, pass := p.pass }, []) := by
  obtain ⟨f1, f2, f3, f4, f5, f6⟩ := conF_flags p hq
  unfold rdCon conB conH
  rw [List.append_assoc, List.append_assoc, rdText_text, Option.bind_some]
  have hm : mqtt.toList = [77, 81, 84, 84] := by rw [ByteArray.toList_eq]
  simp only []
  rw [if_pos hm]
  unfold con1
  simp only [List.cons_append, List.nil_append, rdOct, Option.bind_some, if_true]
  unfold con2
  simp only [rdOct, Option.bind_some]
  unfold con3
  rw [rdWord_word, Option.bind_some]
  unfold con4
  simp only []
  rw [rdText_text, Option.bind_some]
  unfold con5 Pkt.flag
  simp only [f1, f2, f3, f4, f5, f6]
  by_cases hwl : p.will = true
  · rw [if_pos hwl, if_pos hwl]
    unfold con6
    rw [List.append_assoc, rdText_text, Option.bind_some]
    unfold con7
    simp only []
    rw [rdText_text, Option.bind_some]
    simp only []
    have := con8_back { typeP 1 with clean := p.clean, will := p.will, huser := p.huser, hpass := p.hpass, alive := p.alive, client := p.client, topic := p.topic, payload := p.payload, qos := p.qos, retain := p.retain } p.user p.pass hu hp
    exact this
  · rw [if_neg hwl, if_neg hwl, List.nil_append]
    obtain ⟨w1, w2, w3, w4⟩ := hw (by simpa using hwl)
    rw [w1, w2, w3, w4]
    have := con8_back { typeP 1 with clean := p.clean, will := p.will, huser := p.huser, hpass := p.hpass, alive := p.alive, client := p.client } p.user p.pass hu hp
    exact this
end Pk
end Go.Proofs.YtonemmdipmohgaaDoor

namespace Go.Proofs.YtonemmdipmohgaaDoor
open Go.RowKit
set_option linter.unusedVariables false
set_option linter.unusedSimpArgs false
namespace Pk
open Utf (nums nums_length nums_bytes IsStr)
open Var (BT)

/-- A packet's rows are as long as the lists. -/
def Long (p : Pkt) (C : List Int) (D : List (ByteArray × Int)) : Prop := rowLen p.codes = C.length ∧ rowLen p.subs = D.length

theorem read_back (p : Pkt) (C : List Int) (D : List (ByteArray × Int)) (hG : Good p C D) (hL : Long p C D) : rdPkt (16 * p.ty + flagsN p) (bodyB p C D) = some (p.rows nilV nilV, C, D) := by
  obtain ⟨t1, t2, ⟨o1, o2, o3, o4, o5, o6⟩, hz⟩ := hG
  have hz' := (zero_iff _ _ _).1 hz
  clear hz
  rcases (by omega : p.ty = 1 ∨ p.ty = 2 ∨ p.ty = 3 ∨ (p.ty = 4 ∨ p.ty = 5 ∨ p.ty = 6 ∨ p.ty = 7 ∨ p.ty = 11) ∨ (p.ty = 8 ∨ p.ty = 10) ∨ p.ty = 9 ∨ (p.ty = 12 ∨ p.ty = 13 ∨ p.ty = 14)) with h | h | h | h | h | h | h
  · -- Connect
    have hf : 16 * p.ty + flagsN p = 16 := by unfold flagsN; rw [if_neg (by omega), if_neg (by omega)]; omega
    have hb : bodyB p C D = conB p := by unfold bodyB; rw [if_pos h]
    obtain ⟨c1, c2, c3, c4, c5, c6, c7, c8, c9⟩ := o1 h
    have hA : p.after = (if p.will then p.noMsg else p).noCon := by unfold Pkt.after; rw [if_pos h]
    rw [hA] at hz'
    have hdup : p.dup = false := by have := hz'.2.2.1; cases hw : p.will <;> rw [hw] at this <;> exact this
    have hid : p.id = 0 := by have := hz'.2.1; cases hw : p.will <;> rw [hw] at this <;> exact this
    have hpre : p.present = false := by have := hz'.2.2.2.2.2.2.2.1; cases hw : p.will <;> rw [hw] at this <;> exact this
    have hC : C.length = 0 := by have := hz'.2.2.2.1; rw [← hL.1]; cases hw : p.will <;> rw [hw] at this <;> exact this
    have hD : D.length = 0 := by have := hz'.2.2.2.2.1; rw [← hL.2]; cases hw : p.will <;> rw [hw] at this <;> exact this
    have hw : p.will = false → p.topic = ⟨#[]⟩ ∧ p.payload = ⟨#[]⟩ ∧ p.qos = 0 ∧ p.retain = false := by
      intro hw
      have := hz'.1
      rw [hw] at this
      exact ⟨size0 this.1, size0 this.2.1, this.2.2.1, this.2.2.2⟩
    have hq : 0 ≤ p.qos ∧ p.qos ≤ 2 := by
      by_cases hwl : p.will = true
      · exact (c7 hwl).2.2
      · have := (hw (by simpa using hwl)).2.2.1; omega
    have hu : p.huser = false → p.user = ⟨#[]⟩ := fun hx => by rcases c8 with e | e; (rw [hx] at e; cases e); exact size0 e
    have hp : p.hpass = false → p.pass = ⟨#[]⟩ := fun hx => by rcases c9 with e | e; (rw [hx] at e; cases e); exact size0 e
    rw [hf, hb]
    unfold rdPkt
    rw [if_pos (by decide), con_back p hq hw hu hp, Option.bind_some]
    obtain rfl := List.eq_nil_of_length_eq_zero hC
    obtain rfl := List.eq_nil_of_length_eq_zero hD
    simp only [typeP, zeroP, Pkt.rows]
    rw [hdup, hid, hpre, h]
  · -- Connack
    obtain ⟨c1, c2, c3, c4⟩ := o2 h
    have hf : 16 * p.ty + flagsN p = 32 := by unfold flagsN; rw [if_neg (by omega), if_neg (by omega)]; omega
    have hb : bodyB p C D = [bitN p.present 1, lat C 0] := by unfold bodyB; rw [if_neg (by omega), if_pos h]
    have hA : p.after = { p.noCodes with present := false } := by unfold Pkt.after; rw [if_neg (by omega), if_pos h]
    rw [hA] at hz'
    have hz1 : (p.topic.size = 0 ∧ p.payload.size = 0 ∧ p.qos = 0 ∧ p.retain = false) ∧ p.id = 0 ∧ p.dup = false ∧ (0 : Nat) = 0 ∧ rowLen p.subs = 0 ∧ (p.client.size = 0 ∧ p.user.size = 0 ∧ p.pass.size = 0) ∧ p.clean = false ∧ false = false ∧ p.will = false ∧ p.huser = false ∧ p.hpass = false ∧ p.alive = 0 := hz'
    obtain ⟨⟨z1, z2, z3, z4⟩, z5, z6, _, z8, ⟨z9, z10, z11⟩, z12, _, z13, z14, z15, z16⟩ := hz1
    obtain ⟨c, rfl⟩ : ∃ c, C = [c] := by
      match C, c1 with
      | [c], _ => exact ⟨c, rfl⟩
    have hD : D.length = 0 := by rw [← hL.2]; exact z8
    obtain rfl := List.eq_nil_of_length_eq_zero hD
    rw [hf, hb]
    unfold rdPkt
    rw [if_neg (by decide), if_pos (by decide)]
    simp only [rdOct, Option.bind_some]
    have hpr : (bitN p.present 1 == 1) = p.present := by cases p.present <;> rfl
    simp only [typeP, zeroP, Pkt.rows]
    rw [hpr, size0 z1, size0 z2, z3, z4, z5, z6, size0 z9, size0 z10, size0 z11, z12, z13, z14, z15, z16, h]
    rfl
  · -- Publish
    obtain ⟨c1, c2⟩ := o3 h
    have hq : 0 ≤ p.qos ∧ p.qos ≤ 2 := c2.2
    have hfl : flagsN p = bitN p.dup 8 + 2 * p.qos + bitN p.retain 1 := by unfold flagsN; rw [if_pos h]
    have hf : 16 * p.ty + flagsN p = 48 + (bitN p.dup 8 + 2 * p.qos + bitN p.retain 1) := by rw [hfl, h]; omega
    have hb : bodyB p C D = textB p.topic ++ ((if p.qos = 0 then [] else wordB p.id) ++ nums p.payload) := by unfold bodyB; rw [if_neg (by omega), if_neg (by omega), if_pos h]
    have hA : p.after = (if p.qos = 0 then p else { p.noId with dup := false }).noMsg := by unfold Pkt.after; rw [if_neg (by omega), if_neg (by omega), if_pos h]
    rw [hA] at hz'
    have hz1 : rowLen p.codes = 0 ∧ rowLen p.subs = 0 ∧ (p.client.size = 0 ∧ p.user.size = 0 ∧ p.pass.size = 0) ∧ p.clean = false ∧ p.present = false ∧ p.will = false ∧ p.huser = false ∧ p.hpass = false ∧ p.alive = 0 := by
      have := hz'.2.2.2
      by_cases hq0 : p.qos = 0
      · rw [if_pos hq0] at this; exact this
      · rw [if_neg hq0] at this; exact this
    have hz0 : p.qos = 0 → p.id = 0 := by
      intro hq0
      have := hz'.2.1
      rw [if_pos hq0] at this; exact this
    obtain ⟨z7, z8, ⟨z9, z10, z11⟩, z12, zp, z13, z14, z15, z16⟩ := hz1
    have hC : C.length = 0 := by rw [← hL.1]; exact z7
    have hD : D.length = 0 := by rw [← hL.2]; exact z8
    obtain rfl := List.eq_nil_of_length_eq_zero hC
    obtain rfl := List.eq_nil_of_length_eq_zero hD
    obtain ⟨f1, f2, f3⟩ := pub_flags p hq
    have hr : 0 ≤ bitN p.dup 8 + 2 * p.qos + bitN p.retain 1 ∧ bitN p.dup 8 + 2 * p.qos + bitN p.retain 1 < 16 := by
      have h1 := bitN_range p.dup 8 (by decide)
      have h2 := bitN_range p.retain 1 (by decide)
      omega
    rw [hf, hb]
    generalize hN : 48 + (bitN p.dup 8 + 2 * p.qos + bitN p.retain 1) = N at f1 f2 f3 ⊢
    unfold rdPkt
    rw [if_neg (by omega), if_neg (by omega), if_pos (by omega), rdText_text, Option.bind_some]
    unfold pub3
    rw [f2]
    simp only [f1, f3]
    by_cases hq0 : p.qos = 0
    · rw [if_neg (by omega), if_pos hq0, List.nil_append, str_of_nums]
      simp only [typeP, zeroP, Pkt.rows]
      rw [hz0 hq0, size0 z9, size0 z10, size0 z11, z12, zp, z13, z14, z15, z16, h, hq0]
    · rw [if_pos (by omega), if_neg hq0, rdWord_word, Option.bind_some, str_of_nums]
      simp only [typeP, zeroP, Pkt.rows]
      rw [size0 z9, size0 z10, size0 z11, z12, zp, z13, z14, z15, z16, h]
  · -- an Id alone
    have hA : p.after = p.noId := by unfold Pkt.after; rw [if_neg (by omega), if_neg (by omega), if_neg (by omega), if_pos h]
    rw [hA] at hz'
    have hz1 : (p.topic.size = 0 ∧ p.payload.size = 0 ∧ p.qos = 0 ∧ p.retain = false) ∧ (0 : Int) = 0 ∧ p.dup = false ∧ rowLen p.codes = 0 ∧ rowLen p.subs = 0 ∧ (p.client.size = 0 ∧ p.user.size = 0 ∧ p.pass.size = 0) ∧ p.clean = false ∧ p.present = false ∧ p.will = false ∧ p.huser = false ∧ p.hpass = false ∧ p.alive = 0 := hz'
    obtain ⟨⟨z1, z2, z3, z4⟩, _, z6, z7, z8, ⟨z9, z10, z11⟩, z12, zp, z13, z14, z15, z16⟩ := hz1
    have hC : C.length = 0 := by rw [← hL.1]; exact z7
    have hD : D.length = 0 := by rw [← hL.2]; exact z8
    obtain rfl := List.eq_nil_of_length_eq_zero hC
    obtain rfl := List.eq_nil_of_length_eq_zero hD
    have hb : bodyB p [] [] = wordB p.id ++ [] := by unfold bodyB; rw [if_neg (by omega), if_neg (by omega), if_neg (by omega), if_neg (by omega)]; rfl
    have hfl : 0 ≤ flagsN p ∧ flagsN p < 16 := by unfold flagsN; rw [if_neg (by omega)]; split <;> omega
    have hd : (16 * p.ty + flagsN p) / 16 = p.ty := by omega
    rw [hb]
    unfold rdPkt
    rw [hd, if_neg (by omega), if_neg (by omega), if_neg (by omega), if_neg (by omega), rdWord_word, Option.bind_some, if_neg (by omega), if_neg (by omega)]
    simp only [typeP, zeroP, Pkt.rows]
    rw [size0 z1, size0 z2, z3, z4, z6, size0 z9, size0 z10, size0 z11, z12, zp, z13, z14, z15, z16]
  · -- filters
    have hA : p.after = p.noId.noSubs := by unfold Pkt.after; rw [if_neg (by omega), if_neg (by omega), if_neg (by omega), if_neg (by omega), if_pos h]
    rw [hA] at hz'
    have hz1 : (p.topic.size = 0 ∧ p.payload.size = 0 ∧ p.qos = 0 ∧ p.retain = false) ∧ (0 : Int) = 0 ∧ p.dup = false ∧ rowLen p.codes = 0 ∧ (0 : Nat) = 0 ∧ (p.client.size = 0 ∧ p.user.size = 0 ∧ p.pass.size = 0) ∧ p.clean = false ∧ p.present = false ∧ p.will = false ∧ p.huser = false ∧ p.hpass = false ∧ p.alive = 0 := hz'
    obtain ⟨⟨z1, z2, z3, z4⟩, _, z6, z7, _, ⟨z9, z10, z11⟩, z12, zp, z13, z14, z15, z16⟩ := hz1
    have hC : C.length = 0 := by rw [← hL.1]; exact z7
    obtain rfl := List.eq_nil_of_length_eq_zero hC
    have hb : bodyB p [] D = wordB p.id ++ subsB p.ty D := by unfold bodyB; rw [if_neg (by omega), if_neg (by omega), if_neg (by omega), if_neg (by omega), List.append_nil]
    have hfl : flagsN p = 2 := by unfold flagsN; rw [if_neg (by omega), if_pos (by omega)]
    have hd : (16 * p.ty + flagsN p) / 16 = p.ty := by omega
    have hs := rdSubs_back p.ty D (subsB p.ty D).length (Nat.le_refl _) (fun h8 s hs => by have := ((o5 h).2 s hs).2.2.2; rcases this with e | e; exact absurd e h8; exact e)
    rw [hb]
    unfold rdPkt
    rw [hd, if_neg (by omega), if_neg (by omega), if_neg (by omega), if_neg (by omega), rdWord_word, Option.bind_some, if_neg (by omega), if_pos h]
    simp only []
    rw [hs, Option.bind_some]
    simp only [typeP, zeroP, Pkt.rows]
    rw [size0 z1, size0 z2, z3, z4, z6, size0 z9, size0 z10, size0 z11, z12, zp, z13, z14, z15, z16]
  · -- Suback
    have hA : p.after = p.noId.noCodes := by unfold Pkt.after; rw [if_neg (by omega), if_neg (by omega), if_neg (by omega), if_neg (by omega), if_neg (by omega), if_pos h]
    rw [hA] at hz'
    have hz1 : (p.topic.size = 0 ∧ p.payload.size = 0 ∧ p.qos = 0 ∧ p.retain = false) ∧ (0 : Int) = 0 ∧ p.dup = false ∧ (0 : Nat) = 0 ∧ rowLen p.subs = 0 ∧ (p.client.size = 0 ∧ p.user.size = 0 ∧ p.pass.size = 0) ∧ p.clean = false ∧ p.present = false ∧ p.will = false ∧ p.huser = false ∧ p.hpass = false ∧ p.alive = 0 := hz'
    obtain ⟨⟨z1, z2, z3, z4⟩, _, z6, _, z8, ⟨z9, z10, z11⟩, z12, zp, z13, z14, z15, z16⟩ := hz1
    have hD : D.length = 0 := by rw [← hL.2]; exact z8
    obtain rfl := List.eq_nil_of_length_eq_zero hD
    have hb : bodyB p C [] = wordB p.id ++ C := by unfold bodyB; rw [if_neg (by omega), if_neg (by omega), if_neg (by omega), if_neg (by omega)]; rfl
    have hfl : flagsN p = 0 := by unfold flagsN; rw [if_neg (by omega), if_neg (by omega)]
    have hd : (16 * p.ty + flagsN p) / 16 = p.ty := by omega
    rw [hb]
    unfold rdPkt
    rw [hd, if_neg (by omega), if_neg (by omega), if_neg (by omega), if_neg (by omega), rdWord_word, Option.bind_some, if_pos h]
    simp only [typeP, zeroP, Pkt.rows]
    rw [size0 z1, size0 z2, z3, z4, z6, size0 z9, size0 z10, size0 z11, z12, zp, z13, z14, z15, z16, h]
  · -- nothing
    have hA : p.after = p := by unfold Pkt.after; rw [if_neg (by omega), if_neg (by omega), if_neg (by omega), if_neg (by omega), if_neg (by omega), if_neg (by omega)]
    rw [hA] at hz'
    obtain ⟨⟨z1, z2, z3, z4⟩, z5, z6, z7, z8, ⟨z9, z10, z11⟩, z12, zp, z13, z14, z15, z16⟩ := hz'
    have hC : C.length = 0 := by rw [← hL.1]; exact z7
    have hD : D.length = 0 := by rw [← hL.2]; exact z8
    obtain rfl := List.eq_nil_of_length_eq_zero hC
    obtain rfl := List.eq_nil_of_length_eq_zero hD
    have hb : bodyB p [] [] = [] := by unfold bodyB; rw [if_neg (by omega), if_neg (by omega), if_neg (by omega), if_pos h]
    have hfl : flagsN p = 0 := by unfold flagsN; rw [if_neg (by omega), if_neg (by omega)]
    have hd : (16 * p.ty + flagsN p) / 16 = p.ty := by omega
    rw [hb]
    unfold rdPkt
    rw [hd, if_neg (by omega), if_neg (by omega), if_neg (by omega), if_pos h]
    simp only [typeP, zeroP, Pkt.rows]
    rw [size0 z1, size0 z2, z3, z4, z5, z6, size0 z9, size0 z10, size0 z11, z12, zp, z13, z14, z15, z16]
end Pk
end Go.Proofs.YtonemmdipmohgaaDoor

namespace Go.Proofs.YtonemmdipmohgaaDoor
open Go.RowKit
set_option linter.unusedVariables false
set_option linter.unusedSimpArgs false
namespace Pk
open Utf (nums nums_length nums_bytes IsStr nums_str)
open Var (BT)

theorem rdSubs_len (ty : Int) : ∀ (k : Nat) (L : List Int) (D : List (ByteArray × Int)), rdSubs k ty L = some D → D.length ≤ L.length := by
  intro k
  induction k with
  | zero =>
    intro L D h
    rw [rdSubs] at h
    split at h
    · cases h; simp
    · cases h
  | succ k ih =>
    intro L D h
    rw [rdSubs] at h
    split at h
    · cases h; simp
    · cases ht : rdText L with
      | none => rw [ht] at h; cases h
      | some x =>
        obtain ⟨s, M⟩ := x
        have hl := rdText_len ht
        rw [ht, Option.bind_some] at h
        split at h
        · cases ho : rdOct M with
          | none => simp only [ho] at h; cases h
          | some y =>
            obtain ⟨q, N⟩ := y
            have hl2 := rdOct_len ho
            simp only [ho, Option.bind_some] at h
            cases hr : rdSubs k ty N with
            | none => rw [hr] at h; cases h
            | some E =>
              rw [hr] at h
              cases h
              have := ih N E hr
              rw [List.length_cons]; omega
        · simp only [] at h
          cases hr : rdSubs k ty M with
          | none => rw [hr] at h; cases h
          | some E =>
            rw [hr] at h
            cases h
            have := ih M E hr
            rw [List.length_cons]; omega
theorem rdPkt_fit {f : Int} {L : List Int} {p : Pkt} {C : List Int} {D : List (ByteArray × Int)} (h : rdPkt f L = some (p, C, D)) (hb : ∀ x ∈ L, 0 ≤ x ∧ x < 256) : C.length ≤ L.length + 1 ∧ D.length ≤ L.length ∧ (p.ty = 3 → p.payload.size ≤ L.length) := by
  unfold rdPkt at h
  split at h
  · cases hr : rdCon (typeP 1) L with
    | none => rw [hr] at h; cases h
    | some x =>
      obtain ⟨q, M⟩ := x
      rw [hr, Option.bind_some] at h
      cases h
      have := (rdCon_all hr).2.2
      exact ⟨by simp, by simp, fun h3 => by rw [h3] at this; exact absurd this (by decide)⟩
  · split at h
    · cases hr : rdOct L with
      | none => rw [hr] at h; cases h
      | some x =>
        rw [hr, Option.bind_some] at h
        cases hr2 : rdOct x.2 with
        | none => rw [hr2] at h; cases h
        | some y =>
          rw [hr2, Option.bind_some] at h
          cases h
          exact ⟨by simp, by simp, fun h3 => absurd h3 (by simp only [typeP]; decide)⟩
    · split at h
      · cases hr : rdText L with
        | none => rw [hr] at h; cases h
        | some x =>
          obtain ⟨t, M⟩ := x
          have hl := rdText_len hr
          rw [hr, Option.bind_some] at h
          unfold pub3 at h
          split at h
          · cases hw : rdWord M with
            | none => simp only [hw] at h; cases h
            | some y =>
              obtain ⟨n, N⟩ := y
              have hl2 := rdWord_len hw
              simp only [hw, Option.bind_some] at h
              cases h
              exact ⟨by simp, by simp, fun _ => by simp only [strOfNums_size]; omega⟩
          · cases h
            exact ⟨by simp, by simp, fun _ => by simp only [strOfNums_size]; omega⟩
      · split at h
        · rename_i h12
          cases h
          exact ⟨by simp, by simp, fun h3 => by simp only [typeP] at h3; omega⟩
        · cases hw : rdWord L with
          | none => rw [hw] at h; cases h
          | some y =>
            obtain ⟨n, N⟩ := y
            have hl2 := rdWord_len hw
            rw [hw, Option.bind_some] at h
            split at h
            · cases h
              exact ⟨by simp only []; omega, by simp, fun h3 => absurd h3 (by simp only [typeP]; decide)⟩
            · split at h
              · cases hr : rdSubs N.length (f / 16) N with
                | none => simp only [hr] at h; cases h
                | some E =>
                  simp only [hr, Option.bind_some] at h
                  cases h
                  have := rdSubs_len _ _ _ _ hr
                  exact ⟨by simp, by omega, fun h3 => by simp only [typeP] at h3; omega⟩
              · rename_i h3' _ _ _
                cases h
                exact ⟨by simp, by simp, fun h3 => by simp only [typeP] at h3; exact absurd h3 h3'⟩
theorem eqb (L M : List Int) (hL : ∀ x ∈ L, 0 ≤ x ∧ x < 256) (hM : ∀ x ∈ M, 0 ≤ x ∧ x < 256) : ((strOfNums L).toList == (strOfNums M).toList) = decide (L = M) := by
  by_cases h : L = M
  · rw [h, decide_eq_true rfl]; simp
  · rw [decide_eq_false h]
    have : ¬ (strOfNums L).toList = (strOfNums M).toList := by
      intro e
      apply h
      have e2 : strOfNums L = strOfNums M := by
        rw [ByteArray.toList_eq, ByteArray.toList_eq] at e
        cases h1 : strOfNums L with
        | mk a =>
          cases h2 : strOfNums M with
          | mk b =>
            rw [h1, h2] at e
            congr 1
            exact Array.ext' e
      rw [← nums_str L hL, ← nums_str M hM, e2]
    simpa using this
end Pk
end Go.Proofs.YtonemmdipmohgaaDoor

namespace Go.Proofs.YtonemmdipmohgaaDoor
open Go.RowKit
set_option linter.unusedVariables false
set_option linter.unusedSimpArgs false
namespace Pk
open Utf (nums nums_length nums_bytes IsStr nums_str)
open Var (BT)

theorem tabs_turn {w w' : World} {S : Nat → Prop} (h : Lib.Utf8Tabs 0 1 w) (t : Turn S w w') (h0 : ¬ S 0) (h1 : ¬ S 1) : Lib.Utf8Tabs 0 1 w' :=
  ⟨fun c hc => t.cell (h.1 c hc) h0, fun i hi => ⟨t.cell (h.2 i hi).1 h1, t.cell (h.2 i hi).2 h1⟩⟩
theorem tabs_lt {w : World} (h : Lib.Utf8Tabs 0 1 w) : 2 ≤ w.heap.size := by
  have := World.block_lt_of_cell? w _ (h.2 0 (by decide)).1
  exact this

/-- Packets whose bytes these are. -/
def IsPkt (L : List Int) (p : Pkt) (C : List Int) (D : List (ByteArray × Int)) : Prop := Long p C D ∧ May p C D ∧ bytesB p C D = L

def keepC (p : Pkt) (v : Value) : Value := if p.ty = 2 ∨ p.ty = 9 then nilV else v
def keepD (p : Pkt) (v : Value) : Value := if p.ty = 8 ∨ p.ty = 10 then nilV else v
theorem after_rows (p : Pkt) (vc vs : Value) : (p.rows vc vs).after = p.after.rows (keepC p vc) (keepD p vs) := by
  unfold Pkt.after keepC keepD
  show (if p.ty = 1 then (if p.will = true then (p.rows vc vs).noMsg else p.rows vc vs).noCon
    else if p.ty = 2 then { (p.rows vc vs).noCodes with present := false }
    else if p.ty = 3 then (if p.qos = 0 then p.rows vc vs else { (p.rows vc vs).noId with dup := false }).noMsg
    else if p.ty = 4 ∨ p.ty = 5 ∨ p.ty = 6 ∨ p.ty = 7 ∨ p.ty = 11 then (p.rows vc vs).noId
    else if p.ty = 8 ∨ p.ty = 10 then (p.rows vc vs).noId.noSubs
    else if p.ty = 9 then (p.rows vc vs).noId.noCodes
    else p.rows vc vs) = _
  by_cases t1 : p.ty = 1
  · rw [if_pos t1, if_pos t1, if_neg (show ¬ (p.ty = 2 ∨ p.ty = 9) by omega), if_neg (show ¬ (p.ty = 8 ∨ p.ty = 10) by omega)]
    by_cases hw : p.will = true
    · rw [if_pos hw, if_pos hw]; rfl
    · rw [if_neg hw, if_neg hw]; rfl
  rw [if_neg t1, if_neg t1]
  by_cases t2 : p.ty = 2
  · rw [if_pos t2, if_pos t2, if_pos (.inl t2), if_neg (by omega)]; rfl
  rw [if_neg t2, if_neg t2]
  by_cases t3 : p.ty = 3
  · rw [if_pos t3, if_pos t3, if_neg (show ¬ (p.ty = 2 ∨ p.ty = 9) by omega), if_neg (show ¬ (p.ty = 8 ∨ p.ty = 10) by omega)]
    by_cases hq : p.qos = 0
    · rw [if_pos hq, if_pos hq]; rfl
    · rw [if_neg hq, if_neg hq]; rfl
  rw [if_neg t3, if_neg t3]
  by_cases t4 : p.ty = 4 ∨ p.ty = 5 ∨ p.ty = 6 ∨ p.ty = 7 ∨ p.ty = 11
  · rw [if_pos t4, if_pos t4, if_neg (by omega), if_neg (by omega)]; rfl
  rw [if_neg t4, if_neg t4]
  by_cases t8 : p.ty = 8 ∨ p.ty = 10
  · rw [if_pos t8, if_pos t8, if_neg (by omega), if_pos t8]; rfl
  rw [if_neg t8, if_neg t8]
  by_cases t9 : p.ty = 9
  · rw [if_pos t9, if_pos t9, if_pos (.inr t9), if_neg t8]; rfl
  rw [if_neg t9, if_neg t9, if_neg (by omega), if_neg t8]
theorem after_len (p : Pkt) (vc vs vc' vs' : Value) (h1 : rowLen vc = rowLen vc') (h2 : rowLen vs = rowLen vs') : (p.rows vc vs).after.zero (rowLen (p.rows vc vs).after.codes) (rowLen (p.rows vc vs).after.subs) = (p.rows vc' vs').after.zero (rowLen (p.rows vc' vs').after.codes) (rowLen (p.rows vc' vs').after.subs) := by
  rw [after_rows, after_rows]
  show p.after.zero (rowLen (keepC p vc)) (rowLen (keepD p vs)) = p.after.zero (rowLen (keepC p vc')) (rowLen (keepD p vs'))
  have e1 : rowLen (keepC p vc) = rowLen (keepC p vc') := by unfold keepC; split; rfl; exact h1
  have e2 : rowLen (keepD p vs) = rowLen (keepD p vs') := by unfold keepD; split; rfl; exact h2
  rw [e1, e2]
theorem good_rows (p : Pkt) (vc vs vc' vs' : Value) (C : List Int) (D : List (ByteArray × Int)) (h1 : rowLen vc = rowLen vc') (h2 : rowLen vs = rowLen vs') (h : Good (p.rows vc vs) C D) : Good (p.rows vc' vs') C D := by
  obtain ⟨a, b, c, d⟩ := h
  exact ⟨a, b, c, by rw [← after_len p vc vs vc' vs' h1 h2]; exact d⟩
theorem may_rows (p : Pkt) (vc vs vc' vs' : Value) (C : List Int) (D : List (ByteArray × Int)) (h1 : rowLen vc = rowLen vc') (h2 : rowLen vs = rowLen vs') (h : May (p.rows vc vs) C D) : May (p.rows vc' vs') C D :=
  ⟨good_rows p vc vs vc' vs' C D h1 h2 h.1, h.2⟩
theorem rows_own (p : Pkt) : p.rows p.codes p.subs = p := rows_self p rfl rfl

/-- What is read of a packet's bytes is that packet. -/
theorem read_is {f : Int} {M L : List Int} {p : Pkt} {C : List Int} {D : List (ByteArray × Int)} (hI : IsPkt L p C D) (hf : lat L 0 = f) (hM : M = bodyB p C D) {q : Pkt} {C' : List Int} {D' : List (ByteArray × Int)} (hr : rdPkt f M = some (q, C', D')) (vc vs : Value) (h1 : rowLen vc = C'.length) (h2 : rowLen vs = D'.length) :
    May (q.rows vc vs) C' D' ∧ bytesB (q.rows vc vs) C' D' = L := by
  obtain ⟨hl, hm, hb⟩ := hI
  have hf' : f = 16 * p.ty + flagsN p := by rw [← hf, ← hb]; rfl
  have := read_back p C D hm.1 hl
  rw [← hf', ← hM, hr] at this
  injection this with this
  injection this with e1 e2
  injection e2 with e2 e3
  subst e1 e2 e3
  have hp : p = p.rows p.codes p.subs := (rows_own p).symm
  refine ⟨?_, hb⟩
  have hm' : May (p.rows p.codes p.subs) C' D' := by rw [rows_own]; exact hm
  exact may_rows p p.codes p.subs vc vs C' D' (by rw [hl.1, h1]) (by rw [hl.2, h2]) hm'
theorem read_some {f : Int} {M L : List Int} {p : Pkt} {C : List Int} {D : List (ByteArray × Int)} (hI : IsPkt L p C D) (hf : lat L 0 = f) (hM : M = bodyB p C D) : rdPkt f M ≠ none := by
  obtain ⟨hl, hm, hb⟩ := hI
  have hf' : f = 16 * p.ty + flagsN p := by rw [← hf, ← hb]; rfl
  have := read_back p C D hm.1 hl
  rw [← hf', ← hM] at this
  rw [this]; simp
end Pk
end Go.Proofs.YtonemmdipmohgaaDoor

namespace Go.Proofs.YtonemmdipmohgaaDoor
open Go.RowKit
set_option linter.unusedVariables false
set_option linter.unusedSimpArgs false
namespace Pk
open Utf (nums nums_length nums_bytes IsStr nums_str)
open Var (BT)

theorem rdText_size {L M : List Int} {s : ByteArray} (h : rdText L = some (s, M)) : s.size ≤ L.length ∧ M.length ≤ L.length := by
  have hl := rdText_len h
  unfold rdText at h
  cases hw : rdWord L with
  | none => rw [hw] at h; cases h
  | some y =>
    obtain ⟨n, N⟩ := y
    have := rdWord_len hw
    rw [hw] at h
    simp only at h
    split at h
    · cases h
      rw [strOfNums_size, List.length_take]
      omega
    · cases h
def Sz (K : Nat) (p : Pkt) : Prop := p.client.size ≤ K ∧ p.user.size ≤ K ∧ p.pass.size ≤ K
theorem con9_sz {K : Nat} {p q : Pkt} {L M : List Int} (hp : Sz K p) (hL : L.length ≤ K) (h : con9 p L = some (q, M)) : Sz K q := by
  unfold con9 at h
  split at h
  · cases hr : rdText L with
    | none => rw [hr] at h; cases h
    | some x =>
      obtain ⟨s, N⟩ := x
      rw [hr] at h
      cases h
      exact ⟨hp.1, hp.2.1, by have := (rdText_size hr).1; show s.size ≤ K; omega⟩
  · cases h; exact hp
theorem con8_sz {K : Nat} {p q : Pkt} {L M : List Int} (hp : Sz K p) (hL : L.length ≤ K) (h : con8 p L = some (q, M)) : Sz K q := by
  unfold con8 at h
  split at h
  · cases hr : rdText L with
    | none => rw [hr] at h; cases h
    | some x =>
      obtain ⟨s, N⟩ := x
      have := rdText_size hr
      rw [hr, Option.bind_some] at h
      exact con9_sz (p := { p with user := s }) ⟨hp.1, by show s.size ≤ K; omega, hp.2.2⟩ (by show N.length ≤ K; omega) h
  · exact con9_sz hp hL h
theorem con5_sz {K : Nat} {p q : Pkt} {f : Int} {L M : List Int} (hp : Sz K p) (hL : L.length ≤ K) (h : con5 p f L = some (q, M)) : Sz K q := by
  unfold con5 at h
  split at h
  · unfold con6 at h
    cases hr : rdText L with
    | none => rw [hr] at h; cases h
    | some x =>
      obtain ⟨s, N⟩ := x
      have h1 := rdText_size hr
      rw [hr, Option.bind_some] at h
      unfold con7 at h
      cases hr2 : rdText N with
      | none => simp only [hr2] at h; cases h
      | some y =>
        obtain ⟨s2, N2⟩ := y
        have h2 := rdText_size hr2
        simp only [hr2, Option.bind_some] at h
        exact con8_sz (p := { p with topic := s, payload := s2, qos := bits .and .i64 (f / 8) 3, retain := flagB f 32 }) hp (by omega) h
  · exact con8_sz hp hL h
theorem rdCon_sz {K : Nat} {p q : Pkt} {L M : List Int} (hp : Sz K p) (hL : L.length ≤ K) (h : rdCon p L = some (q, M)) : Sz K q := by
  unfold rdCon at h
  cases h1 : rdText L with
  | none => rw [h1] at h; cases h
  | some x =>
    obtain ⟨s, L1⟩ := x
    have l1 := rdText_size h1
    rw [h1, Option.bind_some] at h
    split at h
    · unfold con1 at h
      cases h2 : rdOct L1 with
      | none => simp only [h2] at h; cases h
      | some y =>
        obtain ⟨v, L2⟩ := y
        have l2 := rdOct_len h2
        simp only [h2, Option.bind_some] at h
        split at h
        · unfold con2 at h
          cases h3 : rdOct L2 with
          | none => simp only [h3] at h; cases h
          | some z =>
            obtain ⟨f, L3⟩ := z
            have l3 := rdOct_len h3
            simp only [h3, Option.bind_some] at h
            unfold con3 at h
            cases h4 : rdWord L3 with
            | none => simp only [h4] at h; cases h
            | some u =>
              obtain ⟨al, L4⟩ := u
              have l4 := rdWord_len h4
              simp only [h4, Option.bind_some] at h
              unfold con4 at h
              cases h5 : rdText L4 with
              | none => simp only [h5] at h; cases h
              | some t =>
                obtain ⟨cl, L5⟩ := t
                have l5 := rdText_size h5
                simp only [h5, Option.bind_some] at h
                exact con5_sz (p := { p.flag f with alive := al, client := cl }) ⟨by show cl.size ≤ K; omega, hp.2.1, hp.2.2⟩ (by omega) h
        · cases h
    · cases h
theorem rdPkt_strs {f : Int} {L : List Int} {p : Pkt} {C : List Int} {D : List (ByteArray × Int)} (h : rdPkt f L = some (p, C, D)) : p.client.size + p.user.size + p.pass.size ≤ 3 * L.length := by
  have hz : ∀ K t, Sz K (typeP t) := fun K t => ⟨Nat.zero_le _, Nat.zero_le _, Nat.zero_le _⟩
  have z0 : (0 : Nat) + 0 + 0 ≤ 3 * L.length := Nat.zero_le _
  unfold rdPkt at h
  split at h
  · cases hr : rdCon (typeP 1) L with
    | none => rw [hr] at h; cases h
    | some x =>
      obtain ⟨q, M⟩ := x
      rw [hr, Option.bind_some] at h
      cases h
      obtain ⟨a, b, c⟩ := rdCon_sz (hz L.length 1) (Nat.le_refl _) hr
      show q.client.size + q.user.size + q.pass.size ≤ 3 * L.length
      omega
  · split at h
    · cases hr : rdOct L with
      | none => rw [hr] at h; cases h
      | some x =>
        rw [hr, Option.bind_some] at h
        cases hr2 : rdOct x.2 with
        | none => rw [hr2] at h; cases h
        | some y => rw [hr2, Option.bind_some] at h; cases h; exact z0
    · split at h
      · cases hr : rdText L with
        | none => rw [hr] at h; cases h
        | some x =>
          rw [hr, Option.bind_some] at h
          unfold pub3 at h
          split at h
          · cases hw : rdWord x.2 with
            | none => rw [hw] at h; cases h
            | some y => rw [hw, Option.bind_some] at h; cases h; exact z0
          · cases h; exact z0
      · split at h
        · cases h; exact z0
        · cases hw : rdWord L with
          | none => rw [hw] at h; cases h
          | some y =>
            rw [hw, Option.bind_some] at h
            split at h
            · cases h; exact z0
            · split at h
              · cases hr : rdSubs y.2.length (f / 16) y.2 with
                | none => rw [hr] at h; cases h
                | some E => rw [hr, Option.bind_some] at h; cases h; exact z0
              · cases h; exact z0
theorem subsB_bytes (t : Int) : ∀ (D : List (ByteArray × Int)), (∀ s ∈ D, s.1.size ≤ 65535 ∧ 0 ≤ s.2 ∧ s.2 ≤ 255) → ∀ x ∈ subsB t D, 0 ≤ x ∧ x < 256 := by
  intro D
  induction D with
  | nil => intro _ x hx; cases hx
  | cons y D ih =>
    intro h x hx
    have hcons : subsB t (y :: D) = subB t y ++ subsB t D := rfl
    rw [hcons, List.mem_append] at hx
    have hy := h y (List.mem_cons_self ..)
    rcases hx with hx | hx
    · rw [subB, List.mem_append] at hx
      rcases hx with hx | hx
      · exact textB_bytes _ hy.1 x hx
      · split at hx
        · simp at hx; omega
        · cases hx
    · exact ih (fun s hs => h s (List.mem_cons_of_mem _ hs)) x hx
theorem bodyB_bytes {w : World} {p : Pkt} {C : List Int} {D : List (ByteArray × Int)} (hF : Lies w p C D) (hG : Good p C D) : ∀ x ∈ bodyB p C D, 0 ≤ x ∧ x < 256 := by
  obtain ⟨h1, h2, h3, h4, h5, h6⟩ := good_parts hF hG
  intro x hx
  have hs := subsB_bytes p.ty D h5
  unfold bodyB at hx
  split at hx
  · rename_i h
    obtain ⟨c0, c1, c2, c3, c4, c5, c6⟩ := h1 h
    unfold conB conH at hx
    simp only [List.mem_append] at hx
    rcases hx with ((hx | hx) | hx) | hx | hx | hx | hx
    · exact textB_bytes _ (by decide) x hx
    · have := conF_range p c0
      simp at hx; omega
    · exact wordB_bytes _ c1.1 c1.2 x hx
    · exact textB_bytes _ c2 x hx
    · split at hx
      · rename_i hw
        rw [List.mem_append] at hx
        rcases hx with hx | hx
        · exact textB_bytes _ (c3 hw) x hx
        · exact textB_bytes _ (c4 hw) x hx
      · cases hx
    · split at hx
      · exact textB_bytes _ c5 x hx
      · cases hx
    · split at hx
      · exact textB_bytes _ c6 x hx
      · cases hx
  · split at hx
    · rename_i h
      have hb := bitN_range p.present 1 (by decide)
      have hl := h2 h
      simp at hx; omega
    · split at hx
      · rename_i h
        obtain ⟨c1, c2, c3, c4⟩ := h3 h
        simp only [List.mem_append] at hx
        rcases hx with hx | hx | hx
        · exact textB_bytes _ c1 x hx
        · split at hx
          · cases hx
          · rename_i hq; exact wordB_bytes _ (c4 hq).1 (c4 hq).2 x hx
        · exact nums_bytes _ x hx
      · split at hx
        · cases hx
        · rename_i t1 t2 t3 t4
          have := hG.1
          have := hG.2.1
          have hid := h4 (by omega) (by omega)
          simp only [List.mem_append] at hx
          rcases hx with hx | hx | hx
          · exact wordB_bytes _ hid.1 hid.2 x hx
          · exact hs x hx
          · have := h6 x hx; omega
theorem flags_range' {w : World} {p : Pkt} {C : List Int} {D : List (ByteArray × Int)} (hF : Lies w p C D) (hG : Good p C D) : 0 ≤ flagsN p ∧ flagsN p < 16 := by
  obtain ⟨h1, h2, h3, h4, h5, h6⟩ := good_parts hF hG
  unfold flagsN
  split
  · rename_i h
    have := h3 h
    have h1 := bitN_range p.dup 8 (by decide)
    have h2 := bitN_range p.retain 1 (by decide)
    omega
  · split <;> omega
theorem bytesB_bytes {w : World} {p : Pkt} {C : List Int} {D : List (ByteArray × Int)} (hF : Lies w p C D) (hM : May p C D) : ∀ x ∈ bytesB p C D, 0 ≤ x ∧ x < 256 := by
  intro x hx
  have hf := flags_range' hF hM.1
  have ht := hM.1.1
  have ht2 := hM.1.2.1
  unfold bytesB at hx
  simp only [List.mem_append] at hx
  rcases hx with hx | hx | hx
  · simp at hx; omega
  · exact Var.digs_bytes 3 _ (by omega) (by have := hM.2; simp; omega) x hx
  · exact bodyB_bytes hF hM.1 x hx

end Pk
end Go.Proofs.YtonemmdipmohgaaDoor

namespace Go.Proofs.YtonemmdipmohgaaDoor
open Go.RowKit
set_option linter.unusedVariables false
set_option linter.unusedSimpArgs false
namespace Pk
open Utf (nums nums_length nums_bytes IsStr nums_str)
open Var (BT)

/-- What Parse's closure finds: the bytes in block tb, the place in block ta, its packet in block pb. -/
structure ParIn (w : World) (tb ta pb : Nat) (A : Option Addr) (c : Nat) (L : List Int) (at_ : Nat) : Prop where
  hb : w.cell? ⟨tb, 0, none⟩ = some (.slice A L.length c)
  ha : w.cell? ⟨ta, 0, none⟩ = some (.int .i64 at_)
  pk : PkAt w pb zeroP
  nb : tb ≠ pb
  na : ta ≠ pb
  reads : Reads .u8 w A L
  pos : 0 < L.length
  cap : L.length ≤ c
  capb : c ≤ 9223372036854775807
  bytes : ∀ x ∈ L, 0 ≤ x ∧ x < 256
  long : L.length ≤ 900000000
  le : at_ ≤ L.length
  blk : ∀ x, A = some x → x.block ≠ pb
  tabs : Lib.Utf8Tabs 0 1 w
  p2 : 2 ≤ pb

def ParOut (w : World) (pb : Nat) (L : List Int) (at_ : Nat) (e : Ending) (w' : World) : Prop :=
  Turn (fun k => k = pb) w w' ∧ ((∃ p C D vc vs, rdPkt (lat L 0) (L.drop at_) = some (p, C, D) ∧ May (p.rows vc vs) C D ∧ bytesB (p.rows vc vs) C D = L ∧ e = .returned (.tuple #[]) ∧ PkAt w' pb (p.rows vc vs) ∧ OwnInts w' w.heap.size 3 .i64 vc C ∧ w'.ownsRow w.heap.size 114 2 vs D.length (subCells D)) ∨
    ((∀ p C D, IsPkt L p C D → L.drop at_ ≠ bodyB p C D) ∧ e = badP))

theorem subs_reads {w : World} {base n c : Nat} {A : Option Addr} {D : List (ByteArray × Int)} (h : w.ownsRow base 114 2 (.slice A n c) D.length (subCells D)) : ReadsSub w A D := by
  intro h0
  obtain ⟨A', c', hv, _, _, hh⟩ := own_form h
  injection hv with e1 e2 e3
  subst e1
  rcases h.2 with ⟨hv, hn⟩ | ⟨g, cap, cur, hv, hg, hheap, hc, hm, hs, ht⟩
  · omega
  · injection hv with e1 _ _
    refine ⟨_, e1, fun i hi => ?_⟩
    have key : ∀ j, (subCells D)[j]? = some ((subCells D).getD j undef) → w.cell? ⟨g, j, none⟩ = (subCells D)[j]? := by
      intro j hj
      rw [cell_heap hheap]
      have : (cur.toList.take (D.length * 2))[j]? = (subCells D)[j]? := by rw [ht]
      rw [List.getElem?_take] at this
      split at this
      · rw [← this]; simp
      · rw [hj] at this; cases this
    have hget : ∀ (E : List (ByteArray × Int)) (k : Nat) (hk : k < E.length), (subCells E)[2 * k]? = some (.string E[k].1) ∧ (subCells E)[2 * k + 1]? = some (.int .i64 E[k].2) := by
      intro E
      induction E with
      | nil => intro k hk; exact absurd hk (by simp)
      | cons x E ih =>
        intro k hk
        have hcons : subCells (x :: E) = .string x.1 :: .int .i64 x.2 :: subCells E := rfl
        rw [hcons]
        cases k with
        | zero => exact ⟨rfl, rfl⟩
        | succ k =>
          have := ih k (by simpa using hk)
          rw [show 2 * (k + 1) = 2 * k + 1 + 1 by omega]
          exact this
    obtain ⟨g1, g2⟩ := hget D i hi
    rw [add_plain0, add_plain0]
    constructor
    · rw [key (2 * i) (by rw [g1, List.getD_eq_getElem?_getD, g1]; rfl)]; exact g1
    · rw [key (2 * i + 1) (by rw [g2, List.getD_eq_getElem?_getD, g2]; rfl)]; exact g2

end Pk
end Go.Proofs.YtonemmdipmohgaaDoor

namespace Go.Proofs.YtonemmdipmohgaaDoor
open Go.RowKit
set_option linter.unusedVariables false
set_option linter.unusedSimpArgs false
namespace Pk
open Utf (nums nums_length nums_bytes IsStr nums_str)
open Var (BT digs digs_length tell tell_digs)

theorem tell_of {L B : List Int} (hd : L.drop 1 = digs 3 (B.length : Int) ++ B) (hB : B.length ≤ 268435455) : tell 4 true L 1 0 1 = ((B.length : Int), 1 + ((digs 3 (B.length : Int)).length : Int), 0) := by
  have h1 : ((B.length : Nat) : Int) < 128 ^ (3 + 1) := by
    have e : (128 : Int) ^ (3 + 1) = 268435456 := by decide
    rw [e]; omega
  have ht := tell_digs 3 true L 1 0 1 (B.length : Int) B (Int.natCast_nonneg _) h1 (.inl rfl) hd
  have e : (0 : Int) + 1 * (B.length : Int) = (B.length : Int) := by omega
  rw [e] at ht
  exact ht
/-- The length's bytes tell where the body begins. -/
theorem pkt_tell {L : List Int} {p : Pkt} {C : List Int} {D : List (ByteArray × Int)} (hI : IsPkt L p C D) : tell 4 true L 1 0 1 = (((bodyB p C D).length : Int), 1 + ((digs 3 ((bodyB p C D).length : Int)).length : Int), 0) ∧ L.drop (1 + (digs 3 ((bodyB p C D).length : Int)).length) = bodyB p C D ∧ 2 ≤ L.length := by
  obtain ⟨hl, hm, hb⟩ := hI
  have hd : L.drop 1 = digs 3 ((bodyB p C D).length : Int) ++ bodyB p C D := by
    rw [← hb, bytesB]
    simp only [List.cons_append, List.nil_append, List.drop_succ_cons, List.drop_zero]
  have hm2 := hm.2
  generalize bodyB p C D = B at hd hm2 ⊢
  have hdl := digs_length 3 (B.length : Int)
  refine ⟨tell_of hd hm2, ?_, ?_⟩
  · rw [← List.drop_drop, hd, List.drop_left]
  · have := congrArg List.length hd
    rw [List.length_drop, List.length_append] at this
    omega

/-- What Parse answers: the packet whose bytes they are; or none. -/
def ParsePost (w : World) (L : List Int) (e : Ending) (w' : World) : Prop :=
  Below w.heap.size w w' ∧ ((∃ p C D, IsPkt L p C D ∧ e = .returned (.tuple #[.agg p.cells, .int .i64 0]) ∧ OwnInts w' w.heap.size 3 .i64 p.codes C ∧ w'.ownsRow w.heap.size 114 2 p.subs D.length (subCells D)) ∨
    ((∀ p C D, ¬ IsPkt L p C D) ∧ e = .returned (.tuple #[.agg zeroP.cells, .int .i64 100])))

theorem kBuildZ {W : World} : (Instr.build PT #[]).run Tryd.prog W = .ok (.agg zeroP.cells) W := by kernel_rfl
theorem rBuild0 {P : Program} {ev : Operand → Value} {o : Oper} {W : World} {v : Value} {t : TypeId} (ho : o.op = .build t #[]) (hk : (Instr.build t #[]).run P W = .ok v W) : (execOp ev o).run P W = .ok (.value v) W :=
  rBuild ho (by rw [Array.map_empty]; exact hk)
theorem rAssign {P : Program} {ev : Operand → Value} {o : Oper} {W : World} {x : Operand} (ho : o.op = .assign x) : (execOp ev o).run P W = .ok (.value (ev x)) W := by
  unfold execOp
  rw [ho]
  rfl

end Pk
end Go.Proofs.YtonemmdipmohgaaDoor

namespace Go.Proofs.YtonemmdipmohgaaDoor
open Go.RowKit
set_option linter.unusedVariables false
set_option linter.unusedSimpArgs false
namespace Pk
open Utf (nums nums_length nums_bytes IsStr nums_str)
open Var (BT digs digs_length)

theorem is_unique {L : List Int} {p p' : Pkt} {C C' : List Int} {D D' : List (ByteArray × Int)} (h : IsPkt L p C D) (h' : IsPkt L p' C' D') : p.rows nilV nilV = p'.rows nilV nilV ∧ C = C' ∧ D = D' := by
  obtain ⟨a1, a2, _⟩ := pkt_tell h
  obtain ⟨b1, b2, _⟩ := pkt_tell h'
  rw [a1] at b1
  injection b1 with _ b1
  injection b1 with e1 _
  have e : (digs 3 ((bodyB p C D).length : Int)).length = (digs 3 ((bodyB p' C' D').length : Int)).length := by omega
  rw [e, b2] at a2
  have f1 : 16 * p.ty + flagsN p = 16 * p'.ty + flagsN p' := by
    have h1 := congrArg (fun X => lat X 0) h.2.2
    have h2 := congrArg (fun X => lat X 0) h'.2.2
    exact Eq.trans (show 16 * p.ty + flagsN p = lat L 0 from h1) (show 16 * p'.ty + flagsN p' = lat L 0 from h2).symm
  have r1 := read_back p C D h.2.1.1 h.1
  have r2 := read_back p' C' D' h'.2.1.1 h'.1
  rw [← f1, a2, r1] at r2
  injection r2 with r2
  injection r2 with e1 r2
  injection r2 with e2 e3
  exact ⟨e1, e2, e3⟩

abbrev strA : ByteArray := ⟨#[97]⟩
def exP : Pkt := { typeP 3 with topic := strA, payload := ⟨#[104, 105]⟩, qos := 1, id := 10 }
def exC : Pkt := { typeP 1 with client := strA, clean := true, alive := 60 }
theorem isA : IsStr (nums strA) [97] := by
  refine ⟨fun x hx => ?_, rfl, by decide⟩
  have : x = 97 := by simpa using hx
  subst this
  decide
theorem fullA : Full strA := ⟨by decide, _, isA⟩
theorem strE : Str ⟨#[]⟩ := ⟨[], ⟨(by intro x hx; cases hx), rfl, by decide⟩⟩
theorem may_exP : May exP [] [] := by
  refine ⟨⟨by decide, by decide, ⟨fun h => absurd h (by decide), fun h => absurd h (by decide), fun _ => ⟨fun _ => ⟨by decide, by decide⟩, fullA, by decide, by decide⟩, fun h _ => absurd h (by decide), fun h => absurd h (by decide), fun h => absurd h (by decide)⟩, ?_⟩, by decide⟩
  exact (zero_iff _ _ _).2 ⟨⟨rfl, rfl, rfl, rfl⟩, rfl, rfl, rfl, rfl, ⟨rfl, rfl, rfl⟩, rfl, rfl, rfl, rfl, rfl, rfl⟩
theorem bytes_exP : bytesB exP [] [] = [50, 7, 0, 1, 97, 0, 10, 104, 105] := by decide
theorem is_ping : IsPkt [192, 0] (typeP 12) [] [] := by
  refine ⟨⟨rfl, rfl⟩, ⟨⟨by decide, by decide, ⟨fun h => absurd h (by decide), fun h => absurd h (by decide), fun h => absurd h (by decide), fun _ h => absurd h (by decide), fun h => absurd h (by decide), fun h => absurd h (by decide)⟩, ?_⟩, by decide⟩, by decide⟩
  exact (zero_iff _ _ _).2 ⟨⟨rfl, rfl, rfl, rfl⟩, rfl, rfl, rfl, rfl, ⟨rfl, rfl, rfl⟩, rfl, rfl, rfl, rfl, rfl, rfl⟩
theorem is_exC : IsPkt [16, 13, 0, 4, 77, 81, 84, 84, 4, 2, 0, 60, 0, 1, 97] exC [] [] := by
  refine ⟨⟨rfl, rfl⟩, ⟨⟨by decide, by decide, ⟨fun _ => ⟨⟨_, isA⟩, strE, by decide, .inr rfl, by decide, by decide, fun h => absurd h (by decide), .inr rfl, .inr rfl⟩, fun h => absurd h (by decide), fun h => absurd h (by decide), fun h _ => absurd h (by decide), fun h => absurd h (by decide), fun h => absurd h (by decide)⟩, ?_⟩, by decide⟩, by decide⟩
  exact (zero_iff _ _ _).2 ⟨⟨rfl, rfl, rfl, rfl⟩, rfl, rfl, rfl, rfl, ⟨rfl, rfl, rfl⟩, rfl, rfl, rfl, rfl, rfl, rfl⟩
theorem not_193 : ∀ p C D, ¬ IsPkt [193, 0] p C D := by
  intro p C D h
  have h1 := congrArg (fun X => lat X 0) h.2.2
  have h2 : 16 * p.ty + flagsN p = 193 := h1
  have hm := h.2.1.1
  have t1 := hm.1
  have t2 := hm.2.1
  unfold flagsN at h2
  split at h2
  · rename_i h3
    have ho := (hm.2.2.1.2.2.1 h3).2.2
    have b1 := bitN_range p.dup 8 (by decide)
    have b2 := bitN_range p.retain 1 (by decide)
    omega
  · split at h2 <;> omega
theorem lies_exP (w : World) : Lies w exP [] [] := ⟨⟨none, 0, rfl, fun h => absurd h (by simp)⟩, ⟨none, 0, rfl, fun h => absurd h (by simp)⟩, by decide, by decide, by decide⟩

theorem kSlice2 (W : World) (a b : Int) : (Instr.buildSlice 82 2 #[(0, .int .u8 a), (1, .int .u8 b)]).run Tryd.prog W = .ok (.slice (some ⟨W.heap.size, 0, none⟩) 2 2) (W.alloc (.cells #[.int .u8 a, .int .u8 b] BT)) := by kernel_rfl
end Pk
end Go.Proofs.YtonemmdipmohgaaDoor

namespace Go.Proofs.YtonemmdipmohgaaDoor
open Go.RowKit
set_option linter.unusedVariables false
set_option linter.unusedSimpArgs false
namespace Pk
open Utf (nums nums_length nums_bytes IsStr nums_str)
open Var (BT)

theorem rExtract {P : Program} {ev : Operand → Value} {o : Oper} {W : World} {x : Operand} {i : Nat} {v : Value} (ho : o.op = .extract x i) (hk : (Instr.extract (ev x) i).run P W = .ok v W) : (execOp ev o).run P W = .ok (.value v) W := by
  unfold execOp
  rw [ho]
  show ((Instr.extract (ev x) i) >>= fun v => pure (Next.value v)).run P W = _
  rw [Sem.run_bind, hk]; rfl
theorem kExt0 {P : Program} {W : World} (a b : Value) : (Instr.extract (.tuple #[a, b]) 0).run P W = .ok a W := rfl
theorem kExt1 {P : Program} {W : World} (a b : Value) : (Instr.extract (.tuple #[a, b]) 1).run P W = .ok b W := rfl

theorem reads_mark {k : IntKind} {e : TypeId} {fr : Nat × Nat} (w : World) (L : List Int) (cur : Array Value) (h : cur.toList = L.map (Value.int k)) : Reads k (w.alloc (.cells cur e fr)) (some ⟨w.heap.size, 0, none⟩) L := by
  intro h0
  refine ⟨_, rfl, fun i hi => ?_⟩
  rw [add_plain0, World.cell?_alloc_mark, lat_get _ _ hi]
  have : cur[i]? = cur.toList[i]? := by simp
  rw [this, h]
  simp [List.getElem?_eq_getElem hi]

end Pk
end Go.Proofs.YtonemmdipmohgaaDoor

namespace Go.Proofs.YtonemmdipmohgaaDoor
open Go.RowKit
set_option linter.unusedVariables false
set_option linter.unusedSimpArgs false
namespace Pk
open Utf (nums nums_length nums_bytes IsStr nums_str)
open Var (BT)

theorem is_bounds {L : List Int} {p : Pkt} {C : List Int} {D : List (ByteArray × Int)} (hI : IsPkt L p C D) (hby : ∀ x ∈ L, 0 ≤ x ∧ x < 256) : C.length ≤ L.length + 1 ∧ D.length ≤ L.length ∧ p.client.size + p.user.size + p.pass.size ≤ 3 * L.length ∧ (bodyB p C D).length ≤ L.length := by
  have hr := read_back p C D hI.2.1.1 hI.1
  have hb := (pkt_tell hI).2.1
  have hbl : (bodyB p C D).length ≤ L.length := by rw [← hb, List.length_drop]; omega
  have hbb : ∀ x ∈ bodyB p C D, 0 ≤ x ∧ x < 256 := by rw [← hb]; exact fun x hx => hby x (List.mem_of_mem_drop hx)
  have h1 := rdPkt_fit hr hbb
  have h2 : p.client.size + p.user.size + p.pass.size ≤ 3 * (bodyB p C D).length := by have := rdPkt_strs hr; exact this
  exact ⟨by omega, by omega, by omega, hbl⟩

theorem own_lies {W : World} {base : Nat} {L : List Int} {p : Pkt} {C : List Int} {D : List (ByteArray × Int)} (hI : IsPkt L p C D) (hby : ∀ x ∈ L, 0 ≤ x ∧ x < 256) (hl : L.length ≤ 900000000)
    (hoc : OwnInts W base 3 .i64 p.codes C) (hos : W.ownsRow base 114 2 p.subs D.length (subCells D)) : Lies W p C D := by
  obtain ⟨h1, h2, h3, _⟩ := is_bounds hI hby
  refine ⟨?_, ?_, by omega, by omega, by omega⟩
  · obtain ⟨A, c, hv, _⟩ := hoc.form
    rw [hv] at hoc
    exact ⟨A, c, hv, (own_reads hoc).2.2.1⟩
  · obtain ⟨A, c, hv, _⟩ := own_form hos
    rw [hv] at hos
    exact ⟨A, c, hv, subs_reads hos⟩

/-- The whole packet is loaded, behind a guard that is open. -/
theorem wp_load_pktG {ops : Array Oper} {rest : List Oper} {o : Oper} {a : Act} {W : World} {Q : Exit → Act → World → Prop} {x : Operand} {g : Nat} {p : Pkt} (ho : o.op = .load PT x) (hx : a.eval x = .pointer (some ⟨g, 0, none⟩)) (h : PkAt W g p)
    (hK : wpList Tryd.prog ops Q rest (a.put o.dst (.agg p.cells)) W) (hgd : Region.wanted o (yielded ops a.tmps) = true) : wpList Tryd.prog ops Q (o :: rest) a W :=
  st_val _ hgd (rLoad ho (by rw [hx]; exact load_pkt W g p h)) hK
end Pk
end Go.Proofs.YtonemmdipmohgaaDoor

/- The reader: connect. -/
import Derived.Test.YteigakkghkjakaaDoorPlA
namespace Go.Proofs.YteigakkghkjakaaDoor
open Go.RowKit
set_option linter.unusedVariables false
set_option linter.unusedSimpArgs false
namespace Pk
open Utf (nums nums_length nums_bytes IsStr)
open Var (BT)

def flagB (f m : Int) : Bool := decide (0 < bits .and .i64 f m)
def con9 (p : Pkt) (L : List Int) : Option (Pkt × List Int) := if p.hpass then (rdText L).bind fun x => some ({ p with pass := x.1 }, x.2) else some (p, L)
def con8 (p : Pkt) (L : List Int) : Option (Pkt × List Int) := if p.huser then (rdText L).bind fun x => con9 { p with user := x.1 } x.2 else con9 p L
def con7 (p : Pkt) (L : List Int) : Option (Pkt × List Int) := (rdText L).bind fun x => con8 { p with payload := x.1 } x.2
def con6 (p : Pkt) (L : List Int) : Option (Pkt × List Int) := (rdText L).bind fun x => con7 { p with topic := x.1 } x.2
def con5 (p : Pkt) (f : Int) (L : List Int) : Option (Pkt × List Int) :=
  if p.will then con6 { p with topic := ⟨#[]⟩, payload := ⟨#[]⟩, qos := bits .and .i64 (f / 8) 3, retain := flagB f 32 } L else con8 p L
def con4 (p : Pkt) (f : Int) (L : List Int) : Option (Pkt × List Int) := (rdText L).bind fun x => con5 { p with client := x.1 } f x.2
def con3 (p : Pkt) (f : Int) (L : List Int) : Option (Pkt × List Int) := (rdWord L).bind fun x => con4 { p with alive := x.1 } f x.2
def Pkt.flag (p : Pkt) (f : Int) : Pkt := { p with clean := flagB f 2, will := flagB f 4, hpass := flagB f 64, huser := flagB f 128 }
def con2 (p : Pkt) (L : List Int) : Option (Pkt × List Int) := (rdOct L).bind fun x => con3 (p.flag x.1) x.1 x.2
def con1 (p : Pkt) (L : List Int) : Option (Pkt × List Int) := (rdOct L).bind fun x => if x.1 = 4 then con2 p x.2 else none
def rdCon (p : Pkt) (L : List Int) : Option (Pkt × List Int) := (rdText L).bind fun x => if x.1.toList = [77, 81, 84, 84] then con1 p x.2 else none

theorem RdAt.other {w w' : World} {r B : Nat} {L : List Int} {S : Nat → Prop} (h : RdAt w r B L) (t : Turn S w w') (hS : ∀ k, S k → B ≤ k ∧ k ≠ r) : RdAt w' r B L := by
  obtain ⟨A, c, h1, h2, h3, h4, h5, h6, h7⟩ := h
  refine ⟨A, c, by rw [t.block r (heap_lt h1) (fun hx => (hS r hx).2 rfl)]; exact h1, h2, h3, reads_turn h4 t (fun x hx hs => ?_), h5, h6, h7⟩
  have := h6.2 x hx
  have := (hS _ hs).1
  omega

/-- Where a reading stands. -/
structure RS (w W : World) (r g B : Nat) (p : Pkt) (L : List Int) : Prop where
  turn : Turn (fun k => k = r ∨ k = g) w W
  rd : RdAt W r B L
  pk : PkAt W g p
  ne : r ≠ g
  bg : B ≤ g
theorem RS.read {w W W' : World} {r g B : Nat} {p : Pkt} {L L' : List Int} (h : RS w W r g B p L) (t : Turn (fun k => k = r) W W') (hR : RdAt W' r B L') : RS w W' r g B p L' :=
  ⟨h.turn.trans (t.mono (fun _ _ e => .inl e)), hR, h.pk.keep t (fun e => h.ne e.symm), h.ne, h.bg⟩
theorem RS.fail {w W W' : World} {r g B : Nat} {p : Pkt} {L : List Int} (h : RS w W r g B p L) (t : Turn (fun k => k = r) W W') : Turn (fun k => k = r ∨ k = g) w W' :=
  h.turn.trans (t.mono (fun _ _ e => .inl e))
theorem RS.set {w W : World} {r g B : Nat} {p : Pkt} {L : List Int} (h : RS w W r g B p L) (i : Nat) (v : Value) (q : Pkt) (hq : p.cells.setIfInBounds i v = q.cells) : RS w (W.setCell ⟨g, i, none⟩ v) r g B q L :=
  ⟨h.turn.trans (Turn.setCell W v (.inr rfl)), h.rd.other (Turn.setCell (S := fun k => k = g) W v rfl) (fun k e => ⟨by have := h.bg; omega, fun e' => h.ne (by omega)⟩), h.pk.set i v q hq, h.ne, h.bg⟩

def RdPkt (w : World) (r g B : Nat) (o : Option (Pkt × List Int)) (e : Ending) (w' : World) : Prop :=
  Turn (fun k => k = r ∨ k = g) w w' ∧ ((∃ p L, o = some (p, L) ∧ e = .returned (.tuple #[]) ∧ PkAt w' g p ∧ RdAt w' r B L) ∨ (o = none ∧ e = badP))
theorem str_ne' {s t : ByteArray} (h : ¬ s.toList = t.toList) : (s.toList == t.toList) = false := by simpa using h

set_option maxRecDepth 100000 in
set_option maxHeartbeats 4000000 in
theorem rcon_calls (w : World) (r g B : Nat) (p : Pkt) (L : List Int) (h : RS w w r g B p L) : Calls Tryd.prog 60 #[.pointer (some ⟨r, 0, none⟩), .pointer (some ⟨g, 0, none⟩)] w fun e w' => RdPkt w r g B (rdCon p L) e w' := by
  have H0 := Lib.hid h
  clear h
  obtain ⟨o, ho⟩ : ∃ o, Hid (o = rdCon p L) := ⟨_, rfl⟩
  rw [← ho.out]
  rw [rdCon] at ho
  go_enter Tryd.func60, Tryd.ntmps60
  go_wp2_with (fail)
  refine (rtext_calls w r B L H0.out.rd).mono ?_
  rintro e W1 ⟨t, (⟨s, L1, hs, rfl, hR⟩ | ⟨hs, rfl⟩)⟩
  · rw [hs] at ho
    have H1 : Hid (RS w W1 r g B p L1) := H0.out.read t hR
    rw [Option.bind_some] at ho
    by_cases hm : s.toList = [77, 81, 84, 84]
    · have hm1 : (s.toList == [77, 81, 84, 84]) = true := by simpa using hm
      rw [if_pos hm, con1] at ho
      clear hm t hR hs
      go_wp2_with (fail)
      refine (need_yes _).mono ?_
      rintro e w' ⟨rfl, rfl⟩
      go_wp2_with (fail)
      refine (octet_calls W1 r B L1 H1.out.rd).mono ?_
      rintro e W2 ⟨t, (⟨v, L2, hs, rfl, hR⟩ | ⟨hs, rfl⟩)⟩
      · rw [hs] at ho
        have H2 : Hid (RS w W2 r g B p L2) := H1.out.read t hR
        rw [Option.bind_some] at ho
        by_cases hv : v = 4
        · have hv1 : (v == 4) = true := by simpa using hv
          rw [if_pos hv, con2] at ho
          clear t hR hs
          subst hv
          go_wp2_with (fail)
          refine (need_yes _).mono ?_
          rintro e w' ⟨rfl, rfl⟩
          go_wp2_with (fail)
          refine (octet_calls W2 r B L2 H2.out.rd).mono ?_
          rintro e W3 ⟨t, (⟨f, L3, hs, rfl, hR⟩ | ⟨hs, rfl⟩)⟩
          · rw [hs] at ho
            have H3 : Hid (RS w W3 r g B p L3) := H2.out.read t hR
            rw [Option.bind_some] at ho
            rw [con3] at ho
            obtain ⟨hf0, hf1⟩ : 0 ≤ f ∧ f < 256 := by
              have := rdBytes H2.out.rd f
              cases L2 with
              | nil => cases hs
              | cons y M => cases hs; exact this (by simp)
            clear t hR hs
            have k8 : W3.cell? ⟨g, 8, none⟩ = some (.bool p.clean) := H3.out.pk.cell 8
            have k10 : W3.cell? ⟨g, 10, none⟩ = some (.bool p.will) := H3.out.pk.cell 10
            have k11 : W3.cell? ⟨g, 11, none⟩ = some (.bool p.huser) := H3.out.pk.cell 11
            have k12 : W3.cell? ⟨g, 12, none⟩ = some (.bool p.hpass) := H3.out.pk.cell 12
            have z8 := H3.out.pk.frozen 8
            have z10 := H3.out.pk.frozen 10
            have z11 := H3.out.pk.frozen 11
            have z12 := H3.out.pk.frozen 12
            obtain ⟨b2, hb2⟩ : ∃ b, Hid (b = flagB f 2) := ⟨_, rfl⟩
            obtain ⟨b4, hb4⟩ : ∃ b, Hid (b = flagB f 4) := ⟨_, rfl⟩
            obtain ⟨b32, hb32⟩ : ∃ b, Hid (b = flagB f 32) := ⟨_, rfl⟩
            obtain ⟨b64, hb64⟩ : ∃ b, Hid (b = flagB f 64) := ⟨_, rfl⟩
            obtain ⟨b128, hb128⟩ : ∃ b, Hid (b = flagB f 128) := ⟨_, rfl⟩
            have e2 : decide (0 < bits .and .i64 f 2) = b2 := hb2.out.symm
            have e4 : decide (0 < bits .and .i64 f 4) = b4 := hb4.out.symm
            have e32 : decide (0 < bits .and .i64 f 32) = b32 := hb32.out.symm
            have e64 : decide (0 < bits .and .i64 f 64) = b64 := hb64.out.symm
            have e128 : decide (0 < bits .and .i64 f 128) = b128 := hb128.out.symm
            obtain ⟨q5v, hq5v⟩ : ∃ x, x = bits .and .i64 (f / 8) 3 := ⟨_, rfl⟩
            have eq5 : bits .and .i64 (f / 8) 3 = q5v := hq5v.symm
            clear hq5v
            obtain ⟨q, hq⟩ : ∃ q, Hid (q = p.flag f) := ⟨_, rfl⟩
            have HS : Hid (RS w ((((W3.setCell ⟨g, 8, none⟩ (.bool b2)).setCell ⟨g, 10, none⟩ (.bool b4)).setCell ⟨g, 12, none⟩ (.bool b64)).setCell ⟨g, 11, none⟩ (.bool b128)) r g B q L3) := by
              rw [hq.out, hb2.out, hb4.out, hb64.out, hb128.out]
              exact (((H3.out.set 8 _ { p with clean := flagB f 2 } rfl).set 10 _ { p with clean := flagB f 2, will := flagB f 4 } rfl).set 12 _ { p with clean := flagB f 2, will := flagB f 4, hpass := flagB f 64 } rfl).set 11 _ (p.flag f) rfl
            rw [← hq.out] at ho
            have hqw : Hid (q.will = b4) := by rw [hq.out, hb4.out]; exact rfl
            have hqu : Hid (q.huser = b128) := by rw [hq.out, hb128.out]; exact rfl
            have hqp : Hid (q.hpass = b64) := by rw [hq.out, hb64.out]; exact rfl
            go_wp2_with (fail)
            generalize hWs : (((W3.setCell ⟨g, 8, none⟩ (.bool b2)).setCell ⟨g, 10, none⟩ (.bool b4)).setCell ⟨g, 12, none⟩ (.bool b64)).setCell ⟨g, 11, none⟩ (.bool b128) = Ws at HS ⊢
            clear hWs k8 k10 k11 k12 z8 z10 z11 z12 e2 e4 e64 e128
            refine (rword_calls Ws r B L3 HS.out.rd).mono ?_
            rintro e W4 ⟨t, (⟨al, L4, hs, rfl, hR⟩ | ⟨hs, rfl⟩)⟩
            · rw [hs] at ho
              have H4 : Hid (RS w W4 r g B q L4) := HS.out.read t hR
              rw [Option.bind_some] at ho
              rw [con4] at ho
              have y9 : W4.cell? ⟨g, 9, none⟩ = some (.int .i64 q.alive) := H4.out.pk.cell 9
              have z9 := H4.out.pk.frozen 9
              have HS4 : Hid (RS w (W4.setCell ⟨g, 9, none⟩ (.int .i64 al)) r g B { q with alive := al } L4) := H4.out.set 9 _ _ rfl
              clear t hR hs
              go_wp2_with (fail)
              generalize hWs4 : W4.setCell ⟨g, 9, none⟩ (.int .i64 al) = Ws4 at HS4 ⊢
              clear hWs4 y9 z9
              refine (rtext_calls Ws4 r B L4 HS4.out.rd).mono ?_
              rintro e W5 ⟨t, (⟨cl, L5, hs, rfl, hR⟩ | ⟨hs, rfl⟩)⟩
              · rw [hs] at ho
                have H5 : Hid (RS w W5 r g B { q with alive := al } L5) := HS4.out.read t hR
                rw [Option.bind_some] at ho
                rw [con5] at ho
                have y7 : W5.cell? ⟨g, 7, none⟩ = some (.string q.client) := H5.out.pk.cell 7
                have z7 := H5.out.pk.frozen 7
                obtain ⟨q5, hq5⟩ : ∃ x : Pkt, Hid (x = { q with alive := al, client := cl }) := ⟨_, rfl⟩
                have HS5 : Hid (RS w (W5.setCell ⟨g, 7, none⟩ (.string cl)) r g B q5 L5) := by rw [hq5.out]; exact H5.out.set 7 _ _ rfl
                have hqw5 : Hid (q5.will = b4) := by rw [hq5.out]; exact hqw.out
                have hqu5 : Hid (q5.huser = b128) := by rw [hq5.out]; exact hqu.out
                have hqp5 : Hid (q5.hpass = b64) := by rw [hq5.out]; exact hqp.out
                have ho5 : Hid (o = if q5.will then con6 { q5 with topic := ⟨#[]⟩, payload := ⟨#[]⟩, qos := bits .and .i64 (f / 8) 3, retain := flagB f 32 } L5 else con8 q5 L5) := by rw [hq5.out]; exact ho.out
                clear t hR hs ho
                rw [eq5, ← hb32.out] at ho5
                have x10 : W5.cell? ⟨g, 10, none⟩ = some (.bool b4) := by rw [← hqw.out]; exact H5.out.pk.cell 10
                have x3 : W5.cell? ⟨g, 3, none⟩ = some (.string q.topic) := H5.out.pk.cell 3
                have x4 : W5.cell? ⟨g, 4, none⟩ = some (.string q.payload) := H5.out.pk.cell 4
                have x5 : W5.cell? ⟨g, 5, none⟩ = some (.int .i64 q.qos) := H5.out.pk.cell 5
                have x6 : W5.cell? ⟨g, 6, none⟩ = some (.bool q.retain) := H5.out.pk.cell 6
                have x11 : W5.cell? ⟨g, 11, none⟩ = some (.bool b128) := by rw [← hqu.out]; exact H5.out.pk.cell 11
                have x12 : W5.cell? ⟨g, 12, none⟩ = some (.bool b64) := by rw [← hqp.out]; exact H5.out.pk.cell 12
                have z3 := H5.out.pk.frozen 3
                have z4 := H5.out.pk.frozen 4
                have z5 := H5.out.pk.frozen 5
                have z6 := H5.out.pk.frozen 6
                have HQU := hqu5
                have HQP := hqp5
                cases b4 with
                | true =>
                  rw [if_pos hqw5.out] at ho5
                  obtain ⟨q6, hq6⟩ : ∃ x : Pkt, Hid (x = { q5 with topic := ⟨#[]⟩, payload := ⟨#[]⟩, qos := q5v, retain := b32 }) := ⟨_, rfl⟩
                  rw [← hq6.out, con6] at ho5
                  have HS6 : Hid (RS w (((((W5.setCell ⟨g, 7, none⟩ (.string cl)).setCell ⟨g, 3, none⟩ (.string ⟨#[]⟩)).setCell ⟨g, 4, none⟩ (.string ⟨#[]⟩)).setCell ⟨g, 5, none⟩ (.int .i64 q5v)).setCell ⟨g, 6, none⟩ (.bool b32)) r g B q6 L5) := by
                    rw [hq6.out]
                    exact (((HS5.out.set 3 _ { q5 with topic := ⟨#[]⟩ } rfl).set 4 _ { q5 with topic := ⟨#[]⟩, payload := ⟨#[]⟩ } rfl).set 5 _ { q5 with topic := ⟨#[]⟩, payload := ⟨#[]⟩, qos := q5v } rfl).set 6 _ _ rfl
                  have hqu6 : Hid (q6.huser = b128) := by rw [hq6.out]; exact hqu5.out
                  have hqp6 : Hid (q6.hpass = b64) := by rw [hq6.out]; exact hqp5.out
                  have ho := ho5
                  clear ho5
                  go_wp2_with (fail)
                  generalize hWs6 : ((((W5.setCell ⟨g, 7, none⟩ (.string cl)).setCell ⟨g, 3, none⟩ (.string ⟨#[]⟩)).setCell ⟨g, 4, none⟩ (.string ⟨#[]⟩)).setCell ⟨g, 5, none⟩ (.int .i64 q5v)).setCell ⟨g, 6, none⟩ (.bool b32) = Ws6 at HS6 ⊢
                  clear hWs6 HS5 y7 z7 x10 x3 x4 x5 x6 x11 x12 z3 z4 z5 z6
                  refine (rtext_calls Ws6 r B L5 HS6.out.rd).mono ?_
                  rintro e W6 ⟨t, (⟨tp, L6, hs, rfl, hR⟩ | ⟨hs, rfl⟩)⟩
                  · rw [hs] at ho
                    have H6 : Hid (RS w W6 r g B q6 L6) := HS6.out.read t hR
                    rw [Option.bind_some] at ho
                    rw [con7] at ho
                    have t3 : W6.cell? ⟨g, 3, none⟩ = some (.string q6.topic) := H6.out.pk.cell 3
                    have s3 := H6.out.pk.frozen 3
                    have HS7 : Hid (RS w (W6.setCell ⟨g, 3, none⟩ (.string tp)) r g B { q6 with topic := tp } L6) := H6.out.set 3 _ _ rfl
                    clear t hR hs
                    go_wp2_with (fail)
                    generalize hWs7 : W6.setCell ⟨g, 3, none⟩ (.string tp) = Ws7 at HS7 ⊢
                    clear hWs7 t3 s3
                    refine (rtext_calls Ws7 r B L6 HS7.out.rd).mono ?_
                    rintro e W7 ⟨t, (⟨py, L7, hs, rfl, hR⟩ | ⟨hs, rfl⟩)⟩
                    · rw [hs] at ho
                      have H7 : Hid (RS w W7 r g B { q6 with topic := tp } L7) := HS7.out.read t hR
                      rw [Option.bind_some] at ho
                      have t4 : W7.cell? ⟨g, 4, none⟩ = some (.string q6.payload) := H7.out.pk.cell 4
                      have s4 := H7.out.pk.frozen 4
                      obtain ⟨q8, hq8⟩ : ∃ x : Pkt, Hid (x = { q6 with topic := tp, payload := py }) := ⟨_, rfl⟩
                      have HS8 : Hid (RS w (W7.setCell ⟨g, 4, none⟩ (.string py)) r g B q8 L7) := by rw [hq8.out]; exact H7.out.set 4 _ _ rfl
                      have HQU : Hid (q8.huser = b128) := by rw [hq8.out]; exact hqu6.out
                      have HQP : Hid (q8.hpass = b64) := by rw [hq8.out]; exact hqp6.out
                      have ho8 : Hid (o = con8 q8 L7) := by rw [hq8.out]; exact ho.out
                      have ho := ho8
                      clear t hR hs ho8
                      rw [con8] at ho
                      cases b128 with
                      | true =>
                        rw [if_pos HQU.out] at ho
                        have u11 : (W7.setCell ⟨g, 4, none⟩ (.string py)).cell? ⟨g, 11, none⟩ = some (.bool true) := by rw [← HQU.out]; exact HS8.out.pk.cell 11
                        go_wp2_with (fail)
                        refine (rtext_calls (W7.setCell ⟨g, 4, none⟩ (.string py)) r B L7 HS8.out.rd).mono ?_
                        rintro e W8 ⟨t, (⟨us8, L8, hs, rfl, hR⟩ | ⟨hs, rfl⟩)⟩
                        · rw [hs] at ho
                          have H8 : Hid (RS w W8 r g B q8 L8) := HS8.out.read t hR
                          rw [Option.bind_some] at ho
                          have v13 : W8.cell? ⟨g, 13, none⟩ = some (.string q8.user) := H8.out.pk.cell 13
                          have z13 := H8.out.pk.frozen 13
                          obtain ⟨qu, hqu⟩ : ∃ x : Pkt, Hid (x = { q8 with user := us8 }) := ⟨_, rfl⟩
                          have HU : Hid (RS w (W8.setCell ⟨g, 13, none⟩ (.string us8)) r g B qu L8) := by rw [hqu.out]; exact H8.out.set 13 _ _ rfl
                          have HQP : Hid (qu.hpass = b64) := by rw [hqu.out]; exact HQP.out
                          have ho1 : Hid (o = con9 qu L8) := by rw [hqu.out]; exact ho.out
                          have ho := ho1
                          clear t hR hs ho1
                          rw [con9] at ho
                          cases b64 with
                          | true =>
                            rw [if_pos HQP.out] at ho
                            have v12 : (W8.setCell ⟨g, 13, none⟩ (.string us8)).cell? ⟨g, 12, none⟩ = some (.bool true) := by rw [← HQP.out]; exact HU.out.pk.cell 12
                            go_wp2_with (fail)
                            refine (rtext_calls (W8.setCell ⟨g, 13, none⟩ (.string us8)) r B L8 HU.out.rd).mono ?_
                            rintro e W9 ⟨t, (⟨pw9, L9, hs, rfl, hR⟩ | ⟨hs, rfl⟩)⟩
                            · rw [hs] at ho
                              have H9 : Hid (RS w W9 r g B qu L9) := HU.out.read t hR
                              rw [Option.bind_some] at ho
                              have v14 : W9.cell? ⟨g, 14, none⟩ = some (.string qu.pass) := H9.out.pk.cell 14
                              have z14 := H9.out.pk.frozen 14
                              have HE : Hid (RS w (W9.setCell ⟨g, 14, none⟩ (.string pw9)) r g B { qu with pass := pw9 } L9) := H9.out.set 14 _ _ rfl
                              clear t hR hs
                              go_wp2_with (fail)
                              go_end0
                              exact ⟨HE.out.turn, .inl ⟨_, _, ho.out, rfl, HE.out.pk, HE.out.rd⟩⟩
                            · rw [hs] at ho
                              rw [Option.bind_none] at ho
                              have HF := Lib.hid (HU.out.fail t)
                              clear t hs
                              go_wp2_with (fail)
                              exact ⟨rfl, HF.out, .inr ⟨ho.out, rfl⟩⟩
                          | false =>
                            rw [if_neg (by rw [HQP.out]; decide)] at ho
                            have v12 : (W8.setCell ⟨g, 13, none⟩ (.string us8)).cell? ⟨g, 12, none⟩ = some (.bool false) := by rw [← HQP.out]; exact HU.out.pk.cell 12
                            go_wp2_with (fail)
                            go_end0
                            exact ⟨HU.out.turn, .inl ⟨_, _, ho.out, rfl, HU.out.pk, HU.out.rd⟩⟩
                        · rw [hs] at ho
                          rw [Option.bind_none] at ho
                          have HF := Lib.hid (HS8.out.fail t)
                          clear t hs
                          go_wp2_with (fail)
                          exact ⟨rfl, HF.out, .inr ⟨ho.out, rfl⟩⟩
                      | false =>
                        rw [if_neg (by rw [HQU.out]; decide)] at ho
                        have u11 : (W7.setCell ⟨g, 4, none⟩ (.string py)).cell? ⟨g, 11, none⟩ = some (.bool false) := by rw [← HQU.out]; exact HS8.out.pk.cell 11
                        rw [con9] at ho
                        cases b64 with
                        | true =>
                          rw [if_pos HQP.out] at ho
                          have v12 : (W7.setCell ⟨g, 4, none⟩ (.string py)).cell? ⟨g, 12, none⟩ = some (.bool true) := by rw [← HQP.out]; exact HS8.out.pk.cell 12
                          go_wp2_with (fail)
                          refine (rtext_calls (W7.setCell ⟨g, 4, none⟩ (.string py)) r B L7 HS8.out.rd).mono ?_
                          rintro e W10 ⟨t, (⟨pw10, L10, hs, rfl, hR⟩ | ⟨hs, rfl⟩)⟩
                          · rw [hs] at ho
                            have H10 : Hid (RS w W10 r g B q8 L10) := HS8.out.read t hR
                            rw [Option.bind_some] at ho
                            have v14 : W10.cell? ⟨g, 14, none⟩ = some (.string q8.pass) := H10.out.pk.cell 14
                            have z14 := H10.out.pk.frozen 14
                            have HE : Hid (RS w (W10.setCell ⟨g, 14, none⟩ (.string pw10)) r g B { q8 with pass := pw10 } L10) := H10.out.set 14 _ _ rfl
                            clear t hR hs
                            go_wp2_with (fail)
                            go_end0
                            exact ⟨HE.out.turn, .inl ⟨_, _, ho.out, rfl, HE.out.pk, HE.out.rd⟩⟩
                          · rw [hs] at ho
                            rw [Option.bind_none] at ho
                            have HF := Lib.hid (HS8.out.fail t)
                            clear t hs
                            go_wp2_with (fail)
                            exact ⟨rfl, HF.out, .inr ⟨ho.out, rfl⟩⟩
                        | false =>
                          rw [if_neg (by rw [HQP.out]; decide)] at ho
                          have v12 : (W7.setCell ⟨g, 4, none⟩ (.string py)).cell? ⟨g, 12, none⟩ = some (.bool false) := by rw [← HQP.out]; exact HS8.out.pk.cell 12
                          go_wp2_with (fail)
                          go_end0
                          exact ⟨HS8.out.turn, .inl ⟨_, _, ho.out, rfl, HS8.out.pk, HS8.out.rd⟩⟩
                    · rw [hs] at ho
                      rw [Option.bind_none] at ho
                      have HF := Lib.hid (HS7.out.fail t)
                      clear t hs
                      go_wp2_with (fail)
                      exact ⟨rfl, HF.out, .inr ⟨ho.out, rfl⟩⟩
                  · rw [hs] at ho
                    rw [Option.bind_none] at ho
                    have HF := Lib.hid (HS6.out.fail t)
                    clear t hs
                    go_wp2_with (fail)
                    exact ⟨rfl, HF.out, .inr ⟨ho.out, rfl⟩⟩
                | false =>
                  rw [if_neg (by rw [hqw5.out]; decide)] at ho5
                  have ho := ho5
                  clear ho5 x3 x4 x5 x6 z3 z4 z5 z6
                  rw [con8] at ho
                  cases b128 with
                  | true =>
                    rw [if_pos HQU.out] at ho
                    have u11 : (W5.setCell ⟨g, 7, none⟩ (.string cl)).cell? ⟨g, 11, none⟩ = some (.bool true) := by rw [← HQU.out]; exact HS5.out.pk.cell 11
                    go_wp2_with (fail)
                    refine (rtext_calls (W5.setCell ⟨g, 7, none⟩ (.string cl)) r B L5 HS5.out.rd).mono ?_
                    rintro e W11 ⟨t, (⟨us11, L11, hs, rfl, hR⟩ | ⟨hs, rfl⟩)⟩
                    · rw [hs] at ho
                      have H11 : Hid (RS w W11 r g B q5 L11) := HS5.out.read t hR
                      rw [Option.bind_some] at ho
                      have v13 : W11.cell? ⟨g, 13, none⟩ = some (.string q5.user) := H11.out.pk.cell 13
                      have z13 := H11.out.pk.frozen 13
                      obtain ⟨qu, hqu⟩ : ∃ x : Pkt, Hid (x = { q5 with user := us11 }) := ⟨_, rfl⟩
                      have HU : Hid (RS w (W11.setCell ⟨g, 13, none⟩ (.string us11)) r g B qu L11) := by rw [hqu.out]; exact H11.out.set 13 _ _ rfl
                      have HQP : Hid (qu.hpass = b64) := by rw [hqu.out]; exact HQP.out
                      have ho1 : Hid (o = con9 qu L11) := by rw [hqu.out]; exact ho.out
                      have ho := ho1
                      clear t hR hs ho1
                      rw [con9] at ho
                      cases b64 with
                      | true =>
                        rw [if_pos HQP.out] at ho
                        have v12 : (W11.setCell ⟨g, 13, none⟩ (.string us11)).cell? ⟨g, 12, none⟩ = some (.bool true) := by rw [← HQP.out]; exact HU.out.pk.cell 12
                        go_wp2_with (fail)
                        refine (rtext_calls (W11.setCell ⟨g, 13, none⟩ (.string us11)) r B L11 HU.out.rd).mono ?_
                        rintro e W12 ⟨t, (⟨pw12, L12, hs, rfl, hR⟩ | ⟨hs, rfl⟩)⟩
                        · rw [hs] at ho
                          have H12 : Hid (RS w W12 r g B qu L12) := HU.out.read t hR
                          rw [Option.bind_some] at ho
                          have v14 : W12.cell? ⟨g, 14, none⟩ = some (.string qu.pass) := H12.out.pk.cell 14
                          have z14 := H12.out.pk.frozen 14
                          have HE : Hid (RS w (W12.setCell ⟨g, 14, none⟩ (.string pw12)) r g B { qu with pass := pw12 } L12) := H12.out.set 14 _ _ rfl
                          clear t hR hs
                          go_wp2_with (fail)
                          go_end0
                          exact ⟨HE.out.turn, .inl ⟨_, _, ho.out, rfl, HE.out.pk, HE.out.rd⟩⟩
                        · rw [hs] at ho
                          rw [Option.bind_none] at ho
                          have HF := Lib.hid (HU.out.fail t)
                          clear t hs
                          go_wp2_with (fail)
                          exact ⟨rfl, HF.out, .inr ⟨ho.out, rfl⟩⟩
                      | false =>
                        rw [if_neg (by rw [HQP.out]; decide)] at ho
                        have v12 : (W11.setCell ⟨g, 13, none⟩ (.string us11)).cell? ⟨g, 12, none⟩ = some (.bool false) := by rw [← HQP.out]; exact HU.out.pk.cell 12
                        go_wp2_with (fail)
                        go_end0
                        exact ⟨HU.out.turn, .inl ⟨_, _, ho.out, rfl, HU.out.pk, HU.out.rd⟩⟩
                    · rw [hs] at ho
                      rw [Option.bind_none] at ho
                      have HF := Lib.hid (HS5.out.fail t)
                      clear t hs
                      go_wp2_with (fail)
                      exact ⟨rfl, HF.out, .inr ⟨ho.out, rfl⟩⟩
                  | false =>
                    rw [if_neg (by rw [HQU.out]; decide)] at ho
                    have u11 : (W5.setCell ⟨g, 7, none⟩ (.string cl)).cell? ⟨g, 11, none⟩ = some (.bool false) := by rw [← HQU.out]; exact HS5.out.pk.cell 11
                    rw [con9] at ho
                    cases b64 with
                    | true =>
                      rw [if_pos HQP.out] at ho
                      have v12 : (W5.setCell ⟨g, 7, none⟩ (.string cl)).cell? ⟨g, 12, none⟩ = some (.bool true) := by rw [← HQP.out]; exact HS5.out.pk.cell 12
                      go_wp2_with (fail)
                      refine (rtext_calls (W5.setCell ⟨g, 7, none⟩ (.string cl)) r B L5 HS5.out.rd).mono ?_
                      rintro e W13 ⟨t, (⟨pw13, L13, hs, rfl, hR⟩ | ⟨hs, rfl⟩)⟩
                      · rw [hs] at ho
                        have H13 : Hid (RS w W13 r g B q5 L13) := HS5.out.read t hR
                        rw [Option.bind_some] at ho
                        have v14 : W13.cell? ⟨g, 14, none⟩ = some (.string q5.pass) := H13.out.pk.cell 14
                        have z14 := H13.out.pk.frozen 14
                        have HE : Hid (RS w (W13.setCell ⟨g, 14, none⟩ (.string pw13)) r g B { q5 with pass := pw13 } L13) := H13.out.set 14 _ _ rfl
                        clear t hR hs
                        go_wp2_with (fail)
                        go_end0
                        exact ⟨HE.out.turn, .inl ⟨_, _, ho.out, rfl, HE.out.pk, HE.out.rd⟩⟩
                      · rw [hs] at ho
                        rw [Option.bind_none] at ho
                        have HF := Lib.hid (HS5.out.fail t)
                        clear t hs
                        go_wp2_with (fail)
                        exact ⟨rfl, HF.out, .inr ⟨ho.out, rfl⟩⟩
                    | false =>
                      rw [if_neg (by rw [HQP.out]; decide)] at ho
                      have v12 : (W5.setCell ⟨g, 7, none⟩ (.string cl)).cell? ⟨g, 12, none⟩ = some (.bool false) := by rw [← HQP.out]; exact HS5.out.pk.cell 12
                      go_wp2_with (fail)
                      go_end0
                      exact ⟨HS5.out.turn, .inl ⟨_, _, ho.out, rfl, HS5.out.pk, HS5.out.rd⟩⟩
              · rw [hs] at ho
                rw [Option.bind_none] at ho
                have HF := Lib.hid (HS4.out.fail t)
                clear t hs
                go_wp2_with (fail)
                exact ⟨rfl, HF.out, .inr ⟨ho.out, rfl⟩⟩
            · rw [hs] at ho
              rw [Option.bind_none] at ho
              have HF := Lib.hid (HS.out.fail t)
              clear t hs
              go_wp2_with (fail)
              exact ⟨rfl, HF.out, .inr ⟨ho.out, rfl⟩⟩
          · rw [hs] at ho
            rw [Option.bind_none] at ho
            have HF := Lib.hid (H2.out.fail t)
            clear t hs
            go_wp2_with (fail)
            exact ⟨rfl, HF.out, .inr ⟨ho.out, rfl⟩⟩
        · have hv1 : (v == 4) = false := by simpa using hv
          rw [if_neg hv] at ho
          clear hv t hR hs
          go_wp2_with (fail)
          refine (need_no _).mono ?_
          rintro e w' ⟨rfl, rfl⟩
          go_wp2_with (fail)
          exact ⟨rfl, H2.out.turn, .inr ⟨ho.out, rfl⟩⟩
      · rw [hs] at ho
        rw [Option.bind_none] at ho
        have HF := Lib.hid (H1.out.fail t)
        clear t hs
        go_wp2_with (fail)
        exact ⟨rfl, HF.out, .inr ⟨ho.out, rfl⟩⟩
    · have hm1 : (s.toList == [77, 81, 84, 84]) = false := by simpa using hm
      rw [if_neg hm] at ho
      clear hm t hR hs
      go_wp2_with (fail)
      refine (need_no _).mono ?_
      rintro e w' ⟨rfl, rfl⟩
      go_wp2_with (fail)
      exact ⟨rfl, H1.out.turn, .inr ⟨ho.out, rfl⟩⟩
  · rw [hs] at ho
    rw [Option.bind_none] at ho
    have HF := Lib.hid (H0.out.fail t)
    clear t hs
    go_wp2_with (fail)
    exact ⟨rfl, HF.out, .inr ⟨ho.out, rfl⟩⟩
end Pk
end Go.Proofs.YteigakkghkjakaaDoor

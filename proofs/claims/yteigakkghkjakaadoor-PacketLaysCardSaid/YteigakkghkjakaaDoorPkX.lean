/- The whole packet loaded; packet.body: its plain form; the types without a body, Connect, Connack. packet.body: Connack, Publish. packet.body: Publish. packet.body: the types with an Id, filters, codes. -/
import Derived.Test.YteigakkghkjakaaDoorPkT
import Derived.Deep.RegionHeldLaw
namespace Go.Proofs.YteigakkghkjakaaDoor
open Go.RowKit
set_option linter.unusedVariables false
set_option linter.unusedSimpArgs false
namespace Pk
open Utf (nums nums_length nums_bytes)
open Var (BT info_byte GivesBytes)

theorem load_pkt (W : World) (g : Nat) (p : Pkt) (h : PkAt W g p) : (Instr.loadAt PT (.pointer (some ⟨g, 0, none⟩))).run Tryd.prog W = .ok (.agg p.cells) W := by
  have hl := run_loadCells_list (P := Tryd.prog) W ⟨g, 0, none⟩ p.cells.toList (fun j v hj => by rw [add_plain0, h.cell]; simpa using hj)
  have hs : p.cells.toList.length = 18 := rfl
  rw [hs] at hl
  have h1 : (isAgg PT).run Tryd.prog W = .ok true W := by kernel_rfl
  have h2 : (sizeOf PT).run Tryd.prog W = .ok 18 W := by kernel_rfl
  unfold Instr.loadAt loadVar
  simp only [Instr.sureAddr, Sem.run_bind, Sem.run_pure, Result.andThen_ok, h1, if_true, h2, hl]
/-- The whole packet, as an operation. -/
theorem wp_load_pkt {ops : Array Oper} {rest : List Oper} {o : Oper} {a : Act} {W : World} {Q : Exit → Act → World → Prop} {x : Operand} {g : Nat} {p : Pkt} (hgd : o.guard = none) (ho : o.op = .load PT x) (hx : a.eval x = .pointer (some ⟨g, 0, none⟩)) (h : PkAt W g p)
    (hK : wpList Tryd.prog ops Q rest (a.put o.dst (.agg p.cells)) W) : wpList Tryd.prog ops Q (o :: rest) a W :=
  st_val _ (wanted_free hgd) (rLoad ho (by rw [hx]; exact load_pkt W g p h)) hK

def subB (ty : Int) (s : ByteArray × Int) : List Int := textB s.1 ++ (if ty = 8 then [s.2] else [])
def subsB (ty : Int) (D : List (ByteArray × Int)) : List Int := (D.map (subB ty)).flatten
def bodyB (p : Pkt) (C : List Int) (D : List (ByteArray × Int)) : List Int :=
  if p.ty = 1 then conB p
  else if p.ty = 2 then [bitN p.present 1, lat C 0]
  else if p.ty = 3 then textB p.topic ++ ((if p.qos = 0 then [] else wordB p.id) ++ nums p.payload)
  else if p.ty = 12 ∨ p.ty = 13 ∨ p.ty = 14 then []
  else wordB p.id ++ (subsB p.ty D ++ C)
def flagsN (p : Pkt) : Int :=
  if p.ty = 3 then bitN p.dup 8 + 2 * p.qos + bitN p.retain 1
  else if p.ty = 6 ∨ p.ty = 8 ∨ p.ty = 10 then 2
  else 0
/-- What body gives. -/
def GivesBody (w : World) (L : List Int) (F : Int) (e : Ending) (w' : World) : Prop :=
  ∃ A c, e = .returned (.tuple #[.slice A L.length c, .int .i64 F]) ∧ OwnInts w' w.heap.size BT .u8 (.slice A L.length c) L ∧ Below w.heap.size w w'
theorem gives_body {w w' : World} {A A' : Option Addr} {n m c c' : Nat} {L : List Int} {F : Int} (hO : OwnInts w' w.heap.size BT .u8 (.slice A n c) L) (hn : Value.slice A' m c' = .slice A n c ∨ Value.slice A' m c' = .slice A L.length c) (hB : Below w.heap.size w w') : GivesBody w L F (.returned (.tuple #[.slice A' m c', .int .i64 F])) w' := by
  have hL := (own_reads hO).1
  subst hL
  rcases hn with h | h <;> (injection h with h1 h2 h3; subst h1 h2 h3; exact ⟨A', c', rfl, hO, hB⟩)

structure BodyFit (w : World) (p : Pkt) (C : List Int) (D : List (ByteArray × Int)) : Prop where
  lies : Lies w p C D
  con : p.ty = 1 → ConFit p
  ack : p.ty = 2 → C.length = 1 ∧ 0 ≤ lat C 0 ∧ lat C 0 ≤ 255
  pub : p.ty = 3 → p.topic.size ≤ 65535 ∧ 0 ≤ p.qos ∧ p.qos ≤ 2 ∧ (p.qos ≠ 0 → 0 ≤ p.id ∧ p.id ≤ 65535)
  ids : 4 ≤ p.ty → p.ty ≤ 11 → 0 ≤ p.id ∧ p.id ≤ 65535
  subs : ∀ s ∈ D, s.1.size ≤ 65535 ∧ 0 ≤ s.2 ∧ s.2 ≤ 255
  codes : ∀ c ∈ C, 0 ≤ c ∧ c ≤ 255
  len : (bodyB p C D).length ≤ 70368744177664

set_option maxRecDepth 100000 in
set_option maxHeartbeats 1000000 in
theorem body_none (w : World) (p : Pkt) (C : List Int) (D : List (ByteArray × Int)) (h : p.ty = 12 ∨ p.ty = 13 ∨ p.ty = 14) : Calls Tryd.prog 46 #[.agg p.cells] w fun e w' => GivesBody w (bodyB p C D) (flagsN p) e w' := by
  have e1 : bodyB p C D = [] := by unfold bodyB; rcases h with h | h | h <;> rw [h] <;> rfl
  have e2 : flagsN p = 0 := by unfold flagsN; rcases h with h | h | h <;> rw [h] <;> rfl
  rw [e1, e2]
  have hA := box_at w p
  have h0 : (w.alloc (.cells p.cells PT)).cell? ⟨w.heap.size, 0, none⟩ = some (.int .i64 p.ty) := hA.cell 0
  have HB : Hid (Below w.heap.size w (w.alloc (.cells p.cells PT))) := Below.alloc (Below.refl _ _) (Nat.le_refl _) _
  clear hA e1 e2
  rcases h with h | h | h <;> rw [h] at h0
  all_goals
    go_enter Tryd.func46, Tryd.ntmps46
    go_wp2_with (fail)
    go_ret2
    exact gives_body (OwnInts.nil _ _ _ _) (.inl rfl) HB.out

set_option maxRecDepth 100000 in
set_option maxHeartbeats 1000000 in
theorem body_connect (w : World) (p : Pkt) (C : List Int) (D : List (ByteArray × Int)) (hFit : ConFit p) (h : p.ty = 1) : Calls Tryd.prog 46 #[.agg p.cells] w fun e w' => GivesBody w (bodyB p C D) (flagsN p) e w' := by
  have e1 : bodyB p C D = conB p := by unfold bodyB; rw [h]; rfl
  have e2 : flagsN p = 0 := by unfold flagsN; rw [h]; rfl
  rw [e1, e2]
  have hA := at_box w p
  obtain ⟨W, hW⟩ : ∃ W, Hid (W = w.alloc (.cells p.cells PT)) := ⟨_, rfl⟩
  obtain ⟨g, hg⟩ : ∃ g, Hid (g = w.heap.size) := ⟨_, rfl⟩
  have h0 : (w.alloc (.cells p.cells PT)).cell? ⟨w.heap.size, 0, none⟩ = some (.int .i64 p.ty) := hA.at_.cell 0
  rw [← hW.out, ← hg.out] at hA
  rw [h] at h0
  have HA := Lib.hid hA
  have HFi := Lib.hid hFit
  clear hA e1 e2 hFit
  go_enter Tryd.func46, Tryd.ntmps46
  go_upto_region 3 with (fail)
  rw [← hW.out, ← hg.out]
  go_wp2_with (with_reducible refine wp_load_pkt (o := ⟨some 14, _, _, _, _, _⟩) rfl rfl rfl HA.out.at_ ?_)
  refine (connect_calls W p HFi.out).mono ?_
  rintro e w1 ⟨A1, c1, rfl, ho, hb⟩
  have HO : Hid (OwnInts w1 w.heap.size BT .u8 (.slice A1 (conB p).length c1) (conB p)) := own_mono ho HA.out.lt
  have H1 : Hid (At w w1 g p) := HA.out.old hb
  clear ho hb
  go_wp2_with (fail)
  go_ret2
  exact gives_body HO.out (.inl rfl) H1.out.below
end Pk
end Go.Proofs.YteigakkghkjakaaDoor

namespace Go.Proofs.YteigakkghkjakaaDoor
open Go.RowKit
set_option linter.unusedVariables false
set_option linter.unusedSimpArgs false
namespace Pk
open Utf (nums nums_length nums_bytes)
open Var (BT info_byte GivesBytes)
theorem bitN_range (b : Bool) (n : Int) (h0 : 0 ≤ n) : 0 ≤ bitN b n ∧ bitN b n ≤ n := by
  unfold bitN; cases b <;> simp <;> omega

set_option maxRecDepth 100000 in
set_option maxHeartbeats 1000000 in
theorem body_connack (w : World) (p : Pkt) (C : List Int) (D : List (ByteArray × Int)) (hF : Lies w p C D) (hk : C.length = 1 ∧ 0 ≤ lat C 0 ∧ lat C 0 ≤ 255) (h : p.ty = 2) : Calls Tryd.prog 46 #[.agg p.cells] w fun e w' => GivesBody w (bodyB p C D) (flagsN p) e w' := by
  have e1 : bodyB p C D = [bitN p.present 1, lat C 0] := by unfold bodyB; rw [h]; rfl
  have e2 : flagsN p = 0 := by unfold flagsN; rw [h]; rfl
  rw [e1, e2]
  obtain ⟨c, rfl⟩ : ∃ c, C = [c] := by
    match C, hk.1 with
    | [c], _ => exact ⟨c, rfl⟩
  obtain ⟨Ac, cc, hc, hR⟩ := hF.codes
  have hlat : lat [c] 0 = c := rfl
  rw [hlat] at hk ⊢
  have hw2 := wrap_u8 c hk.2.1 hk.2.2
  have hw1 := wrap_u8 (bitN p.present 1) (bitN_range _ _ (by decide)).1 (by have := (bitN_range p.present 1 (by decide)).2; omega)
  have hA := at_box w p
  have hR' := hR.keep hA.below
  obtain ⟨W, hW⟩ : ∃ W, Hid (W = w.alloc (.cells p.cells PT)) := ⟨_, rfl⟩
  obtain ⟨g, hg⟩ : ∃ g, Hid (g = w.heap.size) := ⟨_, rfl⟩
  have h0 : (w.alloc (.cells p.cells PT)).cell? ⟨w.heap.size, 0, none⟩ = some (.int .i64 p.ty) := hA.at_.cell 0
  rw [← hW.out] at hR'
  rw [← hW.out, ← hg.out] at hA
  rw [h] at h0
  have k16 : W.cell? ⟨g, 16, none⟩ = some (.slice Ac [c].length cc) := by rw [← hc]; exact hA.at_.cell 16
  have k15 : W.cell? ⟨g, 15, none⟩ = some (.bool p.present) := hA.at_.cell 15
  obtain ⟨x, rfl, hx⟩ := hR' (by simp)
  have hx0 : W.cell? x = some (.int .i64 c) := by
    have := hx 0 (by simp)
    have h1 : x.add 0 = x := by simp [Addr.add]
    rw [h1] at this
    exact this
  obtain ⟨b1, hb1⟩ : ∃ b1, b1 = bitN p.present 1 := ⟨_, rfl⟩
  have HA := Lib.hid hA
  have HK : Hid (∀ W', Turn (fun _ => False) W W' → W'.cell? ⟨g, 15, none⟩ = some (.bool p.present) ∧ W'.cell? ⟨g, 16, none⟩ = some (.slice (some x) 1 cc) ∧ W'.cell? x = some (.int .i64 c)) := by
    intro W' ht
    exact ⟨ht.cell k15 (fun h => h), ht.cell k16 (fun h => h), ht.cell hx0 (fun h => h)⟩
  clear hA hR hR' hx e1 e2 hk hlat
  go_enter Tryd.func46, Tryd.ntmps46
  go_upto_region 5 with (fail)
  rw [← hW.out, ← hg.out]
  have HT0 : Turn (fun _ => False) W W.drew := Turn.drew (Turn.refl _ _)
  go_region_held (fun W' => W'.cell? ⟨g, 15, none⟩ = some (.bool p.present) ∧ W'.cell? ⟨g, 16, none⟩ = some (.slice (some x) 1 cc) ∧ W'.cell? x = some (.int .i64 c))
    (first | exact HK.out _ HT0 | exact HK.out _ (HT0.trans (Turn.alloc _ _)))
    (first | (go_at_call 71; refine (bit_calls _ _ _).mono ?_; rintro e w2 ⟨rfl, rfl⟩))
  go_wp2_with (fail)
  go_ret2
  have hown : OwnInts (W.alloc (.cells #[.int .u8 (bitN p.present 1), .int .u8 c] BT)).drew w.heap.size BT .u8 (.slice (some ⟨W.heap.size, 0, none⟩) 2 2) [bitN p.present 1, c] :=
    own_of_heap (cur := #[.int .u8 (bitN p.present 1), .int .u8 c]) (heap_new W _) HA.out.lt rfl (Nat.le_refl _) (by decide) rfl rfl
  exact gives_body hown (.inl rfl) (HA.out.alloc (.cells #[.int .u8 (bitN p.present 1), .int .u8 c] BT)).drew.below

def pubF (p : Pkt) : Int := bits .or .i64 (bits .or .i64 (bitN p.dup 8) (p.qos * 2)) (bitN p.retain 1)
theorem pubF_eq (p : Pkt) (hq : 0 ≤ p.qos ∧ p.qos ≤ 2) : pubF p = bitN p.dup 8 + 2 * p.qos + bitN p.retain 1 := by
  unfold pubF
  have h : p.qos = 0 ∨ p.qos = 1 ∨ p.qos = 2 := by omega
  rcases h with h | h | h <;> rw [h] <;> cases p.dup <;> cases p.retain <;> rfl

/-- 'append(v, s...)', s a string, as a step of a region that draws its order. -/
theorem step_append_str {ops : Array Oper} {o : Oper} {a : Act} {K : Act → World → Prop} {Q : Exit → Act → World → Prop} {E : Prop} {W : World} (base : Nat) (hgd : o.guard = none) (s x : Operand)
    (ho : o.op = .call { callee := .builtin .append, args := #[s, x], argTypes := #[22, 9] })
    (v : Value) (L : List Int) (S : ByteArray) (hs : a.eval s = v) (hx : a.eval x = .string S)
    (HO : OwnInts W base BT .u8 v L) (hbase : base ≤ W.heap.size) (hn : L.length + S.size ≤ 140737488355328)
    (hK : ∀ A1 n1 c1 w1, Hid (OwnInts w1 base BT .u8 (.slice A1 n1 c1) (L ++ nums S)) → Turn (fun j => v.ownBlock = some j) W w1 → K (a.put o.dst (.slice A1 n1 c1)) w1) :
    if Region.wanted o (yielded ops a.tmps) = true then Oper.wp Tryd.prog o a W K Q else E := by
  have hw : Region.wanted o (yielded ops a.tmps) = true := by simp [Region.wanted, hgd]
  rw [if_pos hw]
  obtain ⟨i0, hi, hzz⟩ := Option.map_eq_some_iff.1 info_byte
  simp only [Prod.mk.injEq] at hzz
  obtain ⟨hz0, hz1, hz2⟩ := hzz
  obtain ⟨v', w', hr, h2, h3, h4⟩ := Lib.run_append_own_string (P := Tryd.prog) W base 22 9 o.type BT i0 Tryd.underlying22 Tryd.underlying9 hi hz0 hz1 hz2 v L.length _ HO S (by simp only [maxLen]; omega) hn hbase
  unfold Oper.wp execOp
  simp only [ho, resolve, invoke, builtin, Sem.run_bind, Sem.run_pure, Result.andThen_ok, List.map_toArray, List.map_cons, List.map_nil, hs, hx, hr]
  have h5 : OwnInts w' base BT .u8 v' (L ++ nums S) := by
    rw [strCells_nums] at h2
    unfold OwnInts
    rw [List.length_append, nums_length, List.map_append]
    exact h2
  obtain ⟨A1, c1, hv, _⟩ := h5.form
  subst hv
  exact hK A1 _ c1 w' h5 (Turn.of_grownBy h3 (fun k e => e))

end Pk
end Go.Proofs.YteigakkghkjakaaDoor

namespace Go.Proofs.YteigakkghkjakaaDoor
open Go.RowKit
set_option linter.unusedVariables false
set_option linter.unusedSimpArgs false
namespace Pk
open Utf (nums nums_length nums_bytes)
open Var (BT info_byte GivesBytes)

set_option maxRecDepth 100000 in
set_option maxHeartbeats 1000000 in
theorem body_publish (w : World) (p : Pkt) (C : List Int) (D : List (ByteArray × Int)) (hp : p.topic.size ≤ 65535 ∧ 0 ≤ p.qos ∧ p.qos ≤ 2 ∧ (p.qos ≠ 0 → 0 ≤ p.id ∧ p.id ≤ 65535)) (hlen : (bodyB p C D).length ≤ 70368744177664) (h : p.ty = 3) : Calls Tryd.prog 46 #[.agg p.cells] w fun e w' => GivesBody w (bodyB p C D) (flagsN p) e w' := by
  have e1 : bodyB p C D = textB p.topic ++ ((if p.qos = 0 then [] else wordB p.id) ++ nums p.payload) := by unfold bodyB; rw [h]; rfl
  have e2 : flagsN p = pubF p := by rw [pubF_eq p ⟨hp.2.1, hp.2.2.1⟩]; unfold flagsN; rw [h]; rfl
  rw [e1] at hlen
  rw [e1, e2]
  have hsz : Hid (p.payload.size ≤ 70368744177664) := by
    rw [List.length_append, List.length_append, nums_length] at hlen
    rw [Hid]; omega
  have hA := at_box w p
  obtain ⟨W, hW⟩ : ∃ W, Hid (W = w.alloc (.cells p.cells PT)) := ⟨_, rfl⟩
  obtain ⟨g, hg⟩ : ∃ g, Hid (g = w.heap.size) := ⟨_, rfl⟩
  have h0 : (w.alloc (.cells p.cells PT)).cell? ⟨w.heap.size, 0, none⟩ = some (.int .i64 p.ty) := hA.at_.cell 0
  rw [← hW.out, ← hg.out] at hA
  rw [h] at h0
  have k3 : W.cell? ⟨g, 3, none⟩ = some (.string p.topic) := hA.at_.cell 3
  obtain ⟨M, hM⟩ : ∃ M, Hid (M = textB p.topic ++ ((if p.qos = 0 then [] else wordB p.id) ++ nums p.payload)) := ⟨_, rfl⟩
  rw [← hM.out]
  obtain ⟨F, hFe⟩ : ∃ F, Hid (F = pubF p) := ⟨_, rfl⟩
  rw [← hFe.out]
  have HA := Lib.hid hA
  have HP := Lib.hid hp
  obtain ⟨hq0, hq2⟩ : 0 ≤ p.qos ∧ p.qos ≤ 2 := ⟨hp.2.1, hp.2.2.1⟩
  clear hA e1 e2 hp hlen
  go_enter Tryd.func46, Tryd.ntmps46
  go_upto_region 7 with (fail)
  rw [← hW.out, ← hg.out]
  clear h0
  go_wp2_with (fail)
  refine text_one w W none 0 0 [] g p p.topic _ (OwnInts.nil _ _ _ _) HA.out HP.out.1 (by decide) ?_
  intro A1 n1 c1 w1 HO1 HB1
  rw [List.nil_append] at HO1
  have m5 : w1.cell? ⟨g, 5, none⟩ = some (.int .i64 p.qos) := HB1.out.at_.cell 5
  have ht2 : Hid ((textB p.topic).length ≤ 65537) := by rw [Hid, textB_length]; have := HP.out.1; omega
  clear k3
  obtain ⟨Lp, hLp⟩ : ∃ Lp, Hid (Lp = textB p.topic ++ (if p.qos = 0 then [] else wordB p.id)) := ⟨_, rfl⟩
  have hMp : Hid (Lp ++ nums p.payload = M) := by rw [hM.out, hLp.out, List.append_assoc, Hid]
  have hLl : Hid (Lp.length ≤ 65539) := by
    rw [hLp.out, Hid, List.length_append]
    have := ht2.out
    split
    · simp; omega
    · rw [wordB_length]; omega
  go_upto_if 38 with (fail)
  go_cut [4] (fun v wx => ∃ A n c, v = .slice A n c ∧ Hid (OwnInts wx (w.heap.size + 1) BT .u8 (.slice A n c) Lp) ∧ Hid (At w wx g p))
  case first =>
    by_cases hz : p.qos = 0
    · have hd : decide (0 < p.qos) = false := decide_eq_false (by omega)
      have e : Hid (Lp = textB p.topic) := by rw [hLp.out, if_pos hz, List.append_nil, Hid]
      rw [hz] at m5
      go_wp2_with (fail)
      go_meet
      exact ⟨A1, n1, c1, rfl, by rw [e.out]; exact HO1, HB1⟩
    · have hd : decide (0 < p.qos) = true := decide_eq_true (by omega)
      have e : Hid (Lp = textB p.topic ++ wordB p.id) := by rw [hLp.out, if_neg hz, Hid]
      have m2 : w1.cell? ⟨g, 2, none⟩ = some (.int .i64 p.id) := HB1.out.at_.cell 2
      obtain ⟨rfl, _, hr1, _⟩ := own_reads HO1.out
      have HW := Lib.hid (word_calls w1 A1 (textB p.topic) c1 hr1 (by have := ht2.out; omega) p.id (HP.out.2.2.2 hz).1 (HP.out.2.2.2 hz).2)
      clear hr1
      go_wp2_with (fail)
      refine HW.out.mono ?_
      rintro e w2 ⟨A2, c2, rfl, ho, hb⟩
      have HO2 : Hid (OwnInts w2 (w.heap.size + 1) BT .u8 (.slice A2 (textB p.topic ++ wordB p.id).length c2) (textB p.topic ++ wordB p.id)) := own_mono ho HB1.out.lt1
      have HB2 : Hid (At w w2 g p) := HB1.out.old hb
      clear ho hb
      go_wp2_with (fail)
      go_meet
      refine ⟨A2, _, c2, rfl, ?_, HB2⟩
      rw [e.out]
      simpa using HO2
  case rest =>
    obtain ⟨A2, n2, c2, rfl, HO2, HB2⟩ := hcut
    clear m5 HO1 HB1
    go_upto_region 10 with (fail)
    have HK : Hid (∀ W', At w W' g p → W'.cell? ⟨g, 4, none⟩ = some (.string p.payload) ∧ W'.cell? ⟨g, 1, none⟩ = some (.bool p.dup) ∧ W'.cell? ⟨g, 5, none⟩ = some (.int .i64 p.qos) ∧ W'.cell? ⟨g, 6, none⟩ = some (.bool p.retain)) :=
      fun W' ha => ⟨ha.at_.cell 4, ha.at_.cell 1, ha.at_.cell 5, ha.at_.cell 6⟩
    have hwq : IntKind.i64.wrap (p.qos * 2) = p.qos * 2 := by rw [IntKind.wrap_i64]; omega
    have HBX : At w wc.drew g p := HB2.out.drew
    have HOX : Hid (OwnInts wc.drew (w.heap.size + 1) BT .u8 (.slice A2 n2 c2) Lp) := HO2.out.turn (Turn.drew (Turn.refl (fun _ => False) _)) (fun _ _ h => h)
    have hfit : Hid (Lp.length + p.payload.size ≤ 140737488355328) := by have := hLl.out; have := hsz.out; rw [Hid]; omega
    go_region_held_law (fun W' => W'.cell? ⟨g, 4, none⟩ = some (.string p.payload) ∧ W'.cell? ⟨g, 1, none⟩ = some (.bool p.dup) ∧ W'.cell? ⟨g, 5, none⟩ = some (.int .i64 p.qos) ∧ W'.cell? ⟨g, 6, none⟩ = some (.bool p.retain))
      (first | exact HK.out _ HB3.out | exact HK.out _ HBX)
      (first
        | (refine step_append_str (w.heap.size + 1) rfl _ _ rfl _ Lp p.payload rfl rfl HOX.out HBX.lt1 hfit.out ?_
           intro A3 n3 c3 w3 HO3 ht3
           have HB3 : Hid (At w w3 g p) := HBX.grow ht3 (fun k hk => (own_block_ge HOX.out k hk).1)
           clear ht3)
        | (go_at_call 71; refine (bit_calls _ _ _).mono ?_; rintro e w4 ⟨rfl, rfl⟩))
    all_goals
      go_wp2_with (fail)
      go_ret2
      rw [hFe.out, ← hMp.out]
      exact gives_body (oi_mono HO3.out (by omega) rfl) (.inl rfl) HB3.out.below
end Pk
end Go.Proofs.YteigakkghkjakaaDoor

namespace Go.Proofs.YteigakkghkjakaaDoor
open Go.RowKit
set_option linter.unusedVariables false
set_option linter.unusedSimpArgs false
namespace Pk
open Utf (nums nums_length nums_bytes)
open Var (BT info_byte GivesBytes)

theorem text_one' (w W : World) (A : Option Addr) (n c : Nat) (L : List Int) (g : Nat) (p : Pkt) (s : ByteArray) (R : Ending → World → Prop) (hO : OwnInts W (w.heap.size + 1) BT .u8 (.slice A n c) L) (hA : At w W g p) (hs : s.size ≤ 65535) (hL : L.length ≤ 140737488200000) (hK : ∀ A1 n1 c1 w1, Hid (OwnInts w1 (w.heap.size + 1) BT .u8 (.slice A1 n1 c1) (L ++ textB s)) → Hid (At w w1 g p) → Hid (Below W.heap.size W w1) → R (.returned (.slice A1 n1 c1)) w1) :
    Calls Tryd.prog 72 #[.slice A n c, .slice (some ⟨W.heap.size, 0, none⟩) 1 1] (W.alloc (.cells #[.string s] 9)) R := by
  have hf : flatT [s] = textB s := by simp [flatT]
  have hA1 := hA.alloc (.cells #[.string s] 9)
  have ho := own_reads (own_alloc hO (.cells #[.string s] 9))
  obtain ⟨rfl, _, hr, _⟩ := ho
  refine (text_calls _ A L c (some ⟨W.heap.size, 0, none⟩) [s] 1 hr (reads_str_lit W [s] #[.string s] rfl) (by simp) (by simp) (fun x hx => by simp at hx; subst hx; exact hs) (by rw [hf, textB_length]; omega)).mono ?_
  rintro e w1 ⟨A1, c1, rfl, ho1, hb⟩
  rw [hf] at ho1 ⊢
  exact hK A1 _ c1 w1 (own_mono ho1 hA1.lt1) (hA1.old hb) ((Below.alloc (Below.refl _ _) (Nat.le_refl _) _).trans (hb.mono (by simp)))

theorem subsB_snoc (t : Int) (D : List (ByteArray × Int)) (k : Nat) (h : k < D.length) : subsB t (D.take (k + 1)) = subsB t (D.take k) ++ subB t D[k] := by
  rw [subsB, subsB, List.take_succ_eq_append_getElem h, List.map_append, List.flatten_append]
  congr 1
  simp
theorem subsB_le (t : Int) (D : List (ByteArray × Int)) (k : Nat) : (subsB t (D.take k)).length ≤ (subsB t D).length := by
  have h : subsB t D = subsB t (D.take k) ++ subsB t (D.drop k) := by
    rw [subsB, subsB, subsB, ← List.flatten_append, ← List.map_append, List.take_append_drop]
  rw [h, List.length_append]; omega

set_option maxRecDepth 100000 in
set_option maxHeartbeats 2000000 in
theorem body_rest (w : World) (p : Pkt) (C : List Int) (D : List (ByteArray × Int)) (hF : Lies w p C D) (hid : 0 ≤ p.id ∧ p.id ≤ 65535) (hsub : ∀ s ∈ D, s.1.size ≤ 65535 ∧ 0 ≤ s.2 ∧ s.2 ≤ 255) (hcod : ∀ c ∈ C, 0 ≤ c ∧ c ≤ 255) (hlen : (bodyB p C D).length ≤ 70368744177664) (h : 4 ≤ p.ty ∧ p.ty ≤ 11) : Calls Tryd.prog 46 #[.agg p.cells] w fun e w' => GivesBody w (bodyB p C D) (flagsN p) e w' := by
  have e1 : bodyB p C D = wordB p.id ++ (subsB p.ty D ++ C) := by unfold bodyB; rw [if_neg (by omega), if_neg (by omega), if_neg (by omega), if_neg (by omega)]
  have e2 : flagsN p = if p.ty = 6 ∨ p.ty = 8 ∨ p.ty = 10 then 2 else 0 := by unfold flagsN; rw [if_neg (by omega)]
  obtain ⟨M, hM⟩ : ∃ M, Hid (M = wordB p.id ++ (subsB p.ty D ++ C)) := ⟨_, rfl⟩
  obtain ⟨F, hFe⟩ : ∃ F, Hid (F = flagsN p) := ⟨_, rfl⟩
  rw [e1, ← hM.out] at hlen ⊢
  rw [← hFe.out]
  rw [← hFe.out] at e2
  have HM := Lib.hid hlen
  have HE2 := Lib.hid e2
  have hML : Hid (2 + (subsB p.ty D).length + C.length = M.length) := by rw [hM.out, Hid, List.length_append, List.length_append, wordB_length]; omega
  obtain ⟨Ac, cc, hc, hR⟩ := hF.codes
  obtain ⟨As, cs, hs, hS⟩ := hF.subs
  have hA := at_box w p
  obtain ⟨W, hW⟩ : ∃ W, Hid (W = w.alloc (.cells p.cells PT)) := ⟨_, rfl⟩
  obtain ⟨g, hg⟩ : ∃ g, Hid (g = w.heap.size) := ⟨_, rfl⟩
  have h0 : (w.alloc (.cells p.cells PT)).cell? ⟨w.heap.size, 0, none⟩ = some (.int .i64 p.ty) := hA.at_.cell 0
  rw [← hW.out, ← hg.out] at hA
  have HA := Lib.hid hA
  have HR := Lib.hid hR
  have HS := Lib.hid hS
  have HSU := Lib.hid hsub
  have HCO := Lib.hid hcod
  have hBC := hF.lenC
  have hBD := hF.lenD
  have x1 : (p.ty == 1) = false := by simp; omega
  have x2 : (p.ty == 2) = false := by simp; omega
  have x3 : (p.ty == 3) = false := by simp; omega
  have x12 : (p.ty == 12) = false := by simp; omega
  have x13 : (p.ty == 13) = false := by simp; omega
  have x14 : (p.ty == 14) = false := by simp; omega
  have k2 : W.cell? ⟨g, 2, none⟩ = some (.int .i64 p.id) := hA.at_.cell 2
  have HW0 := Lib.hid (word_calls W none [] 0 (reads_none _) (by decide) p.id hid.1 hid.2)
  clear hA hR hS hsub hcod hF hlen e1 e2 hid
  go_enter Tryd.func46, Tryd.ntmps46
  go_upto_region 15 with (fail)
  rw [← hW.out, ← hg.out]
  clear h0
  go_wp2_with (fail)
  refine HW0.out.mono ?_
  rintro e w1 ⟨A1, c1, rfl, ho, hb⟩
  have HO1 : Hid (OwnInts w1 (w.heap.size + 1) BT .u8 (.slice A1 2 c1) (wordB p.id)) := own_mono ho HA.out.lt1
  have HB1 : Hid (At w w1 g p) := HA.out.old hb
  have k17 : w1.cell? ⟨g, 17, none⟩ = some (.slice As D.length cs) := by rw [← hs]; exact HB1.out.at_.cell 17
  clear ho hb k2
  go_wp2_with (fail)
  go_loopw [5, 71] (fun t x wr => ∃ (k : Nat) (A : Option Addr) (n c : Nat), k ≤ D.length ∧ x = .int .i64 k ∧ t = .slice A n c ∧ Hid (OwnInts wr (w.heap.size + 1) BT .u8 (.slice A n c) (wordB p.id ++ subsB p.ty (D.take k))) ∧ Hid (At w wr g p)) (fun _ x _ => D.length - (intOf x).toNat)
  case atStart => exact ⟨0, A1, _, c1, Nat.zero_le _, rfl, rfl, (by rw [List.take_zero, show subsB p.ty [] = [] from rfl, List.append_nil]; exact HO1), HB1⟩
  case round =>
    obtain ⟨k, A, n, c, hk, rfl, rfl, HO, HB⟩ := hrel
    have hkb : (k : Int) ≤ 1000000000000000000 := by omega
    obtain ⟨L, hL⟩ : ∃ L, Hid (L = wordB p.id ++ subsB p.ty (D.take k)) := ⟨_, rfl⟩
    rw [← hL.out] at HO
    have hLl : Hid (L.length ≤ 70368744177664) := by
      have h1 := subsB_le p.ty D k
      have h2 := hML.out
      have h3 := HM.out
      rw [hL.out, Hid, List.length_append, wordB_length]; omega
    by_cases hkl : k < D.length
    · have HRR : Hid (ReadsSub wr As D) := HS.out.keep HB.out.below
      obtain ⟨x, hxe, hx⟩ := HRR.out (by omega)
      subst hxe
      obtain ⟨hx1, hx2⟩ := hx k hkl
      obtain ⟨s, q, hce⟩ : ∃ s q, Hid (D[k]'hkl = (s, q)) := ⟨(D[k]'hkl).1, (D[k]'hkl).2, by rw [Hid]⟩
      have hfit := HSU.out (D[k]'hkl) (List.getElem_mem hkl)
      rw [hce.out] at hx1 hx2 hfit
      obtain ⟨hs1, hq0, hq1⟩ := hfit
      rw [Nat.mul_comm] at hx1
      rw [add_next] at hx2
      have hnx : Hid (L ++ subB p.ty (s, q) = wordB p.id ++ subsB p.ty (D.take (k + 1))) := by rw [hL.out, subsB_snoc _ _ _ hkl, hce.out, List.append_assoc]; exact rfl
      have HBA : Hid (At w (wr.alloc (.cells #[.string s, .int .i64 q] 76)) g p) := HB.out.alloc _
      have HOA : Hid (OwnInts (wr.alloc (.cells #[.string s, .int .i64 q] 76)) (w.heap.size + 1) BT .u8 (.slice A n c) L) := own_alloc HO.out _
      have hnew := heap_new wr (.cells #[.string s, .int .i64 q] 76)
      have hnlt : wr.heap.size < (wr.alloc (.cells #[.string s, .int .i64 q] 76)).heap.size := by simp
      obtain ⟨Wa, hWa⟩ : ∃ Wa, Hid (Wa = wr.alloc (.cells #[.string s, .int .i64 q] 76)) := ⟨_, rfl⟩
      obtain ⟨b, hbs⟩ : ∃ b, Hid (b = wr.heap.size) := ⟨_, rfl⟩
      clear hx
      go_upto_region 19 with (fail)
      rw [← hWa.out, ← hbs.out]
      rw [← hWa.out, ← hbs.out] at hnew hnlt
      rw [← hWa.out] at HBA HOA
      have cb0 : Wa.cell? ⟨b, 0, none⟩ = some (.string s) := by rw [cell_heap hnew]; rfl
      have cb1 : Wa.cell? ⟨b, 1, none⟩ = some (.int .i64 q) := by rw [cell_heap hnew]; rfl
      clear hnew hx1 hx2 k17
      go_wp2_with (fail)
      refine text_one' w Wa A n c L g p s _ HOA.out HBA.out hs1 (by have := hLl.out; omega) ?_
      intro A2 n2 c2 w2 HO2 HB2 HW2
      have l0 : w2.cell? ⟨g, 0, none⟩ = some (.int .i64 p.ty) := HB2.out.at_.cell 0
      have cc1 : w2.cell? ⟨b, 1, none⟩ = some (.int .i64 q) := by rw [HW2.out.cell hnlt]; exact cb1
      obtain ⟨L2, hL2⟩ : ∃ L2, Hid (L2 = L ++ textB s) := ⟨_, rfl⟩
      rw [← hL2.out] at HO2
      have hn2 := (own_reads HO2.out).1
      subst hn2
      have hL2l : Hid (L2.length + 1 ≤ 140737488355328 ∧ (L2.length + 1) * 1 ≤ 140737488355328) := by
        have := hLl.out
        rw [Hid, hL2.out, List.length_append, textB_length]
        exact ⟨by omega, by omega⟩
      clear cb0 cb1 hnlt HW2 HOA HBA
      by_cases h8 : p.ty = 8
      · have e8 : (p.ty == 8) = true := by simpa using h8
        have hnx2 : Hid (L2 ++ [q] = wordB p.id ++ subsB p.ty (D.take (k + 1))) := by rw [← hnx.out, hL2.out, subB, if_pos h8, List.append_assoc, Hid]
        rw [h8] at l0
        have hwq := wrap_u8 q hq0 hq1
        clear h8
        go_wp2_with (at_builtin; go_must (refine wp_append_int w2 (w.heap.size + 1) rfl _ _ 22 5 .u8 1 rfl Tryd.underlying22 info_byte (.slice A2 L2.length c2) L2 q rfl _ rfl (heap_new w2 _) (Nat.le_refl _) (Turn.alloc w2 _) HO2.out HB2.out.lt1 hL2l.out ?_))
        intro g3 c3 w3 hown3 ht3 _ _
        have HO3 := Lib.hid hown3
        have HB3 : Hid (At w w3 g p) := HB2.out.grow ht3 (fun j hj => (own_block_ge HO2.out j hj).1)
        clear hown3 ht3
        go_wp2_with (fail)
        go_roundw
        case rel => exact ⟨k + 1, _, _, c3, by omega, by go_num, rfl, by rw [← hnx2.out]; exact HO3, HB3⟩
        case measure => simp [intOf]; omega
      · have e8 : (p.ty == 8) = false := by simpa using h8
        have hnx2 : Hid (L2 = wordB p.id ++ subsB p.ty (D.take (k + 1))) := by rw [← hnx.out, hL2.out, subB, if_neg h8, List.append_nil, Hid]
        clear h8
        go_wp2_with (fail)
        go_roundw
        case rel => exact ⟨k + 1, A2, _, c2, by omega, by go_num, rfl, by rw [← hnx2.out]; exact HO2, HB2⟩
        case measure => simp [intOf]; omega
    · have hke : k = D.length := by omega
      subst hke
      rw [List.take_length] at hL
      have hn := (own_reads HO.out).1
      subst hn
      have k16 : wr.cell? ⟨g, 16, none⟩ = some (.slice Ac C.length cc) := by rw [← hc]; exact HB.out.at_.cell 16
      clear k17
      go_wp2_with (fail)
      go_loopw [5, 93] (fun t x wr => ∃ (j : Nat) (A5 : Option Addr) (n5 c5 : Nat), j ≤ C.length ∧ x = .int .i64 j ∧ t = .slice A5 n5 c5 ∧ Hid (OwnInts wr (w.heap.size + 1) BT .u8 (.slice A5 n5 c5) (L ++ C.take j)) ∧ Hid (At w wr g p)) (fun _ x _ => C.length - (intOf x).toNat)
      case atStart => exact ⟨0, A, _, c, Nat.zero_le _, rfl, rfl, (by rw [List.take_zero, List.append_nil]; exact HO), HB⟩
      case round =>
        obtain ⟨j, A5, n5, c5, hj, rfl, rfl, HO5, HB5⟩ := hrel
        have hjb : (j : Int) ≤ 1000000000000000000 := by omega
        obtain ⟨L5, hL5⟩ : ∃ L5, Hid (L5 = L ++ C.take j) := ⟨_, rfl⟩
        rw [← hL5.out] at HO5
        have hn5 := (own_reads HO5.out).1
        subst hn5
        have hL5l : Hid (L5.length + 1 ≤ 140737488355328 ∧ (L5.length + 1) * 1 ≤ 140737488355328) := by
          have h1 := hML.out
          have h2 := HM.out
          have h3 : (C.take j).length ≤ C.length := by rw [List.length_take]; omega
          rw [Hid, hL5.out, hL.out, List.length_append, List.length_append, wordB_length]
          exact ⟨by omega, by omega⟩
        by_cases hjl : j < C.length
        · obtain ⟨x, hxe, hx⟩ := HR.out.keep HB5.out.below (by omega)
          subst hxe
          have hxj := hx j hjl
          obtain ⟨y, hy⟩ : ∃ y, Hid (y = lat C j) := ⟨_, rfl⟩
          obtain ⟨hy0, hy1⟩ := HCO.out (lat C j) (lat_mem C j hjl)
          rw [← hy.out] at hxj hy0 hy1
          have hwy := wrap_u8 y hy0 hy1
          have hnx5 : Hid (L5 ++ [y] = L ++ C.take (j + 1)) := by rw [hL5.out, hy.out, take_lat C j hjl, List.append_assoc, Hid]
          clear hx
          go_wp2_with (at_builtin; go_must (refine wp_append_int wr (w.heap.size + 1) rfl _ _ 22 5 .u8 1 rfl Tryd.underlying22 info_byte (.slice A5 L5.length c5) L5 y rfl _ rfl (heap_new wr _) (Nat.le_refl _) (Turn.alloc wr _) HO5.out HB5.out.lt1 hL5l.out ?_))
          intro g6 c6 w6 hown6 ht6 _ _
          have HO6 := Lib.hid hown6
          have HB6 : Hid (At w w6 g p) := HB5.out.grow ht6 (fun j hj => (own_block_ge HO5.out j hj).1)
          clear hown6 ht6
          go_wp2_with (fail)
          go_roundw
          case rel => exact ⟨j + 1, _, _, c6, by omega, by go_num, rfl, by rw [← hnx5.out]; exact HO6, HB6⟩
          case measure => simp [intOf]; omega
        · have hje : j = C.length := by omega
          subst hje
          rw [List.take_length] at hL5
          have hfin : Hid (L5 = M) := by rw [hL5.out, hL.out, hM.out, List.append_assoc, Hid]
          have l0 : wr.cell? ⟨g, 0, none⟩ = some (.int .i64 p.ty) := HB5.out.at_.cell 0
          by_cases h6 : p.ty = 6
          · have e6 : (p.ty == 6) = true := by simpa using h6
            have hF2 : Hid (F = bitN true 2) := by rw [HE2.out, if_pos (.inl h6)]; exact rfl
            clear h6
            go_wp2_with (fail)
            refine (bit_calls _ _ _).mono ?_
            rintro e w' ⟨rfl, rfl⟩
            go_wp2_with (fail)
            go_ret2
            rw [hF2.out, ← hfin.out]
            exact gives_body (oi_mono HO5.out (by omega) rfl) (.inl rfl) HB5.out.below
          · have e6 : (p.ty == 6) = false := by simpa using h6
            by_cases h8 : p.ty = 8
            · have e8 : (p.ty == 8) = true := by simpa using h8
              have hF2 : Hid (F = bitN true 2) := by rw [HE2.out, if_pos (.inr (.inl h8))]; exact rfl
              clear h6 h8
              go_wp2_with (fail)
              refine (bit_calls _ _ _).mono ?_
              rintro e w' ⟨rfl, rfl⟩
              go_wp2_with (fail)
              go_ret2
              rw [hF2.out, ← hfin.out]
              exact gives_body (oi_mono HO5.out (by omega) rfl) (.inl rfl) HB5.out.below
            · have e8 : (p.ty == 8) = false := by simpa using h8
              by_cases h10 : p.ty = 10
              · have e10 : (p.ty == 10) = true := by simpa using h10
                have hF2 : Hid (F = bitN true 2) := by rw [HE2.out, if_pos (.inr (.inr h10))]; exact rfl
                clear h6 h8 h10
                go_wp2_with (fail)
                refine (bit_calls _ _ _).mono ?_
                rintro e w' ⟨rfl, rfl⟩
                go_wp2_with (fail)
                go_ret2
                rw [hF2.out, ← hfin.out]
                exact gives_body (oi_mono HO5.out (by omega) rfl) (.inl rfl) HB5.out.below
              · have e10 : (p.ty == 10) = false := by simpa using h10
                have hF2 : Hid (F = bitN false 2) := by rw [HE2.out, if_neg (by omega)]; exact rfl
                clear h6 h8 h10
                go_wp2_with (fail)
                refine (bit_calls _ _ _).mono ?_
                rintro e w' ⟨rfl, rfl⟩
                go_wp2_with (fail)
                go_ret2
                rw [hF2.out, ← hfin.out]
                exact gives_body (oi_mono HO5.out (by omega) rfl) (.inl rfl) HB5.out.below
end Pk
end Go.Proofs.YteigakkghkjakaaDoor

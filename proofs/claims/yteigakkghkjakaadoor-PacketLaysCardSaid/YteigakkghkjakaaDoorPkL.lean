/- packet.check: the types without fields, and those with an Id alone. packet.check: the types with an Id alone. packet.check: a Publish. packet.check: a Connack. -/
import Derived.Test.YteigakkghkjakaaDoorPkH
import Derived.Test.YteigakkghkjakaaDoorPkD
namespace Go.Proofs.YteigakkghkjakaaDoor
open Go.RowKit
set_option linter.unusedVariables false
set_option linter.unusedSimpArgs false
namespace Pk
def rowLen : Value → Nat
  | .slice _ l _ => l
  | _ => 0
/-- Whether a packet may be, as check has it: C its codes, D its filters. -/
def Good (p : Pkt) (C : List Int) (D : List (ByteArray × Int)) : Prop := 1 ≤ p.ty ∧ p.ty ≤ 14 ∧ Ok p C D ∧ p.after.zero (rowLen p.after.codes) (rowLen p.after.subs) = true
/-- What check does. -/
def Checks (w : World) (ok : Prop) (e : Ending) (w' : World) : Prop := Below w.heap.size w w' ∧ ((ok ∧ e = .returned (.tuple #[])) ∨ (¬ ok ∧ e = badP))

theorem below_of_turn {w w' : World} (h : Turn (fun k => k = w.heap.size) (w.alloc (.cells #[] PT)) w') : True := trivial

set_option maxRecDepth 100000 in
set_option maxHeartbeats 3000000 in
theorem check_none (w : World) (p : Pkt) (C : List Int) (D : List (ByteArray × Int)) (lc cc ls cs : Nat) (Ac As : Option Addr) (hc : p.codes = .slice Ac lc cc) (hs : p.subs = .slice As ls cs) (hb : p.client.size + p.user.size + p.pass.size ≤ 9223372036854775807) (h : p.ty = 12 ∨ p.ty = 13 ∨ p.ty = 14) : Calls Tryd.prog 45 #[.agg p.cells] w fun e w' => Checks w (Good p C D) e w' := by
  have hmf : ∀ (fn : Fn) (first cap : Array Value) (w : World), (Instr.makeFunc fn first cap).run Tryd.prog w = .ok (.func fn first cap) w := fun _ _ _ _ => rfl
  have hG : Hid (Good p C D ↔ p.zero lc ls = true) := by
    have ha : p.after = p := by
      unfold Pkt.after
      rcases h with h | h | h <;> rw [h] <;> rfl
    have hl : rowLen p.codes = lc := by rw [hc]; rfl
    have hl2 : rowLen p.subs = ls := by rw [hs]; rfl
    unfold Good Ok
    rw [ha, hl, hl2]
    refine ⟨fun x => x.2.2.2, fun x => ⟨by omega, by omega, ⟨by omega, by omega, by omega, by omega, by omega, by omega⟩, x⟩⟩
  have hA := box_at w p
  obtain ⟨W, hW⟩ : ∃ W, Hid (W = w.alloc (.cells p.cells PT)) := ⟨_, rfl⟩
  obtain ⟨g, hg⟩ : ∃ g, Hid (g = w.heap.size) := ⟨_, rfl⟩
  have hBW : Hid (Below w.heap.size w W) := by rw [hW.out]; exact Below.alloc (Below.refl _ _) (Nat.le_refl _) _
  have hA' := hA
  rw [← hW.out, ← hg.out] at hA'
  have HA := Lib.hid hA'
  have HB := Lib.hid hb
  clear hb
  have h0 : (w.alloc (.cells p.cells PT)).cell? ⟨w.heap.size, 0, none⟩ = some (.int .i64 p.ty) := hA.cell 0
  clear hA hA'
  go_enter Tryd.func45, Tryd.ntmps45
  go_wp2_with (fail)
  refine (within_yes _ _ _ _ (by omega)).mono ?_
  rintro e w1 ⟨rfl, rfl⟩
  rw [← hW.out, ← hg.out] at h0 ⊢
  rcases h with h | h | h <;> rw [h] at h0 ⊢
  all_goals
    go_upto_region 50 with (fail)
    refine zero_region W g p lc cc ls cs Ac As hc hs HA.out HB.out _ (fun hz => ?_) (fun hz => ?_) _ (by kernel_rfl) _ rfl rfl rfl
    · exact ⟨hBW.out, .inl ⟨hG.out.2 hz, rfl⟩⟩
    · exact ⟨hBW.out, .inr ⟨fun hx => by rw [hG.out.1 hx] at hz; exact absurd hz (by decide), rfl⟩⟩

end Pk
end Go.Proofs.YteigakkghkjakaaDoor

namespace Go.Proofs.YteigakkghkjakaaDoor
open Go.RowKit
set_option linter.unusedVariables false
set_option linter.unusedSimpArgs false
namespace Pk

/-- Where check stands: only its own packet, in block g, has been turned; it is q now. -/
structure At (w W : World) (g : Nat) (q : Pkt) : Prop where
  eq : g = w.heap.size
  lt : w.heap.size ≤ W.heap.size
  below : Below w.heap.size w W
  at_ : PkAt W g q

theorem at_box (w : World) (p : Pkt) : At w (w.alloc (.cells p.cells PT)) w.heap.size p :=
  ⟨rfl, by simp, Below.alloc (Below.refl _ _) (Nat.le_refl _) _, box_at w p⟩
theorem At.turn {w W W' : World} {g : Nat} {p q : Pkt} (h : At w W g p) (t : Turn (fun k => k = g) W W') (hq : PkAt W' g q) : At w W' g q :=
  ⟨h.eq, Nat.le_trans h.lt t.size, Turn.belowTrans h.below t h.lt (fun k hk hx => by have := h.eq; omega), hq⟩
theorem At.old {w W W' : World} {g : Nat} {p : Pkt} (h : At w W g p) (t : Below W.heap.size W W') : At w W' g p :=
  ⟨h.eq, Nat.le_trans h.lt t.size, Turn.belowTrans (S := fun _ => False) h.below (Turn.of_below t) h.lt (fun k hk hx => hx), h.at_.keep (Turn.of_below (S := fun _ => False) t) (fun h => h)⟩
theorem At.fail {w W W' : World} {g : Nat} {p : Pkt} (h : At w W g p) (t : Turn (fun k => k = g) W W') : Below w.heap.size w W' :=
  Turn.belowTrans h.below t h.lt (fun k hk hx => by have := h.eq; omega)
theorem At.set {w W : World} {g : Nat} {p : Pkt} (h : At w W g p) (i : Nat) (v : Value) (q : Pkt) (hq : p.cells.setIfInBounds i v = q.cells) : At w (W.setCell ⟨g, i, none⟩ v) g q :=
  h.turn (Turn.setCell W _ rfl) (h.at_.set i v q hq)

/-- The last region, where check's packet has become q. -/
theorem zero_ends (w W : World) (g : Nat) (p q : Pkt) (C : List Int) (D : List (ByteArray × Int)) (hA : At w W g q) (hsl : ∃ A l c, q.codes = .slice A l c) (hsu : ∃ A l c, q.subs = .slice A l c) (hb : q.client.size + q.user.size + q.pass.size ≤ 9223372036854775807)
    (hG : Good p C D ↔ q.zero (rowLen q.codes) (rowLen q.subs) = true) (ops : Array Oper) (hops : ops = zops) (a : Act) (hsz : a.tmps.size = 254) (hdf : a.defers = []) (h1 : a.eval (.tmp 1) = .pointer (some ⟨g, 0, none⟩)) :
    (Code.region 50 ops false).wp Tryd.prog (bodyPost Tryd.prog Tryd.f45 fun e w' => Checks w (Good p C D) e w') a W := by
  obtain ⟨Ac, lc, cc, hc⟩ := hsl
  obtain ⟨As, ls, cs, hs⟩ := hsu
  have h1' : rowLen q.codes = lc := by rw [hc]; rfl
  have h2' : rowLen q.subs = ls := by rw [hs]; rfl
  rw [h1', h2'] at hG
  refine zero_region W g q lc cc ls cs Ac As hc hs hA.at_ hb _ (fun hz => ?_) (fun hz => ?_) ops hops a hsz hdf h1
  · exact ⟨hA.below, .inl ⟨hG.2 hz, rfl⟩⟩
  · exact ⟨hA.below, .inr ⟨fun hx => by rw [hG.1 hx] at hz; exact absurd hz (by decide), rfl⟩⟩

/-- The rows of a packet, its strings' sizes. -/
structure Fit (p : Pkt) : Prop where
  codes : ∃ A l c, p.codes = .slice A l c
  subs : ∃ A l c, p.subs = .slice A l c
  strs : p.client.size + p.user.size + p.pass.size ≤ 9223372036854775807

set_option maxRecDepth 100000 in
set_option maxHeartbeats 3000000 in
theorem check_id (w : World) (p : Pkt) (C : List Int) (D : List (ByteArray × Int)) (hF : Fit p) (h : p.ty = 4 ∨ p.ty = 5 ∨ p.ty = 6 ∨ p.ty = 7 ∨ p.ty = 11) : Calls Tryd.prog 45 #[.agg p.cells] w fun e w' => Checks w (Good p C D) e w' := by
  have hmf : ∀ (fn : Fn) (first cap : Array Value) (w : World), (Instr.makeFunc fn first cap).run Tryd.prog w = .ok (.func fn first cap) w := fun _ _ _ _ => rfl
  have hG : Hid (Good p C D ↔ IdOk p ∧ p.noId.zero (rowLen p.noId.codes) (rowLen p.noId.subs) = true) := by
    have ha : p.after = p.noId := by
      unfold Pkt.after
      rcases h with h | h | h | h | h <;> rw [h] <;> rfl
    unfold Good Ok
    rw [ha]
    exact ⟨fun x => ⟨x.2.2.1.2.2.2.1 (by omega) (by omega), x.2.2.2⟩, fun x => ⟨by omega, by omega, ⟨by omega, by omega, by omega, fun _ _ => x.1, by omega, by omega⟩, x.2⟩⟩
  have HF := Lib.hid hF
  have hA := at_box w p
  obtain ⟨W, hW⟩ : ∃ W, Hid (W = w.alloc (.cells p.cells PT)) := ⟨_, rfl⟩
  obtain ⟨g, hg⟩ : ∃ g, Hid (g = w.heap.size) := ⟨_, rfl⟩
  have h0 : (w.alloc (.cells p.cells PT)).cell? ⟨w.heap.size, 0, none⟩ = some (.int .i64 p.ty) := hA.at_.cell 0
  rw [← hW.out, ← hg.out] at hA
  have HA := Lib.hid hA
  clear hA hF
  go_enter Tryd.func45, Tryd.ntmps45
  go_wp2_with (fail)
  refine (within_yes _ _ _ _ (by omega)).mono ?_
  rintro e w1 ⟨rfl, rfl⟩
  rw [← hW.out, ← hg.out] at h0 ⊢
  rcases h with h | h | h | h | h <;> rw [h] at h0 ⊢
  all_goals
    go_wp2_with (fail)
    refine (id_calls W g p HA.out.at_).mono ?_
    rintro e W1 ⟨ht, (⟨hi, rfl, hp⟩ | ⟨hi, rfl⟩)⟩
    · have H1 : Hid (At w W1 g p.noId) := HA.out.turn ht hp
      have HI := Lib.hid hi
      clear ht hp hi
      go_upto_region 50 with (fail)
      exact zero_ends w W1 g p p.noId C D H1.out HF.out.codes HF.out.subs HF.out.strs ⟨fun x => (hG.out.1 x).2, fun x => hG.out.2 ⟨HI.out, x⟩⟩ _ (by kernel_rfl) _ rfl rfl rfl
    · have H1 : Hid (Below w.heap.size w W1) := HA.out.fail ht
      have HI := Lib.hid hi
      clear ht hi
      go_wp2_with (fail)
      exact ⟨rfl, H1.out, .inr ⟨fun x => HI.out (hG.out.1 x).1, rfl⟩⟩
end Pk
end Go.Proofs.YteigakkghkjakaaDoor

namespace Go.Proofs.YteigakkghkjakaaDoor
open Go.RowKit
set_option linter.unusedVariables false
set_option linter.unusedSimpArgs false
namespace Pk

theorem At.tabs {w W : World} {g : Nat} {p : Pkt} (h : At w W g p) (hT : Lib.Utf8Tabs 0 1 w) : Lib.Utf8Tabs 0 1 W := Utf.tabs_keep hT h.below

set_option maxRecDepth 100000 in
set_option maxHeartbeats 3000000 in
theorem check_publish (w : World) (hT : Lib.Utf8Tabs 0 1 w) (p : Pkt) (C : List Int) (D : List (ByteArray × Int)) (hF : Fit p) (h : p.ty = 3) : Calls Tryd.prog 45 #[.agg p.cells] w fun e w' => Checks w (Good p C D) e w' := by
  have hmf : ∀ (fn : Fn) (first cap : Array Value) (w : World), (Instr.makeFunc fn first cap).run Tryd.prog w = .ok (.func fn first cap) w := fun _ _ _ _ => rfl
  have hG : Hid (Good p C D ↔ ((p.qos ≠ 0 → IdOk p) ∧ MsgOk p) ∧ p.after.zero (rowLen p.after.codes) (rowLen p.after.subs) = true) := by
    unfold Good Ok
    exact ⟨fun x => ⟨x.2.2.1.2.2.1 h, x.2.2.2⟩, fun x => ⟨by omega, by omega, ⟨by omega, by omega, fun _ => x.1, by omega, by omega, by omega⟩, x.2⟩⟩
  have hf : Hid (p.after = (if p.qos = 0 then p else { p.noId with dup := false }).noMsg) := by
    unfold Pkt.after Hid
    rw [h]; rfl
  have HF := Lib.hid hF
  have hA := at_box w p
  obtain ⟨W, hW⟩ : ∃ W, Hid (W = w.alloc (.cells p.cells PT)) := ⟨_, rfl⟩
  obtain ⟨g, hg⟩ : ∃ g, Hid (g = w.heap.size) := ⟨_, rfl⟩
  have h0 : (w.alloc (.cells p.cells PT)).cell? ⟨w.heap.size, 0, none⟩ = some (.int .i64 p.ty) := hA.at_.cell 0
  rw [← hW.out, ← hg.out] at hA
  have HA := Lib.hid hA
  have HT := Lib.hid hT
  clear hA hF hT
  go_enter Tryd.func45, Tryd.ntmps45
  go_wp2_with (fail)
  refine (within_yes _ _ _ _ (by omega)).mono ?_
  rintro e w1 ⟨rfl, rfl⟩
  rw [← hW.out, ← hg.out] at h0 ⊢
  rw [h] at h0
  have k5 : W.cell? ⟨g, 5, none⟩ = some (.int .i64 p.qos) := HA.out.at_.cell 5
  by_cases hq : p.qos = 0
  · rw [hq] at k5
    have HQ := Lib.hid hq
    clear hq
    go_wp2_with (fail)
    refine (message_calls W (HA.out.tabs HT.out) g p HA.out.at_).mono ?_
    rintro e W1 ⟨ht, (⟨hi, rfl, hp⟩ | ⟨hi, rfl⟩)⟩
    · have H1 : Hid (At w W1 g p.noMsg) := HA.out.turn ht hp
      have HI := Lib.hid hi
      clear ht hp hi
      go_upto_region 50 with (fail)
      have hae : p.after = p.noMsg := by rw [hf.out, if_pos HQ.out]
      rw [hae] at hG
      exact zero_ends w W1 g p p.noMsg C D H1.out HF.out.codes HF.out.subs HF.out.strs ⟨fun x => (hG.out.1 x).2, fun x => hG.out.2 ⟨⟨fun h => absurd HQ.out h, HI.out⟩, x⟩⟩ _ (by kernel_rfl) _ rfl rfl rfl
    · have H1 : Hid (Below w.heap.size w W1) := HA.out.fail ht
      have HI := Lib.hid hi
      clear ht hi
      go_wp2_with (fail)
      exact ⟨rfl, H1.out, .inr ⟨fun x => HI.out (hG.out.1 x).1.2, rfl⟩⟩
  · have hq1 : (p.qos == 0) = false := by simpa using hq
    have hq2 : (p.qos != 0) = true := by simpa using hq
    have HQ := Lib.hid hq
    clear hq
    go_wp2_with (fail)
    refine (id_calls W g p HA.out.at_).mono ?_
    rintro e W1 ⟨ht, (⟨hi, rfl, hp⟩ | ⟨hi, rfl⟩)⟩
    · have H1 : Hid (At w W1 g p.noId) := HA.out.turn ht hp
      have HI := Lib.hid hi
      clear ht hp hi
      have k1 : W1.cell? ⟨g, 1, none⟩ = some (.bool p.dup) := H1.out.at_.cell 1
      have f1 := H1.out.at_.frozen 1
      have H2 : Hid (At w (W1.setCell ⟨g, 1, none⟩ (.bool false)) g { p.noId with dup := false }) := H1.out.set 1 (.bool false) _ rfl
      go_wp2_with (fail)
      refine (message_calls _ (H2.out.tabs HT.out) g _ H2.out.at_).mono ?_
      rintro e W3 ⟨ht, (⟨hi, rfl, hp⟩ | ⟨hi, rfl⟩)⟩
      · have H3 : Hid (At w W3 g ({ p.noId with dup := false } : Pkt).noMsg) := H2.out.turn ht hp
        have HM := Lib.hid hi
        clear ht hp hi H2
        go_upto_region 50 with (fail)
        have hae : p.after = ({ p.noId with dup := false } : Pkt).noMsg := by rw [hf.out, if_neg HQ.out]
        rw [hae] at hG
        exact zero_ends w W3 g p _ C D H3.out HF.out.codes HF.out.subs HF.out.strs ⟨fun x => (hG.out.1 x).2, fun x => hG.out.2 ⟨⟨fun h => HI.out, HM.out⟩, x⟩⟩ _ (by kernel_rfl) _ rfl rfl rfl
      · have H3 : Hid (Below w.heap.size w W3) := H2.out.fail ht
        have HM := Lib.hid hi
        clear ht hi H2
        go_wp2_with (fail)
        exact ⟨rfl, H3.out, .inr ⟨fun x => HM.out (hG.out.1 x).1.2, rfl⟩⟩
    · have H1 : Hid (Below w.heap.size w W1) := HA.out.fail ht
      have HI := Lib.hid hi
      clear ht hi
      go_wp2_with (fail)
      exact ⟨rfl, H1.out, .inr ⟨fun x => HI.out ((hG.out.1 x).1.1 HQ.out), rfl⟩⟩
end Pk
end Go.Proofs.YteigakkghkjakaaDoor

namespace Go.Proofs.YteigakkghkjakaaDoor
open Go.RowKit
set_option linter.unusedVariables false
set_option linter.unusedSimpArgs false
namespace Pk

/-- A packet's rows read as C, D. -/
def ReadsSub (w : World) (A : Option Addr) (D : List (ByteArray × Int)) : Prop :=
  0 < D.length → ∃ x, A = some x ∧ ∀ i (h : i < D.length), w.cell? (x.add (2 * i)) = some (.string D[i].1) ∧ w.cell? (x.add (2 * i + 1)) = some (.int .i64 D[i].2)
structure Lies (w : World) (p : Pkt) (C : List Int) (D : List (ByteArray × Int)) : Prop where
  codes : ∃ A c, p.codes = .slice A C.length c ∧ Reads .i64 w A C
  subs : ∃ A c, p.subs = .slice A D.length c ∧ ReadsSub w A D
  strs : p.client.size + p.user.size + p.pass.size ≤ 9223372036854775807
  lenC : (C.length : Int) ≤ 1000000000000000000
  lenD : (D.length : Int) ≤ 1000000000000000000
theorem Lies.fit {w : World} {p : Pkt} {C : List Int} {D : List (ByteArray × Int)} (h : Lies w p C D) : Fit p := by
  obtain ⟨⟨A, c, h1, _⟩, ⟨B, d, h2, _⟩, h3, _, _⟩ := h
  exact ⟨⟨_, _, _, h1⟩, ⟨_, _, _, h2⟩, h3⟩
theorem ReadsSub.keep {w w' : World} {A : Option Addr} {D : List (ByteArray × Int)} (h : ReadsSub w A D) (b : Below w.heap.size w w') : ReadsSub w' A D := by
  intro h0
  obtain ⟨x, hx, hc⟩ := h h0
  refine ⟨x, hx, fun i hi => ?_⟩
  obtain ⟨h1, h2⟩ := hc i hi
  exact ⟨by rw [b.cell (World.block_lt_of_cell? w _ h1)]; exact h1, by rw [b.cell (World.block_lt_of_cell? w _ h2)]; exact h2⟩

set_option maxRecDepth 100000 in
set_option maxHeartbeats 3000000 in
theorem check_connack (w : World) (p : Pkt) (C : List Int) (D : List (ByteArray × Int)) (hF : Lies w p C D) (h : p.ty = 2) : Calls Tryd.prog 45 #[.agg p.cells] w fun e w' => Checks w (Good p C D) e w' := by
  have hmf : ∀ (fn : Fn) (first cap : Array Value) (w : World), (Instr.makeFunc fn first cap).run Tryd.prog w = .ok (.func fn first cap) w := fun _ _ _ _ => rfl
  have ha : p.after = { p.noCodes with present := false } := by
    unfold Pkt.after
    rw [h]; rfl
  have hG : Hid (Good p C D ↔ (C.length = 1 ∧ 0 ≤ lat C 0 ∧ lat C 0 ≤ 5 ∧ (p.present = false ∨ lat C 0 = 0)) ∧ Pkt.zero { p.noCodes with present := false } 0 (rowLen p.subs) = true) := by
    unfold Good Ok
    rw [ha]
    exact ⟨fun x => ⟨x.2.2.1.2.1 h, x.2.2.2⟩, fun x => ⟨by omega, by omega, ⟨by omega, fun _ => x.1, by omega, by omega, by omega, by omega⟩, x.2⟩⟩
  obtain ⟨Ac, cc, hc, hR⟩ := hF.codes
  have HF := Lib.hid hF
  have hA := at_box w p
  have hR' := hR.keep hA.below
  obtain ⟨W, hW⟩ : ∃ W, Hid (W = w.alloc (.cells p.cells PT)) := ⟨_, rfl⟩
  obtain ⟨g, hg⟩ : ∃ g, Hid (g = w.heap.size) := ⟨_, rfl⟩
  have h0 : (w.alloc (.cells p.cells PT)).cell? ⟨w.heap.size, 0, none⟩ = some (.int .i64 p.ty) := hA.at_.cell 0
  rw [← hW.out] at hR'
  rw [← hW.out, ← hg.out] at hA
  have k16 : W.cell? ⟨g, 16, none⟩ = some (.slice Ac C.length cc) := by rw [← hc]; exact hA.at_.cell 16
  have k15 : W.cell? ⟨g, 15, none⟩ = some (.bool p.present) := hA.at_.cell 15
  have f16 := hA.at_.frozen 16
  have f15 := hA.at_.frozen 15
  have HA := Lib.hid hA
  clear hA hF hR ha
  go_enter Tryd.func45, Tryd.ntmps45
  go_wp2_with (fail)
  refine (within_yes _ _ _ _ (by omega)).mono ?_
  rintro e w1 ⟨rfl, rfl⟩
  rw [← hW.out, ← hg.out] at h0 ⊢
  rw [h] at h0
  by_cases hl : C.length = 1
  · obtain ⟨c, rfl⟩ : ∃ c, C = [c] := by
      match C, hl with
      | [c], _ => exact ⟨c, rfl⟩
    obtain ⟨x, rfl, hx⟩ := hR' (by simp)
    have hx0 : W.cell? x = some (.int .i64 c) := by
      have := hx 0 (by simp)
      have h1 : x.add 0 = x := by simp [Addr.add]
      rw [h1] at this
      exact this
    clear hx hR' hl
    have hlat : lat [c] 0 = c := rfl
    rw [hlat] at hG
    go_wp2_with (fail)
    refine (need_yes _).mono ?_
    rintro e w' ⟨rfl, rfl⟩
    go_wp2_with (fail)
    by_cases hw : 0 ≤ c ∧ c ≤ 5
    · refine (within_yes _ _ _ _ hw).mono ?_
      rintro e w' ⟨rfl, rfl⟩
      have HW := Lib.hid hw
      clear hw
      have Hend : Hid (At w ((W.setCell ⟨g, 16, none⟩ (.slice none 0 0)).setCell ⟨g, 15, none⟩ (.bool false)) g { p.noCodes with present := false }) :=
        (HA.out.set 16 (.slice none 0 0) p.noCodes rfl).set 15 (.bool false) _ rfl
      cases hp : p.present with
      | false =>
        rw [hp] at k15
        go_wp2_with (fail)
        refine (need_yes _).mono ?_
        rintro e w' ⟨rfl, rfl⟩
        go_upto_region 50 with (fail)
        exact zero_ends w _ g p _ _ D Hend.out ⟨_, _, _, rfl⟩ HF.out.fit.subs HF.out.strs ⟨fun x => (hG.out.1 x).2, fun x => hG.out.2 ⟨⟨rfl, HW.out.1, HW.out.2, .inl hp⟩, x⟩⟩ _ (by kernel_rfl) _ rfl rfl rfl
      | true =>
        rw [hp] at k15
        by_cases h00 : c = 0
        · have e0 : (c == 0) = true := by simpa using h00
          have H0 := Lib.hid h00
          clear h00
          go_wp2_with (fail)
          refine (need_yes _).mono ?_
          rintro e w' ⟨rfl, rfl⟩
          go_upto_region 50 with (fail)
          exact zero_ends w _ g p _ _ D Hend.out ⟨_, _, _, rfl⟩ HF.out.fit.subs HF.out.strs ⟨fun x => (hG.out.1 x).2, fun x => hG.out.2 ⟨⟨rfl, HW.out.1, HW.out.2, .inr H0.out⟩, x⟩⟩ _ (by kernel_rfl) _ rfl rfl rfl
        · have e0 : (c == 0) = false := by simpa using h00
          have H0 := Lib.hid h00
          clear h00
          go_wp2_with (fail)
          refine (need_no _).mono ?_
          rintro e w' ⟨rfl, rfl⟩
          go_wp2_with (fail)
          refine ⟨rfl, HA.out.below, .inr ⟨fun x => ?_, rfl⟩⟩
          rcases (hG.out.1 x).1.2.2.2 with y | y
          · rw [hp] at y; cases y
          · exact H0.out y
    · refine (within_no _ _ _ _ hw).mono ?_
      rintro e w' ⟨rfl, rfl⟩
      have HW := Lib.hid hw
      clear hw
      go_wp2_with (fail)
      exact ⟨rfl, HA.out.below, .inr ⟨fun x => HW.out ⟨(hG.out.1 x).1.2.1, (hG.out.1 x).1.2.2.1⟩, rfl⟩⟩
  · have hl1 : ((C.length : Int) == 1) = false := by simp; omega
    have hl2 : (C.length == 1) = false := by simpa using hl
    have HL := Lib.hid hl
    clear hl
    go_wp2_with (fail)
    refine (need_no _).mono ?_
    rintro e w' ⟨rfl, rfl⟩
    go_wp2_with (fail)
    exact ⟨rfl, HA.out.below, .inr ⟨fun x => HL.out (hG.out.1 x).1.1, rfl⟩⟩
end Pk
end Go.Proofs.YteigakkghkjakaaDoor

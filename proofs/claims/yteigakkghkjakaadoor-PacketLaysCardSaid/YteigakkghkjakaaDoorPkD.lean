/- packet: need, within, full; through (defer, recover). A packet as a record; its cells; the closures of check. packet.check. A region that is not drawn, walked over any frame: the step. -/
import Derived.Test.YteigakkghkjakaaDoorUtfD
import Derived.Test.YteigakkghkjakaaDoorVarE
import Derived.Defers
import Derived.Recover
import Derived.WalkLawsBesides
import Derived.Deep.RegionHeld
import Derived.Deep.CutRange
import Derived.Deep.DeepCutAuto
import Derived.Deep.Cut
import Derived.BigFrame
namespace Go.Proofs.YteigakkghkjakaaDoor
open Go.RowKit
set_option linter.unusedVariables false
set_option linter.unusedSimpArgs false
namespace Pk

/-- What reading and checking give up with. -/
abbrev badV : Value := .iface 93 (.agg #[])
abbrev badP : Ending := .panicked [{ v := badV, recovered := false }]

theorem need_yes (w : World) : Calls Tryd.prog 35 #[.bool true] w fun e w' => e = .returned (.tuple #[]) ∧ w = w' := by
  go_enter Tryd.func35, Tryd.ntmps35
  go_wp2_with (fail)
  go_end0
  exact ⟨rfl, rfl⟩
theorem need_no (w : World) : Calls Tryd.prog 35 #[.bool false] w fun e w' => e = badP ∧ w = w' := by
  go_enter Tryd.func35, Tryd.ntmps35
  go_wp2_with (fail)
  exact ⟨rfl, rfl, rfl⟩

theorem assert_bad (w : World) : (Instr.typeAssert badV 20 93 true).run Tryd.prog w = .ok (.tuple #[.agg #[], .bool true]) w := by kernel_rfl
theorem assert_nil (w : World) : (Instr.typeAssert .nilIface 20 93 true).run Tryd.prog w = .ok (.tuple #[.agg #[], .bool false]) w := by kernel_rfl

set_option maxRecDepth 100000 in
theorem catch_panicking (p : Addr) (b : Bool) (older : List PanicEntry) (w : World) (hc : w.cell? p = some (.bool b)) (hz : w.frozen? p = false) :
    CallsD Tryd.prog 59 #[.pointer (some p)] (.panicking ({ v := badV, recovered := false } :: older)) w fun e u' w' =>
      e = .returned (.tuple #[]) ∧ u' = .panicking ({ v := badV, recovered := true } :: older) ∧ ∃ o, w' = (w.alloc o).setCell p (.bool false) := by
  refine callsD_of_wpS Tryd.func59 rfl fun c₀ cs hu => ?_
  apply wpS_seq
  apply wpS_region
  simp [wpOpsS, go_sem, recoverD, hu, Tryd.ntmps59, Exit.thenS, assert_bad]
  apply wpS_seq
  apply wpS_region
  simp [wpOpsS, go_sem, Exit.thenS]
  refine wpS_cond (t := true) (by simp [Act.eval, Array.replicate]) ?_
  simp only [if_true]
  apply wpS_region
  have hcA : (w.alloc (.cells #[] 93)).cell? p = some (.bool b) := by rw [World.cell?_alloc_some _ _ _ (by rw [hc]; rfl)]; exact hc
  have hzA : (w.alloc (.cells #[] 93)).frozen? p = false := by rw [Turn.frozen (S := fun _ => False) (Turn.alloc w _) (World.block_lt_of_cell? w p hc) (fun h => h)]; exact hz
  simp [wpOpsS, go_sem, hcA, hzA, bodyPostS, results, Tryd.results59]
  exact ⟨_, rfl⟩

set_option maxRecDepth 100000 in
theorem catch_idle (p : Addr) (w : World) :
    CallsD Tryd.prog 59 #[.pointer (some p)] .returning w fun e u' w' =>
      e = .returned (.tuple #[]) ∧ u' = .returning ∧ ∃ o, w' = w.alloc o := by
  refine callsD_of_wpS Tryd.func59 rfl fun c₀ cs hu => ?_
  apply wpS_seq
  apply wpS_region
  simp [wpOpsS, go_sem, recoverD, hu, Tryd.ntmps59, Exit.thenS, assert_nil]
  apply wpS_seq
  apply wpS_region
  simp [wpOpsS, go_sem, Exit.thenS]
  refine wpS_cond (t := false) (by simp [Act.eval, Array.replicate]) ?_
  simp only [Bool.false_eq_true, if_false]
  refine wpS_of_wp (wp_skip ?_)
  cases c₀
  simp_all [bodyPostS, results, Tryd.results59]
  exact ⟨_, rfl⟩

set_option maxRecDepth 100000 in
theorem through_calls (F : FuncId) (cap : Array Value) (w : World) (S : Nat → Prop) (hS : ¬ S w.heap.size) (Qok Qno : World → Prop)
    (hE : ∀ args w, (callFunc F args).run Tryd.prog w = .ok (.enter F args) w)
    (hC : Calls Tryd.prog F cap (w.alloc (.cells #[.bool false] 4)) fun e w1 => Turn S (w.alloc (.cells #[.bool false] 4)) w1 ∧ ((e = .returned (.tuple #[]) ∧ Qok w1) ∨ (e = badP ∧ Qno w1))) :
    Calls Tryd.prog 32 #[.func (.func F) #[] cap] w fun e w' => ∃ w1, Turn S (w.alloc (.cells #[.bool false] 4)) w1 ∧ Turn (fun k => k = w.heap.size) w1 w' ∧
      ((e = .returned (.bool true) ∧ Qok w1) ∨ (e = .returned (.bool false) ∧ Qno w1)) := by
  have hmf : ∀ (fn : Fn) (first cap : Array Value) (w : World), (Instr.makeFunc fn first cap).run Tryd.prog w = .ok (.func fn first cap) w := fun _ _ _ _ => rfl
  have HC := Lib.hid hC
  clear hC
  go_enter_defers Tryd.func32, Tryd.ntmps32
  go_wp2_with (fail)
  refine HC.out.mono ?_
  rintro e w1 ⟨ht, (⟨rfl, hq⟩ | ⟨rfl, hq⟩)⟩
  · have hcell : w1.cell? ⟨w.heap.size, 0, none⟩ = some (.bool false) := ht.cell (by rw [cell_heap (heap_new _ _)]; rfl) hS
    have hfr : w1.frozen? ⟨w.heap.size, 0, none⟩ = false := by rw [ht.frozen (by simp) hS]; exact frozen_heap (heap_new _ _)
    have hlt : w.heap.size < w1.heap.size := Nat.lt_of_lt_of_le (by simp) ht.size
    have HTq := Lib.hid (And.intro ht hq)
    clear ht hq
    go_wp2_with (fail)
    refine leaves_cons (f := 59) (args := #[.pointer (some ⟨w.heap.size, 0, none⟩)]) (by simp) (by simp [go_sem]) ?_
    refine (catch_idle ⟨w.heap.size, 0, none⟩ _).mono ?_
    rintro e u' w'' ⟨rfl, rfl, o, rfl⟩
    have hc1 : (w1.setCell ⟨w.heap.size, 0, none⟩ (.bool true)).cell? ⟨w.heap.size, 0, none⟩ = some (.bool true) := World.cell?_setCell_same _ _ _ hcell
    have hc2 : ((w1.setCell ⟨w.heap.size, 0, none⟩ (.bool true)).alloc o).cell? ⟨w.heap.size, 0, none⟩ = some (.bool true) := by rw [World.cell?_alloc_some _ _ _ (by rw [hc1]; rfl)]; exact hc1
    simp [Leaves, settle, results, Tryd.results32, go_sem, hc2]
    exact ⟨w1, HTq.out.1, (Turn.setCell (S := fun k => k = w.heap.size) w1 (p := ⟨w.heap.size, 0, none⟩) _ rfl).trans (Turn.alloc _ _), HTq.out.2⟩
  · have hcell : w1.cell? ⟨w.heap.size, 0, none⟩ = some (.bool false) := ht.cell (by rw [cell_heap (heap_new _ _)]; rfl) hS
    have hfr : w1.frozen? ⟨w.heap.size, 0, none⟩ = false := by rw [ht.frozen (by simp) hS]; exact frozen_heap (heap_new _ _)
    have hlt : w.heap.size < w1.heap.size := Nat.lt_of_lt_of_le (by simp) ht.size
    have HTq := Lib.hid (And.intro ht hq)
    clear ht hq
    go_wp2_with (fail)
    refine leaves_cons (f := 59) (args := #[.pointer (some ⟨w.heap.size, 0, none⟩)]) (by simp) (by simp [go_sem]) ?_
    refine (catch_panicking ⟨w.heap.size, 0, none⟩ false [] _ hcell hfr).mono ?_
    rintro e u' w'' ⟨rfl, rfl, o, rfl⟩
    have hc0 : (w1.alloc o).cell? ⟨w.heap.size, 0, none⟩ = some (.bool false) := by rw [World.cell?_alloc_some _ _ _ (by rw [hcell]; rfl)]; exact hcell
    have hc2 : ((w1.alloc o).setCell ⟨w.heap.size, 0, none⟩ (.bool false)).cell? ⟨w.heap.size, 0, none⟩ = some (.bool false) := World.cell?_setCell_same _ _ _ hc0
    simp [Leaves, settle, results, Tryd.results32, go_sem, hc2]
    exact ⟨w1, HTq.out.1, (Turn.alloc _ _).trans (Turn.setCell (S := fun k => k = w.heap.size) _ (p := ⟨w.heap.size, 0, none⟩) _ rfl), HTq.out.2⟩

theorem within_yes (w : World) (n lo hi : Int) (h : lo ≤ n ∧ n ≤ hi) : Calls Tryd.prog 65 #[.int .i64 n, .int .i64 lo, .int .i64 hi] w fun e w' => e = .returned (.tuple #[]) ∧ w = w' := by
  have hd1 := decide_eq_true h.1
  have hd2 := decide_eq_true h.2
  go_enter Tryd.func65, Tryd.ntmps65
  go_wp2_with (fail)
  refine (need_yes _).mono ?_
  rintro e w' ⟨rfl, rfl⟩
  go_wp2_with (fail)
  go_end0
  exact ⟨rfl, rfl⟩
theorem within_no (w : World) (n lo hi : Int) (h : ¬ (lo ≤ n ∧ n ≤ hi)) : Calls Tryd.prog 65 #[.int .i64 n, .int .i64 lo, .int .i64 hi] w fun e w' => e = badP ∧ w = w' := by
  by_cases h1 : lo ≤ n
  · have hd1 := decide_eq_true h1
    have hd2 := decide_eq_false (show ¬ n ≤ hi by omega)
    clear h h1
    go_enter Tryd.func65, Tryd.ntmps65
    go_wp2_with (fail)
    refine (need_no _).mono ?_
    rintro e w' ⟨rfl, rfl⟩
    go_wp2_with (fail)
    exact ⟨rfl, rfl, rfl⟩
  · have hd1 := decide_eq_false h1
    clear h h1
    go_enter Tryd.func65, Tryd.ntmps65
    go_wp2_with (fail)
    refine (need_no _).mono ?_
    rintro e w' ⟨rfl, rfl⟩
    go_wp2_with (fail)
    exact ⟨rfl, rfl, rfl⟩

open Utf in
/-- A string that is one, and not empty. -/
def Full (s : ByteArray) : Prop := s.size ≠ 0 ∧ ∃ l, IsStr (nums s) l
open Utf in
theorem full_yes (w : World) (hT : Lib.Utf8Tabs 0 1 w) (s : ByteArray) (h : Full s) : Calls Tryd.prog 68 #[.string s] w fun e w' => e = .returned (.tuple #[]) ∧ Below w.heap.size w w' := by
  obtain ⟨h1, l, h2⟩ := h
  have HI := Lib.hid h2
  have hb : (s.toList == []) = false := by
    rw [ByteArray.toList_eq]
    cases he : s.data.toList with
    | nil => exact absurd (by show s.data.size = 0; rw [← Array.length_toList, he]; rfl) h1
    | cons a b => rfl
  clear h1 h2
  go_enter Tryd.func68, Tryd.ntmps68
  go_wp2_with (fail)
  refine (is_yes _ hT s l HI.out).mono ?_
  rintro e w1 ⟨rfl, hb1⟩
  go_wp2_with (fail)
  refine (need_yes _).mono ?_
  rintro e w' ⟨rfl, rfl⟩
  go_wp2_with (fail)
  go_end0
  exact ⟨rfl, hb1⟩
open Utf in
theorem full_no (w : World) (hT : Lib.Utf8Tabs 0 1 w) (s : ByteArray) (h : ¬ Full s) : Calls Tryd.prog 68 #[.string s] w fun e w' => e = badP ∧ Below w.heap.size w w' := by
  by_cases h0 : s.size = 0
  · have hs : s = ⟨#[]⟩ := by
      have : s.data = #[] := Array.eq_empty_of_size_eq_zero h0
      cases s; cases this; rfl
    subst hs
    clear h h0
    go_enter Tryd.func68, Tryd.ntmps68
    go_wp2_with (fail)
    refine (need_no _).mono ?_
    rintro e w' ⟨rfl, rfl⟩
    go_wp2_with (fail)
    exact ⟨rfl, rfl, Below.refl _ _⟩
  · have hb : (s.toList == []) = false := by
      rw [ByteArray.toList_eq]
      cases he : s.data.toList with
      | nil => exact absurd (by show s.data.size = 0; rw [← Array.length_toList, he]; rfl) h0
      | cons a b => rfl
    have HN : Hid (∀ l, ¬ IsStr (nums s) l) := fun l hl => h ⟨h0, l, hl⟩
    clear h h0
    go_enter Tryd.func68, Tryd.ntmps68
    go_wp2_with (fail)
    refine (is_no _ hT s HN.out).mono ?_
    rintro e w1 ⟨rfl, hb1⟩
    go_wp2_with (fail)
    refine (need_no _).mono ?_
    rintro e w' ⟨rfl, rfl⟩
    go_wp2_with (fail)
    exact ⟨rfl, rfl, hb1⟩

end Pk
end Go.Proofs.YteigakkghkjakaaDoor

namespace Go.Proofs.YteigakkghkjakaaDoor
open Go.RowKit
set_option linter.unusedVariables false
set_option linter.unusedSimpArgs false
namespace Pk

structure Pkt where
  ty : Int
  dup : Bool
  id : Int
  topic : ByteArray
  payload : ByteArray
  qos : Int
  retain : Bool
  client : ByteArray
  clean : Bool
  alive : Int
  will : Bool
  huser : Bool
  hpass : Bool
  user : ByteArray
  pass : ByteArray
  present : Bool
  codes : Value
  subs : Value

abbrev PT : TypeId := 28
def Pkt.cells (p : Pkt) : Array Value := #[.int .i64 p.ty, .bool p.dup, .int .i64 p.id, .string p.topic, .string p.payload, .int .i64 p.qos, .bool p.retain, .string p.client, .bool p.clean, .int .i64 p.alive, .bool p.will, .bool p.huser, .bool p.hpass, .string p.user, .string p.pass, .bool p.present, p.codes, p.subs]

/-- Block g holds the packet. -/
def PkAt (w : World) (g : Nat) (p : Pkt) : Prop := w.heap[g]? = some (.cells p.cells PT (0, 0))
theorem PkAt.keep {w w' : World} {g : Nat} {p : Pkt} {S : Nat → Prop} (h : PkAt w g p) (t : Turn S w w') (hg : ¬ S g) : PkAt w' g p := by
  unfold PkAt at *
  rw [t.block g (heap_lt h) hg]; exact h
theorem PkAt.lt {w : World} {g : Nat} {p : Pkt} (h : PkAt w g p) : g < w.heap.size := heap_lt h
theorem PkAt.cell {w : World} {g : Nat} {p : Pkt} (h : PkAt w g p) (i : Nat) : w.cell? ⟨g, i, none⟩ = p.cells[i]? := cell_heap h
theorem PkAt.frozen {w : World} {g : Nat} {p : Pkt} (h : PkAt w g p) (i : Nat) : w.frozen? ⟨g, i, none⟩ = false := frozen_heap h
theorem PkAt.set {w : World} {g : Nat} {p : Pkt} (h : PkAt w g p) (i : Nat) (v : Value) (q : Pkt) (hq : p.cells.setIfInBounds i v = q.cells) : PkAt (w.setCell ⟨g, i, none⟩ v) g q := by
  unfold PkAt
  rw [heap_set_same w g i v h, hq]

/-- What a closure of check does: it goes through, and the packet is turned; or it gives up. -/
def Goes (g : Nat) (w : World) (ok : Prop) (q : Pkt) (e : Ending) (w' : World) : Prop :=
  Turn (fun k => k = g) w w' ∧ ((ok ∧ e = .returned (.tuple #[]) ∧ PkAt w' g q) ∨ (¬ ok ∧ e = badP))

theorem id_calls (w : World) (g : Nat) (p : Pkt) (h : PkAt w g p) :
    Calls Tryd.prog 66 #[.pointer (some ⟨g, 0, none⟩)] w fun e w' => Goes g w (1 ≤ p.id ∧ p.id ≤ 65535) { p with id := 0 } e w' := by
  have H := Lib.hid h
  have h2 : w.cell? ⟨g, 2, none⟩ = some (.int .i64 p.id) := h.cell 2
  have f2 := h.frozen 2
  clear h
  by_cases hid : 1 ≤ p.id ∧ p.id ≤ 65535
  · have HI := Lib.hid hid
    clear hid
    go_enter Tryd.func66, Tryd.ntmps66
    go_wp2_with (fail)
    refine (within_yes _ _ _ _ HI.out).mono ?_
    rintro e w' ⟨rfl, rfl⟩
    go_wp2_with (fail)
    go_end0
    exact ⟨Turn.setCell (S := fun k => k = g) w (p := ⟨g, 2, none⟩) _ rfl, .inl ⟨HI.out, rfl, H.out.set 2 _ _ rfl⟩⟩
  · have HI := Lib.hid hid
    clear hid
    go_enter Tryd.func66, Tryd.ntmps66
    go_wp2_with (fail)
    refine (within_no _ _ _ _ HI.out).mono ?_
    rintro e w' ⟨rfl, rfl⟩
    go_wp2_with (fail)
    exact ⟨rfl, Turn.refl _ _, .inr ⟨HI.out, rfl⟩⟩

theorem turn_set {S : Nat → Prop} {a w : World} (h : Turn S a w) {p : Addr} (v : Value) (hp : S p.block) : Turn S a (w.setCell p v) := h.trans (Turn.setCell w v hp)
def Pkt.noMsg (p : Pkt) : Pkt := { p with topic := ⟨#[]⟩, payload := ⟨#[]⟩, qos := 0, retain := false }

theorem message_calls (w : World) (hT : Lib.Utf8Tabs 0 1 w) (g : Nat) (p : Pkt) (h : PkAt w g p) :
    Calls Tryd.prog 67 #[.pointer (some ⟨g, 0, none⟩)] w fun e w' => Goes g w (Full p.topic ∧ 0 ≤ p.qos ∧ p.qos ≤ 2) p.noMsg e w' := by
  have H := Lib.hid h
  have h3 : w.cell? ⟨g, 3, none⟩ = some (.string p.topic) := h.cell 3
  clear h
  by_cases hf : Full p.topic
  · have HF := Lib.hid hf
    clear hf
    go_enter Tryd.func67, Tryd.ntmps67
    go_wp2_with (fail)
    refine (full_yes _ hT _ HF.out).mono ?_
    rintro e w1 ⟨rfl, hb1⟩
    have H1 := Lib.hid (H.out.keep (Turn.of_below (S := fun _ => False) hb1) (fun h => h))
    have k5 : w1.cell? ⟨g, 5, none⟩ = some (.int .i64 p.qos) := H1.out.cell 5
    have HB := Lib.hid hb1
    clear hb1 h3
    go_wp2_with (fail)
    by_cases hq : 0 ≤ p.qos ∧ p.qos ≤ 2
    · refine (within_yes _ _ _ _ hq).mono ?_
      rintro e w' ⟨rfl, rfl⟩
      have k3 : w1.cell? ⟨g, 3, none⟩ = some (.string p.topic) := H1.out.cell 3
      have k4 : w1.cell? ⟨g, 4, none⟩ = some (.string p.payload) := H1.out.cell 4
      have k6 : w1.cell? ⟨g, 6, none⟩ = some (.bool p.retain) := H1.out.cell 6
      have f3 := H1.out.frozen 3
      have f4 := H1.out.frozen 4
      have f5 := H1.out.frozen 5
      have f6 := H1.out.frozen 6
      have HQ := Lib.hid hq
      clear hq
      go_wp2_with (fail)
      go_end0
      refine ⟨?_, .inl ⟨⟨HF.out, HQ.out⟩, rfl, ?_⟩⟩
      · have t0 : Turn (fun k => k = g) w w1 := Turn.of_below HB.out
        have t1 := turn_set t0 (p := ⟨g, 3, none⟩) (.string ⟨#[]⟩) (Eq.refl g)
        have t2 := turn_set t1 (p := ⟨g, 4, none⟩) (.string ⟨#[]⟩) (Eq.refl g)
        have t3 := turn_set t2 (p := ⟨g, 5, none⟩) (.int .i64 0) (Eq.refl g)
        exact turn_set t3 (p := ⟨g, 6, none⟩) (.bool false) (Eq.refl g)
      · exact (((H1.out.set 3 _ { p with topic := ⟨#[]⟩ } rfl).set 4 _ { p with topic := ⟨#[]⟩, payload := ⟨#[]⟩ } rfl).set 5 _ { p with topic := ⟨#[]⟩, payload := ⟨#[]⟩, qos := 0 } rfl).set 6 _ p.noMsg rfl
    · refine (within_no _ _ _ _ hq).mono ?_
      rintro e w' ⟨rfl, rfl⟩
      have HQ := Lib.hid hq
      clear hq
      go_wp2_with (fail)
      exact ⟨rfl, Turn.of_below HB.out, .inr ⟨fun h => HQ.out h.2, rfl⟩⟩
  · have HF := Lib.hid hf
    clear hf
    go_enter Tryd.func67, Tryd.ntmps67
    go_wp2_with (fail)
    refine (full_no _ hT _ HF.out).mono ?_
    rintro e w1 ⟨rfl, hb1⟩
    go_wp2_with (fail)
    exact ⟨rfl, Turn.of_below hb1, .inr ⟨fun h => HF.out h.1, rfl⟩⟩

end Pk
end Go.Proofs.YteigakkghkjakaaDoor

namespace Go.Proofs.YteigakkghkjakaaDoor
open Go.RowKit
set_option linter.unusedVariables false
set_option linter.unusedSimpArgs false
namespace Pk
open Utf (nums IsStr)

def nilV : Value := .slice none 0 0
def Pkt.noId (p : Pkt) : Pkt := { p with id := 0 }
def Pkt.noCodes (p : Pkt) : Pkt := { p with codes := nilV }
def Pkt.noSubs (p : Pkt) : Pkt := { p with subs := nilV }
def Pkt.noCon (p : Pkt) : Pkt := { p with client := ⟨#[]⟩, clean := false, alive := 0, will := false, huser := false, hpass := false, user := ⟨#[]⟩, pass := ⟨#[]⟩ }
def Pkt.after (p : Pkt) : Pkt :=
  if p.ty = 1 then (if p.will then p.noMsg else p).noCon
  else if p.ty = 2 then { p.noCodes with present := false }
  else if p.ty = 3 then (if p.qos = 0 then p else { p.noId with dup := false }).noMsg
  else if p.ty = 4 ∨ p.ty = 5 ∨ p.ty = 6 ∨ p.ty = 7 ∨ p.ty = 11 then p.noId
  else if p.ty = 8 ∨ p.ty = 10 then p.noId.noSubs
  else if p.ty = 9 then p.noId.noCodes
  else p

def Str (s : ByteArray) : Prop := ∃ l, IsStr (nums s) l
def IdOk (p : Pkt) : Prop := 1 ≤ p.id ∧ p.id ≤ 65535
def MsgOk (p : Pkt) : Prop := Full p.topic ∧ 0 ≤ p.qos ∧ p.qos ≤ 2
def ConOk (p : Pkt) : Prop := Str p.client ∧ Str p.user ∧ p.pass.size ≤ 65535 ∧ (p.huser = true ∨ p.hpass = false) ∧ 0 ≤ p.alive ∧ p.alive ≤ 65535 ∧ (p.will = true → p.payload.size ≤ 65535 ∧ MsgOk p) ∧
  (p.huser = true ∨ p.user.size = 0) ∧ (p.hpass = true ∨ p.pass.size = 0)
def CodeOk (c : Int) : Prop := 0 ≤ c ∧ c ≤ 2 ∨ c = 128
def SubOk (ty : Int) (s : ByteArray × Int) : Prop := Full s.1 ∧ 0 ≤ s.2 ∧ s.2 ≤ 2 ∧ (ty = 8 ∨ s.2 = 0)
def Ok (p : Pkt) (C : List Int) (D : List (ByteArray × Int)) : Prop :=
  (p.ty = 1 → ConOk p) ∧ (p.ty = 2 → C.length = 1 ∧ 0 ≤ lat C 0 ∧ lat C 0 ≤ 5 ∧ (p.present = false ∨ lat C 0 = 0)) ∧ (p.ty = 3 → (p.qos ≠ 0 → IdOk p) ∧ MsgOk p) ∧
  (4 ≤ p.ty → p.ty ≤ 11 → IdOk p) ∧ (p.ty = 8 ∨ p.ty = 10 → 0 < D.length ∧ ∀ s ∈ D, SubOk p.ty s) ∧ (p.ty = 9 → 0 < C.length ∧ ∀ c ∈ C, CodeOk c)

theorem box_at (w : World) (p : Pkt) : PkAt (w.alloc (.cells p.cells PT)) w.heap.size p := heap_new _ _

set_option maxHeartbeats 1000000 in
theorem msg_eq (w : World) (a b : ByteArray) (q : Int) (r : Bool) : (binOp .eql 24 (.agg #[.string a, .string b, .int .i64 q, .bool r]) (.agg #[.string ⟨#[]⟩, .string ⟨#[]⟩, .int .i64 0, .bool false])).run Tryd.prog w = .ok (.bool ((a.toList == []) && (b.toList == []) && (q == 0) && (r == false))) w := by
  rw [run_eql_struct, run_equalIn_agg (P := Tryd.prog) (w := w) 9999 24 _ _ (by kernel_rfl) (by kernel_rfl)]
  simp [Program.fieldsOf, Tryd.underlying24, Op.eqFields, go_sem]
  by_cases h1 : a.toList = [] <;> by_cases h2 : b.toList = [] <;> by_cases h3 : q = 0 <;> cases r <;> simp [h1, h2, h3]

set_option maxRecDepth 100000 in
set_option maxHeartbeats 1000000 in
theorem check_ty_no (w : World) (p : Pkt) (h : ¬ (1 ≤ p.ty ∧ p.ty ≤ 14)) : Calls Tryd.prog 45 #[.agg p.cells] w fun e w' => Below w.heap.size w w' ∧ e = badP := by
  have hA := box_at w p
  have h0 : (w.alloc (.cells p.cells PT)).cell? ⟨w.heap.size, 0, none⟩ = some (.int .i64 p.ty) := hA.cell 0
  go_enter Tryd.func45, Tryd.ntmps45
  go_wp2_with (fail)
  refine (within_no _ _ _ _ h).mono ?_
  rintro e w1 ⟨rfl, rfl⟩
  go_wp2_with (fail)
  exact ⟨rfl, Below.alloc (Below.refl _ _) (Nat.le_refl _) _, rfl⟩

end Pk
end Go.Proofs.YteigakkghkjakaaDoor

namespace Go.Proofs.YteigakkghkjakaaDoor
open Go.RowKit
set_option linter.unusedVariables false
set_option linter.unusedSimpArgs false

theorem st_val {P : Program} {ops : Array Oper} {Q : Exit → Act → World → Prop} {a : Act} {w : World} {rest : List Oper} {o : Oper} (v : Value) (hw : Region.wanted o (yielded ops a.tmps) = true)
    (hr : (execOp a.eval o).run P w = .ok (.value v) w) (h : wpList P ops Q rest (a.put o.dst v) w) : wpList P ops Q (o :: rest) a w := by
  unfold wpList
  rw [if_pos hw]
  left
  unfold Oper.wp
  rw [hr]
  exact h
theorem st_skip {P : Program} {ops : Array Oper} {Q : Exit → Act → World → Prop} {a : Act} {w : World} {rest : List Oper} {o : Oper} (hw : Region.wanted o (yielded ops a.tmps) = false)
    (h : wpList P ops Q rest (a.put o.dst undef) w) : wpList P ops Q (o :: rest) a w := wpList_skip hw h

theorem put_same (a : Act) (d : Nat) (v : Value) (h : d < a.tmps.size) : (a.put (some d) v).eval (.tmp d) = v := by
  simp [Act.put, Act.eval, Array.getD_eq_getD_getElem?, h]
theorem put_other (a : Act) (d n : Nat) (v : Value) (h : n ≠ d) : (a.put (some d) v).eval (.tmp n) = a.eval (.tmp n) := by
  simp [Act.put, Act.eval, Array.getD_eq_getD_getElem?, Array.getElem?_setIfInBounds_ne (Ne.symm h)]
theorem put_size (a : Act) (d : Nat) (v : Value) : (a.put (some d) v).tmps.size = a.tmps.size := by simp [Act.put]

end Go.Proofs.YteigakkghkjakaaDoor

/- packet: need, within, full; through (defer, recover). A packet as a record; its cells; the closures of check. packet.check. A region that is not drawn, walked over any frame: the step. check's last region, over any frame: its operations one by one. check's last region, over any frame: its conditions one by one. check's last region: the other conditions; all of it. packet.check: its end. packet.check: the types without fields, and those with an Id alone. packet.check: the types with an Id alone. packet.check: a Publish. packet.check: a Connack. packet.check: a Suback. packet.check: a Subscribe, an Unsubscribe. packet.check: a Connect. -/
import Derived.Test.YtonemmdipmohgaaDoorUtfD
import Derived.Test.YtonemmdipmohgaaDoorVarE
import Derived.Defers
import Derived.Recover
import Derived.WalkLawsBesides
import Derived.Deep.RegionHeld
import Derived.Deep.CutRange
import Derived.Deep.DeepCutAuto
import Derived.Deep.Cut
import Derived.BigFrame
import Derived.Shelf.Abstract
namespace Go.Proofs.YtonemmdipmohgaaDoor
open Go.RowKit
set_option linter.unusedVariables false
set_option linter.unusedSimpArgs false
namespace Pk

/-- What reading and checking give up with. -/
abbrev badV : Value := .iface 134 (.agg #[])
abbrev badP : Ending := .panicked [{ v := badV, recovered := false }]

theorem need_yes (w : World) : Calls Tryd.prog 87 #[.bool true] w fun e w' => e = .returned (.tuple #[]) ∧ w = w' := by
  go_enter Tryd.func87, Tryd.ntmps87
  go_wp2_with (fail)
  go_end0
  exact ⟨rfl, rfl⟩
theorem need_no (w : World) : Calls Tryd.prog 87 #[.bool false] w fun e w' => e = badP ∧ w = w' := by
  go_enter Tryd.func87, Tryd.ntmps87
  go_wp2_with (fail)
  exact ⟨rfl, rfl, rfl⟩

theorem assert_bad (w : World) : (Instr.typeAssert badV 20 134 true).run Tryd.prog w = .ok (.tuple #[.agg #[], .bool true]) w := by kernel_rfl
theorem assert_nil (w : World) : (Instr.typeAssert .nilIface 20 134 true).run Tryd.prog w = .ok (.tuple #[.agg #[], .bool false]) w := by kernel_rfl

set_option maxRecDepth 100000 in
theorem catch_panicking (p : Addr) (b : Bool) (older : List PanicEntry) (w : World) (hc : w.cell? p = some (.bool b)) (hz : w.frozen? p = false) :
    CallsD Tryd.prog 82 #[.pointer (some p)] (.panicking ({ v := badV, recovered := false } :: older)) w fun e u' w' =>
      e = .returned (.tuple #[]) ∧ u' = .panicking ({ v := badV, recovered := true } :: older) ∧ ∃ o, w' = (w.alloc o).setCell p (.bool false) := by
  refine callsD_of_wpS Tryd.func82 rfl fun c₀ cs hu => ?_
  apply wpS_seq
  apply wpS_region
  simp [wpOpsS, go_sem, recoverD, hu, Tryd.ntmps82, Exit.thenS, assert_bad]
  apply wpS_seq
  apply wpS_region
  simp [wpOpsS, go_sem, Exit.thenS]
  refine wpS_cond (t := true) (by simp [Act.eval, Array.replicate]) ?_
  simp only [if_true]
  apply wpS_region
  have hcA : (w.alloc (.cells #[] 134)).cell? p = some (.bool b) := by rw [World.cell?_alloc_some _ _ _ (by rw [hc]; rfl)]; exact hc
  have hzA : (w.alloc (.cells #[] 134)).frozen? p = false := by rw [Turn.frozen (S := fun _ => False) (Turn.alloc w _) (World.block_lt_of_cell? w p hc) (fun h => h)]; exact hz
  simp [wpOpsS, go_sem, hcA, hzA, bodyPostS, results, Tryd.results82]
  exact ⟨_, rfl⟩

set_option maxRecDepth 100000 in
theorem catch_idle (p : Addr) (w : World) :
    CallsD Tryd.prog 82 #[.pointer (some p)] .returning w fun e u' w' =>
      e = .returned (.tuple #[]) ∧ u' = .returning ∧ ∃ o, w' = w.alloc o := by
  refine callsD_of_wpS Tryd.func82 rfl fun c₀ cs hu => ?_
  apply wpS_seq
  apply wpS_region
  simp [wpOpsS, go_sem, recoverD, hu, Tryd.ntmps82, Exit.thenS, assert_nil]
  apply wpS_seq
  apply wpS_region
  simp [wpOpsS, go_sem, Exit.thenS]
  refine wpS_cond (t := false) (by simp [Act.eval, Array.replicate]) ?_
  simp only [Bool.false_eq_true, if_false]
  refine wpS_of_wp (wp_skip ?_)
  cases c₀
  simp_all [bodyPostS, results, Tryd.results82]
  exact ⟨_, rfl⟩

set_option maxRecDepth 100000 in
theorem through_calls (F : FuncId) (cap : Array Value) (w : World) (S : Nat → Prop) (hS : ¬ S w.heap.size) (Qok Qno : World → Prop)
    (hE : ∀ args w, (callFunc F args).run Tryd.prog w = .ok (.enter F args) w)
    (hC : Calls Tryd.prog F cap (w.alloc (.cells #[.bool false] 4)) fun e w1 => Turn S (w.alloc (.cells #[.bool false] 4)) w1 ∧ ((e = .returned (.tuple #[]) ∧ Qok w1) ∨ (e = badP ∧ Qno w1))) :
    Calls Tryd.prog 72 #[.func (.func F) #[] cap] w fun e w' => ∃ w1, Turn S (w.alloc (.cells #[.bool false] 4)) w1 ∧ Turn (fun k => k = w.heap.size) w1 w' ∧
      ((e = .returned (.bool true) ∧ Qok w1) ∨ (e = .returned (.bool false) ∧ Qno w1)) := by
  have hmf : ∀ (fn : Fn) (first cap : Array Value) (w : World), (Instr.makeFunc fn first cap).run Tryd.prog w = .ok (.func fn first cap) w := fun _ _ _ _ => rfl
  have HC := Lib.hid hC
  clear hC
  go_enter_defers Tryd.func72, Tryd.ntmps72
  go_wp2_with (fail)
  refine HC.out.mono ?_
  rintro e w1 ⟨ht, (⟨rfl, hq⟩ | ⟨rfl, hq⟩)⟩
  · have hcell : w1.cell? ⟨w.heap.size, 0, none⟩ = some (.bool false) := ht.cell (by rw [cell_heap (heap_new _ _)]; rfl) hS
    have hfr : w1.frozen? ⟨w.heap.size, 0, none⟩ = false := by rw [ht.frozen (by simp) hS]; exact frozen_heap (heap_new _ _)
    have hlt : w.heap.size < w1.heap.size := Nat.lt_of_lt_of_le (by simp) ht.size
    have HTq := Lib.hid (And.intro ht hq)
    clear ht hq
    go_wp2_with (fail)
    refine leaves_cons (f := 82) (args := #[.pointer (some ⟨w.heap.size, 0, none⟩)]) (by simp) (by simp [go_sem]) ?_
    refine (catch_idle ⟨w.heap.size, 0, none⟩ _).mono ?_
    rintro e u' w'' ⟨rfl, rfl, o, rfl⟩
    have hc1 : (w1.setCell ⟨w.heap.size, 0, none⟩ (.bool true)).cell? ⟨w.heap.size, 0, none⟩ = some (.bool true) := World.cell?_setCell_same _ _ _ hcell
    have hc2 : ((w1.setCell ⟨w.heap.size, 0, none⟩ (.bool true)).alloc o).cell? ⟨w.heap.size, 0, none⟩ = some (.bool true) := by rw [World.cell?_alloc_some _ _ _ (by rw [hc1]; rfl)]; exact hc1
    simp [Leaves, settle, results, Tryd.results72, go_sem, hc2]
    exact ⟨w1, HTq.out.1, (Turn.setCell (S := fun k => k = w.heap.size) w1 (p := ⟨w.heap.size, 0, none⟩) _ rfl).trans (Turn.alloc _ _), HTq.out.2⟩
  · have hcell : w1.cell? ⟨w.heap.size, 0, none⟩ = some (.bool false) := ht.cell (by rw [cell_heap (heap_new _ _)]; rfl) hS
    have hfr : w1.frozen? ⟨w.heap.size, 0, none⟩ = false := by rw [ht.frozen (by simp) hS]; exact frozen_heap (heap_new _ _)
    have hlt : w.heap.size < w1.heap.size := Nat.lt_of_lt_of_le (by simp) ht.size
    have HTq := Lib.hid (And.intro ht hq)
    clear ht hq
    go_wp2_with (fail)
    refine leaves_cons (f := 82) (args := #[.pointer (some ⟨w.heap.size, 0, none⟩)]) (by simp) (by simp [go_sem]) ?_
    refine (catch_panicking ⟨w.heap.size, 0, none⟩ false [] _ hcell hfr).mono ?_
    rintro e u' w'' ⟨rfl, rfl, o, rfl⟩
    have hc0 : (w1.alloc o).cell? ⟨w.heap.size, 0, none⟩ = some (.bool false) := by rw [World.cell?_alloc_some _ _ _ (by rw [hcell]; rfl)]; exact hcell
    have hc2 : ((w1.alloc o).setCell ⟨w.heap.size, 0, none⟩ (.bool false)).cell? ⟨w.heap.size, 0, none⟩ = some (.bool false) := World.cell?_setCell_same _ _ _ hc0
    simp [Leaves, settle, results, Tryd.results72, go_sem, hc2]
    exact ⟨w1, HTq.out.1, (Turn.alloc _ _).trans (Turn.setCell (S := fun k => k = w.heap.size) _ (p := ⟨w.heap.size, 0, none⟩) _ rfl), HTq.out.2⟩

theorem within_yes (w : World) (n lo hi : Int) (h : lo ≤ n ∧ n ≤ hi) : Calls Tryd.prog 83 #[.int .i64 n, .int .i64 lo, .int .i64 hi] w fun e w' => e = .returned (.tuple #[]) ∧ w = w' := by
  have hd1 := decide_eq_true h.1
  have hd2 := decide_eq_true h.2
  go_enter Tryd.func83, Tryd.ntmps83
  go_wp2_with (fail)
  refine (need_yes _).mono ?_
  rintro e w' ⟨rfl, rfl⟩
  go_wp2_with (fail)
  go_end0
  exact ⟨rfl, rfl⟩
theorem within_no (w : World) (n lo hi : Int) (h : ¬ (lo ≤ n ∧ n ≤ hi)) : Calls Tryd.prog 83 #[.int .i64 n, .int .i64 lo, .int .i64 hi] w fun e w' => e = badP ∧ w = w' := by
  by_cases h1 : lo ≤ n
  · have hd1 := decide_eq_true h1
    have hd2 := decide_eq_false (show ¬ n ≤ hi by omega)
    clear h h1
    go_enter Tryd.func83, Tryd.ntmps83
    go_wp2_with (fail)
    refine (need_no _).mono ?_
    rintro e w' ⟨rfl, rfl⟩
    go_wp2_with (fail)
    exact ⟨rfl, rfl, rfl⟩
  · have hd1 := decide_eq_false h1
    clear h h1
    go_enter Tryd.func83, Tryd.ntmps83
    go_wp2_with (fail)
    refine (need_no _).mono ?_
    rintro e w' ⟨rfl, rfl⟩
    go_wp2_with (fail)
    exact ⟨rfl, rfl, rfl⟩

open Utf in
/-- A string that is one, and not empty. -/
def Full (s : ByteArray) : Prop := s.size ≠ 0 ∧ ∃ l, IsStr (nums s) l
open Utf in
theorem full_yes (w : World) (hT : Lib.Utf8Tabs 0 1 w) (s : ByteArray) (h : Full s) : Calls Tryd.prog 86 #[.string s] w fun e w' => e = .returned (.tuple #[]) ∧ Below w.heap.size w w' := by
  obtain ⟨h1, l, h2⟩ := h
  have HI := Lib.hid h2
  have hb : (s.toList == []) = false := by
    rw [ByteArray.toList_eq]
    cases he : s.data.toList with
    | nil => exact absurd (by show s.data.size = 0; rw [← Array.length_toList, he]; rfl) h1
    | cons a b => rfl
  clear h1 h2
  go_enter Tryd.func86, Tryd.ntmps86
  go_wp2_with (fail)
  refine (is_yes _ hT s l HI.out).mono ?_
  rintro e w1 ⟨rfl, hb1⟩
  go_wp2_with (fail)
  refine (need_yes _).mono ?_
  rintro e w' ⟨rfl, rfl⟩
  go_wp2_with (fail)
  go_end0
  exact ⟨rfl, hb1⟩
open Utf in
theorem full_no (w : World) (hT : Lib.Utf8Tabs 0 1 w) (s : ByteArray) (h : ¬ Full s) : Calls Tryd.prog 86 #[.string s] w fun e w' => e = badP ∧ Below w.heap.size w w' := by
  by_cases h0 : s.size = 0
  · have hs : s = ⟨#[]⟩ := by
      have : s.data = #[] := Array.eq_empty_of_size_eq_zero h0
      cases s; cases this; rfl
    subst hs
    clear h h0
    go_enter Tryd.func86, Tryd.ntmps86
    go_wp2_with (fail)
    refine (need_no _).mono ?_
    rintro e w' ⟨rfl, rfl⟩
    go_wp2_with (fail)
    exact ⟨rfl, rfl, Below.refl _ _⟩
  · have hb : (s.toList == []) = false := by
      rw [ByteArray.toList_eq]
      cases he : s.data.toList with
      | nil => exact absurd (by show s.data.size = 0; rw [← Array.length_toList, he]; rfl) h0
      | cons a b => rfl
    have HN : Hid (∀ l, ¬ IsStr (nums s) l) := fun l hl => h ⟨h0, l, hl⟩
    clear h h0
    go_enter Tryd.func86, Tryd.ntmps86
    go_wp2_with (fail)
    refine (is_no _ hT s HN.out).mono ?_
    rintro e w1 ⟨rfl, hb1⟩
    go_wp2_with (fail)
    refine (need_no _).mono ?_
    rintro e w' ⟨rfl, rfl⟩
    go_wp2_with (fail)
    exact ⟨rfl, rfl, hb1⟩

end Pk
end Go.Proofs.YtonemmdipmohgaaDoor

namespace Go.Proofs.YtonemmdipmohgaaDoor
open Go.RowKit
set_option linter.unusedVariables false
set_option linter.unusedSimpArgs false
namespace Pk

structure Pkt where
  ty : Int
  dup : Bool
  id : Int
  topic : ByteArray
  payload : ByteArray
  qos : Int
  retain : Bool
  client : ByteArray
  clean : Bool
  alive : Int
  will : Bool
  huser : Bool
  hpass : Bool
  user : ByteArray
  pass : ByteArray
  present : Bool
  codes : Value
  subs : Value

abbrev PT : TypeId := 32
def Pkt.cells (p : Pkt) : Array Value := #[.int .i64 p.ty, .bool p.dup, .int .i64 p.id, .string p.topic, .string p.payload, .int .i64 p.qos, .bool p.retain, .string p.client, .bool p.clean, .int .i64 p.alive, .bool p.will, .bool p.huser, .bool p.hpass, .string p.user, .string p.pass, .bool p.present, p.codes, p.subs]

/-- Block g holds the packet. -/
def PkAt (w : World) (g : Nat) (p : Pkt) : Prop := w.heap[g]? = some (.cells p.cells PT (0, 0))
theorem PkAt.keep {w w' : World} {g : Nat} {p : Pkt} {S : Nat → Prop} (h : PkAt w g p) (t : Turn S w w') (hg : ¬ S g) : PkAt w' g p := by
  unfold PkAt at *
  rw [t.block g (heap_lt h) hg]; exact h
theorem PkAt.lt {w : World} {g : Nat} {p : Pkt} (h : PkAt w g p) : g < w.heap.size := heap_lt h
theorem PkAt.cell {w : World} {g : Nat} {p : Pkt} (h : PkAt w g p) (i : Nat) : w.cell? ⟨g, i, none⟩ = p.cells[i]? := cell_heap h
theorem PkAt.frozen {w : World} {g : Nat} {p : Pkt} (h : PkAt w g p) (i : Nat) : w.frozen? ⟨g, i, none⟩ = false := frozen_heap h
theorem PkAt.set {w : World} {g : Nat} {p : Pkt} (h : PkAt w g p) (i : Nat) (v : Value) (q : Pkt) (hq : p.cells.setIfInBounds i v = q.cells) : PkAt (w.setCell ⟨g, i, none⟩ v) g q := by
  unfold PkAt
  rw [heap_set_same w g i v h, hq]

/-- What a closure of check does: it goes through, and the packet is turned; or it gives up. -/
def Goes (g : Nat) (w : World) (ok : Prop) (q : Pkt) (e : Ending) (w' : World) : Prop :=
  Turn (fun k => k = g) w w' ∧ ((ok ∧ e = .returned (.tuple #[]) ∧ PkAt w' g q) ∨ (¬ ok ∧ e = badP))

theorem id_calls (w : World) (g : Nat) (p : Pkt) (h : PkAt w g p) :
    Calls Tryd.prog 84 #[.pointer (some ⟨g, 0, none⟩)] w fun e w' => Goes g w (1 ≤ p.id ∧ p.id ≤ 65535) { p with id := 0 } e w' := by
  have H := Lib.hid h
  have h2 : w.cell? ⟨g, 2, none⟩ = some (.int .i64 p.id) := h.cell 2
  have f2 := h.frozen 2
  clear h
  by_cases hid : 1 ≤ p.id ∧ p.id ≤ 65535
  · have HI := Lib.hid hid
    clear hid
    go_enter Tryd.func84, Tryd.ntmps84
    go_wp2_with (fail)
    refine (within_yes _ _ _ _ HI.out).mono ?_
    rintro e w' ⟨rfl, rfl⟩
    go_wp2_with (fail)
    go_end0
    exact ⟨Turn.setCell (S := fun k => k = g) w (p := ⟨g, 2, none⟩) _ rfl, .inl ⟨HI.out, rfl, H.out.set 2 _ _ rfl⟩⟩
  · have HI := Lib.hid hid
    clear hid
    go_enter Tryd.func84, Tryd.ntmps84
    go_wp2_with (fail)
    refine (within_no _ _ _ _ HI.out).mono ?_
    rintro e w' ⟨rfl, rfl⟩
    go_wp2_with (fail)
    exact ⟨rfl, Turn.refl _ _, .inr ⟨HI.out, rfl⟩⟩

theorem turn_set {S : Nat → Prop} {a w : World} (h : Turn S a w) {p : Addr} (v : Value) (hp : S p.block) : Turn S a (w.setCell p v) := h.trans (Turn.setCell w v hp)
def Pkt.noMsg (p : Pkt) : Pkt := { p with topic := ⟨#[]⟩, payload := ⟨#[]⟩, qos := 0, retain := false }

theorem message_calls (w : World) (hT : Lib.Utf8Tabs 0 1 w) (g : Nat) (p : Pkt) (h : PkAt w g p) :
    Calls Tryd.prog 85 #[.pointer (some ⟨g, 0, none⟩)] w fun e w' => Goes g w (Full p.topic ∧ 0 ≤ p.qos ∧ p.qos ≤ 2) p.noMsg e w' := by
  have H := Lib.hid h
  have h3 : w.cell? ⟨g, 3, none⟩ = some (.string p.topic) := h.cell 3
  clear h
  by_cases hf : Full p.topic
  · have HF := Lib.hid hf
    clear hf
    go_enter Tryd.func85, Tryd.ntmps85
    go_wp2_with (fail)
    refine (full_yes _ hT _ HF.out).mono ?_
    rintro e w1 ⟨rfl, hb1⟩
    have H1 := Lib.hid (H.out.keep (Turn.of_below (S := fun _ => False) hb1) (fun h => h))
    have k5 : w1.cell? ⟨g, 5, none⟩ = some (.int .i64 p.qos) := H1.out.cell 5
    have HB := Lib.hid hb1
    clear hb1 h3
    go_wp2_with (fail)
    by_cases hq : 0 ≤ p.qos ∧ p.qos ≤ 2
    · refine (within_yes _ _ _ _ hq).mono ?_
      rintro e w' ⟨rfl, rfl⟩
      have k3 : w1.cell? ⟨g, 3, none⟩ = some (.string p.topic) := H1.out.cell 3
      have k4 : w1.cell? ⟨g, 4, none⟩ = some (.string p.payload) := H1.out.cell 4
      have k6 : w1.cell? ⟨g, 6, none⟩ = some (.bool p.retain) := H1.out.cell 6
      have f3 := H1.out.frozen 3
      have f4 := H1.out.frozen 4
      have f5 := H1.out.frozen 5
      have f6 := H1.out.frozen 6
      have HQ := Lib.hid hq
      clear hq
      go_wp2_with (fail)
      go_end0
      refine ⟨?_, .inl ⟨⟨HF.out, HQ.out⟩, rfl, ?_⟩⟩
      · have t0 : Turn (fun k => k = g) w w1 := Turn.of_below HB.out
        have t1 := turn_set t0 (p := ⟨g, 3, none⟩) (.string ⟨#[]⟩) (Eq.refl g)
        have t2 := turn_set t1 (p := ⟨g, 4, none⟩) (.string ⟨#[]⟩) (Eq.refl g)
        have t3 := turn_set t2 (p := ⟨g, 5, none⟩) (.int .i64 0) (Eq.refl g)
        exact turn_set t3 (p := ⟨g, 6, none⟩) (.bool false) (Eq.refl g)
      · exact (((H1.out.set 3 _ { p with topic := ⟨#[]⟩ } rfl).set 4 _ { p with topic := ⟨#[]⟩, payload := ⟨#[]⟩ } rfl).set 5 _ { p with topic := ⟨#[]⟩, payload := ⟨#[]⟩, qos := 0 } rfl).set 6 _ p.noMsg rfl
    · refine (within_no _ _ _ _ hq).mono ?_
      rintro e w' ⟨rfl, rfl⟩
      have HQ := Lib.hid hq
      clear hq
      go_wp2_with (fail)
      exact ⟨rfl, Turn.of_below HB.out, .inr ⟨fun h => HQ.out h.2, rfl⟩⟩
  · have HF := Lib.hid hf
    clear hf
    go_enter Tryd.func85, Tryd.ntmps85
    go_wp2_with (fail)
    refine (full_no _ hT _ HF.out).mono ?_
    rintro e w1 ⟨rfl, hb1⟩
    go_wp2_with (fail)
    exact ⟨rfl, Turn.of_below hb1, .inr ⟨fun h => HF.out h.1, rfl⟩⟩

end Pk
end Go.Proofs.YtonemmdipmohgaaDoor

namespace Go.Proofs.YtonemmdipmohgaaDoor
open Go.RowKit
set_option linter.unusedVariables false
set_option linter.unusedSimpArgs false
namespace Pk
open Utf (nums IsStr)

def nilV : Value := .slice none 0 0
def Pkt.noId (p : Pkt) : Pkt := { p with id := 0 }
def Pkt.noCodes (p : Pkt) : Pkt := { p with codes := nilV }
def Pkt.noSubs (p : Pkt) : Pkt := { p with subs := nilV }
def Pkt.noCon (p : Pkt) : Pkt := { p with client := ⟨#[]⟩, clean := false, alive := 0, will := false, huser := false, hpass := false, user := ⟨#[]⟩, pass := ⟨#[]⟩ }
def Pkt.after (p : Pkt) : Pkt :=
  if p.ty = 1 then (if p.will then p.noMsg else p).noCon
  else if p.ty = 2 then { p.noCodes with present := false }
  else if p.ty = 3 then (if p.qos = 0 then p else { p.noId with dup := false }).noMsg
  else if p.ty = 4 ∨ p.ty = 5 ∨ p.ty = 6 ∨ p.ty = 7 ∨ p.ty = 11 then p.noId
  else if p.ty = 8 ∨ p.ty = 10 then p.noId.noSubs
  else if p.ty = 9 then p.noId.noCodes
  else p

def Str (s : ByteArray) : Prop := ∃ l, IsStr (nums s) l
def IdOk (p : Pkt) : Prop := 1 ≤ p.id ∧ p.id ≤ 65535
def MsgOk (p : Pkt) : Prop := Full p.topic ∧ 0 ≤ p.qos ∧ p.qos ≤ 2
def ConOk (p : Pkt) : Prop := Str p.client ∧ Str p.user ∧ p.pass.size ≤ 65535 ∧ (p.huser = true ∨ p.hpass = false) ∧ 0 ≤ p.alive ∧ p.alive ≤ 65535 ∧ (p.will = true → p.payload.size ≤ 65535 ∧ MsgOk p) ∧
  (p.huser = true ∨ p.user.size = 0) ∧ (p.hpass = true ∨ p.pass.size = 0)
def CodeOk (c : Int) : Prop := 0 ≤ c ∧ c ≤ 2 ∨ c = 128
def SubOk (ty : Int) (s : ByteArray × Int) : Prop := Full s.1 ∧ 0 ≤ s.2 ∧ s.2 ≤ 2 ∧ (ty = 8 ∨ s.2 = 0)
def Ok (p : Pkt) (C : List Int) (D : List (ByteArray × Int)) : Prop :=
  (p.ty = 1 → ConOk p) ∧ (p.ty = 2 → C.length = 1 ∧ 0 ≤ lat C 0 ∧ lat C 0 ≤ 5 ∧ (p.present = false ∨ lat C 0 = 0)) ∧ (p.ty = 3 → (p.qos ≠ 0 → IdOk p) ∧ MsgOk p) ∧
  (4 ≤ p.ty → p.ty ≤ 11 → IdOk p) ∧ (p.ty = 8 ∨ p.ty = 10 → 0 < D.length ∧ ∀ s ∈ D, SubOk p.ty s) ∧ (p.ty = 9 → 0 < C.length ∧ ∀ c ∈ C, CodeOk c)

theorem box_at (w : World) (p : Pkt) : PkAt (w.alloc (.cells p.cells PT)) w.heap.size p := heap_new _ _

set_option maxHeartbeats 1000000 in
theorem msg_eq (w : World) (a b : ByteArray) (q : Int) (r : Bool) : (binOp .eql 28 (.agg #[.string a, .string b, .int .i64 q, .bool r]) (.agg #[.string ⟨#[]⟩, .string ⟨#[]⟩, .int .i64 0, .bool false])).run Tryd.prog w = .ok (.bool ((a.toList == []) && (b.toList == []) && (q == 0) && (r == false))) w := by
  rw [run_eql_struct, run_equalIn_agg (P := Tryd.prog) (w := w) 9999 28 _ _ (by kernel_rfl) (by kernel_rfl)]
  simp [Program.fieldsOf, Tryd.underlying28, Op.eqFields, go_sem]
  by_cases h1 : a.toList = [] <;> by_cases h2 : b.toList = [] <;> by_cases h3 : q = 0 <;> cases r <;> simp [h1, h2, h3]

set_option maxRecDepth 100000 in
set_option maxHeartbeats 1000000 in
theorem check_ty_no (w : World) (p : Pkt) (h : ¬ (1 ≤ p.ty ∧ p.ty ≤ 14)) : Calls Tryd.prog 74 #[.agg p.cells] w fun e w' => Below w.heap.size w w' ∧ e = badP := by
  have hA := box_at w p
  have h0 : (w.alloc (.cells p.cells PT)).cell? ⟨w.heap.size, 0, none⟩ = some (.int .i64 p.ty) := hA.cell 0
  go_enter Tryd.func74, Tryd.ntmps74
  go_wp2_with (fail)
  refine (within_no _ _ _ _ h).mono ?_
  rintro e w1 ⟨rfl, rfl⟩
  go_wp2_with (fail)
  exact ⟨rfl, Below.alloc (Below.refl _ _) (Nat.le_refl _) _, rfl⟩

end Pk
end Go.Proofs.YtonemmdipmohgaaDoor

namespace Go.Proofs.YtonemmdipmohgaaDoor
open Go.RowKit
set_option linter.unusedVariables false
set_option linter.unusedSimpArgs false

theorem st_val {P : Program} {ops : Array Oper} {Q : Exit → Act → World → Prop} {a : Act} {w : World} {rest : List Oper} {o : Oper} (v : Value) (hw : Region.wanted o (yielded ops a.tmps) = true)
    (hr : (execOp a.eval o).run P w = .ok (.value v) w) (h : wpList P ops Q rest (a.put o.dst v) w) : wpList P ops Q (o :: rest) a w := by
  unfold wpList
  rw [if_pos hw]
  left
  unfold Oper.wp
  rw [hr]
  exact h
theorem st_skip {P : Program} {ops : Array Oper} {Q : Exit → Act → World → Prop} {a : Act} {w : World} {rest : List Oper} {o : Oper} (hw : Region.wanted o (yielded ops a.tmps) = false)
    (h : wpList P ops Q rest (a.put o.dst undef) w) : wpList P ops Q (o :: rest) a w := wpList_skip hw h

theorem put_same (a : Act) (d : Nat) (v : Value) (h : d < a.tmps.size) : (a.put (some d) v).eval (.tmp d) = v := by
  simp [Act.put, Act.eval, Array.getD_eq_getD_getElem?, h]
theorem put_other (a : Act) (d n : Nat) (v : Value) (h : n ≠ d) : (a.put (some d) v).eval (.tmp n) = a.eval (.tmp n) := by
  simp [Act.put, Act.eval, Array.getD_eq_getD_getElem?, Array.getElem?_setIfInBounds_ne (Ne.symm h)]
theorem put_size (a : Act) (d : Nat) (v : Value) : (a.put (some d) v).tmps.size = a.tmps.size := by simp [Act.put]

end Go.Proofs.YtonemmdipmohgaaDoor

namespace Go.Proofs.YtonemmdipmohgaaDoor
open Go.RowKit
set_option linter.unusedVariables false
set_option linter.unusedSimpArgs false
namespace Pk

def findRegion (n : Nat) : Code → Option (Array Oper)
  | .region id ops _ => if id = n then some ops else none
  | .seq a b => match findRegion n a with
    | some c => some c
    | none => findRegion n b
  | .cond _ a b => match findRegion n a with
    | some c => some c
    | none => findRegion n b
  | .block _ c => findRegion n c
  | .loop c => findRegion n c
  | .scope c => findRegion n c
  | _ => none
noncomputable def zops : Array Oper := ((Tryd.f74.body).bind (findRegion 50)).getD #[]
theorem zsize : zops.size = 68 := by kernel_rfl
noncomputable def zop (k : Nat) : Oper := zops.getD k ⟨none, .move (.const .nilIface), 0, "", #[], none⟩
theorem zdrop (k : Nat) (h : k < 68) : zops.toList.drop k = zop k :: zops.toList.drop (k + 1) := by
  have hz : k < zops.toList.length := by rw [Array.length_toList, zsize]; exact h
  rw [List.drop_eq_getElem_cons hz]
  congr 1
  rw [zop, Array.getD_eq_getD_getElem?, Array.getElem?_eq_getElem (by rw [zsize]; exact h)]
  simp

/-- The operation number k. -/
def Zis (k : Nat) (op : Op) (g : Option (Nat × Bool)) : Prop := (zop k).op = op ∧ (zop k).dst = some (186 + k) ∧ (zop k).guard = g
theorem wanted_free {o : Oper} {f : Nat → Option Bool} (hg : o.guard = none) : Region.wanted o f = true := by simp [Region.wanted, hg]
theorem wanted_guard {k : Nat} {op : Op} {a : Act} {i : Nat} {b c : Bool} (hk : Zis k op (some (i, b))) {op' : Op} {g' : Option (Nat × Bool)} (hi : Zis i op' g') (hs : i < 68) (ha : a.tmps.size = 254) (hv : a.eval (.tmp (186 + i)) = .bool c) : Region.wanted (zop k) (yielded zops a.tmps) = (c == b) := by
  have h1 : (zops[i]?).bind (·.dst) = some (186 + i) := by
    rw [Array.getElem?_eq_getElem (by rw [zsize]; exact hs)]
    have : zop i = zops[i]'(by rw [zsize]; exact hs) := by
      rw [zop, Array.getD_eq_getD_getElem?, Array.getElem?_eq_getElem (by rw [zsize]; exact hs)]; rfl
    rw [Option.bind_some, ← this]; exact hi.2.1
  have hd : 186 + i < a.tmps.size := by rw [ha]; omega
  have h2 : a.tmps[186 + i]? = some (.bool c) := by
    have : a.tmps.getD (186 + i) undef = .bool c := hv
    rw [Array.getD_eq_getD_getElem?, Array.getElem?_eq_getElem hd] at this
    rw [Array.getElem?_eq_getElem hd]
    simpa using this
  simp [Region.wanted, hk.2.2, yielded, h1, h2]

section
variable {P : Program} {ev : Operand → Value} {o : Oper} {W : World} {v : Value}
theorem rFieldAddr {t : TypeId} {x : Operand} {f : Nat} (ho : o.op = .fieldAddr t x f) (hk : (Instr.fieldAt t (ev x) f).run P W = .ok v W) : (execOp ev o).run P W = .ok (.value v) W := by
  unfold execOp
  rw [ho]
  show ((Instr.fieldAt t (ev x) f) >>= fun v => pure (Next.value v)).run P W = _
  rw [Sem.run_bind, hk]; rfl
theorem rLoad {t : TypeId} {x : Operand} (ho : o.op = .load t x) (hk : (Instr.loadAt t (ev x)).run P W = .ok v W) : (execOp ev o).run P W = .ok (.value v) W := by
  unfold execOp
  rw [ho]
  show ((Instr.loadAt t (ev x)) >>= fun v => pure (Next.value v)).run P W = _
  rw [Sem.run_bind, hk]; rfl
theorem rBuild {t : TypeId} {xs : Array (Nat × Operand)} (ho : o.op = .build t xs) (hk : (Instr.build t (xs.map fun (i, x) => (i, ev x))).run P W = .ok v W) : (execOp ev o).run P W = .ok (.value v) W := by
  unfold execOp
  rw [ho]
  show ((Instr.build t (xs.map fun (i, x) => (i, ev x))) >>= fun v => pure (Next.value v)).run P W = _
  rw [Sem.run_bind, hk]; rfl
theorem rUn {op : UnOp} {t : TypeId} {x : Operand} (ho : o.op = .unOp op t x) (hk : (Op.unary op (ev x)).run P W = .ok v W) : (execOp ev o).run P W = .ok (.value v) W := by
  unfold execOp
  rw [ho]
  show ((Op.unary op (ev x)) >>= fun v => pure (Next.value v)).run P W = _
  rw [Sem.run_bind, hk]; rfl
theorem rBin {op : BinOp} {t t' : TypeId} {x y : Operand} (ho : o.op = .binOp op t x y t') (hk : (do eqGuard op t x y (ev x) (ev y); binOp op t (ev x) (ev y) : Sem Value).run P W = .ok v W) : (execOp ev o).run P W = .ok (.value v) W := by
  unfold execOp
  rw [ho]
  show ((do eqGuard op t x y (ev x) (ev y); binOp op t (ev x) (ev y) : Sem Value) >>= fun v => pure (Next.value v)).run P W = _
  rw [Sem.run_bind, hk]; rfl
theorem rMove {x : Operand} (ho : o.op = .move x) : (execOp ev o).run P W = .ok (.value (ev x)) W := by
  unfold execOp
  rw [ho]
  rfl
theorem rPick {c x y : Operand} {b : Bool} (ho : o.op = .pick c x y) (hc : ev c = .bool b) : (execOp ev o).run P W = .ok (.value (if b then ev x else ev y)) W := by
  unfold execOp
  rw [ho]
  show ((asBool (ev c)) >>= fun b => pure (Next.value (if b then ev x else ev y))).run P W = _
  rw [hc]
  cases b <;> rfl
theorem rLen {x : Operand} {t : TypeId} (ho : o.op = .call { callee := .builtin .len, args := #[x], argTypes := #[t] }) (hk : ∀ ty, (Builtin.len_ #[t] ty #[ev x]).run P W = .ok v W) : (execOp ev o).run P W = .ok (.value v) W := by
  obtain ⟨d, op, ty, pos, af, gu⟩ := o
  cases ho
  rw [BigFrame.execOp_builtin, BigFrame.builtin_len, Sem.run_bind]
  rw [show Array.map ev #[x] = #[ev x] by simp, hk]; rfl
end

section
variable {W : World} {g : Nat}
theorem kField (f k : Nat) (h : ∀ g W, (Instr.fieldAt PT (.pointer (some ⟨g, 0, none⟩)) f).run Tryd.prog W = .ok (.pointer (some ⟨g, k, none⟩)) W) : True := trivial
theorem kId : (Instr.fieldAt PT (.pointer (some ⟨g, 0, none⟩)) 2).run Tryd.prog W = .ok (.pointer (some ⟨g, 2, none⟩)) W := by kernel_rfl
theorem kEq0 (x y : Operand) (n : Int) : (do eqGuard .eql 3 x y (.int .i64 n) (.int .i64 0); binOp .eql 3 (.int .i64 n) (.int .i64 0) : Sem Value).run Tryd.prog W = .ok (.bool (n == 0)) W := by
  simp [go_sem, eqGuard]
theorem kNot (b : Bool) : (Op.unary .not (.bool b)).run Tryd.prog W = .ok (.bool !b) W := by cases b <;> rfl
theorem kLoadB (k : Nat) (b : Bool) (h : W.cell? ⟨g, k, none⟩ = some (.bool b)) : (Instr.loadAt 4 (.pointer (some ⟨g, k, none⟩))).run Tryd.prog W = .ok (.bool b) W := by
  simp [h, go_sem]
theorem kLoadI (k : Nat) (n : Int) (h : W.cell? ⟨g, k, none⟩ = some (.int .i64 n)) : (Instr.loadAt 3 (.pointer (some ⟨g, k, none⟩))).run Tryd.prog W = .ok (.int .i64 n) W := by
  simp [h, go_sem]
theorem kLoadS (k : Nat) (n : ByteArray) (h : W.cell? ⟨g, k, none⟩ = some (.string n)) : (Instr.loadAt 9 (.pointer (some ⟨g, k, none⟩))).run Tryd.prog W = .ok (.string n) W := by
  simp [h, go_sem]
theorem kLoadC (k : Nat) (A : Option Addr) (l c : Nat) (h : W.cell? ⟨g, k, none⟩ = some (.slice A l c)) : (Instr.loadAt 29 (.pointer (some ⟨g, k, none⟩))).run Tryd.prog W = .ok (.slice A l c) W := by
  simp [h, go_sem]
theorem kLoadU (k : Nat) (A : Option Addr) (l c : Nat) (h : W.cell? ⟨g, k, none⟩ = some (.slice A l c)) : (Instr.loadAt 30 (.pointer (some ⟨g, k, none⟩))).run Tryd.prog W = .ok (.slice A l c) W := by
  simp [h, go_sem]
theorem kLenC (ty : TypeId) (A : Option Addr) (l c : Nat) : (Builtin.len_ #[29] ty #[.slice A l c]).run Tryd.prog W = .ok (.int .i64 l) W := by
  simp [go_sem, Builtin.len_]
theorem kLenU (ty : TypeId) (A : Option Addr) (l c : Nat) : (Builtin.len_ #[30] ty #[.slice A l c]).run Tryd.prog W = .ok (.int .i64 l) W := by
  simp [go_sem, Builtin.len_]
theorem kAdd (x y : Operand) (a b : ByteArray) (h : a.size + b.size ≤ 9223372036854775807) : (do eqGuard .add 9 x y (.string a) (.string b); binOp .add 9 (.string a) (.string b) : Sem Value).run Tryd.prog W = .ok (.string (a ++ b)) W := by
  simp [go_sem, eqGuard, h]
theorem kEqS (x y : Operand) (a : ByteArray) : (do eqGuard .eql 9 x y (.string a) (.string ⟨#[]⟩); binOp .eql 9 (.string a) (.string ⟨#[]⟩) : Sem Value).run Tryd.prog W = .ok (.bool (a.toList == [])) W := by
  simp [go_sem, eqGuard]
end
end Pk
end Go.Proofs.YtonemmdipmohgaaDoor

namespace Go.Proofs.YtonemmdipmohgaaDoor
open Go.RowKit
set_option linter.unusedVariables false
set_option linter.unusedSimpArgs false
namespace Pk
section
variable {Q : Exit → Act → World → Prop} {W : World} {g : Nat} {a : Act}
abbrev ZW (Q : Exit → Act → World → Prop) (k : Nat) (a : Act) (W : World) : Prop := wpList Tryd.prog zops Q (zops.toList.drop k) a W
theorem zstep {k : Nat} {op : Op} {gd : Option (Nat × Bool)} {v : Value} (hk : k < 68) (hz : Zis k op gd) (hw : Region.wanted (zop k) (yielded zops a.tmps) = true) (hr : (execOp a.eval (zop k)).run Tryd.prog W = .ok (.value v) W) (h : ZW Q (k + 1) (a.put (some (186 + k)) v) W) : ZW Q k a W := by
  unfold ZW
  rw [zdrop k hk]
  refine st_val v hw hr ?_
  rw [hz.2.1]; exact h
theorem zskip {k : Nat} {op : Op} {gd : Option (Nat × Bool)} (hk : k < 68) (hz : Zis k op gd) (hw : Region.wanted (zop k) (yielded zops a.tmps) = false) (h : ZW Q (k + 1) (a.put (some (186 + k)) undef) W) : ZW Q k a W := by
  unfold ZW
  rw [zdrop k hk]
  refine st_skip hw ?_
  rw [hz.2.1]; exact h

/-- The frame at a condition's end: slot 1 holds the packet's place, the m-th operation's what holds so far. -/
structure Zi (g m : Nat) (c : Bool) (a : Act) : Prop where
  size : a.tmps.size = 254
  one : a.eval (.tmp 1) = .pointer (some ⟨g, 0, none⟩)
  it : a.eval (.tmp (186 + m)) = .bool c
  defs : a.defers = []

theorem Zi.put {m : Nat} {c : Bool} (h : Zi g m c a) {k : Nat} (v : Value) (hk : k ≠ m) : Zi g m c (a.put (some (186 + k)) v) :=
  ⟨by rw [put_size]; exact h.size, by rw [put_other _ _ _ _ (by omega)]; exact h.one, by rw [put_other _ _ _ _ (by omega)]; exact h.it, h.defs⟩
theorem Zi.new {m : Nat} {c : Bool} (h : Zi g m c a) {k : Nat} (d : Bool) (hk : k < 68) : Zi g k d (a.put (some (186 + k)) (.bool d)) :=
  ⟨by rw [put_size]; exact h.size, by rw [put_other _ _ _ _ (by omega)]; exact h.one, put_same _ _ _ (by rw [h.size]; omega), h.defs⟩
theorem Zi.want {m k : Nat} {c b : Bool} {op op' : Op} {g' : Option (Nat × Bool)} (h : Zi g m c a) (h0 : Zis m op' g') (hm : m < 68) (hz : Zis k op (some (m, b))) : Region.wanted (zop k) (yielded zops a.tmps) = (c == b) :=
  wanted_guard hz h0 hm h.size h.it

theorem zmove {m : Nat} {c : Bool} (h : Zi g m c a) (hm : m + 1 < 68) (hz : Zis (m + 1) (.move (.tmp (186 + m))) none) (hn : ∀ a, Zi g (m + 1) c a → ZW Q (m + 2) a W) : ZW Q (m + 1) a W := by
  refine zstep (v := .bool c) hm hz (wanted_free hz.2.2) ?_ (hn _ (h.new c hm))
  rw [rMove hz.1, h.it]
theorem zpick {m k : Nat} {c b : Bool} (h : Zi g m c a) (hk : k + 1 < 68) (hz : Zis (k + 1) (.pick (.tmp (186 + m)) (.tmp (186 + k)) (.const (.bool false))) none) (hv : c = true → a.eval (.tmp (186 + k)) = .bool b) (hn : ∀ a, Zi g (k + 1) (c && b) a → ZW Q (k + 2) a W) : ZW Q (k + 1) a W := by
  refine zstep (v := .bool (c && b)) hk hz (wanted_free hz.2.2) ?_ (hn _ (h.new _ hk))
  rw [rPick hz.1 h.it]
  cases c
  · rfl
  · rw [if_pos rfl, hv rfl]; rfl
theorem zskips {m n : Nat} (h : Zi g m false a) (k : Nat) (hk : k + n < 68) (hm : m < k) {op' : Op} {g' : Option (Nat × Bool)} (h0 : Zis m op' g') (hz : ∀ i, i < n → ∃ op, Zis (k + i) op (some (m, true))) (hn : ∀ a, Zi g m false a → ZW Q (k + n) a W) : ZW Q k a W := by
  induction n generalizing k a with
  | zero => exact hn a h
  | succ n ih =>
    obtain ⟨op, ho⟩ := hz 0 (by omega)
    refine zskip (by omega) ho (h.want h0 (by omega) ho) ?_
    refine ih (h.put _ (by omega)) (k + 1) (by omega) (by omega) (fun i hi => ?_) (fun a ha => ?_)
    · have := hz (i + 1) (by omega)
      rwa [show k + (i + 1) = k + 1 + i by omega] at this
    · have := hn a ha
      rwa [show k + (n + 1) = k + 1 + n by omega] at this

/-- A condition: a field that must be false. -/
theorem zflag {m : Nat} {c b : Bool} (h : Zi g m c a) (f k : Nat) (hf : ∀ W, (Instr.fieldAt PT (.pointer (some ⟨g, 0, none⟩)) f).run Tryd.prog W = .ok (.pointer (some ⟨g, k, none⟩)) W) (hm : m + 5 < 68) (hc : W.cell? ⟨g, k, none⟩ = some (.bool b)) {op' : Op} {g' : Option (Nat × Bool)} (h0 : Zis m op' g')
    (h1 : Zis (m + 1) (.fieldAddr PT (.tmp 1) f) (some (m, true))) (h2 : Zis (m + 2) (.load 4 (.tmp (186 + (m + 1)))) (some (m, true)))
    (h3 : Zis (m + 3) (.unOp .not 4 (.tmp (186 + (m + 2)))) (some (m, true))) (h4 : Zis (m + 4) (.pick (.tmp (186 + m)) (.tmp (186 + (m + 3))) (.const (.bool false))) none)
    (h5 : Zis (m + 5) (.move (.tmp (186 + (m + 4)))) none) (hn : ∀ a, Zi g (m + 5) (c && !b) a → ZW Q (m + 6) a W) : ZW Q (m + 1) a W := by
  cases c with
  | false =>
    refine zskips (n := 3) h (m + 1) (by omega) (by omega) h0 (fun i hi => ?_) (fun a ha => ?_)
    · match i, hi with
      | 0, _ => exact ⟨_, h1⟩
      | 1, _ => exact ⟨_, h2⟩
      | 2, _ => exact ⟨_, h3⟩
    · refine zpick (k := m + 3) (b := !b) ha (by omega) h4 (fun h => absurd h (by decide)) (fun a ha => ?_)
      exact zmove (m := m + 4) ha (by omega) h5 hn
  | true =>
    have e1 := put_same a (186 + (m + 1)) (.pointer (some ⟨g, k, none⟩)) (by rw [h.size]; omega)
    refine zstep (by omega) h1 (h.want h0 (by omega) h1) (rFieldAddr h1.1 (by rw [h.one]; exact hf W)) ?_
    have H1 := h.put (k := m + 1) (.pointer (some ⟨g, k, none⟩)) (by omega)
    generalize a.put (some (186 + (m + 1))) (.pointer (some ⟨g, k, none⟩)) = a1 at e1 H1 ⊢
    have e2 := put_same a1 (186 + (m + 2)) (.bool b) (by rw [H1.size]; omega)
    refine zstep (by omega) h2 (H1.want h0 (by omega) h2) (rLoad h2.1 (by rw [e1]; exact kLoadB k b hc)) ?_
    have H2 := H1.put (k := m + 2) (.bool b) (by omega)
    generalize a1.put (some (186 + (m + 2))) (.bool b) = a2 at e2 H2 ⊢
    have e3 := put_same a2 (186 + (m + 3)) (.bool !b) (by rw [H2.size]; omega)
    refine zstep (by omega) h3 (H2.want h0 (by omega) h3) (rUn h3.1 (by rw [e2]; exact kNot b)) ?_
    have H3 := H2.put (k := m + 3) (.bool !b) (by omega)
    generalize a2.put (some (186 + (m + 3))) (.bool !b) = a3 at e3 H3 ⊢
    refine zpick (k := m + 3) (b := !b) H3 (by omega) h4 (fun _ => e3) (fun a ha => ?_)
    exact zmove (m := m + 4) ha (by omega) h5 hn
end
end Pk
end Go.Proofs.YtonemmdipmohgaaDoor

namespace Go.Proofs.YtonemmdipmohgaaDoor
open Go.RowKit
set_option linter.unusedVariables false
set_option linter.unusedSimpArgs false
namespace Pk
section
variable {Q : Exit → Act → World → Prop} {W : World} {g : Nat} {a : Act}

/-- A condition: a number that must be 0; up to its pick. -/
theorem zint {m : Nat} {c : Bool} {n : Int} (h : Zi g m c a) (f k : Nat) (hf : ∀ W, (Instr.fieldAt PT (.pointer (some ⟨g, 0, none⟩)) f).run Tryd.prog W = .ok (.pointer (some ⟨g, k, none⟩)) W) (hm : m + 4 < 68) (hc : W.cell? ⟨g, k, none⟩ = some (.int .i64 n)) {op' : Op} {g' : Option (Nat × Bool)} (h0 : Zis m op' g')
    (h1 : Zis (m + 1) (.fieldAddr PT (.tmp 1) f) (some (m, true))) (h2 : Zis (m + 2) (.load 3 (.tmp (186 + (m + 1)))) (some (m, true)))
    (h3 : Zis (m + 3) (.binOp .eql 3 (.tmp (186 + (m + 2))) (.const (.int .i64 0)) 3) (some (m, true))) (h4 : Zis (m + 4) (.pick (.tmp (186 + m)) (.tmp (186 + (m + 3))) (.const (.bool false))) none)
    (hn : ∀ a, Zi g (m + 4) (c && (n == 0)) a → ZW Q (m + 5) a W) : ZW Q (m + 1) a W := by
  cases c with
  | false =>
    refine zskips (n := 3) h (m + 1) (by omega) (by omega) h0 (fun i hi => ?_) (fun a ha => ?_)
    · match i, hi with
      | 0, _ => exact ⟨_, h1⟩
      | 1, _ => exact ⟨_, h2⟩
      | 2, _ => exact ⟨_, h3⟩
    · exact zpick (k := m + 3) (b := n == 0) ha (by omega) h4 (fun h => absurd h (by decide)) hn
  | true =>
    have e1 := put_same a (186 + (m + 1)) (.pointer (some ⟨g, k, none⟩)) (by rw [h.size]; omega)
    refine zstep (by omega) h1 (h.want h0 (by omega) h1) (rFieldAddr h1.1 (by rw [h.one]; exact hf W)) ?_
    have H1 := h.put (k := m + 1) (.pointer (some ⟨g, k, none⟩)) (by omega)
    generalize a.put (some (186 + (m + 1))) (.pointer (some ⟨g, k, none⟩)) = a1 at e1 H1 ⊢
    have e2 := put_same a1 (186 + (m + 2)) (.int .i64 n) (by rw [H1.size]; omega)
    refine zstep (by omega) h2 (H1.want h0 (by omega) h2) (rLoad h2.1 (by rw [e1]; exact kLoadI k n hc)) ?_
    have H2 := H1.put (k := m + 2) (.int .i64 n) (by omega)
    generalize a1.put (some (186 + (m + 2))) (.int .i64 n) = a2 at e2 H2 ⊢
    have e3 := put_same a2 (186 + (m + 3)) (.bool (n == 0)) (by rw [H2.size]; omega)
    refine zstep (by omega) h3 (H2.want h0 (by omega) h3) (rBin h3.1 (by rw [e2]; exact kEq0 _ _ n)) ?_
    have H3 := H2.put (k := m + 3) (.bool (n == 0)) (by omega)
    generalize a2.put (some (186 + (m + 3))) (.bool (n == 0)) = a3 at e3 H3 ⊢
    exact zpick (k := m + 3) (b := n == 0) H3 (by omega) h4 (fun _ => e3) hn

/-- A condition: a row that must be empty. -/
theorem zlen {m : Nat} {c : Bool} {A : Option Addr} {l cp : Nat} {t : TypeId} (h : Zi g m c a) (f k : Nat) (hf : ∀ W, (Instr.fieldAt PT (.pointer (some ⟨g, 0, none⟩)) f).run Tryd.prog W = .ok (.pointer (some ⟨g, k, none⟩)) W) (hm : m + 6 < 68)
    (hl : (Instr.loadAt t (.pointer (some ⟨g, k, none⟩))).run Tryd.prog W = .ok (.slice A l cp) W) (hL : ∀ ty, (Builtin.len_ #[t] ty #[.slice A l cp]).run Tryd.prog W = .ok (.int .i64 l) W) {op' : Op} {g' : Option (Nat × Bool)} (h0 : Zis m op' g')
    (h1 : Zis (m + 1) (.fieldAddr PT (.tmp 1) f) (some (m, true))) (h2 : Zis (m + 2) (.load t (.tmp (186 + (m + 1)))) (some (m, true)))
    (h3 : Zis (m + 3) (.call { callee := .builtin .len, args := #[.tmp (186 + (m + 2))], argTypes := #[t] }) (some (m, true)))
    (h4 : Zis (m + 4) (.binOp .eql 3 (.tmp (186 + (m + 3))) (.const (.int .i64 0)) 3) (some (m, true))) (h5 : Zis (m + 5) (.pick (.tmp (186 + m)) (.tmp (186 + (m + 4))) (.const (.bool false))) none)
    (h6 : Zis (m + 6) (.move (.tmp (186 + (m + 5)))) none) (hn : ∀ a, Zi g (m + 6) (c && ((l : Int) == 0)) a → ZW Q (m + 7) a W) : ZW Q (m + 1) a W := by
  cases c with
  | false =>
    refine zskips (n := 4) h (m + 1) (by omega) (by omega) h0 (fun i hi => ?_) (fun a ha => ?_)
    · match i, hi with
      | 0, _ => exact ⟨_, h1⟩
      | 1, _ => exact ⟨_, h2⟩
      | 2, _ => exact ⟨_, h3⟩
      | 3, _ => exact ⟨_, h4⟩
    · refine zpick (k := m + 4) (b := (l : Int) == 0) ha (by omega) h5 (fun h => absurd h (by decide)) (fun a ha => ?_)
      exact zmove (m := m + 5) ha (by omega) h6 hn
  | true =>
    have e1 := put_same a (186 + (m + 1)) (.pointer (some ⟨g, k, none⟩)) (by rw [h.size]; omega)
    refine zstep (by omega) h1 (h.want h0 (by omega) h1) (rFieldAddr h1.1 (by rw [h.one]; exact hf W)) ?_
    have H1 := h.put (k := m + 1) (.pointer (some ⟨g, k, none⟩)) (by omega)
    generalize a.put (some (186 + (m + 1))) (.pointer (some ⟨g, k, none⟩)) = a1 at e1 H1 ⊢
    have e2 := put_same a1 (186 + (m + 2)) (.slice A l cp) (by rw [H1.size]; omega)
    refine zstep (by omega) h2 (H1.want h0 (by omega) h2) (rLoad h2.1 (by rw [e1]; exact hl)) ?_
    have H2 := H1.put (k := m + 2) (.slice A l cp) (by omega)
    generalize a1.put (some (186 + (m + 2))) (.slice A l cp) = a2 at e2 H2 ⊢
    have e3 := put_same a2 (186 + (m + 3)) (.int .i64 l) (by rw [H2.size]; omega)
    refine zstep (by omega) h3 (H2.want h0 (by omega) h3) (rLen h3.1 (by intro ty; rw [e2]; exact hL ty)) ?_
    have H3 := H2.put (k := m + 3) (.int .i64 l) (by omega)
    generalize a2.put (some (186 + (m + 3))) (.int .i64 l) = a3 at e3 H3 ⊢
    have e4 := put_same a3 (186 + (m + 4)) (.bool ((l : Int) == 0)) (by rw [H3.size]; omega)
    refine zstep (by omega) h4 (H3.want h0 (by omega) h4) (rBin h4.1 (by rw [e3]; exact kEq0 _ _ _)) ?_
    have H4 := H3.put (k := m + 4) (.bool ((l : Int) == 0)) (by omega)
    generalize a3.put (some (186 + (m + 4))) (.bool ((l : Int) == 0)) = a4 at e4 H4 ⊢
    refine zpick (k := m + 4) (b := (l : Int) == 0) H4 (by omega) h5 (fun _ => e4) (fun a ha => ?_)
    exact zmove (m := m + 5) ha (by omega) h6 hn

/-- The three strings together must be empty. -/
theorem zstr {c : Bool} {s1 s2 s3 : ByteArray} (h : Zi g 26 c a) (hc1 : W.cell? ⟨g, 7, none⟩ = some (.string s1)) (hc2 : W.cell? ⟨g, 13, none⟩ = some (.string s2)) (hc3 : W.cell? ⟨g, 14, none⟩ = some (.string s3))
    (hb : s1.size + s2.size + s3.size ≤ 9223372036854775807) (hn : ∀ a, Zi g 37 (c && ((s1 ++ s2 ++ s3).toList == [])) a → ZW Q 38 a W) : ZW Q 27 a W := by
  have h0 : Zis 26 (.move (.tmp 211)) none := ⟨by kernel_rfl, by kernel_rfl, by kernel_rfl⟩
  have h1 : Zis 27 (.fieldAddr PT (.tmp 1) 4) (some (26, true)) := ⟨by kernel_rfl, by kernel_rfl, by kernel_rfl⟩
  have h2 : Zis 28 (.load 9 (.tmp 213)) (some (26, true)) := ⟨by kernel_rfl, by kernel_rfl, by kernel_rfl⟩
  have h3 : Zis 29 (.fieldAddr PT (.tmp 1) 10) (some (26, true)) := ⟨by kernel_rfl, by kernel_rfl, by kernel_rfl⟩
  have h4 : Zis 30 (.load 9 (.tmp 215)) (some (26, true)) := ⟨by kernel_rfl, by kernel_rfl, by kernel_rfl⟩
  have h5 : Zis 31 (.binOp .add 9 (.tmp 214) (.tmp 216) 9) (some (26, true)) := ⟨by kernel_rfl, by kernel_rfl, by kernel_rfl⟩
  have h6 : Zis 32 (.fieldAddr PT (.tmp 1) 11) (some (26, true)) := ⟨by kernel_rfl, by kernel_rfl, by kernel_rfl⟩
  have h7 : Zis 33 (.load 9 (.tmp 218)) (some (26, true)) := ⟨by kernel_rfl, by kernel_rfl, by kernel_rfl⟩
  have h8 : Zis 34 (.binOp .add 9 (.tmp 217) (.tmp 219) 9) (some (26, true)) := ⟨by kernel_rfl, by kernel_rfl, by kernel_rfl⟩
  have h9 : Zis 35 (.binOp .eql 9 (.tmp 220) (.const (.string ⟨#[]⟩)) 9) (some (26, true)) := ⟨by kernel_rfl, by kernel_rfl, by kernel_rfl⟩
  have h10 : Zis 36 (.pick (.tmp 212) (.tmp 221) (.const (.bool false))) none := ⟨by kernel_rfl, by kernel_rfl, by kernel_rfl⟩
  have h11 : Zis 37 (.move (.tmp 222)) none := ⟨by kernel_rfl, by kernel_rfl, by kernel_rfl⟩
  cases c with
  | false =>
    refine zskips (n := 9) h 27 (by omega) (by omega) h0 (fun i hi => ?_) (fun a ha => ?_)
    · match i, hi with
      | 0, _ => exact ⟨_, h1⟩
      | 1, _ => exact ⟨_, h2⟩
      | 2, _ => exact ⟨_, h3⟩
      | 3, _ => exact ⟨_, h4⟩
      | 4, _ => exact ⟨_, h5⟩
      | 5, _ => exact ⟨_, h6⟩
      | 6, _ => exact ⟨_, h7⟩
      | 7, _ => exact ⟨_, h8⟩
      | 8, _ => exact ⟨_, h9⟩
    · refine zpick (k := 35) (b := (s1 ++ s2 ++ s3).toList == []) ha (by omega) h10 (fun h => absurd h (by decide)) (fun a ha => ?_)
      exact zmove (m := 36) ha (by omega) h11 hn
  | true =>
    have e1 := put_same a 213 (.pointer (some ⟨g, 7, none⟩)) (by rw [h.size]; omega)
    refine zstep (k := 27) (v := .pointer (some ⟨g, 7, none⟩)) (by omega) h1 (h.want h0 (by omega) h1) (rFieldAddr h1.1 (by rw [h.one]; kernel_rfl)) ?_
    have H1 := h.put (k := 27) (.pointer (some ⟨g, 7, none⟩)) (by omega)
    generalize a.put (some 213) (.pointer (some ⟨g, 7, none⟩)) = a1 at e1 H1 ⊢
    have e2 := put_same a1 214 (.string s1) (by rw [H1.size]; omega)
    refine zstep (k := 28) (by omega) h2 (H1.want h0 (by omega) h2) (rLoad h2.1 (by rw [e1]; exact kLoadS 7 _ hc1)) ?_
    have H2 := H1.put (k := 28) (.string s1) (by omega)
    generalize a1.put (some 214) (.string s1) = a2 at e2 H2 ⊢
    have e3 := put_same a2 215 (.pointer (some ⟨g, 13, none⟩)) (by rw [H2.size]; omega)
    have e23 := put_other a2 215 214 (.pointer (some ⟨g, 13, none⟩)) (by decide)
    refine zstep (k := 29) (v := .pointer (some ⟨g, 13, none⟩)) (by omega) h3 (H2.want h0 (by omega) h3) (rFieldAddr h3.1 (by rw [H2.one]; kernel_rfl)) ?_
    have H3 := H2.put (k := 29) (.pointer (some ⟨g, 13, none⟩)) (by omega)
    rw [e2] at e23
    generalize a2.put (some 215) (.pointer (some ⟨g, 13, none⟩)) = a3 at e3 H3 e23 ⊢
    have e4 := put_same a3 216 (.string s2) (by rw [H3.size]; omega)
    have e24 := put_other a3 216 214 (.string s2) (by decide)
    refine zstep (k := 30) (by omega) h4 (H3.want h0 (by omega) h4) (rLoad h4.1 (by rw [e3]; exact kLoadS 13 _ hc2)) ?_
    have H4 := H3.put (k := 30) (.string s2) (by omega)
    rw [e23] at e24
    generalize a3.put (some 216) (.string s2) = a4 at e4 H4 e24 ⊢
    have e5 := put_same a4 217 (.string (s1 ++ s2)) (by rw [H4.size]; omega)
    refine zstep (k := 31) (by omega) h5 (H4.want h0 (by omega) h5) (rBin h5.1 (by rw [e4, e24]; exact kAdd _ _ _ _ (by omega))) ?_
    have H5 := H4.put (k := 31) (.string (s1 ++ s2)) (by omega)
    generalize a4.put (some 217) (.string (s1 ++ s2)) = a5 at e5 H5 ⊢
    have e6 := put_same a5 218 (.pointer (some ⟨g, 14, none⟩)) (by rw [H5.size]; omega)
    have e56 := put_other a5 218 217 (.pointer (some ⟨g, 14, none⟩)) (by decide)
    refine zstep (k := 32) (v := .pointer (some ⟨g, 14, none⟩)) (by omega) h6 (H5.want h0 (by omega) h6) (rFieldAddr h6.1 (by rw [H5.one]; kernel_rfl)) ?_
    have H6 := H5.put (k := 32) (.pointer (some ⟨g, 14, none⟩)) (by omega)
    rw [e5] at e56
    generalize a5.put (some 218) (.pointer (some ⟨g, 14, none⟩)) = a6 at e6 H6 e56 ⊢
    have e7 := put_same a6 219 (.string s3) (by rw [H6.size]; omega)
    have e57 := put_other a6 219 217 (.string s3) (by decide)
    refine zstep (k := 33) (by omega) h7 (H6.want h0 (by omega) h7) (rLoad h7.1 (by rw [e6]; exact kLoadS 14 _ hc3)) ?_
    have H7 := H6.put (k := 33) (.string s3) (by omega)
    rw [e56] at e57
    generalize a6.put (some 219) (.string s3) = a7 at e7 H7 e57 ⊢
    have e8 := put_same a7 220 (.string (s1 ++ s2 ++ s3)) (by rw [H7.size]; omega)
    refine zstep (k := 34) (by omega) h8 (H7.want h0 (by omega) h8) (rBin h8.1 (by rw [e7, e57]; exact kAdd _ _ _ _ (by rw [ByteArray.size_append]; omega))) ?_
    have H8 := H7.put (k := 34) (.string (s1 ++ s2 ++ s3)) (by omega)
    generalize a7.put (some 220) (.string (s1 ++ s2 ++ s3)) = a8 at e8 H8 ⊢
    have e9 := put_same a8 221 (.bool ((s1 ++ s2 ++ s3).toList == [])) (by rw [H8.size]; omega)
    refine zstep (k := 35) (by omega) h9 (H8.want h0 (by omega) h9) (rBin h9.1 (by rw [e8]; exact kEqS _ _ _)) ?_
    have H9 := H8.put (k := 35) (.bool ((s1 ++ s2 ++ s3).toList == [])) (by omega)
    generalize a8.put (some 221) (.bool ((s1 ++ s2 ++ s3).toList == [])) = a9 at e9 H9 ⊢
    refine zpick (k := 35) (b := (s1 ++ s2 ++ s3).toList == []) H9 (by omega) h10 (fun _ => e9) (fun a ha => ?_)
    exact zmove (m := 36) ha (by omega) h11 hn

theorem kLoadM (p : Pkt) (h : PkAt W g p) : (Instr.loadAt 28 (.pointer (some ⟨g, 3, none⟩))).run Tryd.prog W = .ok (.agg #[.string p.topic, .string p.payload, .int .i64 p.qos, .bool p.retain]) W := by
  have h3 : W.cell? ⟨g, 3, none⟩ = some (.string p.topic) := h.cell 3
  have h4 : W.cell? ⟨g, 4, none⟩ = some (.string p.payload) := h.cell 4
  have h5 : W.cell? ⟨g, 5, none⟩ = some (.int .i64 p.qos) := h.cell 5
  have h6 : W.cell? ⟨g, 6, none⟩ = some (.bool p.retain) := h.cell 6
  simp [h3, h4, h5, h6, go_sem]
theorem kEqM (x y : Operand) (s t : ByteArray) (q : Int) (r : Bool) : (do eqGuard .eql 28 x y (.agg #[.string s, .string t, .int .i64 q, .bool r]) (.agg #[.string ⟨#[]⟩, .string ⟨#[]⟩, .int .i64 0, .bool false]); binOp .eql 28 (.agg #[.string s, .string t, .int .i64 q, .bool r]) (.agg #[.string ⟨#[]⟩, .string ⟨#[]⟩, .int .i64 0, .bool false]) : Sem Value).run Tryd.prog W = .ok (.bool ((s.toList == []) && (t.toList == []) && (q == 0) && (r == false))) W := by
  rw [Sem.run_bind, show (eqGuard .eql 28 x y (.agg #[.string s, .string t, .int .i64 q, .bool r]) (.agg #[.string ⟨#[]⟩, .string ⟨#[]⟩, .int .i64 0, .bool false])).run Tryd.prog W = .ok () W from run_eqGuard_agg (P := Tryd.prog) _ _ _ _ _ _ _ (by kernel_rfl), Result.andThen_ok, msg_eq]
theorem kBuildM : (Instr.build 28 #[]).run Tryd.prog W = .ok (.agg #[.string ⟨#[]⟩, .string ⟨#[]⟩, .int .i64 0, .bool false]) W := by kernel_rfl

/-- What must be so at check's end. -/
def Pkt.zero (p : Pkt) (lc ls : Nat) : Bool :=
  (p.topic.toList == []) && (p.payload.toList == []) && (p.qos == 0) && (p.retain == false) && (p.id == 0) && !p.dup && ((lc : Int) == 0) && ((ls : Int) == 0) && ((p.client ++ p.user ++ p.pass).toList == []) && !p.clean && !p.present && !p.will && !p.huser && !p.hpass && (p.alive == 0)

theorem zall (p : Pkt) (lc cc ls cs : Nat) (Ac As : Option Addr) (hc : p.codes = .slice Ac lc cc) (hs : p.subs = .slice As ls cs) (h : PkAt W g p) (hb : p.client.size + p.user.size + p.pass.size ≤ 9223372036854775807)
    (hsz : a.tmps.size = 254) (hdf : a.defers = []) (h1 : a.eval (.tmp 1) = .pointer (some ⟨g, 0, none⟩)) (hn : ∀ a, Zi g 66 (p.zero lc ls) a → ZW Q 67 a W) : ZW Q 0 a W := by
  have o0 : Zis 0 (.fieldAddr PT (.tmp 1) 3) none := ⟨by kernel_rfl, by kernel_rfl, by kernel_rfl⟩
  have o1 : Zis 1 (.load 28 (.tmp 186)) none := ⟨by kernel_rfl, by kernel_rfl, by kernel_rfl⟩
  have o2 : Zis 2 (.build 28 #[]) none := ⟨by kernel_rfl, by kernel_rfl, by kernel_rfl⟩
  have o3 : Zis 3 (.binOp .eql 28 (.tmp 187) (.tmp 188) 28) none := ⟨by kernel_rfl, by kernel_rfl, by kernel_rfl⟩
  have o4 : Zis 4 (.move (.tmp 189)) none := ⟨by kernel_rfl, by kernel_rfl, by kernel_rfl⟩
  have e0 := put_same a 186 (.pointer (some ⟨g, 3, none⟩)) (by omega)
  have s0 := put_size a 186 (.pointer (some ⟨g, 3, none⟩))
  have t0 := put_other a 186 1 (.pointer (some ⟨g, 3, none⟩)) (by decide)
  refine zstep (k := 0) (v := .pointer (some ⟨g, 3, none⟩)) (by omega) o0 (wanted_free o0.2.2) (rFieldAddr o0.1 (by rw [h1]; kernel_rfl)) ?_
  rw [h1] at t0
  rw [hsz] at s0
  have d0 : (a.put (some 186) (.pointer (some ⟨g, 3, none⟩))).defers = [] := hdf
  generalize a.put (some 186) (.pointer (some ⟨g, 3, none⟩)) = a1 at d0 e0 s0 t0 ⊢
  have e1 := put_same a1 187 (.agg #[.string p.topic, .string p.payload, .int .i64 p.qos, .bool p.retain]) (by omega)
  have s1 := put_size a1 187 (.agg #[.string p.topic, .string p.payload, .int .i64 p.qos, .bool p.retain])
  have t1 := put_other a1 187 1 (.agg #[.string p.topic, .string p.payload, .int .i64 p.qos, .bool p.retain]) (by decide)
  refine zstep (k := 1) (by omega) o1 (wanted_free o1.2.2) (rLoad o1.1 (by rw [e0]; exact kLoadM p h)) ?_
  rw [t0] at t1
  rw [s0] at s1
  have d1 : (a1.put (some 187) (.agg #[.string p.topic, .string p.payload, .int .i64 p.qos, .bool p.retain])).defers = [] := d0
  generalize a1.put (some 187) (.agg #[.string p.topic, .string p.payload, .int .i64 p.qos, .bool p.retain]) = a2 at d1 e1 s1 t1 ⊢
  have e2 := put_same a2 188 (.agg #[.string ⟨#[]⟩, .string ⟨#[]⟩, .int .i64 0, .bool false]) (by omega)
  have s2 := put_size a2 188 (.agg #[.string ⟨#[]⟩, .string ⟨#[]⟩, .int .i64 0, .bool false])
  have t2 := put_other a2 188 1 (.agg #[.string ⟨#[]⟩, .string ⟨#[]⟩, .int .i64 0, .bool false]) (by decide)
  have e12 := put_other a2 188 187 (.agg #[.string ⟨#[]⟩, .string ⟨#[]⟩, .int .i64 0, .bool false]) (by decide)
  refine zstep (k := 2) (v := .agg #[.string ⟨#[]⟩, .string ⟨#[]⟩, .int .i64 0, .bool false]) (by omega) o2 (wanted_free o2.2.2) (rBuild (v := .agg #[.string ⟨#[]⟩, .string ⟨#[]⟩, .int .i64 0, .bool false]) o2.1 (by simp only [Array.map_empty]; exact kBuildM)) ?_
  rw [t1] at t2
  rw [s1] at s2
  rw [e1] at e12
  have d2 : (a2.put (some 188) (.agg #[.string ⟨#[]⟩, .string ⟨#[]⟩, .int .i64 0, .bool false])).defers = [] := d1
  generalize a2.put (some 188) (.agg #[.string ⟨#[]⟩, .string ⟨#[]⟩, .int .i64 0, .bool false]) = a3 at d2 e2 s2 t2 e12 ⊢
  have e3 := put_same a3 189 (.bool ((p.topic.toList == []) && (p.payload.toList == []) && (p.qos == 0) && (p.retain == false))) (by omega)
  have s3 := put_size a3 189 (.bool ((p.topic.toList == []) && (p.payload.toList == []) && (p.qos == 0) && (p.retain == false)))
  have t3 := put_other a3 189 1 (.bool ((p.topic.toList == []) && (p.payload.toList == []) && (p.qos == 0) && (p.retain == false))) (by decide)
  refine zstep (k := 3) (by omega) o3 (wanted_free o3.2.2) (rBin o3.1 (by rw [e2, e12]; exact kEqM _ _ _ _ _ _)) ?_
  rw [t2] at t3
  rw [s2] at s3
  have d3 : (a3.put (some 189) (.bool ((p.topic.toList == []) && (p.payload.toList == []) && (p.qos == 0) && (p.retain == false)))).defers = [] := d2
  generalize a3.put (some 189) (.bool ((p.topic.toList == []) && (p.payload.toList == []) && (p.qos == 0) && (p.retain == false))) = a4 at d3 e3 s3 t3 ⊢
  have H : Zi g 3 _ a4 := ⟨s3, t3, e3, d3⟩
  refine zmove (m := 3) H (by omega) o4 (fun a H => ?_)
  clear e0 s0 t0 e1 s1 t1 e2 s2 t2 e12 e3 s3 t3
  refine zint (m := 4) H 2 2 (fun W => by kernel_rfl) (by omega) (h.cell 2) (op' := (zop 4).op) (g' := (zop 4).guard) ⟨rfl, by kernel_rfl, rfl⟩ (by exact ⟨by kernel_rfl, by kernel_rfl, by kernel_rfl⟩) (by exact ⟨by kernel_rfl, by kernel_rfl, by kernel_rfl⟩) (by exact ⟨by kernel_rfl, by kernel_rfl, by kernel_rfl⟩) (by exact ⟨by kernel_rfl, by kernel_rfl, by kernel_rfl⟩) (fun a H => ?_)
  refine zmove (m := 8) H (by omega) ⟨by kernel_rfl, by kernel_rfl, by kernel_rfl⟩ (fun a H => ?_)
  refine zflag (m := 9) H 1 1 (fun W => by kernel_rfl) (by omega) (h.cell 1) (op' := (zop 9).op) (g' := (zop 9).guard) ⟨rfl, by kernel_rfl, rfl⟩ (by exact ⟨by kernel_rfl, by kernel_rfl, by kernel_rfl⟩) (by exact ⟨by kernel_rfl, by kernel_rfl, by kernel_rfl⟩) (by exact ⟨by kernel_rfl, by kernel_rfl, by kernel_rfl⟩) (by exact ⟨by kernel_rfl, by kernel_rfl, by kernel_rfl⟩) (by exact ⟨by kernel_rfl, by kernel_rfl, by kernel_rfl⟩) (fun a H => ?_)
  refine zlen (m := 14) H 13 16 (fun W => by kernel_rfl) (by omega) (kLoadC 16 _ _ _ (by rw [← hc]; exact h.cell 16)) (fun ty => kLenC ty _ _ _) (op' := (zop 14).op) (g' := (zop 14).guard) ⟨rfl, by kernel_rfl, rfl⟩ (by exact ⟨by kernel_rfl, by kernel_rfl, by kernel_rfl⟩) (by exact ⟨by kernel_rfl, by kernel_rfl, by kernel_rfl⟩) (by exact ⟨by kernel_rfl, by kernel_rfl, by kernel_rfl⟩) (by exact ⟨by kernel_rfl, by kernel_rfl, by kernel_rfl⟩) (by exact ⟨by kernel_rfl, by kernel_rfl, by kernel_rfl⟩) (by exact ⟨by kernel_rfl, by kernel_rfl, by kernel_rfl⟩) (fun a H => ?_)
  refine zlen (m := 20) H 14 17 (fun W => by kernel_rfl) (by omega) (kLoadU 17 _ _ _ (by rw [← hs]; exact h.cell 17)) (fun ty => kLenU ty _ _ _) (op' := (zop 20).op) (g' := (zop 20).guard) ⟨rfl, by kernel_rfl, rfl⟩ (by exact ⟨by kernel_rfl, by kernel_rfl, by kernel_rfl⟩) (by exact ⟨by kernel_rfl, by kernel_rfl, by kernel_rfl⟩) (by exact ⟨by kernel_rfl, by kernel_rfl, by kernel_rfl⟩) (by exact ⟨by kernel_rfl, by kernel_rfl, by kernel_rfl⟩) (by exact ⟨by kernel_rfl, by kernel_rfl, by kernel_rfl⟩) (by exact ⟨by kernel_rfl, by kernel_rfl, by kernel_rfl⟩) (fun a H => ?_)
  refine zstr H (h.cell 7) (h.cell 13) (h.cell 14) hb (fun a H => ?_)
  refine zflag (m := 37) H 5 8 (fun W => by kernel_rfl) (by omega) (h.cell 8) (op' := (zop 37).op) (g' := (zop 37).guard) ⟨rfl, by kernel_rfl, rfl⟩ (by exact ⟨by kernel_rfl, by kernel_rfl, by kernel_rfl⟩) (by exact ⟨by kernel_rfl, by kernel_rfl, by kernel_rfl⟩) (by exact ⟨by kernel_rfl, by kernel_rfl, by kernel_rfl⟩) (by exact ⟨by kernel_rfl, by kernel_rfl, by kernel_rfl⟩) (by exact ⟨by kernel_rfl, by kernel_rfl, by kernel_rfl⟩) (fun a H => ?_)
  refine zflag (m := 42) H 12 15 (fun W => by kernel_rfl) (by omega) (h.cell 15) (op' := (zop 42).op) (g' := (zop 42).guard) ⟨rfl, by kernel_rfl, rfl⟩ (by exact ⟨by kernel_rfl, by kernel_rfl, by kernel_rfl⟩) (by exact ⟨by kernel_rfl, by kernel_rfl, by kernel_rfl⟩) (by exact ⟨by kernel_rfl, by kernel_rfl, by kernel_rfl⟩) (by exact ⟨by kernel_rfl, by kernel_rfl, by kernel_rfl⟩) (by exact ⟨by kernel_rfl, by kernel_rfl, by kernel_rfl⟩) (fun a H => ?_)
  refine zflag (m := 47) H 7 10 (fun W => by kernel_rfl) (by omega) (h.cell 10) (op' := (zop 47).op) (g' := (zop 47).guard) ⟨rfl, by kernel_rfl, rfl⟩ (by exact ⟨by kernel_rfl, by kernel_rfl, by kernel_rfl⟩) (by exact ⟨by kernel_rfl, by kernel_rfl, by kernel_rfl⟩) (by exact ⟨by kernel_rfl, by kernel_rfl, by kernel_rfl⟩) (by exact ⟨by kernel_rfl, by kernel_rfl, by kernel_rfl⟩) (by exact ⟨by kernel_rfl, by kernel_rfl, by kernel_rfl⟩) (fun a H => ?_)
  refine zflag (m := 52) H 8 11 (fun W => by kernel_rfl) (by omega) (h.cell 11) (op' := (zop 52).op) (g' := (zop 52).guard) ⟨rfl, by kernel_rfl, rfl⟩ (by exact ⟨by kernel_rfl, by kernel_rfl, by kernel_rfl⟩) (by exact ⟨by kernel_rfl, by kernel_rfl, by kernel_rfl⟩) (by exact ⟨by kernel_rfl, by kernel_rfl, by kernel_rfl⟩) (by exact ⟨by kernel_rfl, by kernel_rfl, by kernel_rfl⟩) (by exact ⟨by kernel_rfl, by kernel_rfl, by kernel_rfl⟩) (fun a H => ?_)
  refine zflag (m := 57) H 9 12 (fun W => by kernel_rfl) (by omega) (h.cell 12) (op' := (zop 57).op) (g' := (zop 57).guard) ⟨rfl, by kernel_rfl, rfl⟩ (by exact ⟨by kernel_rfl, by kernel_rfl, by kernel_rfl⟩) (by exact ⟨by kernel_rfl, by kernel_rfl, by kernel_rfl⟩) (by exact ⟨by kernel_rfl, by kernel_rfl, by kernel_rfl⟩) (by exact ⟨by kernel_rfl, by kernel_rfl, by kernel_rfl⟩) (by exact ⟨by kernel_rfl, by kernel_rfl, by kernel_rfl⟩) (fun a H => ?_)
  refine zint (m := 62) H 6 9 (fun W => by kernel_rfl) (by omega) (h.cell 9) (op' := (zop 62).op) (g' := (zop 62).guard) ⟨rfl, by kernel_rfl, rfl⟩ (by exact ⟨by kernel_rfl, by kernel_rfl, by kernel_rfl⟩) (by exact ⟨by kernel_rfl, by kernel_rfl, by kernel_rfl⟩) (by exact ⟨by kernel_rfl, by kernel_rfl, by kernel_rfl⟩) (by exact ⟨by kernel_rfl, by kernel_rfl, by kernel_rfl⟩) (fun a H => ?_)
  exact hn a H
end
end Pk
end Go.Proofs.YtonemmdipmohgaaDoor

namespace Go.Proofs.YtonemmdipmohgaaDoor
open Go.RowKit
set_option linter.unusedVariables false
set_option linter.unusedSimpArgs false
namespace Pk
theorem rCall {P : Program} {a : Act} {o : Oper} {W : World} {f : FuncId} {x : Operand} {ts : Array TypeId} (ho : o.op = .call { callee := .value (.func f), args := #[x], argTypes := ts }) (hE : Go.Proofs.Enters P f) : (execOp a.eval o).run P W = .ok (.enter f #[a.eval x]) W := by
  obtain ⟨d, op, ty, pos, af, gu⟩ := o
  cases ho
  rw [execOp_call_go]
  have : #[] ++ Array.map a.eval #[x] ++ #[] = #[a.eval x] := by simp
  rw [this]
  exact hE _ _
theorem need_enters : Go.Proofs.Enters Tryd.prog 87 := Go.Proofs.enters_of Tryd.func87 (by kernel_rfl) rfl

theorem zero_region (W : World) (g : Nat) (p : Pkt) (lc cc ls cs : Nat) (Ac As : Option Addr) (hc : p.codes = .slice Ac lc cc) (hs : p.subs = .slice As ls cs) (h : PkAt W g p) (hb : p.client.size + p.user.size + p.pass.size ≤ 9223372036854775807)
    (R : Ending → World → Prop) (hyes : p.zero lc ls = true → R (.returned (.tuple #[])) W) (hno : p.zero lc ls = false → R badP W) (ops : Array Oper) (hops : ops = zops) (a : Act) (hsz : a.tmps.size = 254) (hdf : a.defers = []) (h1 : a.eval (.tmp 1) = .pointer (some ⟨g, 0, none⟩)) :
    (Code.region 50 ops false).wp Tryd.prog (bodyPost Tryd.prog Tryd.f74 R) a W := by
  subst hops
  refine wp_region_list ?_
  refine zall p lc cc ls cs Ac As hc hs h hb hsz hdf h1 (fun a H => ?_)
  have o67 : Zis 67 (.call { callee := .value (.func 87), args := #[.tmp 252], argTypes := #[4] }) none := ⟨by kernel_rfl, by kernel_rfl, by kernel_rfl⟩
  unfold ZW
  rw [zdrop 67 (by omega)]
  refine (BigFrame.wpList_want (wanted_free o67.2.2) (fun K hK => ?_))
  unfold Oper.wp
  rw [rCall o67.1 need_enters, H.it, Oper.upon_enter]
  have hdrop : zops.toList.drop 68 = [] := by
    apply List.drop_eq_nil_of_le
    rw [Array.length_toList, zsize]
    exact Nat.le_refl _
  cases hz : p.zero lc ls with
  | true =>
    rw [hz] at H
    refine (need_yes W).mono ?_
    rintro e w' ⟨rfl, rfl⟩
    refine hK _ _ ?_
    rw [hdrop]
    refine wpList_nil ⟨?_, .tuple #[], ?_, hyes hz⟩
    · rw [o67.2.1]; exact H.defs
    · simp [results, Tryd.results74]
  | false =>
    rw [hz] at H
    refine (need_no W).mono ?_
    rintro e w' ⟨rfl, rfl⟩
    exact ⟨H.defs, hno hz⟩
end Pk
end Go.Proofs.YtonemmdipmohgaaDoor

namespace Go.Proofs.YtonemmdipmohgaaDoor
open Go.RowKit
set_option linter.unusedVariables false
set_option linter.unusedSimpArgs false
namespace Pk
def rowLen : Value → Nat
  | .slice _ l _ => l
  | _ => 0
/-- Whether a packet may be, as check has it: C its codes, D its filters. -/
def Good (p : Pkt) (C : List Int) (D : List (ByteArray × Int)) : Prop := 1 ≤ p.ty ∧ p.ty ≤ 14 ∧ Ok p C D ∧ p.after.zero (rowLen p.after.codes) (rowLen p.after.subs) = true
/-- What check does. -/
def Checks (w : World) (ok : Prop) (e : Ending) (w' : World) : Prop := Below w.heap.size w w' ∧ ((ok ∧ e = .returned (.tuple #[])) ∨ (¬ ok ∧ e = badP))

theorem below_of_turn {w w' : World} (h : Turn (fun k => k = w.heap.size) (w.alloc (.cells #[] PT)) w') : True := trivial

set_option maxRecDepth 100000 in
set_option maxHeartbeats 3000000 in
theorem check_none (w : World) (p : Pkt) (C : List Int) (D : List (ByteArray × Int)) (lc cc ls cs : Nat) (Ac As : Option Addr) (hc : p.codes = .slice Ac lc cc) (hs : p.subs = .slice As ls cs) (hb : p.client.size + p.user.size + p.pass.size ≤ 9223372036854775807) (h : p.ty = 12 ∨ p.ty = 13 ∨ p.ty = 14) : Calls Tryd.prog 74 #[.agg p.cells] w fun e w' => Checks w (Good p C D) e w' := by
  have hmf : ∀ (fn : Fn) (first cap : Array Value) (w : World), (Instr.makeFunc fn first cap).run Tryd.prog w = .ok (.func fn first cap) w := fun _ _ _ _ => rfl
  have hG : Hid (Good p C D ↔ p.zero lc ls = true) := by
    have ha : p.after = p := by
      unfold Pkt.after
      rcases h with h | h | h <;> rw [h] <;> rfl
    have hl : rowLen p.codes = lc := by rw [hc]; rfl
    have hl2 : rowLen p.subs = ls := by rw [hs]; rfl
    unfold Good Ok
    rw [ha, hl, hl2]
    refine ⟨fun x => x.2.2.2, fun x => ⟨by omega, by omega, ⟨by omega, by omega, by omega, by omega, by omega, by omega⟩, x⟩⟩
  have hA := box_at w p
  obtain ⟨W, hW⟩ : ∃ W, Hid (W = w.alloc (.cells p.cells PT)) := ⟨_, rfl⟩
  obtain ⟨g, hg⟩ : ∃ g, Hid (g = w.heap.size) := ⟨_, rfl⟩
  have hBW : Hid (Below w.heap.size w W) := by rw [hW.out]; exact Below.alloc (Below.refl _ _) (Nat.le_refl _) _
  have hA' := hA
  rw [← hW.out, ← hg.out] at hA'
  have HA := Lib.hid hA'
  have HB := Lib.hid hb
  clear hb
  have h0 : (w.alloc (.cells p.cells PT)).cell? ⟨w.heap.size, 0, none⟩ = some (.int .i64 p.ty) := hA.cell 0
  clear hA hA'
  go_enter Tryd.func74, Tryd.ntmps74
  go_wp2_with (fail)
  refine (within_yes _ _ _ _ (by omega)).mono ?_
  rintro e w1 ⟨rfl, rfl⟩
  rw [← hW.out, ← hg.out] at h0 ⊢
  rcases h with h | h | h <;> rw [h] at h0 ⊢
  all_goals
    go_upto_region 50 with (fail)
    refine zero_region W g p lc cc ls cs Ac As hc hs HA.out HB.out _ (fun hz => ?_) (fun hz => ?_) _ (by kernel_rfl) _ rfl rfl rfl
    · exact ⟨hBW.out, .inl ⟨hG.out.2 hz, rfl⟩⟩
    · exact ⟨hBW.out, .inr ⟨fun hx => by rw [hG.out.1 hx] at hz; exact absurd hz (by decide), rfl⟩⟩

end Pk
end Go.Proofs.YtonemmdipmohgaaDoor

namespace Go.Proofs.YtonemmdipmohgaaDoor
open Go.RowKit
set_option linter.unusedVariables false
set_option linter.unusedSimpArgs false
namespace Pk

/-- Where check stands: only its own packet, in block g, has been turned; it is q now. -/
structure At (w W : World) (g : Nat) (q : Pkt) : Prop where
  eq : g = w.heap.size
  lt : w.heap.size ≤ W.heap.size
  below : Below w.heap.size w W
  at_ : PkAt W g q

theorem at_box (w : World) (p : Pkt) : At w (w.alloc (.cells p.cells PT)) w.heap.size p :=
  ⟨rfl, by simp, Below.alloc (Below.refl _ _) (Nat.le_refl _) _, box_at w p⟩
theorem At.turn {w W W' : World} {g : Nat} {p q : Pkt} (h : At w W g p) (t : Turn (fun k => k = g) W W') (hq : PkAt W' g q) : At w W' g q :=
  ⟨h.eq, Nat.le_trans h.lt t.size, Turn.belowTrans h.below t h.lt (fun k hk hx => by have := h.eq; omega), hq⟩
theorem At.old {w W W' : World} {g : Nat} {p : Pkt} (h : At w W g p) (t : Below W.heap.size W W') : At w W' g p :=
  ⟨h.eq, Nat.le_trans h.lt t.size, Turn.belowTrans (S := fun _ => False) h.below (Turn.of_below t) h.lt (fun k hk hx => hx), h.at_.keep (Turn.of_below (S := fun _ => False) t) (fun h => h)⟩
theorem At.fail {w W W' : World} {g : Nat} {p : Pkt} (h : At w W g p) (t : Turn (fun k => k = g) W W') : Below w.heap.size w W' :=
  Turn.belowTrans h.below t h.lt (fun k hk hx => by have := h.eq; omega)
theorem At.set {w W : World} {g : Nat} {p : Pkt} (h : At w W g p) (i : Nat) (v : Value) (q : Pkt) (hq : p.cells.setIfInBounds i v = q.cells) : At w (W.setCell ⟨g, i, none⟩ v) g q :=
  h.turn (Turn.setCell W _ rfl) (h.at_.set i v q hq)

/-- The last region, where check's packet has become q. -/
theorem zero_ends (w W : World) (g : Nat) (p q : Pkt) (C : List Int) (D : List (ByteArray × Int)) (hA : At w W g q) (hsl : ∃ A l c, q.codes = .slice A l c) (hsu : ∃ A l c, q.subs = .slice A l c) (hb : q.client.size + q.user.size + q.pass.size ≤ 9223372036854775807)
    (hG : Good p C D ↔ q.zero (rowLen q.codes) (rowLen q.subs) = true) (ops : Array Oper) (hops : ops = zops) (a : Act) (hsz : a.tmps.size = 254) (hdf : a.defers = []) (h1 : a.eval (.tmp 1) = .pointer (some ⟨g, 0, none⟩)) :
    (Code.region 50 ops false).wp Tryd.prog (bodyPost Tryd.prog Tryd.f74 fun e w' => Checks w (Good p C D) e w') a W := by
  obtain ⟨Ac, lc, cc, hc⟩ := hsl
  obtain ⟨As, ls, cs, hs⟩ := hsu
  have h1' : rowLen q.codes = lc := by rw [hc]; rfl
  have h2' : rowLen q.subs = ls := by rw [hs]; rfl
  rw [h1', h2'] at hG
  refine zero_region W g q lc cc ls cs Ac As hc hs hA.at_ hb _ (fun hz => ?_) (fun hz => ?_) ops hops a hsz hdf h1
  · exact ⟨hA.below, .inl ⟨hG.2 hz, rfl⟩⟩
  · exact ⟨hA.below, .inr ⟨fun hx => by rw [hG.1 hx] at hz; exact absurd hz (by decide), rfl⟩⟩

/-- The rows of a packet, its strings' sizes. -/
structure Fit (p : Pkt) : Prop where
  codes : ∃ A l c, p.codes = .slice A l c
  subs : ∃ A l c, p.subs = .slice A l c
  strs : p.client.size + p.user.size + p.pass.size ≤ 9223372036854775807

set_option maxRecDepth 100000 in
set_option maxHeartbeats 3000000 in
theorem check_id (w : World) (p : Pkt) (C : List Int) (D : List (ByteArray × Int)) (hF : Fit p) (h : p.ty = 4 ∨ p.ty = 5 ∨ p.ty = 6 ∨ p.ty = 7 ∨ p.ty = 11) : Calls Tryd.prog 74 #[.agg p.cells] w fun e w' => Checks w (Good p C D) e w' := by
  have hmf : ∀ (fn : Fn) (first cap : Array Value) (w : World), (Instr.makeFunc fn first cap).run Tryd.prog w = .ok (.func fn first cap) w := fun _ _ _ _ => rfl
  have hG : Hid (Good p C D ↔ IdOk p ∧ p.noId.zero (rowLen p.noId.codes) (rowLen p.noId.subs) = true) := by
    have ha : p.after = p.noId := by
      unfold Pkt.after
      rcases h with h | h | h | h | h <;> rw [h] <;> rfl
    unfold Good Ok
    rw [ha]
    exact ⟨fun x => ⟨x.2.2.1.2.2.2.1 (by omega) (by omega), x.2.2.2⟩, fun x => ⟨by omega, by omega, ⟨by omega, by omega, by omega, fun _ _ => x.1, by omega, by omega⟩, x.2⟩⟩
  have HF := Lib.hid hF
  have hA := at_box w p
  obtain ⟨W, hW⟩ : ∃ W, Hid (W = w.alloc (.cells p.cells PT)) := ⟨_, rfl⟩
  obtain ⟨g, hg⟩ : ∃ g, Hid (g = w.heap.size) := ⟨_, rfl⟩
  have h0 : (w.alloc (.cells p.cells PT)).cell? ⟨w.heap.size, 0, none⟩ = some (.int .i64 p.ty) := hA.at_.cell 0
  rw [← hW.out, ← hg.out] at hA
  have HA := Lib.hid hA
  clear hA hF
  go_enter Tryd.func74, Tryd.ntmps74
  go_wp2_with (fail)
  refine (within_yes _ _ _ _ (by omega)).mono ?_
  rintro e w1 ⟨rfl, rfl⟩
  rw [← hW.out, ← hg.out] at h0 ⊢
  rcases h with h | h | h | h | h <;> rw [h] at h0 ⊢
  all_goals
    go_wp2_with (fail)
    refine (id_calls W g p HA.out.at_).mono ?_
    rintro e W1 ⟨ht, (⟨hi, rfl, hp⟩ | ⟨hi, rfl⟩)⟩
    · have H1 : Hid (At w W1 g p.noId) := HA.out.turn ht hp
      have HI := Lib.hid hi
      clear ht hp hi
      go_upto_region 50 with (fail)
      exact zero_ends w W1 g p p.noId C D H1.out HF.out.codes HF.out.subs HF.out.strs ⟨fun x => (hG.out.1 x).2, fun x => hG.out.2 ⟨HI.out, x⟩⟩ _ (by kernel_rfl) _ rfl rfl rfl
    · have H1 : Hid (Below w.heap.size w W1) := HA.out.fail ht
      have HI := Lib.hid hi
      clear ht hi
      go_wp2_with (fail)
      exact ⟨rfl, H1.out, .inr ⟨fun x => HI.out (hG.out.1 x).1, rfl⟩⟩
end Pk
end Go.Proofs.YtonemmdipmohgaaDoor

namespace Go.Proofs.YtonemmdipmohgaaDoor
open Go.RowKit
set_option linter.unusedVariables false
set_option linter.unusedSimpArgs false
namespace Pk

theorem At.tabs {w W : World} {g : Nat} {p : Pkt} (h : At w W g p) (hT : Lib.Utf8Tabs 0 1 w) : Lib.Utf8Tabs 0 1 W := Utf.tabs_keep hT h.below

set_option maxRecDepth 100000 in
set_option maxHeartbeats 3000000 in
theorem check_publish (w : World) (hT : Lib.Utf8Tabs 0 1 w) (p : Pkt) (C : List Int) (D : List (ByteArray × Int)) (hF : Fit p) (h : p.ty = 3) : Calls Tryd.prog 74 #[.agg p.cells] w fun e w' => Checks w (Good p C D) e w' := by
  have hmf : ∀ (fn : Fn) (first cap : Array Value) (w : World), (Instr.makeFunc fn first cap).run Tryd.prog w = .ok (.func fn first cap) w := fun _ _ _ _ => rfl
  have hG : Hid (Good p C D ↔ ((p.qos ≠ 0 → IdOk p) ∧ MsgOk p) ∧ p.after.zero (rowLen p.after.codes) (rowLen p.after.subs) = true) := by
    unfold Good Ok
    exact ⟨fun x => ⟨x.2.2.1.2.2.1 h, x.2.2.2⟩, fun x => ⟨by omega, by omega, ⟨by omega, by omega, fun _ => x.1, by omega, by omega, by omega⟩, x.2⟩⟩
  have hf : Hid (p.after = (if p.qos = 0 then p else { p.noId with dup := false }).noMsg) := by
    unfold Pkt.after Hid
    rw [h]; rfl
  have HF := Lib.hid hF
  have hA := at_box w p
  obtain ⟨W, hW⟩ : ∃ W, Hid (W = w.alloc (.cells p.cells PT)) := ⟨_, rfl⟩
  obtain ⟨g, hg⟩ : ∃ g, Hid (g = w.heap.size) := ⟨_, rfl⟩
  have h0 : (w.alloc (.cells p.cells PT)).cell? ⟨w.heap.size, 0, none⟩ = some (.int .i64 p.ty) := hA.at_.cell 0
  rw [← hW.out, ← hg.out] at hA
  have HA := Lib.hid hA
  have HT := Lib.hid hT
  clear hA hF hT
  go_enter Tryd.func74, Tryd.ntmps74
  go_wp2_with (fail)
  refine (within_yes _ _ _ _ (by omega)).mono ?_
  rintro e w1 ⟨rfl, rfl⟩
  rw [← hW.out, ← hg.out] at h0 ⊢
  rw [h] at h0
  have k5 : W.cell? ⟨g, 5, none⟩ = some (.int .i64 p.qos) := HA.out.at_.cell 5
  by_cases hq : p.qos = 0
  · rw [hq] at k5
    have HQ := Lib.hid hq
    clear hq
    go_wp2_with (fail)
    refine (message_calls W (HA.out.tabs HT.out) g p HA.out.at_).mono ?_
    rintro e W1 ⟨ht, (⟨hi, rfl, hp⟩ | ⟨hi, rfl⟩)⟩
    · have H1 : Hid (At w W1 g p.noMsg) := HA.out.turn ht hp
      have HI := Lib.hid hi
      clear ht hp hi
      go_upto_region 50 with (fail)
      have hae : p.after = p.noMsg := by rw [hf.out, if_pos HQ.out]
      rw [hae] at hG
      exact zero_ends w W1 g p p.noMsg C D H1.out HF.out.codes HF.out.subs HF.out.strs ⟨fun x => (hG.out.1 x).2, fun x => hG.out.2 ⟨⟨fun h => absurd HQ.out h, HI.out⟩, x⟩⟩ _ (by kernel_rfl) _ rfl rfl rfl
    · have H1 : Hid (Below w.heap.size w W1) := HA.out.fail ht
      have HI := Lib.hid hi
      clear ht hi
      go_wp2_with (fail)
      exact ⟨rfl, H1.out, .inr ⟨fun x => HI.out (hG.out.1 x).1.2, rfl⟩⟩
  · have hq1 : (p.qos == 0) = false := by simpa using hq
    have hq2 : (p.qos != 0) = true := by simpa using hq
    have HQ := Lib.hid hq
    clear hq
    go_wp2_with (fail)
    refine (id_calls W g p HA.out.at_).mono ?_
    rintro e W1 ⟨ht, (⟨hi, rfl, hp⟩ | ⟨hi, rfl⟩)⟩
    · have H1 : Hid (At w W1 g p.noId) := HA.out.turn ht hp
      have HI := Lib.hid hi
      clear ht hp hi
      have k1 : W1.cell? ⟨g, 1, none⟩ = some (.bool p.dup) := H1.out.at_.cell 1
      have f1 := H1.out.at_.frozen 1
      have H2 : Hid (At w (W1.setCell ⟨g, 1, none⟩ (.bool false)) g { p.noId with dup := false }) := H1.out.set 1 (.bool false) _ rfl
      go_wp2_with (fail)
      refine (message_calls _ (H2.out.tabs HT.out) g _ H2.out.at_).mono ?_
      rintro e W3 ⟨ht, (⟨hi, rfl, hp⟩ | ⟨hi, rfl⟩)⟩
      · have H3 : Hid (At w W3 g ({ p.noId with dup := false } : Pkt).noMsg) := H2.out.turn ht hp
        have HM := Lib.hid hi
        clear ht hp hi H2
        go_upto_region 50 with (fail)
        have hae : p.after = ({ p.noId with dup := false } : Pkt).noMsg := by rw [hf.out, if_neg HQ.out]
        rw [hae] at hG
        exact zero_ends w W3 g p _ C D H3.out HF.out.codes HF.out.subs HF.out.strs ⟨fun x => (hG.out.1 x).2, fun x => hG.out.2 ⟨⟨fun h => HI.out, HM.out⟩, x⟩⟩ _ (by kernel_rfl) _ rfl rfl rfl
      · have H3 : Hid (Below w.heap.size w W3) := H2.out.fail ht
        have HM := Lib.hid hi
        clear ht hi H2
        go_wp2_with (fail)
        exact ⟨rfl, H3.out, .inr ⟨fun x => HM.out (hG.out.1 x).1.2, rfl⟩⟩
    · have H1 : Hid (Below w.heap.size w W1) := HA.out.fail ht
      have HI := Lib.hid hi
      clear ht hi
      go_wp2_with (fail)
      exact ⟨rfl, H1.out, .inr ⟨fun x => HI.out ((hG.out.1 x).1.1 HQ.out), rfl⟩⟩
end Pk
end Go.Proofs.YtonemmdipmohgaaDoor

namespace Go.Proofs.YtonemmdipmohgaaDoor
open Go.RowKit
set_option linter.unusedVariables false
set_option linter.unusedSimpArgs false
namespace Pk

/-- A packet's rows read as C, D. -/
def ReadsSub (w : World) (A : Option Addr) (D : List (ByteArray × Int)) : Prop :=
  0 < D.length → ∃ x, A = some x ∧ ∀ i (h : i < D.length), w.cell? (x.add (2 * i)) = some (.string D[i].1) ∧ w.cell? (x.add (2 * i + 1)) = some (.int .i64 D[i].2)
structure Lies (w : World) (p : Pkt) (C : List Int) (D : List (ByteArray × Int)) : Prop where
  codes : ∃ A c, p.codes = .slice A C.length c ∧ Reads .i64 w A C
  subs : ∃ A c, p.subs = .slice A D.length c ∧ ReadsSub w A D
  strs : p.client.size + p.user.size + p.pass.size ≤ 9223372036854775807
  lenC : (C.length : Int) ≤ 1000000000000000000
  lenD : (D.length : Int) ≤ 1000000000000000000
theorem Lies.fit {w : World} {p : Pkt} {C : List Int} {D : List (ByteArray × Int)} (h : Lies w p C D) : Fit p := by
  obtain ⟨⟨A, c, h1, _⟩, ⟨B, d, h2, _⟩, h3, _, _⟩ := h
  exact ⟨⟨_, _, _, h1⟩, ⟨_, _, _, h2⟩, h3⟩
theorem ReadsSub.keep {w w' : World} {A : Option Addr} {D : List (ByteArray × Int)} (h : ReadsSub w A D) (b : Below w.heap.size w w') : ReadsSub w' A D := by
  intro h0
  obtain ⟨x, hx, hc⟩ := h h0
  refine ⟨x, hx, fun i hi => ?_⟩
  obtain ⟨h1, h2⟩ := hc i hi
  exact ⟨by rw [b.cell (World.block_lt_of_cell? w _ h1)]; exact h1, by rw [b.cell (World.block_lt_of_cell? w _ h2)]; exact h2⟩

set_option maxRecDepth 100000 in
set_option maxHeartbeats 3000000 in
theorem check_connack (w : World) (p : Pkt) (C : List Int) (D : List (ByteArray × Int)) (hF : Lies w p C D) (h : p.ty = 2) : Calls Tryd.prog 74 #[.agg p.cells] w fun e w' => Checks w (Good p C D) e w' := by
  have hmf : ∀ (fn : Fn) (first cap : Array Value) (w : World), (Instr.makeFunc fn first cap).run Tryd.prog w = .ok (.func fn first cap) w := fun _ _ _ _ => rfl
  have ha : p.after = { p.noCodes with present := false } := by
    unfold Pkt.after
    rw [h]; rfl
  have hG : Hid (Good p C D ↔ (C.length = 1 ∧ 0 ≤ lat C 0 ∧ lat C 0 ≤ 5 ∧ (p.present = false ∨ lat C 0 = 0)) ∧ Pkt.zero { p.noCodes with present := false } 0 (rowLen p.subs) = true) := by
    unfold Good Ok
    rw [ha]
    exact ⟨fun x => ⟨x.2.2.1.2.1 h, x.2.2.2⟩, fun x => ⟨by omega, by omega, ⟨by omega, fun _ => x.1, by omega, by omega, by omega, by omega⟩, x.2⟩⟩
  obtain ⟨Ac, cc, hc, hR⟩ := hF.codes
  have HF := Lib.hid hF
  have hA := at_box w p
  have hR' := hR.keep hA.below
  obtain ⟨W, hW⟩ : ∃ W, Hid (W = w.alloc (.cells p.cells PT)) := ⟨_, rfl⟩
  obtain ⟨g, hg⟩ : ∃ g, Hid (g = w.heap.size) := ⟨_, rfl⟩
  have h0 : (w.alloc (.cells p.cells PT)).cell? ⟨w.heap.size, 0, none⟩ = some (.int .i64 p.ty) := hA.at_.cell 0
  rw [← hW.out] at hR'
  rw [← hW.out, ← hg.out] at hA
  have k16 : W.cell? ⟨g, 16, none⟩ = some (.slice Ac C.length cc) := by rw [← hc]; exact hA.at_.cell 16
  have k15 : W.cell? ⟨g, 15, none⟩ = some (.bool p.present) := hA.at_.cell 15
  have f16 := hA.at_.frozen 16
  have f15 := hA.at_.frozen 15
  have HA := Lib.hid hA
  clear hA hF hR ha
  go_enter Tryd.func74, Tryd.ntmps74
  go_wp2_with (fail)
  refine (within_yes _ _ _ _ (by omega)).mono ?_
  rintro e w1 ⟨rfl, rfl⟩
  rw [← hW.out, ← hg.out] at h0 ⊢
  rw [h] at h0
  by_cases hl : C.length = 1
  · obtain ⟨c, rfl⟩ : ∃ c, C = [c] := by
      match C, hl with
      | [c], _ => exact ⟨c, rfl⟩
    obtain ⟨x, rfl, hx⟩ := hR' (by simp)
    have hx0 : W.cell? x = some (.int .i64 c) := by
      have := hx 0 (by simp)
      have h1 : x.add 0 = x := by simp [Addr.add]
      rw [h1] at this
      exact this
    clear hx hR' hl
    have hlat : lat [c] 0 = c := rfl
    rw [hlat] at hG
    go_wp2_with (fail)
    refine (need_yes _).mono ?_
    rintro e w' ⟨rfl, rfl⟩
    go_wp2_with (fail)
    by_cases hw : 0 ≤ c ∧ c ≤ 5
    · refine (within_yes _ _ _ _ hw).mono ?_
      rintro e w' ⟨rfl, rfl⟩
      have HW := Lib.hid hw
      clear hw
      have Hend : Hid (At w ((W.setCell ⟨g, 16, none⟩ (.slice none 0 0)).setCell ⟨g, 15, none⟩ (.bool false)) g { p.noCodes with present := false }) :=
        (HA.out.set 16 (.slice none 0 0) p.noCodes rfl).set 15 (.bool false) _ rfl
      cases hp : p.present with
      | false =>
        rw [hp] at k15
        go_wp2_with (fail)
        refine (need_yes _).mono ?_
        rintro e w' ⟨rfl, rfl⟩
        go_upto_region 50 with (fail)
        exact zero_ends w _ g p _ _ D Hend.out ⟨_, _, _, rfl⟩ HF.out.fit.subs HF.out.strs ⟨fun x => (hG.out.1 x).2, fun x => hG.out.2 ⟨⟨rfl, HW.out.1, HW.out.2, .inl hp⟩, x⟩⟩ _ (by kernel_rfl) _ rfl rfl rfl
      | true =>
        rw [hp] at k15
        by_cases h00 : c = 0
        · have e0 : (c == 0) = true := by simpa using h00
          have H0 := Lib.hid h00
          clear h00
          go_wp2_with (fail)
          refine (need_yes _).mono ?_
          rintro e w' ⟨rfl, rfl⟩
          go_upto_region 50 with (fail)
          exact zero_ends w _ g p _ _ D Hend.out ⟨_, _, _, rfl⟩ HF.out.fit.subs HF.out.strs ⟨fun x => (hG.out.1 x).2, fun x => hG.out.2 ⟨⟨rfl, HW.out.1, HW.out.2, .inr H0.out⟩, x⟩⟩ _ (by kernel_rfl) _ rfl rfl rfl
        · have e0 : (c == 0) = false := by simpa using h00
          have H0 := Lib.hid h00
          clear h00
          go_wp2_with (fail)
          refine (need_no _).mono ?_
          rintro e w' ⟨rfl, rfl⟩
          go_wp2_with (fail)
          refine ⟨rfl, HA.out.below, .inr ⟨fun x => ?_, rfl⟩⟩
          rcases (hG.out.1 x).1.2.2.2 with y | y
          · rw [hp] at y; cases y
          · exact H0.out y
    · refine (within_no _ _ _ _ hw).mono ?_
      rintro e w' ⟨rfl, rfl⟩
      have HW := Lib.hid hw
      clear hw
      go_wp2_with (fail)
      exact ⟨rfl, HA.out.below, .inr ⟨fun x => HW.out ⟨(hG.out.1 x).1.2.1, (hG.out.1 x).1.2.2.1⟩, rfl⟩⟩
  · have hl1 : ((C.length : Int) == 1) = false := by simp; omega
    have hl2 : (C.length == 1) = false := by simpa using hl
    have HL := Lib.hid hl
    clear hl
    go_wp2_with (fail)
    refine (need_no _).mono ?_
    rintro e w' ⟨rfl, rfl⟩
    go_wp2_with (fail)
    exact ⟨rfl, HA.out.below, .inr ⟨fun x => HL.out (hG.out.1 x).1.1, rfl⟩⟩
end Pk
end Go.Proofs.YtonemmdipmohgaaDoor

namespace Go.Proofs.YtonemmdipmohgaaDoor
open Go.RowKit
set_option linter.unusedVariables false
set_option linter.unusedSimpArgs false
namespace Pk

theorem codes_all {C : List Int} (h : ∀ i, i < C.length → CodeOk (lat C i)) : ∀ c ∈ C, CodeOk c := by
  intro c hc
  obtain ⟨i, hi, rfl⟩ := List.getElem_of_mem hc
  have := h i hi
  rwa [lat_get _ _ hi] at this

set_option maxRecDepth 100000 in
set_option maxHeartbeats 3000000 in
theorem check_suback (w : World) (p : Pkt) (C : List Int) (D : List (ByteArray × Int)) (hF : Lies w p C D) (h : p.ty = 9) : Calls Tryd.prog 74 #[.agg p.cells] w fun e w' => Checks w (Good p C D) e w' := by
  have hmf : ∀ (fn : Fn) (first cap : Array Value) (w : World), (Instr.makeFunc fn first cap).run Tryd.prog w = .ok (.func fn first cap) w := fun _ _ _ _ => rfl
  have ha : p.after = p.noId.noCodes := by
    unfold Pkt.after
    rw [h]; rfl
  have hG : Hid (Good p C D ↔ (IdOk p ∧ 0 < C.length ∧ ∀ c ∈ C, CodeOk c) ∧ Pkt.zero p.noId.noCodes 0 (rowLen p.subs) = true) := by
    unfold Good Ok
    rw [ha]
    exact ⟨fun x => ⟨⟨x.2.2.1.2.2.2.1 (by omega) (by omega), x.2.2.1.2.2.2.2.2 h⟩, x.2.2.2⟩, fun x => ⟨by omega, by omega, ⟨by omega, by omega, by omega, fun _ _ => x.1.1, by omega, fun _ => x.1.2⟩, x.2⟩⟩
  obtain ⟨Ac, cc, hc, hR⟩ := hF.codes
  have HF := Lib.hid hF
  have hA := at_box w p
  have hR' := hR.keep hA.below
  obtain ⟨W, hW⟩ : ∃ W, Hid (W = w.alloc (.cells p.cells PT)) := ⟨_, rfl⟩
  obtain ⟨g, hg⟩ : ∃ g, Hid (g = w.heap.size) := ⟨_, rfl⟩
  have h0 : (w.alloc (.cells p.cells PT)).cell? ⟨w.heap.size, 0, none⟩ = some (.int .i64 p.ty) := hA.at_.cell 0
  rw [← hW.out] at hR'
  rw [← hW.out, ← hg.out] at hA
  have HA := Lib.hid hA
  have HR := Lib.hid hR
  have hBC := hF.lenC
  clear hA hF hR ha hR'
  go_enter Tryd.func74, Tryd.ntmps74
  go_wp2_with (fail)
  refine (within_yes _ _ _ _ (by omega)).mono ?_
  rintro e w1 ⟨rfl, rfl⟩
  rw [← hW.out, ← hg.out] at h0 ⊢
  rw [h] at h0
  go_wp2_with (fail)
  refine (id_calls W g p HA.out.at_).mono ?_
  rintro e W1 ⟨ht, (⟨hi, rfl, hp⟩ | ⟨hi, rfl⟩)⟩
  · have H1 : Hid (At w W1 g p.noId) := HA.out.turn ht hp
    have HI := Lib.hid hi
    clear ht hp hi
    have k16 : W1.cell? ⟨g, 16, none⟩ = some (.slice Ac C.length cc) := by rw [← hc]; exact H1.out.at_.cell 16
    have f16 := H1.out.at_.frozen 16
    by_cases hl : 0 < C.length
    · have hl1 : decide (0 < C.length) = true := by simpa using hl
      have HRW : Hid (Reads .i64 W1 Ac C) := HR.out.keep H1.out.below
      obtain ⟨x, rfl, hx⟩ := HRW.out hl
      have HX := Lib.hid hx
      clear hx
      go_wp2_with (fail)
      refine (need_yes _).mono ?_
      rintro e w' ⟨rfl, rfl⟩
      go_wp2_with (fail)
      go_loop [169] (fun i => ∃ k : Nat, k ≤ C.length ∧ i = .int .i64 k ∧ Hid (∀ j, j < k → CodeOk (lat C j))) (fun i => C.length - (intOf i).toNat)
      case atStart => exact ⟨0, Nat.zero_le _, rfl, fun i h => absurd h (by omega)⟩
      case round =>
        obtain ⟨k, hk, rfl, hs⟩ := hrel
        have hkb : (k : Int) ≤ 1000000000000000000 := by omega
        by_cases hkl : k < C.length
        · have hcx := HX.out k hkl
          obtain ⟨c, hce⟩ : ∃ c, Hid (c = lat C k) := ⟨_, rfl⟩
          rw [← hce.out] at hcx
          by_cases hok : CodeOk c
          · have hn : Hid (∀ j, j < k + 1 → CodeOk (lat C j)) := by
              intro j hj
              rcases Nat.lt_or_ge j k with h | h
              · exact hs.out j h
              · have : j = k := by omega
                subst this
                rw [← hce.out]; exact hok
            rcases hok with ⟨h1, h2⟩ | h3
            · have d1 := decide_eq_true h1
              have d2 := decide_eq_true h2
              clear h1 h2
              go_wp2_with (fail)
              refine (need_yes _).mono ?_
              rintro e w' ⟨rfl, rfl⟩
              go_wp2_with (fail)
              go_round
              case rel => exact ⟨k + 1, by omega, by go_num, hn.out⟩
              case measure => simp [intOf]; omega
            · subst h3
              go_wp2_with (fail)
              refine (need_yes _).mono ?_
              rintro e w' ⟨rfl, rfl⟩
              go_wp2_with (fail)
              go_round
              case rel => exact ⟨k + 1, by omega, by go_num, hn.out⟩
              case measure => simp [intOf]; omega
          · have hbad : Hid (¬ ∀ c ∈ C, CodeOk c) := fun hx => hok (by rw [hce.out, lat_get _ _ hkl]; exact hx _ (List.getElem_mem hkl))
            have d3 : (c == 128) = false := by simp; intro h; exact hok (.inr h)
            by_cases h1 : 0 ≤ c
            · have d1 := decide_eq_true h1
              have d2 : decide (c ≤ 2) = false := decide_eq_false (fun h => hok (.inl ⟨h1, h⟩))
              clear hok h1
              go_wp2_with (fail)
              refine (need_no _).mono ?_
              rintro e w' ⟨rfl, rfl⟩
              go_wp2_with (fail)
              exact ⟨rfl, H1.out.below, .inr ⟨fun x => hbad.out (hG.out.1 x).1.2.2, rfl⟩⟩
            · have d1 := decide_eq_false h1
              clear hok h1
              go_wp2_with (fail)
              refine (need_no _).mono ?_
              rintro e w' ⟨rfl, rfl⟩
              go_wp2_with (fail)
              exact ⟨rfl, H1.out.below, .inr ⟨fun x => hbad.out (hG.out.1 x).1.2.2, rfl⟩⟩
        · have hall : Hid (∀ c ∈ C, CodeOk c) := codes_all (fun i hi => hs.out i (by omega))
          have H2 : Hid (At w (W1.setCell ⟨g, 16, none⟩ (.slice none 0 0)) g p.noId.noCodes) := H1.out.set 16 (.slice none 0 0) _ rfl
          have HL := Lib.hid hl
          go_upto_region 50 with (fail)
          exact zero_ends w _ g p p.noId.noCodes C D H2.out ⟨_, _, _, rfl⟩ HF.out.fit.subs HF.out.strs ⟨fun x => (hG.out.1 x).2, fun x => hG.out.2 ⟨⟨HI.out, HL.out, hall.out⟩, x⟩⟩ _ (by kernel_rfl) _ rfl rfl rfl
    · have hl1 : decide (0 < C.length) = false := decide_eq_false hl
      have HL := Lib.hid hl
      clear hl
      go_wp2_with (fail)
      refine (need_no _).mono ?_
      rintro e w' ⟨rfl, rfl⟩
      go_wp2_with (fail)
      exact ⟨rfl, H1.out.below, .inr ⟨fun x => HL.out (hG.out.1 x).1.2.1, rfl⟩⟩
  · have H1 : Hid (Below w.heap.size w W1) := HA.out.fail ht
    have HI := Lib.hid hi
    clear ht hi
    go_wp2_with (fail)
    exact ⟨rfl, H1.out, .inr ⟨fun x => HI.out (hG.out.1 x).1.1, rfl⟩⟩
end Pk
end Go.Proofs.YtonemmdipmohgaaDoor

namespace Go.Proofs.YtonemmdipmohgaaDoor
open Go.RowKit
set_option linter.unusedVariables false
set_option linter.unusedSimpArgs false
namespace Pk

theorem add_next (x : Addr) (k : Nat) : x.add (2 * k + 1) = ⟨(x.add (k * 2)).block, (x.add (k * 2)).off + 1, none⟩ := by
  unfold Addr.add
  by_cases hk : k = 0
  · subst hk; simp
  · rw [if_neg (by omega), if_neg (by omega)]
    simp; omega
theorem At.alloc {w W : World} {g : Nat} {p : Pkt} (h : At w W g p) (o : Obj) : At w (W.alloc o) g p := h.old (Below.alloc (Below.refl _ _) (Nat.le_refl _) _)
theorem subs_all {t : Int} {D : List (ByteArray × Int)} (h : ∀ j (h : j < D.length), SubOk t D[j]) : ∀ c ∈ D, SubOk t c := by
  intro c hc
  obtain ⟨i, hi, rfl⟩ := List.getElem_of_mem hc
  exact h i hi

set_option maxRecDepth 100000 in
set_option maxHeartbeats 3000000 in
theorem check_subs8 (w : World) (hT : Lib.Utf8Tabs 0 1 w) (p : Pkt) (C : List Int) (D : List (ByteArray × Int)) (hF : Lies w p C D) (h : p.ty = 8) : Calls Tryd.prog 74 #[.agg p.cells] w fun e w' => Checks w (Good p C D) e w' := by
  have hmf : ∀ (fn : Fn) (first cap : Array Value) (w : World), (Instr.makeFunc fn first cap).run Tryd.prog w = .ok (.func fn first cap) w := fun _ _ _ _ => rfl
  have ha : p.after = p.noId.noSubs := by
    unfold Pkt.after
    rw [h] ; rfl
  have hG : Hid (Good p C D ↔ (IdOk p ∧ 0 < D.length ∧ ∀ s ∈ D, SubOk p.ty s) ∧ Pkt.zero p.noId.noSubs (rowLen p.codes) 0 = true) := by
    unfold Good Ok
    rw [ha]
    exact ⟨fun x => ⟨⟨x.2.2.1.2.2.2.1 (by omega) (by omega), x.2.2.1.2.2.2.2.1 (by omega)⟩, x.2.2.2⟩, fun x => ⟨by omega, by omega, ⟨by omega, by omega, by omega, fun _ _ => x.1.1, fun _ => x.1.2, by omega⟩, x.2⟩⟩
  rw [h] at hG
  obtain ⟨Ac, cc, hc, hR⟩ := hF.subs
  have HF := Lib.hid hF
  have HT := Lib.hid hT
  have hA := at_box w p
  obtain ⟨W, hW⟩ : ∃ W, Hid (W = w.alloc (.cells p.cells PT)) := ⟨_, rfl⟩
  obtain ⟨g, hg⟩ : ∃ g, Hid (g = w.heap.size) := ⟨_, rfl⟩
  have h0 : (w.alloc (.cells p.cells PT)).cell? ⟨w.heap.size, 0, none⟩ = some (.int .i64 p.ty) := hA.at_.cell 0
  rw [← hW.out, ← hg.out] at hA
  have HA := Lib.hid hA
  have HR := Lib.hid hR
  have hBC := hF.lenD
  clear hA hF hR ha hT
  go_enter Tryd.func74, Tryd.ntmps74
  go_wp2_with (fail)
  refine (within_yes _ _ _ _ (by omega)).mono ?_
  rintro e w1 ⟨rfl, rfl⟩
  rw [← hW.out, ← hg.out] at h0 ⊢
  rw [h] at h0
  go_wp2_with (fail)
  refine (id_calls W g p HA.out.at_).mono ?_
  rintro e W1 ⟨ht, (⟨hi, rfl, hp⟩ | ⟨hi, rfl⟩)⟩
  · have H1 : Hid (At w W1 g p.noId) := HA.out.turn ht hp
    have HI := Lib.hid hi
    clear ht hp hi
    have k17 : W1.cell? ⟨g, 17, none⟩ = some (.slice Ac D.length cc) := by rw [← hc]; exact H1.out.at_.cell 17
    by_cases hl : 0 < D.length
    · have hl1 : decide (0 < D.length) = true := by simpa using hl
      go_wp2_with (fail)
      refine (need_yes _).mono ?_
      rintro e w' ⟨rfl, rfl⟩
      go_wp2_with (fail)
      go_loopw [136] (fun i wr => ∃ k : Nat, k ≤ D.length ∧ i = .int .i64 k ∧ Hid (∀ j (h : j < D.length), j < k → SubOk 8 D[j]) ∧ At w wr g p.noId) (fun i _ => D.length - (intOf i).toNat)
      case atStart => exact ⟨0, Nat.zero_le _, rfl, fun i _ h => absurd h (by omega), H1.out⟩
      case round =>
        obtain ⟨k, hk, rfl, hs, hB⟩ := hrel
        have HB := Lib.hid hB
        clear hB
        have hkb : (k : Int) ≤ 1000000000000000000 := by omega
        by_cases hkl : k < D.length
        · have HRR : Hid (ReadsSub wr Ac D) := HR.out.keep HB.out.below
          obtain ⟨x, rfl, hx⟩ := HRR.out (by omega)
          obtain ⟨hx1, hx2⟩ := hx k hkl
          obtain ⟨s, q, hce⟩ : ∃ s q, Hid (D[k]'hkl = (s, q)) := ⟨(D[k]'hkl).1, (D[k]'hkl).2, by rw [Hid]⟩
          rw [hce.out] at hx1 hx2
          have HS : Hid (SubOk 8 (D[k]'hkl) → SubOk 8 (s, q)) := by rw [hce.out]; exact id
          rw [Nat.mul_comm] at hx1
          rw [add_next] at hx2
          clear hx
          have HBA : Hid (At w (wr.alloc (.cells #[.string s, .int .i64 q] 114)) g p.noId) := HB.out.alloc _
          go_wp2_with (fail)
          by_cases hf : Full s
          · refine (full_yes _ (HBA.out.tabs HT.out) s hf).mono ?_
            rintro e W2 ⟨rfl, hb2⟩
            have hn2 : W2.heap[wr.heap.size]? = some (.cells #[.string s, .int .i64 q] 114 (0, 0)) := by
              rw [hb2.block _ (by simp)]; exact heap_new _ _
            have c1 : W2.cell? ⟨wr.heap.size, 1, none⟩ = some (.int .i64 q) := by rw [cell_heap hn2]; rfl
            have HB2 : Hid (At w W2 g p.noId) := HBA.out.old hb2
            have l0 : W2.cell? ⟨g, 0, none⟩ = some (.int .i64 p.ty) := HB2.out.at_.cell 0
            rw [h] at l0
            have HFl := Lib.hid hf
            clear hf hb2 hn2
            go_wp2_with (fail)
            by_cases hw : 0 ≤ q ∧ q ≤ 2
            · refine (within_yes _ _ _ _ hw).mono ?_
              rintro e w' ⟨rfl, rfl⟩
              have HW := Lib.hid hw
              clear hw
              have hn : Hid (∀ j (h : j < D.length), j < k + 1 → SubOk 8 D[j]) := by
                intro j h hj
                rcases Nat.lt_or_ge j k with h' | h'
                · exact hs.out j h h'
                · have : j = k := by omega
                  subst this
                  rw [hce.out]
                  exact ⟨HFl.out, HW.out.1, HW.out.2, .inl rfl⟩
              go_wp2_with (fail)
              refine (need_yes _).mono ?_
              rintro e w' ⟨rfl, rfl⟩
              go_wp2_with (fail)
              go_roundw
              case rel => exact ⟨k + 1, by omega, by go_num, hn.out, HB2.out⟩
              case measure => simp [intOf]; omega
            · refine (within_no _ _ _ _ hw).mono ?_
              rintro e w' ⟨rfl, rfl⟩
              have HW := Lib.hid hw
              clear hw
              go_wp2_with (fail)
              refine ⟨rfl, HB2.out.below, .inr ⟨fun x => ?_, rfl⟩⟩
              have hz := HS.out ((hG.out.1 x).1.2.2 _ (List.getElem_mem hkl))
              exact HW.out ⟨hz.2.1, hz.2.2.1⟩
          · refine (full_no _ (HBA.out.tabs HT.out) s hf).mono ?_
            rintro e W2 ⟨rfl, hb2⟩
            have HB2 : Hid (At w W2 g p.noId) := HBA.out.old hb2
            have HFl := Lib.hid hf
            clear hf hb2
            go_wp2_with (fail)
            refine ⟨rfl, HB2.out.below, .inr ⟨fun x => ?_, rfl⟩⟩
            have hz := HS.out ((hG.out.1 x).1.2.2 _ (List.getElem_mem hkl))
            exact HFl.out hz.1
        · have hall : Hid (∀ c ∈ D, SubOk 8 c) := subs_all (fun i hi => hs.out i hi (by omega))
          have H2 : Hid (At w (wr.setCell ⟨g, 17, none⟩ (.slice none 0 0)) g p.noId.noSubs) := HB.out.set 17 (.slice none 0 0) _ rfl
          have m17 : wr.cell? ⟨g, 17, none⟩ = some (.slice Ac D.length cc) := by rw [← hc]; exact HB.out.at_.cell 17
          have f17 := HB.out.at_.frozen 17
          have HL := Lib.hid hl
          go_upto_region 50 with (fail)
          exact zero_ends w _ g p p.noId.noSubs C D H2.out HF.out.fit.codes ⟨_, _, _, rfl⟩ HF.out.strs ⟨fun x => (hG.out.1 x).2, fun x => hG.out.2 ⟨⟨HI.out, HL.out, hall.out⟩, x⟩⟩ _ (by kernel_rfl) _ rfl rfl rfl
    · have hl1 : decide (0 < D.length) = false := decide_eq_false hl
      have HL := Lib.hid hl
      clear hl
      go_wp2_with (fail)
      refine (need_no _).mono ?_
      rintro e w' ⟨rfl, rfl⟩
      go_wp2_with (fail)
      exact ⟨rfl, H1.out.below, .inr ⟨fun x => HL.out (hG.out.1 x).1.2.1, rfl⟩⟩
  · have H1 : Hid (Below w.heap.size w W1) := HA.out.fail ht
    have HI := Lib.hid hi
    clear ht hi
    go_wp2_with (fail)
    exact ⟨rfl, H1.out, .inr ⟨fun x => HI.out (hG.out.1 x).1.1, rfl⟩⟩

set_option maxRecDepth 100000 in
set_option maxHeartbeats 3000000 in
theorem check_subs10 (w : World) (hT : Lib.Utf8Tabs 0 1 w) (p : Pkt) (C : List Int) (D : List (ByteArray × Int)) (hF : Lies w p C D) (h : p.ty = 10) : Calls Tryd.prog 74 #[.agg p.cells] w fun e w' => Checks w (Good p C D) e w' := by
  have hmf : ∀ (fn : Fn) (first cap : Array Value) (w : World), (Instr.makeFunc fn first cap).run Tryd.prog w = .ok (.func fn first cap) w := fun _ _ _ _ => rfl
  have ha : p.after = p.noId.noSubs := by
    unfold Pkt.after
    rw [h] ; rfl
  have hG : Hid (Good p C D ↔ (IdOk p ∧ 0 < D.length ∧ ∀ s ∈ D, SubOk p.ty s) ∧ Pkt.zero p.noId.noSubs (rowLen p.codes) 0 = true) := by
    unfold Good Ok
    rw [ha]
    exact ⟨fun x => ⟨⟨x.2.2.1.2.2.2.1 (by omega) (by omega), x.2.2.1.2.2.2.2.1 (by omega)⟩, x.2.2.2⟩, fun x => ⟨by omega, by omega, ⟨by omega, by omega, by omega, fun _ _ => x.1.1, fun _ => x.1.2, by omega⟩, x.2⟩⟩
  rw [h] at hG
  obtain ⟨Ac, cc, hc, hR⟩ := hF.subs
  have HF := Lib.hid hF
  have HT := Lib.hid hT
  have hA := at_box w p
  obtain ⟨W, hW⟩ : ∃ W, Hid (W = w.alloc (.cells p.cells PT)) := ⟨_, rfl⟩
  obtain ⟨g, hg⟩ : ∃ g, Hid (g = w.heap.size) := ⟨_, rfl⟩
  have h0 : (w.alloc (.cells p.cells PT)).cell? ⟨w.heap.size, 0, none⟩ = some (.int .i64 p.ty) := hA.at_.cell 0
  rw [← hW.out, ← hg.out] at hA
  have HA := Lib.hid hA
  have HR := Lib.hid hR
  have hBC := hF.lenD
  clear hA hF hR ha hT
  go_enter Tryd.func74, Tryd.ntmps74
  go_wp2_with (fail)
  refine (within_yes _ _ _ _ (by omega)).mono ?_
  rintro e w1 ⟨rfl, rfl⟩
  rw [← hW.out, ← hg.out] at h0 ⊢
  rw [h] at h0
  go_wp2_with (fail)
  refine (id_calls W g p HA.out.at_).mono ?_
  rintro e W1 ⟨ht, (⟨hi, rfl, hp⟩ | ⟨hi, rfl⟩)⟩
  · have H1 : Hid (At w W1 g p.noId) := HA.out.turn ht hp
    have HI := Lib.hid hi
    clear ht hp hi
    have k17 : W1.cell? ⟨g, 17, none⟩ = some (.slice Ac D.length cc) := by rw [← hc]; exact H1.out.at_.cell 17
    by_cases hl : 0 < D.length
    · have hl1 : decide (0 < D.length) = true := by simpa using hl
      go_wp2_with (fail)
      refine (need_yes _).mono ?_
      rintro e w' ⟨rfl, rfl⟩
      go_wp2_with (fail)
      go_loopw [136] (fun i wr => ∃ k : Nat, k ≤ D.length ∧ i = .int .i64 k ∧ Hid (∀ j (h : j < D.length), j < k → SubOk 10 D[j]) ∧ At w wr g p.noId) (fun i _ => D.length - (intOf i).toNat)
      case atStart => exact ⟨0, Nat.zero_le _, rfl, fun i _ h => absurd h (by omega), H1.out⟩
      case round =>
        obtain ⟨k, hk, rfl, hs, hB⟩ := hrel
        have HB := Lib.hid hB
        clear hB
        have hkb : (k : Int) ≤ 1000000000000000000 := by omega
        by_cases hkl : k < D.length
        · have HRR : Hid (ReadsSub wr Ac D) := HR.out.keep HB.out.below
          obtain ⟨x, rfl, hx⟩ := HRR.out (by omega)
          obtain ⟨hx1, hx2⟩ := hx k hkl
          obtain ⟨s, q, hce⟩ : ∃ s q, Hid (D[k]'hkl = (s, q)) := ⟨(D[k]'hkl).1, (D[k]'hkl).2, by rw [Hid]⟩
          rw [hce.out] at hx1 hx2
          have HS : Hid (SubOk 10 (D[k]'hkl) → SubOk 10 (s, q)) := by rw [hce.out]; exact id
          rw [Nat.mul_comm] at hx1
          rw [add_next] at hx2
          clear hx
          have HBA : Hid (At w (wr.alloc (.cells #[.string s, .int .i64 q] 114)) g p.noId) := HB.out.alloc _
          go_wp2_with (fail)
          by_cases hf : Full s
          · refine (full_yes _ (HBA.out.tabs HT.out) s hf).mono ?_
            rintro e W2 ⟨rfl, hb2⟩
            have hn2 : W2.heap[wr.heap.size]? = some (.cells #[.string s, .int .i64 q] 114 (0, 0)) := by
              rw [hb2.block _ (by simp)]; exact heap_new _ _
            have c1 : W2.cell? ⟨wr.heap.size, 1, none⟩ = some (.int .i64 q) := by rw [cell_heap hn2]; rfl
            have HB2 : Hid (At w W2 g p.noId) := HBA.out.old hb2
            have l0 : W2.cell? ⟨g, 0, none⟩ = some (.int .i64 p.ty) := HB2.out.at_.cell 0
            rw [h] at l0
            have HFl := Lib.hid hf
            clear hf hb2 hn2
            go_wp2_with (fail)
            by_cases hw : 0 ≤ q ∧ q ≤ 2
            · refine (within_yes _ _ _ _ hw).mono ?_
              rintro e w' ⟨rfl, rfl⟩
              have HW := Lib.hid hw
              clear hw
              by_cases hq0 : q = 0
              · have e0 : (q == 0) = true := by simpa using hq0
                have HQ0 := Lib.hid hq0
                clear hq0
                have hn : Hid (∀ j (h : j < D.length), j < k + 1 → SubOk 10 D[j]) := by
                  intro j h hj
                  rcases Nat.lt_or_ge j k with h' | h'
                  · exact hs.out j h h'
                  · have : j = k := by omega
                    subst this
                    rw [hce.out]
                    exact ⟨HFl.out, HW.out.1, HW.out.2, .inr HQ0.out⟩
                go_wp2_with (fail)
                refine (need_yes _).mono ?_
                rintro e w' ⟨rfl, rfl⟩
                go_wp2_with (fail)
                go_roundw
                case rel => exact ⟨k + 1, by omega, by go_num, hn.out, HB2.out⟩
                case measure => simp [intOf]; omega
              · have e0 : (q == 0) = false := by simpa using hq0
                have HQ0 := Lib.hid hq0
                clear hq0
                go_wp2_with (fail)
                refine (need_no _).mono ?_
                rintro e w' ⟨rfl, rfl⟩
                go_wp2_with (fail)
                refine ⟨rfl, HB2.out.below, .inr ⟨fun x => ?_, rfl⟩⟩
                have hz := HS.out ((hG.out.1 x).1.2.2 _ (List.getElem_mem hkl))
                rcases hz.2.2.2 with h | h
                · exact absurd h (by decide)
                · exact HQ0.out h
            · refine (within_no _ _ _ _ hw).mono ?_
              rintro e w' ⟨rfl, rfl⟩
              have HW := Lib.hid hw
              clear hw
              go_wp2_with (fail)
              refine ⟨rfl, HB2.out.below, .inr ⟨fun x => ?_, rfl⟩⟩
              have hz := HS.out ((hG.out.1 x).1.2.2 _ (List.getElem_mem hkl))
              exact HW.out ⟨hz.2.1, hz.2.2.1⟩
          · refine (full_no _ (HBA.out.tabs HT.out) s hf).mono ?_
            rintro e W2 ⟨rfl, hb2⟩
            have HB2 : Hid (At w W2 g p.noId) := HBA.out.old hb2
            have HFl := Lib.hid hf
            clear hf hb2
            go_wp2_with (fail)
            refine ⟨rfl, HB2.out.below, .inr ⟨fun x => ?_, rfl⟩⟩
            have hz := HS.out ((hG.out.1 x).1.2.2 _ (List.getElem_mem hkl))
            exact HFl.out hz.1
        · have hall : Hid (∀ c ∈ D, SubOk 10 c) := subs_all (fun i hi => hs.out i hi (by omega))
          have H2 : Hid (At w (wr.setCell ⟨g, 17, none⟩ (.slice none 0 0)) g p.noId.noSubs) := HB.out.set 17 (.slice none 0 0) _ rfl
          have m17 : wr.cell? ⟨g, 17, none⟩ = some (.slice Ac D.length cc) := by rw [← hc]; exact HB.out.at_.cell 17
          have f17 := HB.out.at_.frozen 17
          have HL := Lib.hid hl
          go_upto_region 50 with (fail)
          exact zero_ends w _ g p p.noId.noSubs C D H2.out HF.out.fit.codes ⟨_, _, _, rfl⟩ HF.out.strs ⟨fun x => (hG.out.1 x).2, fun x => hG.out.2 ⟨⟨HI.out, HL.out, hall.out⟩, x⟩⟩ _ (by kernel_rfl) _ rfl rfl rfl
    · have hl1 : decide (0 < D.length) = false := decide_eq_false hl
      have HL := Lib.hid hl
      clear hl
      go_wp2_with (fail)
      refine (need_no _).mono ?_
      rintro e w' ⟨rfl, rfl⟩
      go_wp2_with (fail)
      exact ⟨rfl, H1.out.below, .inr ⟨fun x => HL.out (hG.out.1 x).1.2.1, rfl⟩⟩
  · have H1 : Hid (Below w.heap.size w W1) := HA.out.fail ht
    have HI := Lib.hid hi
    clear ht hi
    go_wp2_with (fail)
    exact ⟨rfl, H1.out, .inr ⟨fun x => HI.out (hG.out.1 x).1.1, rfl⟩⟩
end Pk
end Go.Proofs.YtonemmdipmohgaaDoor

namespace Go.Proofs.YtonemmdipmohgaaDoor
open Go.RowKit
set_option linter.unusedVariables false
set_option linter.unusedSimpArgs false
namespace Pk
open Utf (IsStr nums)

theorem str_yes (w : World) (hT : Lib.Utf8Tabs 0 1 w) (s : ByteArray) (h : Str s) : Calls Tryd.prog 88 #[.string s] w fun e w' => e = .returned (.bool true) ∧ Below w.heap.size w w' := by
  obtain ⟨l, h⟩ := h
  exact Utf.is_yes w hT s l h
theorem str_no (w : World) (hT : Lib.Utf8Tabs 0 1 w) (s : ByteArray) (h : ¬ Str s) : Calls Tryd.prog 88 #[.string s] w fun e w' => e = .returned (.bool false) ∧ Below w.heap.size w w' :=
  Utf.is_no w hT s (fun l hl => h ⟨l, hl⟩)
theorem empty_of {s : ByteArray} (h : s.size = 0) : s = ⟨#[]⟩ := by
  have : s.data = #[] := Array.eq_empty_of_size_eq_zero h
  cases s; cases this; rfl
theorem list_ne {s : ByteArray} (h : ¬ s.size = 0) : (s.toList == []) = false := by
  rw [ByteArray.toList_eq]
  cases he : s.data.toList with
  | nil => exact absurd (by show s.data.size = 0; rw [← Array.length_toList, he]; rfl) h
  | cons a b => rfl

theorem list_em {s : ByteArray} (h : s.size = 0) : (s.toList == []) = true := by
  rw [empty_of h, ByteArray.toList_eq]; rfl
theorem list_em2 {s : ByteArray} (h : s.size = 0) : s.toList.isEmpty = true := by
  rw [empty_of h, ByteArray.toList_eq]; rfl

abbrev conW (W : World) (g : Nat) : World := (((((((W.setCell ⟨g, 7, none⟩ (.string ⟨#[]⟩)).setCell ⟨g, 8, none⟩ (.bool false)).setCell ⟨g, 9, none⟩ (.int .i64 0)).setCell ⟨g, 10, none⟩ (.bool false)).setCell ⟨g, 11, none⟩ (.bool false)).setCell ⟨g, 12, none⟩ (.bool false)).setCell ⟨g, 13, none⟩ (.string ⟨#[]⟩)).setCell ⟨g, 14, none⟩ (.string ⟨#[]⟩)
theorem At.con {w W : World} {g : Nat} {p : Pkt} (h : At w W g p) : At w (conW W g) g p.noCon :=
  (((((((h.set 7 _ { p with client := ⟨#[]⟩ } rfl).set 8 _ { p with client := ⟨#[]⟩, clean := false } rfl).set 9 _ { p with client := ⟨#[]⟩, clean := false, alive := 0 } rfl).set 10 _ { p with client := ⟨#[]⟩, clean := false, alive := 0, will := false } rfl).set 11 _ { p with client := ⟨#[]⟩, clean := false, alive := 0, will := false, huser := false } rfl).set 12 _ { p with client := ⟨#[]⟩, clean := false, alive := 0, will := false, huser := false, hpass := false } rfl).set 13 _ { p with client := ⟨#[]⟩, clean := false, alive := 0, will := false, huser := false, hpass := false, user := ⟨#[]⟩ } rfl).set 14 _ p.noCon rfl


set_option maxRecDepth 100000 in
set_option maxHeartbeats 8000000 in
theorem check_connect_false (w : World) (hT : Lib.Utf8Tabs 0 1 w) (p : Pkt) (C : List Int) (D : List (ByteArray × Int)) (hF : Fit p) (h : p.ty = 1) (hw : p.will = false) : Calls Tryd.prog 74 #[.agg p.cells] w fun e w' => Checks w (Good p C D) e w' := by
  have hmf : ∀ (fn : Fn) (first cap : Array Value) (w : World), (Instr.makeFunc fn first cap).run Tryd.prog w = .ok (.func fn first cap) w := fun _ _ _ _ => rfl
  have ha : p.after = p.noCon := by
    unfold Pkt.after
    rw [h, hw]; rfl
  have hG : Hid (Good p C D ↔ ConOk p ∧ p.noCon.zero (rowLen p.codes) (rowLen p.subs) = true) := by
    unfold Good Ok
    rw [ha]
    exact ⟨fun x => ⟨x.2.2.1.1 h, x.2.2.2⟩, fun x => ⟨by omega, by omega, ⟨fun _ => x.1, by omega, by omega, by omega, by omega, by omega⟩, x.2⟩⟩
  have HF := Lib.hid hF
  have HT := Lib.hid hT
  have hA := at_box w p
  obtain ⟨W, hW⟩ : ∃ W, Hid (W = w.alloc (.cells p.cells PT)) := ⟨_, rfl⟩
  obtain ⟨g, hg⟩ : ∃ g, Hid (g = w.heap.size) := ⟨_, rfl⟩
  have h0 : (w.alloc (.cells p.cells PT)).cell? ⟨w.heap.size, 0, none⟩ = some (.int .i64 p.ty) := hA.at_.cell 0
  rw [← hW.out, ← hg.out] at hA
  have HA := Lib.hid hA
  have k7 : W.cell? ⟨g, 7, none⟩ = some (.string p.client) := hA.at_.cell 7
  clear hA hF ha hT
  go_enter Tryd.func74, Tryd.ntmps74
  go_wp2_with (fail)
  refine (within_yes _ _ _ _ (by omega)).mono ?_
  rintro e w1 ⟨rfl, rfl⟩
  rw [← hW.out, ← hg.out] at h0 ⊢
  rw [h] at h0
  go_wp2_with (fail)
  by_cases hcl : Str p.client
  · refine (str_yes W (HA.out.tabs HT.out) _ hcl).mono ?_
    rintro e W1 ⟨rfl, hb1⟩
    have H1 : Hid (At w W1 g p) := HA.out.old hb1
    have HCL := Lib.hid hcl
    have k13 : W1.cell? ⟨g, 13, none⟩ = some (.string p.user) := H1.out.at_.cell 13
    clear hb1 k7 h0 hcl
    go_wp2_with (fail)
    by_cases hus : Str p.user
    · refine (str_yes W1 (H1.out.tabs HT.out) _ hus).mono ?_
      rintro e W2 ⟨rfl, hb2⟩
      have H2 : Hid (At w W2 g p) := H1.out.old hb2
      have HUS := Lib.hid hus
      have m14 : W2.cell? ⟨g, 14, none⟩ = some (.string p.pass) := H2.out.at_.cell 14
      have m11 : W2.cell? ⟨g, 11, none⟩ = some (.bool p.huser) := H2.out.at_.cell 11
      have m12 : W2.cell? ⟨g, 12, none⟩ = some (.bool p.hpass) := H2.out.at_.cell 12
      have m9 : W2.cell? ⟨g, 9, none⟩ = some (.int .i64 p.alive) := H2.out.at_.cell 9
      have m10 : W2.cell? ⟨g, 10, none⟩ = some (.bool p.will) := H2.out.at_.cell 10
      rw [hw] at m10
      clear hb2 k13 hus
      by_cases hps : p.pass.size ≤ 65535
      · have d1 : decide ((p.pass.size : Int) ≤ 65535) = true := by simpa using (by omega : (p.pass.size : Int) ≤ 65535)
        have d2 : decide (p.pass.size ≤ 65535) = true := by simpa using hps
        have HPS := Lib.hid hps
        clear hps
        by_cases hhu : p.huser = true
        · rw [hhu] at m11
          by_cases hhp : p.hpass = true
          · rw [hhp] at m12
            go_wp2_with (fail)
            refine (need_yes _).mono ?_
            rintro e w' ⟨rfl, rfl⟩
            go_wp2_with (fail)
            by_cases hal : 0 ≤ p.alive ∧ p.alive ≤ 65535
            · refine (within_yes _ _ _ _ hal).mono ?_
              rintro e w' ⟨rfl, rfl⟩
              have HAL := Lib.hid hal
              clear hal
              have n7 : W2.cell? ⟨g, 7, none⟩ = some (.string p.client) := H2.out.at_.cell 7
              have f7 := H2.out.at_.frozen 7
              have n8 : W2.cell? ⟨g, 8, none⟩ = some (.bool p.clean) := H2.out.at_.cell 8
              have f8 := H2.out.at_.frozen 8
              have n9 : W2.cell? ⟨g, 9, none⟩ = some (.int .i64 p.alive) := H2.out.at_.cell 9
              have f9 := H2.out.at_.frozen 9
              have n10 : W2.cell? ⟨g, 10, none⟩ = some (.bool p.will) := H2.out.at_.cell 10
              have f10 := H2.out.at_.frozen 10
              have n11 : W2.cell? ⟨g, 11, none⟩ = some (.bool p.huser) := H2.out.at_.cell 11
              have f11 := H2.out.at_.frozen 11
              have n12 : W2.cell? ⟨g, 12, none⟩ = some (.bool p.hpass) := H2.out.at_.cell 12
              have f12 := H2.out.at_.frozen 12
              have n13 : W2.cell? ⟨g, 13, none⟩ = some (.string p.user) := H2.out.at_.cell 13
              have f13 := H2.out.at_.frozen 13
              have n14 : W2.cell? ⟨g, 14, none⟩ = some (.string p.pass) := H2.out.at_.cell 14
              have f14 := H2.out.at_.frozen 14
              rw [hhu] at n11
              rw [hhp] at n12
              rw [hw] at n10
              have HE : Hid (At w (conW W2 g) g p.noCon) := H2.out.con
              go_wp2_with (fail)
              refine (need_yes _).mono ?_
              rintro e w' ⟨rfl, rfl⟩
              go_upto_region 50 with (fail)
              exact zero_ends w _ g p _ C D HE.out HF.out.codes HF.out.subs (by show (0 : Nat) + 0 + 0 ≤ _; omega) ⟨fun x => (hG.out.1 x).2, fun x => hG.out.2 ⟨⟨HCL.out, HUS.out, HPS.out, .inl hhu, HAL.out.1, HAL.out.2, (fun y => by rw [hw] at y; cases y), .inl hhu, .inl hhp⟩, x⟩⟩ _ (by kernel_rfl) _ rfl rfl rfl
            · have HAL := Lib.hid hal
              refine (within_no _ _ _ _ hal).mono ?_
              rintro e w' ⟨rfl, rfl⟩
              go_wp2_with (fail)
              exact ⟨rfl, H2.out.below, .inr ⟨fun x => HAL.out ⟨(hG.out.1 x).1.2.2.2.2.1, (hG.out.1 x).1.2.2.2.2.2.1⟩, rfl⟩⟩
          · have hhp : p.hpass = false := by simpa using hhp
            rw [hhp] at m12
            go_wp2_with (fail)
            refine (need_yes _).mono ?_
            rintro e w' ⟨rfl, rfl⟩
            go_wp2_with (fail)
            by_cases hal : 0 ≤ p.alive ∧ p.alive ≤ 65535
            · refine (within_yes _ _ _ _ hal).mono ?_
              rintro e w' ⟨rfl, rfl⟩
              have HAL := Lib.hid hal
              clear hal
              have n7 : W2.cell? ⟨g, 7, none⟩ = some (.string p.client) := H2.out.at_.cell 7
              have f7 := H2.out.at_.frozen 7
              have n8 : W2.cell? ⟨g, 8, none⟩ = some (.bool p.clean) := H2.out.at_.cell 8
              have f8 := H2.out.at_.frozen 8
              have n9 : W2.cell? ⟨g, 9, none⟩ = some (.int .i64 p.alive) := H2.out.at_.cell 9
              have f9 := H2.out.at_.frozen 9
              have n10 : W2.cell? ⟨g, 10, none⟩ = some (.bool p.will) := H2.out.at_.cell 10
              have f10 := H2.out.at_.frozen 10
              have n11 : W2.cell? ⟨g, 11, none⟩ = some (.bool p.huser) := H2.out.at_.cell 11
              have f11 := H2.out.at_.frozen 11
              have n12 : W2.cell? ⟨g, 12, none⟩ = some (.bool p.hpass) := H2.out.at_.cell 12
              have f12 := H2.out.at_.frozen 12
              have n13 : W2.cell? ⟨g, 13, none⟩ = some (.string p.user) := H2.out.at_.cell 13
              have f13 := H2.out.at_.frozen 13
              have n14 : W2.cell? ⟨g, 14, none⟩ = some (.string p.pass) := H2.out.at_.cell 14
              have f14 := H2.out.at_.frozen 14
              rw [hhu] at n11
              rw [hhp] at n12
              rw [hw] at n10
              have HE : Hid (At w (conW W2 g) g p.noCon) := H2.out.con
              by_cases hp0 : p.pass.size = 0
              · have HP0 := Lib.hid hp0
                have ep := list_em hp0
                have ep2 := list_em2 hp0
                clear hp0
                go_wp2_with (fail)
                refine (need_yes _).mono ?_
                rintro e w' ⟨rfl, rfl⟩
                go_upto_region 50 with (fail)
                exact zero_ends w _ g p _ C D HE.out HF.out.codes HF.out.subs (by show (0 : Nat) + 0 + 0 ≤ _; omega) ⟨fun x => (hG.out.1 x).2, fun x => hG.out.2 ⟨⟨HCL.out, HUS.out, HPS.out, .inl hhu, HAL.out.1, HAL.out.2, (fun y => by rw [hw] at y; cases y), .inl hhu, .inr HP0.out⟩, x⟩⟩ _ (by kernel_rfl) _ rfl rfl rfl
              · have HP0 := Lib.hid hp0
                have e0 := list_ne hp0
                clear hp0
                go_wp2_with (fail)
                refine (need_no _).mono ?_
                rintro e w' ⟨rfl, rfl⟩
                go_wp2_with (fail)
                exact ⟨rfl, H2.out.below, .inr ⟨fun x => (by
                    rcases (hG.out.1 x).1.2.2.2.2.2.2.2.2 with y | y
                    · rw [hhp] at y; cases y
                    · exact HP0.out y), rfl⟩⟩
            · have HAL := Lib.hid hal
              refine (within_no _ _ _ _ hal).mono ?_
              rintro e w' ⟨rfl, rfl⟩
              go_wp2_with (fail)
              exact ⟨rfl, H2.out.below, .inr ⟨fun x => HAL.out ⟨(hG.out.1 x).1.2.2.2.2.1, (hG.out.1 x).1.2.2.2.2.2.1⟩, rfl⟩⟩
        · have hhu : p.huser = false := by simpa using hhu
          rw [hhu] at m11
          by_cases hhp : p.hpass = false
          · rw [hhp] at m12
            go_wp2_with (fail)
            refine (need_yes _).mono ?_
            rintro e w' ⟨rfl, rfl⟩
            go_wp2_with (fail)
            by_cases hal : 0 ≤ p.alive ∧ p.alive ≤ 65535
            · refine (within_yes _ _ _ _ hal).mono ?_
              rintro e w' ⟨rfl, rfl⟩
              have HAL := Lib.hid hal
              clear hal
              have n7 : W2.cell? ⟨g, 7, none⟩ = some (.string p.client) := H2.out.at_.cell 7
              have f7 := H2.out.at_.frozen 7
              have n8 : W2.cell? ⟨g, 8, none⟩ = some (.bool p.clean) := H2.out.at_.cell 8
              have f8 := H2.out.at_.frozen 8
              have n9 : W2.cell? ⟨g, 9, none⟩ = some (.int .i64 p.alive) := H2.out.at_.cell 9
              have f9 := H2.out.at_.frozen 9
              have n10 : W2.cell? ⟨g, 10, none⟩ = some (.bool p.will) := H2.out.at_.cell 10
              have f10 := H2.out.at_.frozen 10
              have n11 : W2.cell? ⟨g, 11, none⟩ = some (.bool p.huser) := H2.out.at_.cell 11
              have f11 := H2.out.at_.frozen 11
              have n12 : W2.cell? ⟨g, 12, none⟩ = some (.bool p.hpass) := H2.out.at_.cell 12
              have f12 := H2.out.at_.frozen 12
              have n13 : W2.cell? ⟨g, 13, none⟩ = some (.string p.user) := H2.out.at_.cell 13
              have f13 := H2.out.at_.frozen 13
              have n14 : W2.cell? ⟨g, 14, none⟩ = some (.string p.pass) := H2.out.at_.cell 14
              have f14 := H2.out.at_.frozen 14
              rw [hhu] at n11
              rw [hhp] at n12
              rw [hw] at n10
              have HE : Hid (At w (conW W2 g) g p.noCon) := H2.out.con
              by_cases hu0 : p.user.size = 0
              · have HU0 := Lib.hid hu0
                have eu := list_em hu0
                have eu2 := list_em2 hu0
                clear hu0
                by_cases hp0 : p.pass.size = 0
                · have HP0 := Lib.hid hp0
                  have ep := list_em hp0
                  have ep2 := list_em2 hp0
                  clear hp0
                  go_wp2_with (fail)
                  refine (need_yes _).mono ?_
                  rintro e w' ⟨rfl, rfl⟩
                  go_upto_region 50 with (fail)
                  exact zero_ends w _ g p _ C D HE.out HF.out.codes HF.out.subs (by show (0 : Nat) + 0 + 0 ≤ _; omega) ⟨fun x => (hG.out.1 x).2, fun x => hG.out.2 ⟨⟨HCL.out, HUS.out, HPS.out, .inr hhp, HAL.out.1, HAL.out.2, (fun y => by rw [hw] at y; cases y), .inr HU0.out, .inr HP0.out⟩, x⟩⟩ _ (by kernel_rfl) _ rfl rfl rfl
                · have HP0 := Lib.hid hp0
                  have e0 := list_ne hp0
                  clear hp0
                  go_wp2_with (fail)
                  refine (need_no _).mono ?_
                  rintro e w' ⟨rfl, rfl⟩
                  go_wp2_with (fail)
                  exact ⟨rfl, H2.out.below, .inr ⟨fun x => (by
                      rcases (hG.out.1 x).1.2.2.2.2.2.2.2.2 with y | y
                      · rw [hhp] at y; cases y
                      · exact HP0.out y), rfl⟩⟩
              · have HU0 := Lib.hid hu0
                have e0 := list_ne hu0
                clear hu0
                go_wp2_with (fail)
                refine (need_no _).mono ?_
                rintro e w' ⟨rfl, rfl⟩
                go_wp2_with (fail)
                exact ⟨rfl, H2.out.below, .inr ⟨fun x => (by
                    rcases (hG.out.1 x).1.2.2.2.2.2.2.2.1 with y | y
                    · rw [hhu] at y; cases y
                    · exact HU0.out y), rfl⟩⟩
            · have HAL := Lib.hid hal
              refine (within_no _ _ _ _ hal).mono ?_
              rintro e w' ⟨rfl, rfl⟩
              go_wp2_with (fail)
              exact ⟨rfl, H2.out.below, .inr ⟨fun x => HAL.out ⟨(hG.out.1 x).1.2.2.2.2.1, (hG.out.1 x).1.2.2.2.2.2.1⟩, rfl⟩⟩
          · have hhp : p.hpass = true := by simpa using hhp
            rw [hhp] at m12
            go_wp2_with (fail)
            refine (need_no _).mono ?_
            rintro e w' ⟨rfl, rfl⟩
            go_wp2_with (fail)
            exact ⟨rfl, H2.out.below, .inr ⟨fun x => (by
                rcases (hG.out.1 x).1.2.2.2.1 with y | y
                · rw [hhu] at y; cases y
                · rw [hhp] at y; cases y), rfl⟩⟩
      · have d1 : decide ((p.pass.size : Int) ≤ 65535) = false := by simpa using (by omega : ¬ (p.pass.size : Int) ≤ 65535)
        have d2 : decide (p.pass.size ≤ 65535) = false := by simpa using hps
        have HPS := Lib.hid hps
        clear hps
        go_wp2_with (fail)
        refine (need_no _).mono ?_
        rintro e w' ⟨rfl, rfl⟩
        go_wp2_with (fail)
        exact ⟨rfl, H2.out.below, .inr ⟨fun x => HPS.out ((hG.out.1 x).1.2.2.1), rfl⟩⟩
    · refine (str_no W1 (H1.out.tabs HT.out) _ hus).mono ?_
      rintro e W2 ⟨rfl, hb2⟩
      have H2 : Hid (At w W2 g p) := H1.out.old hb2
      have HUS := Lib.hid hus
      clear hb2 hus
      go_wp2_with (fail)
      refine (need_no _).mono ?_
      rintro e w' ⟨rfl, rfl⟩
      go_wp2_with (fail)
      exact ⟨rfl, H2.out.below, .inr ⟨fun x => HUS.out ((hG.out.1 x).1.2.1), rfl⟩⟩
  · refine (str_no W (HA.out.tabs HT.out) _ hcl).mono ?_
    rintro e W1 ⟨rfl, hb1⟩
    have H1 : Hid (At w W1 g p) := HA.out.old hb1
    have HCL := Lib.hid hcl
    clear hb1 hcl
    go_wp2_with (fail)
    refine (need_no _).mono ?_
    rintro e w' ⟨rfl, rfl⟩
    go_wp2_with (fail)
    exact ⟨rfl, H1.out.below, .inr ⟨fun x => HCL.out ((hG.out.1 x).1.1), rfl⟩⟩

set_option maxRecDepth 100000 in
set_option maxHeartbeats 8000000 in
theorem check_connect_true (w : World) (hT : Lib.Utf8Tabs 0 1 w) (p : Pkt) (C : List Int) (D : List (ByteArray × Int)) (hF : Fit p) (h : p.ty = 1) (hw : p.will = true) : Calls Tryd.prog 74 #[.agg p.cells] w fun e w' => Checks w (Good p C D) e w' := by
  have hmf : ∀ (fn : Fn) (first cap : Array Value) (w : World), (Instr.makeFunc fn first cap).run Tryd.prog w = .ok (.func fn first cap) w := fun _ _ _ _ => rfl
  have ha : p.after = p.noMsg.noCon := by
    unfold Pkt.after
    rw [h, hw]; rfl
  have hG : Hid (Good p C D ↔ ConOk p ∧ p.noMsg.noCon.zero (rowLen p.codes) (rowLen p.subs) = true) := by
    unfold Good Ok
    rw [ha]
    exact ⟨fun x => ⟨x.2.2.1.1 h, x.2.2.2⟩, fun x => ⟨by omega, by omega, ⟨fun _ => x.1, by omega, by omega, by omega, by omega, by omega⟩, x.2⟩⟩
  have HF := Lib.hid hF
  have HT := Lib.hid hT
  have hA := at_box w p
  obtain ⟨W, hW⟩ : ∃ W, Hid (W = w.alloc (.cells p.cells PT)) := ⟨_, rfl⟩
  obtain ⟨g, hg⟩ : ∃ g, Hid (g = w.heap.size) := ⟨_, rfl⟩
  have h0 : (w.alloc (.cells p.cells PT)).cell? ⟨w.heap.size, 0, none⟩ = some (.int .i64 p.ty) := hA.at_.cell 0
  rw [← hW.out, ← hg.out] at hA
  have HA := Lib.hid hA
  have k7 : W.cell? ⟨g, 7, none⟩ = some (.string p.client) := hA.at_.cell 7
  clear hA hF ha hT
  go_enter Tryd.func74, Tryd.ntmps74
  go_wp2_with (fail)
  refine (within_yes _ _ _ _ (by omega)).mono ?_
  rintro e w1 ⟨rfl, rfl⟩
  rw [← hW.out, ← hg.out] at h0 ⊢
  rw [h] at h0
  go_wp2_with (fail)
  by_cases hcl : Str p.client
  · refine (str_yes W (HA.out.tabs HT.out) _ hcl).mono ?_
    rintro e W1 ⟨rfl, hb1⟩
    have H1 : Hid (At w W1 g p) := HA.out.old hb1
    have HCL := Lib.hid hcl
    have k13 : W1.cell? ⟨g, 13, none⟩ = some (.string p.user) := H1.out.at_.cell 13
    clear hb1 k7 h0 hcl
    go_wp2_with (fail)
    by_cases hus : Str p.user
    · refine (str_yes W1 (H1.out.tabs HT.out) _ hus).mono ?_
      rintro e W2 ⟨rfl, hb2⟩
      have H2 : Hid (At w W2 g p) := H1.out.old hb2
      have HUS := Lib.hid hus
      have m14 : W2.cell? ⟨g, 14, none⟩ = some (.string p.pass) := H2.out.at_.cell 14
      have m11 : W2.cell? ⟨g, 11, none⟩ = some (.bool p.huser) := H2.out.at_.cell 11
      have m12 : W2.cell? ⟨g, 12, none⟩ = some (.bool p.hpass) := H2.out.at_.cell 12
      have m9 : W2.cell? ⟨g, 9, none⟩ = some (.int .i64 p.alive) := H2.out.at_.cell 9
      have m10 : W2.cell? ⟨g, 10, none⟩ = some (.bool p.will) := H2.out.at_.cell 10
      rw [hw] at m10
      clear hb2 k13 hus
      by_cases hps : p.pass.size ≤ 65535
      · have d1 : decide ((p.pass.size : Int) ≤ 65535) = true := by simpa using (by omega : (p.pass.size : Int) ≤ 65535)
        have d2 : decide (p.pass.size ≤ 65535) = true := by simpa using hps
        have HPS := Lib.hid hps
        clear hps
        by_cases hhu : p.huser = true
        · rw [hhu] at m11
          by_cases hhp : p.hpass = true
          · rw [hhp] at m12
            go_wp2_with (fail)
            refine (need_yes _).mono ?_
            rintro e w' ⟨rfl, rfl⟩
            go_wp2_with (fail)
            by_cases hal : 0 ≤ p.alive ∧ p.alive ≤ 65535
            · refine (within_yes _ _ _ _ hal).mono ?_
              rintro e w' ⟨rfl, rfl⟩
              have HAL := Lib.hid hal
              clear hal
              have m4 : W2.cell? ⟨g, 4, none⟩ = some (.string p.payload) := H2.out.at_.cell 4
              by_cases hpl : p.payload.size ≤ 65535
              · have d3 : decide ((p.payload.size : Int) ≤ 65535) = true := by simpa using (by omega : (p.payload.size : Int) ≤ 65535)
                have d4 : decide (p.payload.size ≤ 65535) = true := by simpa using hpl
                have HPL := Lib.hid hpl
                clear hpl
                go_wp2_with (fail)
                refine (need_yes _).mono ?_
                rintro e w' ⟨rfl, rfl⟩
                go_wp2_with (fail)
                refine (message_calls _ (H2.out.tabs HT.out) g _ H2.out.at_).mono ?_
                rintro e W3 ⟨ht, (⟨hi, rfl, hpk⟩ | ⟨hi, rfl⟩)⟩
                · have H3 : Hid (At w W3 g p.noMsg) := H2.out.turn ht hpk
                  have HM := Lib.hid hi
                  clear ht hpk hi m4 m9 m10 m11 m12 m14 d1 d2 d3 d4
                  have n7 : W3.cell? ⟨g, 7, none⟩ = some (.string p.client) := H3.out.at_.cell 7
                  have f7 := H3.out.at_.frozen 7
                  have n8 : W3.cell? ⟨g, 8, none⟩ = some (.bool p.clean) := H3.out.at_.cell 8
                  have f8 := H3.out.at_.frozen 8
                  have n9 : W3.cell? ⟨g, 9, none⟩ = some (.int .i64 p.alive) := H3.out.at_.cell 9
                  have f9 := H3.out.at_.frozen 9
                  have n10 : W3.cell? ⟨g, 10, none⟩ = some (.bool p.will) := H3.out.at_.cell 10
                  have f10 := H3.out.at_.frozen 10
                  have n11 : W3.cell? ⟨g, 11, none⟩ = some (.bool p.huser) := H3.out.at_.cell 11
                  have f11 := H3.out.at_.frozen 11
                  have n12 : W3.cell? ⟨g, 12, none⟩ = some (.bool p.hpass) := H3.out.at_.cell 12
                  have f12 := H3.out.at_.frozen 12
                  have n13 : W3.cell? ⟨g, 13, none⟩ = some (.string p.user) := H3.out.at_.cell 13
                  have f13 := H3.out.at_.frozen 13
                  have n14 : W3.cell? ⟨g, 14, none⟩ = some (.string p.pass) := H3.out.at_.cell 14
                  have f14 := H3.out.at_.frozen 14
                  rw [hhu] at n11
                  rw [hhp] at n12
                  rw [hw] at n10
                  have HE : Hid (At w (conW W3 g) g p.noMsg.noCon) := H3.out.con
                  go_wp2_with (fail)
                  refine (need_yes _).mono ?_
                  rintro e w' ⟨rfl, rfl⟩
                  go_upto_region 50 with (fail)
                  exact zero_ends w _ g p _ C D HE.out HF.out.codes HF.out.subs (by show (0 : Nat) + 0 + 0 ≤ _; omega) ⟨fun x => (hG.out.1 x).2, fun x => hG.out.2 ⟨⟨HCL.out, HUS.out, HPS.out, .inl hhu, HAL.out.1, HAL.out.2, (fun _ => ⟨HPL.out, HM.out⟩), .inl hhu, .inl hhp⟩, x⟩⟩ _ (by kernel_rfl) _ rfl rfl rfl
                · have H3 : Hid (Below w.heap.size w W3) := H2.out.fail ht
                  have HM := Lib.hid hi
                  clear ht hi
                  go_wp2_with (fail)
                  exact ⟨rfl, H3.out, .inr ⟨fun x => HM.out ((hG.out.1 x).1.2.2.2.2.2.2.1 hw).2, rfl⟩⟩
              · have d3 : decide ((p.payload.size : Int) ≤ 65535) = false := by simpa using (by omega : ¬ (p.payload.size : Int) ≤ 65535)
                have d4 : decide (p.payload.size ≤ 65535) = false := by simpa using hpl
                have HPL := Lib.hid hpl
                clear hpl
                go_wp2_with (fail)
                refine (need_no _).mono ?_
                rintro e w' ⟨rfl, rfl⟩
                go_wp2_with (fail)
                exact ⟨rfl, H2.out.below, .inr ⟨fun x => HPL.out ((hG.out.1 x).1.2.2.2.2.2.2.1 hw).1, rfl⟩⟩
            · have HAL := Lib.hid hal
              refine (within_no _ _ _ _ hal).mono ?_
              rintro e w' ⟨rfl, rfl⟩
              go_wp2_with (fail)
              exact ⟨rfl, H2.out.below, .inr ⟨fun x => HAL.out ⟨(hG.out.1 x).1.2.2.2.2.1, (hG.out.1 x).1.2.2.2.2.2.1⟩, rfl⟩⟩
          · have hhp : p.hpass = false := by simpa using hhp
            rw [hhp] at m12
            go_wp2_with (fail)
            refine (need_yes _).mono ?_
            rintro e w' ⟨rfl, rfl⟩
            go_wp2_with (fail)
            by_cases hal : 0 ≤ p.alive ∧ p.alive ≤ 65535
            · refine (within_yes _ _ _ _ hal).mono ?_
              rintro e w' ⟨rfl, rfl⟩
              have HAL := Lib.hid hal
              clear hal
              have m4 : W2.cell? ⟨g, 4, none⟩ = some (.string p.payload) := H2.out.at_.cell 4
              by_cases hpl : p.payload.size ≤ 65535
              · have d3 : decide ((p.payload.size : Int) ≤ 65535) = true := by simpa using (by omega : (p.payload.size : Int) ≤ 65535)
                have d4 : decide (p.payload.size ≤ 65535) = true := by simpa using hpl
                have HPL := Lib.hid hpl
                clear hpl
                go_wp2_with (fail)
                refine (need_yes _).mono ?_
                rintro e w' ⟨rfl, rfl⟩
                go_wp2_with (fail)
                refine (message_calls _ (H2.out.tabs HT.out) g _ H2.out.at_).mono ?_
                rintro e W3 ⟨ht, (⟨hi, rfl, hpk⟩ | ⟨hi, rfl⟩)⟩
                · have H3 : Hid (At w W3 g p.noMsg) := H2.out.turn ht hpk
                  have HM := Lib.hid hi
                  clear ht hpk hi m4 m9 m10 m11 m12 m14 d1 d2 d3 d4
                  have n7 : W3.cell? ⟨g, 7, none⟩ = some (.string p.client) := H3.out.at_.cell 7
                  have f7 := H3.out.at_.frozen 7
                  have n8 : W3.cell? ⟨g, 8, none⟩ = some (.bool p.clean) := H3.out.at_.cell 8
                  have f8 := H3.out.at_.frozen 8
                  have n9 : W3.cell? ⟨g, 9, none⟩ = some (.int .i64 p.alive) := H3.out.at_.cell 9
                  have f9 := H3.out.at_.frozen 9
                  have n10 : W3.cell? ⟨g, 10, none⟩ = some (.bool p.will) := H3.out.at_.cell 10
                  have f10 := H3.out.at_.frozen 10
                  have n11 : W3.cell? ⟨g, 11, none⟩ = some (.bool p.huser) := H3.out.at_.cell 11
                  have f11 := H3.out.at_.frozen 11
                  have n12 : W3.cell? ⟨g, 12, none⟩ = some (.bool p.hpass) := H3.out.at_.cell 12
                  have f12 := H3.out.at_.frozen 12
                  have n13 : W3.cell? ⟨g, 13, none⟩ = some (.string p.user) := H3.out.at_.cell 13
                  have f13 := H3.out.at_.frozen 13
                  have n14 : W3.cell? ⟨g, 14, none⟩ = some (.string p.pass) := H3.out.at_.cell 14
                  have f14 := H3.out.at_.frozen 14
                  rw [hhu] at n11
                  rw [hhp] at n12
                  rw [hw] at n10
                  have HE : Hid (At w (conW W3 g) g p.noMsg.noCon) := H3.out.con
                  by_cases hp0 : p.pass.size = 0
                  · have HP0 := Lib.hid hp0
                    have ep := list_em hp0
                    have ep2 := list_em2 hp0
                    clear hp0
                    go_wp2_with (fail)
                    refine (need_yes _).mono ?_
                    rintro e w' ⟨rfl, rfl⟩
                    go_upto_region 50 with (fail)
                    exact zero_ends w _ g p _ C D HE.out HF.out.codes HF.out.subs (by show (0 : Nat) + 0 + 0 ≤ _; omega) ⟨fun x => (hG.out.1 x).2, fun x => hG.out.2 ⟨⟨HCL.out, HUS.out, HPS.out, .inl hhu, HAL.out.1, HAL.out.2, (fun _ => ⟨HPL.out, HM.out⟩), .inl hhu, .inr HP0.out⟩, x⟩⟩ _ (by kernel_rfl) _ rfl rfl rfl
                  · have HP0 := Lib.hid hp0
                    have e0 := list_ne hp0
                    clear hp0
                    go_wp2_with (fail)
                    refine (need_no _).mono ?_
                    rintro e w' ⟨rfl, rfl⟩
                    go_wp2_with (fail)
                    exact ⟨rfl, H3.out.below, .inr ⟨fun x => (by
                        rcases (hG.out.1 x).1.2.2.2.2.2.2.2.2 with y | y
                        · rw [hhp] at y; cases y
                        · exact HP0.out y), rfl⟩⟩
                · have H3 : Hid (Below w.heap.size w W3) := H2.out.fail ht
                  have HM := Lib.hid hi
                  clear ht hi
                  go_wp2_with (fail)
                  exact ⟨rfl, H3.out, .inr ⟨fun x => HM.out ((hG.out.1 x).1.2.2.2.2.2.2.1 hw).2, rfl⟩⟩
              · have d3 : decide ((p.payload.size : Int) ≤ 65535) = false := by simpa using (by omega : ¬ (p.payload.size : Int) ≤ 65535)
                have d4 : decide (p.payload.size ≤ 65535) = false := by simpa using hpl
                have HPL := Lib.hid hpl
                clear hpl
                go_wp2_with (fail)
                refine (need_no _).mono ?_
                rintro e w' ⟨rfl, rfl⟩
                go_wp2_with (fail)
                exact ⟨rfl, H2.out.below, .inr ⟨fun x => HPL.out ((hG.out.1 x).1.2.2.2.2.2.2.1 hw).1, rfl⟩⟩
            · have HAL := Lib.hid hal
              refine (within_no _ _ _ _ hal).mono ?_
              rintro e w' ⟨rfl, rfl⟩
              go_wp2_with (fail)
              exact ⟨rfl, H2.out.below, .inr ⟨fun x => HAL.out ⟨(hG.out.1 x).1.2.2.2.2.1, (hG.out.1 x).1.2.2.2.2.2.1⟩, rfl⟩⟩
        · have hhu : p.huser = false := by simpa using hhu
          rw [hhu] at m11
          by_cases hhp : p.hpass = false
          · rw [hhp] at m12
            go_wp2_with (fail)
            refine (need_yes _).mono ?_
            rintro e w' ⟨rfl, rfl⟩
            go_wp2_with (fail)
            by_cases hal : 0 ≤ p.alive ∧ p.alive ≤ 65535
            · refine (within_yes _ _ _ _ hal).mono ?_
              rintro e w' ⟨rfl, rfl⟩
              have HAL := Lib.hid hal
              clear hal
              have m4 : W2.cell? ⟨g, 4, none⟩ = some (.string p.payload) := H2.out.at_.cell 4
              by_cases hpl : p.payload.size ≤ 65535
              · have d3 : decide ((p.payload.size : Int) ≤ 65535) = true := by simpa using (by omega : (p.payload.size : Int) ≤ 65535)
                have d4 : decide (p.payload.size ≤ 65535) = true := by simpa using hpl
                have HPL := Lib.hid hpl
                clear hpl
                go_wp2_with (fail)
                refine (need_yes _).mono ?_
                rintro e w' ⟨rfl, rfl⟩
                go_wp2_with (fail)
                refine (message_calls _ (H2.out.tabs HT.out) g _ H2.out.at_).mono ?_
                rintro e W3 ⟨ht, (⟨hi, rfl, hpk⟩ | ⟨hi, rfl⟩)⟩
                · have H3 : Hid (At w W3 g p.noMsg) := H2.out.turn ht hpk
                  have HM := Lib.hid hi
                  clear ht hpk hi m4 m9 m10 m11 m12 m14 d1 d2 d3 d4
                  have n7 : W3.cell? ⟨g, 7, none⟩ = some (.string p.client) := H3.out.at_.cell 7
                  have f7 := H3.out.at_.frozen 7
                  have n8 : W3.cell? ⟨g, 8, none⟩ = some (.bool p.clean) := H3.out.at_.cell 8
                  have f8 := H3.out.at_.frozen 8
                  have n9 : W3.cell? ⟨g, 9, none⟩ = some (.int .i64 p.alive) := H3.out.at_.cell 9
                  have f9 := H3.out.at_.frozen 9
                  have n10 : W3.cell? ⟨g, 10, none⟩ = some (.bool p.will) := H3.out.at_.cell 10
                  have f10 := H3.out.at_.frozen 10
                  have n11 : W3.cell? ⟨g, 11, none⟩ = some (.bool p.huser) := H3.out.at_.cell 11
                  have f11 := H3.out.at_.frozen 11
                  have n12 : W3.cell? ⟨g, 12, none⟩ = some (.bool p.hpass) := H3.out.at_.cell 12
                  have f12 := H3.out.at_.frozen 12
                  have n13 : W3.cell? ⟨g, 13, none⟩ = some (.string p.user) := H3.out.at_.cell 13
                  have f13 := H3.out.at_.frozen 13
                  have n14 : W3.cell? ⟨g, 14, none⟩ = some (.string p.pass) := H3.out.at_.cell 14
                  have f14 := H3.out.at_.frozen 14
                  rw [hhu] at n11
                  rw [hhp] at n12
                  rw [hw] at n10
                  have HE : Hid (At w (conW W3 g) g p.noMsg.noCon) := H3.out.con
                  by_cases hu0 : p.user.size = 0
                  · have HU0 := Lib.hid hu0
                    have eu := list_em hu0
                    have eu2 := list_em2 hu0
                    clear hu0
                    by_cases hp0 : p.pass.size = 0
                    · have HP0 := Lib.hid hp0
                      have ep := list_em hp0
                      have ep2 := list_em2 hp0
                      clear hp0
                      go_wp2_with (fail)
                      refine (need_yes _).mono ?_
                      rintro e w' ⟨rfl, rfl⟩
                      go_upto_region 50 with (fail)
                      exact zero_ends w _ g p _ C D HE.out HF.out.codes HF.out.subs (by show (0 : Nat) + 0 + 0 ≤ _; omega) ⟨fun x => (hG.out.1 x).2, fun x => hG.out.2 ⟨⟨HCL.out, HUS.out, HPS.out, .inr hhp, HAL.out.1, HAL.out.2, (fun _ => ⟨HPL.out, HM.out⟩), .inr HU0.out, .inr HP0.out⟩, x⟩⟩ _ (by kernel_rfl) _ rfl rfl rfl
                    · have HP0 := Lib.hid hp0
                      have e0 := list_ne hp0
                      clear hp0
                      go_wp2_with (fail)
                      refine (need_no _).mono ?_
                      rintro e w' ⟨rfl, rfl⟩
                      go_wp2_with (fail)
                      exact ⟨rfl, H3.out.below, .inr ⟨fun x => (by
                          rcases (hG.out.1 x).1.2.2.2.2.2.2.2.2 with y | y
                          · rw [hhp] at y; cases y
                          · exact HP0.out y), rfl⟩⟩
                  · have HU0 := Lib.hid hu0
                    have e0 := list_ne hu0
                    clear hu0
                    go_wp2_with (fail)
                    refine (need_no _).mono ?_
                    rintro e w' ⟨rfl, rfl⟩
                    go_wp2_with (fail)
                    exact ⟨rfl, H3.out.below, .inr ⟨fun x => (by
                        rcases (hG.out.1 x).1.2.2.2.2.2.2.2.1 with y | y
                        · rw [hhu] at y; cases y
                        · exact HU0.out y), rfl⟩⟩
                · have H3 : Hid (Below w.heap.size w W3) := H2.out.fail ht
                  have HM := Lib.hid hi
                  clear ht hi
                  go_wp2_with (fail)
                  exact ⟨rfl, H3.out, .inr ⟨fun x => HM.out ((hG.out.1 x).1.2.2.2.2.2.2.1 hw).2, rfl⟩⟩
              · have d3 : decide ((p.payload.size : Int) ≤ 65535) = false := by simpa using (by omega : ¬ (p.payload.size : Int) ≤ 65535)
                have d4 : decide (p.payload.size ≤ 65535) = false := by simpa using hpl
                have HPL := Lib.hid hpl
                clear hpl
                go_wp2_with (fail)
                refine (need_no _).mono ?_
                rintro e w' ⟨rfl, rfl⟩
                go_wp2_with (fail)
                exact ⟨rfl, H2.out.below, .inr ⟨fun x => HPL.out ((hG.out.1 x).1.2.2.2.2.2.2.1 hw).1, rfl⟩⟩
            · have HAL := Lib.hid hal
              refine (within_no _ _ _ _ hal).mono ?_
              rintro e w' ⟨rfl, rfl⟩
              go_wp2_with (fail)
              exact ⟨rfl, H2.out.below, .inr ⟨fun x => HAL.out ⟨(hG.out.1 x).1.2.2.2.2.1, (hG.out.1 x).1.2.2.2.2.2.1⟩, rfl⟩⟩
          · have hhp : p.hpass = true := by simpa using hhp
            rw [hhp] at m12
            go_wp2_with (fail)
            refine (need_no _).mono ?_
            rintro e w' ⟨rfl, rfl⟩
            go_wp2_with (fail)
            exact ⟨rfl, H2.out.below, .inr ⟨fun x => (by
                rcases (hG.out.1 x).1.2.2.2.1 with y | y
                · rw [hhu] at y; cases y
                · rw [hhp] at y; cases y), rfl⟩⟩
      · have d1 : decide ((p.pass.size : Int) ≤ 65535) = false := by simpa using (by omega : ¬ (p.pass.size : Int) ≤ 65535)
        have d2 : decide (p.pass.size ≤ 65535) = false := by simpa using hps
        have HPS := Lib.hid hps
        clear hps
        go_wp2_with (fail)
        refine (need_no _).mono ?_
        rintro e w' ⟨rfl, rfl⟩
        go_wp2_with (fail)
        exact ⟨rfl, H2.out.below, .inr ⟨fun x => HPS.out ((hG.out.1 x).1.2.2.1), rfl⟩⟩
    · refine (str_no W1 (H1.out.tabs HT.out) _ hus).mono ?_
      rintro e W2 ⟨rfl, hb2⟩
      have H2 : Hid (At w W2 g p) := H1.out.old hb2
      have HUS := Lib.hid hus
      clear hb2 hus
      go_wp2_with (fail)
      refine (need_no _).mono ?_
      rintro e w' ⟨rfl, rfl⟩
      go_wp2_with (fail)
      exact ⟨rfl, H2.out.below, .inr ⟨fun x => HUS.out ((hG.out.1 x).1.2.1), rfl⟩⟩
  · refine (str_no W (HA.out.tabs HT.out) _ hcl).mono ?_
    rintro e W1 ⟨rfl, hb1⟩
    have H1 : Hid (At w W1 g p) := HA.out.old hb1
    have HCL := Lib.hid hcl
    clear hb1 hcl
    go_wp2_with (fail)
    refine (need_no _).mono ?_
    rintro e w' ⟨rfl, rfl⟩
    go_wp2_with (fail)
    exact ⟨rfl, H1.out.below, .inr ⟨fun x => HCL.out ((hG.out.1 x).1.1), rfl⟩⟩
end Pk
end Go.Proofs.YtonemmdipmohgaaDoor

/- The sender and the reference's sender side by side, apart; what New may be asked. -/
import Derived.Test.YtonemmdipmohgaaDoorRsF
import Derived.Test.YtonemmdipmohgaaDoorSnR
namespace Go.Proofs.YtonemmdipmohgaaDoor
open Go.RowKit Go.ChangeShapes
set_option linter.unusedVariables false
set_option linter.unusedSimpArgs false
namespace Snd
open Pk Str

structure Two (w0 w : World) (T : Nat → Prop) (s : Nat) (x : St) (R : Nat) (vw vy vi : Value) (z : St) : Prop where
  own : Own w0 w T s x
  ref : RSt w R vw vy vi z
  hi : ∀ k, TT R vw vy vi k → w0.heap.size ≤ k
  ap : ∀ k, TT R vw vy vi k → ¬ T k
theorem Two.still {w0 w w' : World} {T : Nat → Prop} {s : Nat} {x z : St} {R : Nat} {vw vy vi : Value} (h : Two w0 w T s x R vw vy vi z) (t : Turn (fun _ => False) w w') : Two w0 w' T s x R vw vy vi z :=
  ⟨h.own.still t, h.ref.still t, h.hi, h.ap⟩
theorem Two.one {w0 w w' : World} {T T' : Nat → Prop} {s : Nat} {x x' z : St} {R : Nat} {vw vy vi : Value} (h : Two w0 w T s x R vw vy vi z) (o : Own w0 w' T' s x') (m : Moved T T' w w') : Two w0 w' T' s x' R vw vy vi z :=
  ⟨o, h.ref.turn m.1 h.ap, h.hi, fun k hk hT => by
    rcases m.2 k hT with h1 | h1
    · exact h.ap k hk h1
    · have := h.ref.lt k hk; omega⟩
theorem Two.two {w0 w w' : World} {T : Nat → Prop} {s : Nat} {x z z' : St} {R : Nat} {vw vy vi vw' vy' vi' : Value} (h : Two w0 w T s x R vw vy vi z) (r : RSt w' R vw' vy' vi' z') (m : Moved (TT R vw vy vi) (TT R vw' vy' vi') w w') : Two w0 w' T s x R vw' vy' vi' z' :=
  ⟨h.own.put m.1 (fun k hT hk => h.ap k hk hT) (fun k hk hT => by have := h.hi k hT; omega), r, fun k hk => by
    rcases m.2 k hk with h1 | h1
    · exact h.hi k h1
    · exact Nat.le_trans h.own.bel.size h1, fun k hk hT => by
    rcases m.2 k hk with h1 | h1
    · exact h.ap k h1 hT
    · have := h.own.lt k hT; omega⟩
theorem Two.prow {w0 w w' : World} {T S : Nat → Prop} {s : Nat} {x z : St} {R : Nat} {vw vy vi : Value} (h : Two w0 w T s x R vw vy vi z) (m : Moved (TT R vw vy vi) S w w') {v : Value} {ps : List Pkt} (p : PRow w v ps) : PRow w' v ps := p.turn m.1 h.ref.other
/-- The new one of the reference. -/
theorem Two.new {w0 w : World} {T : Nat → Prop} {s : Nat} {win que : Int} (h : Own w0 w T s ⟨win, que, [], [], [], 0⟩) (w' : World) (hw' : w' = w.alloc (.cells #[.int .i64 win, .int .i64 que, .slice none 0 0, .slice none 0 0, .slice none 0 0, .int .i64 0] RST)) (R : Nat) (hR : R = w.heap.size) :
    Two w0 w' T s ⟨win, que, [], [], [], 0⟩ R (.slice none 0 0) (.slice none 0 0) (.slice none 0 0) ⟨win, que, [], [], [], 0⟩ := by
  subst hw' hR
  have t : Turn (fun _ => False) w (w.alloc (.cells #[.int .i64 win, .int .i64 que, .slice none 0 0, .slice none 0 0, .slice none 0 0, .int .i64 0] RST)) := Turn.alloc _ _
  refine ⟨h.still t, ⟨heap_new _ _, Mid.nil _ _ _ _, Mid.nil _ _ _ _, ⟨rfl, .inl ⟨rfl, rfl⟩⟩, ⟨Int.le_refl 0, by show (0 : Int) ≤ 65535; decide⟩⟩, ?_, ?_⟩
  · rintro k (rfl | hk | hk | hk)
    · exact h.bel.size
    all_goals cases hk
  · rintro k (rfl | hk | hk | hk) hT
    · have := h.lt _ hT; omega
    all_goals cases hk
theorem two_push (w0 w : World) (hT : Lib.Utf8Tabs 0 1 w0) (T : Nat → Prop) (s : Nat) (x : St) (R : Nat) (vw vy vi : Value) (z : St) (h : Two w0 w T s x R vw vy vi z) (m : Msg) (hm : m.topic.size + m.pay.size ≤ 300) :
    Calls Tryd.prog 20 #[.pointer (some ⟨s, 0, none⟩), .agg m.vals.toArray] w fun e w' => e = .returned (.tuple #[.bool (x.push m).1, .int .i64 (x.push m).2.1]) ∧ ∃ T', Two w0 w' T' s (x.push m).2.2 R vw vy vi z ∧ Moved T T' w w' := by
  refine (own_push w0 w hT T s x h.own m hm).mono ?_
  rintro e w' ⟨h1, T', h2, h3⟩
  exact ⟨h1, T', h.one h2 h3, h3⟩
theorem two_rpush (w0 w : World) (T : Nat → Prop) (s : Nat) (x : St) (R : Nat) (vw vy vi : Value) (z : St) (h : Two w0 w T s x R vw vy vi z) (hq : z.que ≤ 64) (m : Msg) (hm : m.topic.size + m.pay.size ≤ 300) :
    Calls Tryd.prog 27 #[.pointer (some ⟨R, 0, none⟩), .agg m.vals.toArray] w fun e w' => e = .returned (.tuple #[.bool (z.push m).1, .int .i64 (z.push m).2.1]) ∧ ∃ vw', Two w0 w' T s x R vw' vy vi (z.push m).2.2 := by
  refine (rpush_calls w R vw vy vi z h.ref hq m hm).mono ?_
  rintro e w' ⟨h1, vw', h2, h3⟩
  exact ⟨h1, vw', h.two h2 h3⟩
theorem two_next (w0 w : World) (T : Nat → Prop) (s : Nat) (x : St) (R : Nat) (vw vy vi : Value) (z : St) (h : Two w0 w T s x R vw vy vi z) :
    Calls Tryd.prog 21 #[.pointer (some ⟨s, 0, none⟩)] w fun e w' => ∃ A c T', e = .returned (.tuple #[.slice A x.next.2.length c, .int .i64 0]) ∧ PRow w' (.slice A x.next.2.length c) x.next.2 ∧ Two w0 w' T' s x.next.1 R vw vy vi z := by
  refine (own_next w0 w T s x h.own).mono ?_
  rintro e w' ⟨A, n, c, T', rfl, h1, h2, h3, h4⟩
  obtain rfl := h1.len
  exact ⟨A, c, T', rfl, h1, h.one h3 h4⟩
theorem two_rnext (w0 w : World) (T : Nat → Prop) (s : Nat) (x : St) (R : Nat) (vw vy vi : Value) (z : St) (h : Two w0 w T s x R vw vy vi z) (hI : Inv z) (v : Value) (ps : List Pkt) (hP : PRow w v ps) :
    Calls Tryd.prog 29 #[.pointer (some ⟨R, 0, none⟩)] w fun e w' => ∃ A c vw' vy' vi', e = .returned (.slice A z.next.2.length c) ∧ PRow w' (.slice A z.next.2.length c) z.next.2 ∧ PRow w' v ps ∧ Two w0 w' T s x R vw' vy' vi' z.next.1 := by
  refine (rnext_calls w R vw vy vi z h.ref hI).mono ?_
  rintro e w' ⟨v', vw', vy', vi', rfl, h1, h2, h3, h4⟩
  obtain ⟨A, c, hv, _⟩ := h1.1.form
  subst hv
  exact ⟨A, c, vw', vy', vi', rfl, h1, h.prow h4 hP, h.two h3 h4⟩
theorem two_take (w0 w : World) (T : Nat → Prop) (s : Nat) (x : St) (R : Nat) (vw vy vi : Value) (z : St) (h : Two w0 w T s x R vw vy vi z) (p : Pkt) :
    Calls Tryd.prog 23 #[.pointer (some ⟨s, 0, none⟩), .agg p.cells] w fun e w' => ∃ A c T', e = .returned (.tuple #[.slice A (x.take p.ty p.id).2.1.length c, .int .i64 (x.take p.ty p.id).2.2]) ∧ PRow w' (.slice A (x.take p.ty p.id).2.1.length c) (x.take p.ty p.id).2.1 ∧ Two w0 w' T' s (x.take p.ty p.id).1 R vw vy vi z ∧ Moved T T' w w' := by
  refine (own_take w0 w T s x h.own p).mono ?_
  rintro e w' ⟨A, n, c, T', rfl, h1, h2, h3, h4⟩
  obtain rfl := h1.len
  exact ⟨A, c, T', rfl, h1, h.one h3 h4, h4⟩
theorem two_rtake (w0 w : World) (T : Nat → Prop) (s : Nat) (x : St) (R : Nat) (vw vy vi : Value) (z : St) (h : Two w0 w T s x R vw vy vi z) (hI : Inv z) (hn : z.ids.Nodup) (v : Value) (ps : List Pkt) (hP : PRow w v ps) (p : Pkt) :
    Calls Tryd.prog 30 #[.pointer (some ⟨R, 0, none⟩), .agg p.cells] w fun e w' => ∃ A c vy' vi', e = .returned (.tuple #[.slice A (z.take p.ty p.id).2.1.length c, .int .i64 (z.take p.ty p.id).2.2]) ∧ PRow w' (.slice A (z.take p.ty p.id).2.1.length c) (z.take p.ty p.id).2.1 ∧ PRow w' v ps ∧ Two w0 w' T s x R vw vy' vi' (z.take p.ty p.id).1 := by
  refine (rtk_calls w R vw vy vi z h.ref hI hn p).mono ?_
  rintro e w' ⟨v', vy', vi', rfl, h1, h2, h3, h4⟩
  obtain ⟨A, c, hv, _⟩ := h1.1.form
  subst hv
  exact ⟨A, c, vy', vi', rfl, h1, h.prow h4 hP, h.two h3 h4⟩
theorem two_again (w0 w : World) (T : Nat → Prop) (s : Nat) (x : St) (R : Nat) (vw vy vi : Value) (z : St) (h : Two w0 w T s x R vw vy vi z) :
    Calls Tryd.prog 22 #[.pointer (some ⟨s, 0, none⟩)] w fun e w' => ∃ A c, e = .returned (.tuple #[.slice A x.again.length c, .int .i64 0]) ∧ PRow w' (.slice A x.again.length c) x.again ∧ Two w0 w' T s x R vw vy vi z := by
  refine (own_again w0 w T s x h.own).mono ?_
  rintro e w' ⟨⟨A, n, c, T', rfl, h1, h2, h3, h4⟩, ht⟩
  obtain rfl := h1.len
  exact ⟨A, c, rfl, h1, h.still ht⟩
theorem two_ragain (w0 w : World) (T : Nat → Prop) (s : Nat) (x : St) (R : Nat) (vw vy vi : Value) (z : St) (h : Two w0 w T s x R vw vy vi z) (hI : Inv z) (v : Value) (ps : List Pkt) (hP : PRow w v ps) :
    Calls Tryd.prog 31 #[.pointer (some ⟨R, 0, none⟩)] w fun e w' => ∃ A c, e = .returned (.slice A z.again.length c) ∧ PRow w' (.slice A z.again.length c) z.again ∧ PRow w' v ps ∧ Two w0 w' T s x R vw vy vi z := by
  refine (ragain_calls w R vw vy vi z h.ref hI).mono ?_
  rintro e w' ⟨v', rfl, h1, h2, h3⟩
  obtain ⟨A, c, hv, _⟩ := h1.1.form
  subst hv
  have t : Turn (fun _ => False) w w' := Turn.of_below h3
  exact ⟨A, c, rfl, h1, hP.still t, h.still t⟩
theorem next_len {x : St} (h : Inv x) : x.next.2.length ≤ 64 := by
  obtain ⟨new, _, h2, _, _, _, h6⟩ := nextN_ways (n := x.wait.length) (x := x)
  have h3 := h.wait; have h4 := h.que
  have e : x.next.2.length = new.length := by rw [show x.next.2 = (x.nextN x.wait.length).2 from rfl, h2]; simp
  have e2 := congrArg List.length h6
  simp only [List.length_append, List.length_map] at e2
  omega
/-- What New may be asked. -/
theorem asked_calls (w : World) (win que : Int) : Calls Tryd.prog 25 #[.int .i64 win, .int .i64 que] w fun e w' => e = .returned (.bool (decide (1 ≤ win ∧ win ≤ 16 ∧ 0 ≤ que ∧ que ≤ 64))) ∧ w' = w := by
  obtain ⟨b, hb⟩ : ∃ b, Hid (b = decide (1 ≤ win ∧ win ≤ 16 ∧ 0 ≤ que ∧ que ≤ 64)) := ⟨_, rfl⟩
  rw [← hb.out]
  by_cases h1 : 1 ≤ win
  · have d1 : decide (1 ≤ win) = true := decide_eq_true h1
    by_cases h2 : win ≤ 16
    · have d2 : decide (win ≤ 16) = true := decide_eq_true h2
      by_cases h3 : 0 ≤ que
      · have d3 : decide (0 ≤ que) = true := decide_eq_true h3
        by_cases h4 : que ≤ 64
        · have d4 : decide (que ≤ 64) = true := decide_eq_true h4
          have e : Hid (b = true) := by rw [Hid, hb.out]; exact decide_eq_true ⟨h1, h2, h3, h4⟩
          clear hb h1 h2 h3 h4
          go_enter Tryd.func25, Tryd.ntmps25
          go_wp2_with (fail)
          go_ret
          rw [e.out]
          exact ⟨rfl, rfl⟩
        · have d4 : decide (que ≤ 64) = false := decide_eq_false h4
          have e : Hid (b = false) := by rw [Hid, hb.out]; exact decide_eq_false (by omega)
          clear hb h1 h2 h3 h4
          go_enter Tryd.func25, Tryd.ntmps25
          go_wp2_with (fail)
          go_ret
          rw [e.out]
          exact ⟨rfl, rfl⟩
      · have d3 : decide (0 ≤ que) = false := decide_eq_false h3
        have e : Hid (b = false) := by rw [Hid, hb.out]; exact decide_eq_false (by omega)
        clear hb h1 h2 h3
        go_enter Tryd.func25, Tryd.ntmps25
        go_wp2_with (fail)
        go_ret
        rw [e.out]
        exact ⟨rfl, rfl⟩
    · have d2 : decide (win ≤ 16) = false := decide_eq_false h2
      have e : Hid (b = false) := by rw [Hid, hb.out]; exact decide_eq_false (by omega)
      clear hb h1 h2
      go_enter Tryd.func25, Tryd.ntmps25
      go_wp2_with (fail)
      go_ret
      rw [e.out]
      exact ⟨rfl, rfl⟩
  · have d1 : decide (1 ≤ win) = false := decide_eq_false h1
    have e : Hid (b = false) := by rw [Hid, hb.out]; exact decide_eq_false (by omega)
    clear hb h1
    go_enter Tryd.func25, Tryd.ntmps25
    go_wp2_with (fail)
    go_ret
    rw [e.out]
    exact ⟨rfl, rfl⟩
end Snd
end Go.Proofs.YtonemmdipmohgaaDoor

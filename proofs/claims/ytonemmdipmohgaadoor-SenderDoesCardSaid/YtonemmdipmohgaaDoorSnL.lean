/- sender: the calls by one name of what is kept (Own). -/
import Derived.Test.YtonemmdipmohgaaDoorSnJ
import Derived.Test.YtonemmdipmohgaaDoorSnG
import Derived.Test.YtonemmdipmohgaaDoorSnRw
namespace Go.Proofs.YtonemmdipmohgaaDoor
open Go.RowKit Go.ChangeShapes
set_option linter.unusedVariables false
set_option linter.unusedSimpArgs false
namespace Snd
open Pk Str

structure Own (w0 w : World) (T : Nat → Prop) (s : Nat) (x : St) : Prop where
  obj : SObj w T s x
  hi : ∀ k, T k → w0.heap.size ≤ k
  bel : Below w0.heap.size w0 w
  inv : Inv x
theorem Own.move {w0 w w' : World} {T T' : Nat → Prop} {s : Nat} {x x' : St} (h : Own w0 w T s x) (o : SObj w' T' s x') (m : Moved T T' w w') (i : Inv x') : Own w0 w' T' s x' where
  obj := o
  hi := fun k hk => by
    rcases m.2 k hk with h1 | h1
    · exact h.hi k h1
    · exact Nat.le_trans h.bel.size h1
  bel := m.1.belowTrans h.bel h.bel.size (fun k hk hT => by have := h.hi k hT; omega)
  inv := i
theorem Own.still {w0 w w' : World} {T : Nat → Prop} {s : Nat} {x : St} (h : Own w0 w T s x) (t : Turn (fun _ => False) w w') : Own w0 w' T s x :=
  ⟨h.obj.turn t (fun _ _ h => h), h.hi, t.belowTrans h.bel h.bel.size (fun _ _ h => h), h.inv⟩
theorem Own.other {w0 w : World} {T : Nat → Prop} {s : Nat} {x : St} (h : Own w0 w T s x) : ∀ k, T k → ∀ cur, w.heap[k]? ≠ some (.cells cur PT (0, 0)) := by
  obtain ⟨B, b, vw, vy, h⟩ := h.obj
  exact h.other
theorem Own.lt {w0 w : World} {T : Nat → Prop} {s : Nat} {x : St} (h : Own w0 w T s x) : ∀ k, T k → k < w.heap.size := by
  obtain ⟨B, b, vw, vy, h⟩ := h.obj
  exact h.lt
theorem Own.prow {w0 w w' : World} {T : Nat → Prop} {s : Nat} {x : St} (h : Own w0 w T s x) {S : Nat → Prop} (m : Moved T S w w') {v : Value} {ps : List Pkt} (p : PRow w v ps) : PRow w' v ps := p.turn m.1 h.other
theorem Own.tabs {w0 w : World} {T : Nat → Prop} {s : Nat} {x : St} (h : Own w0 w T s x) (hT : Lib.Utf8Tabs 0 1 w0) : Lib.Utf8Tabs 0 1 w := Utf.tabs_keep hT h.bel

theorem own_new (w0 w : World) (hb : Below w0.heap.size w0 w) (win que : Int) : Calls Tryd.prog 19 #[.int .i64 win, .int .i64 que] w fun e w' =>
    (1 ≤ win ∧ win ≤ 16 ∧ 0 ≤ que ∧ que ≤ 64 ∧ ∃ s T, e = .returned (.tuple #[.pointer (some ⟨s, 0, none⟩), .int .i64 0]) ∧ Own w0 w' T s ⟨win, que, [], [], [], 0⟩ ∧ Turn (fun _ => False) w w' ∧ ∀ k, T k → w.heap.size ≤ k) ∨
    (¬ (1 ≤ win ∧ win ≤ 16 ∧ 0 ≤ que ∧ que ≤ 64) ∧ e = .returned (.tuple #[.pointer none, .int .i64 1]) ∧ w' = w) := by
  refine (new_calls w win que).mono ?_
  rintro e w' (⟨h1, h2, h3, h4, h5, s, T, h6, h7, h8⟩ | h)
  · exact .inl ⟨h1, h2, h3, h4, s, T, h6, ⟨h7, fun k hk => Nat.le_trans hb.size (h8 k hk), hb.trans (h5.mono hb.size), Inv.new ⟨h1, h2, h3, h4⟩⟩, Turn.of_below h5, h8⟩
  · exact .inr h
theorem own_push (w0 w : World) (hT : Lib.Utf8Tabs 0 1 w0) (T : Nat → Prop) (s : Nat) (x : St) (h : Own w0 w T s x) (m : Msg) (hm : m.topic.size + m.pay.size ≤ 300) :
    Calls Tryd.prog 20 #[.pointer (some ⟨s, 0, none⟩), .agg m.vals.toArray] w fun e w' => e = .returned (.tuple #[.bool (x.push m).1, .int .i64 (x.push m).2.1]) ∧ ∃ T', Own w0 w' T' s (x.push m).2.2 ∧ Moved T T' w w' := by
  refine (push_calls w (h.tabs hT) T s x h.obj h.inv.que.2 m hm).mono ?_
  rintro e w' ⟨h1, T', h2, h3⟩
  exact ⟨h1, T', h.move h2 h3 (h.inv.push m), h3⟩
def Gives (w0 w : World) (T : Nat → Prop) (s : Nat) (x' : St) (ps : List Pkt) (c : Int) (e : Ending) (w' : World) : Prop :=
  ∃ A n cp T', e = .returned (.tuple #[.slice A n cp, .int .i64 c]) ∧ PRow w' (.slice A n cp) ps ∧ (∀ k, (Value.slice A n cp).ownBlock = some k → w.heap.size ≤ k) ∧ Own w0 w' T' s x' ∧ Moved T T' w w'
theorem PRow.len {w : World} {A : Option Addr} {n c : Nat} {ps : List Pkt} (h : PRow w (.slice A n c) ps) : n = ps.length := by
  obtain ⟨A', c', hv, _⟩ := h.1.form
  injection hv
theorem PRow.cap {w : World} {A : Option Addr} {n c : Nat} {ps : List Pkt} (h : PRow w (.slice A n c) ps) : ps.length ≤ c := by
  obtain ⟨A', c', hv, hc, _⟩ := h.1.form
  injection hv with _ _ e
  omega
theorem own_next (w0 w : World) (T : Nat → Prop) (s : Nat) (x : St) (h : Own w0 w T s x) : Calls Tryd.prog 21 #[.pointer (some ⟨s, 0, none⟩)] w fun e w' => Gives w0 w T s x.next.1 x.next.2 0 e w' := by
  refine (next_calls w T s x h.obj h.inv).mono ?_
  rintro e w' ⟨v, T', h1, h2, h3, h4, h5⟩
  obtain ⟨A, c, hv, _⟩ := h2.1.form
  subst hv
  exact ⟨A, _, c, T', h1, h2, h3, h.move h4 h5 h.inv.next, h5⟩
theorem own_take (w0 w : World) (T : Nat → Prop) (s : Nat) (x : St) (h : Own w0 w T s x) (p : Pkt) : Calls Tryd.prog 23 #[.pointer (some ⟨s, 0, none⟩), .agg p.cells] w fun e w' => Gives w0 w T s (x.take p.ty p.id).1 (x.take p.ty p.id).2.1 (x.take p.ty p.id).2.2 e w' := by
  refine (take_calls w T s x h.obj h.inv p).mono ?_
  rintro e w' ⟨v, T', h1, h2, h3, h4, h5⟩
  obtain ⟨A, c, hv, _⟩ := h2.1.form
  subst hv
  exact ⟨A, _, c, T', h1, h2, h3, h.move h4 h5 (h.inv.take _ _ h.obj.nodup.1), h5⟩
theorem own_again (w0 w : World) (T : Nat → Prop) (s : Nat) (x : St) (h : Own w0 w T s x) : Calls Tryd.prog 22 #[.pointer (some ⟨s, 0, none⟩)] w fun e w' => Gives w0 w T s x x.again 0 e w' ∧ Turn (fun _ => False) w w' := by
  refine (again_calls w T s x h.obj h.inv).mono ?_
  rintro e w' ⟨v, h1, h2, h3, h4⟩
  obtain ⟨A, c, hv, _⟩ := h2.1.form
  subst hv
  have t : Turn (fun _ => False) w w' := Turn.of_below h4
  exact ⟨⟨A, _, c, T, h1, h2, h3, h.still t, Moved.still t⟩, t⟩

/-! Rows of packets. -/
abbrev px (ps : List Pkt) : List PkX := ps.map fun p => (p, [], [])
theorem pcells_at : ∀ (ps : List Pkt) (i : Nat) (h : i < ps.length) (j : Nat) (u : Value), ps[i].cells.toList[j]? = some u → (pcells ps)[i * 18 + j]? = some u
  | [], i, h, _, _, _ => absurd h (by simp)
  | p :: ps, 0, _, j, u, hu => by
    have e : pcells (p :: ps) = p.cells.toList ++ pcells ps := by simp [pcells]
    rw [e, Nat.zero_mul, Nat.zero_add]
    have hj : j < p.cells.toList.length := (List.getElem?_eq_some_iff.1 hu).1
    rw [List.getElem?_append_left hj]
    exact hu
  | p :: ps, i + 1, h, j, u, hu => by
    have e : pcells (p :: ps) = p.cells.toList ++ pcells ps := by simp [pcells]
    have hl : p.cells.toList.length = 18 := by simp [Pkt.cells]
    rw [e, List.getElem?_append_right (by omega), hl, show (i + 1) * 18 + j - 18 = i * 18 + j by omega]
    exact pcells_at ps i (by simpa using h) j u hu
/-- What a packet without rows is in a row. -/
def Bare (p : Pkt) : Prop := p.codes = nilV ∧ p.subs = nilV ∧ p.client = ⟨#[]⟩ ∧ p.user = ⟨#[]⟩ ∧ p.pass = ⟨#[]⟩
theorem bare_pub (id : Int) (m : Msg) (d : Bool) : Bare (pubP id m d) := ⟨rfl, rfl, rfl, rfl, rfl⟩
theorem bare_ack (t id : Int) : Bare (ackP t id) := ⟨rfl, rfl, rfl, rfl, rfl⟩
theorem PRow.reads {w : World} {A : Option Addr} {n c : Nat} {ps : List Pkt} (h : PRow w (.slice A n c) ps) (hb : ∀ p ∈ ps, Bare p) : PkReadsA w A (px ps) := by
  intro i hi
  have hi' : i < ps.length := by simpa using hi
  obtain ⟨A', c', hv, _, _, hcell⟩ := h.1.form
  injection hv with e1 e2 e3
  subst e1
  obtain ⟨g, off, rfl, _, _, hc⟩ := hcell (by omega)
  refine ⟨_, rfl, fun j v hj => ?_, ?_⟩
  · rw [Addr.add_mid, Addr.add_mid]
    have := hc (i * 18 + j) v (pcells_at ps i hi' j v (by simpa using hj))
    rwa [← Nat.add_assoc] at this
  · have := lies_ack w ps[i] (hb _ (List.getElem_mem hi'))
    simpa using this
theorem alike_refl (ps : List PkX) (h : ∀ x ∈ ps, x.2.1 = [] ∧ x.2.2 = []) : Str.Alike ps ps :=
  ⟨rfl, fun i h h' => ⟨rfl, rfl, rfl⟩, fun x hx => by rw [(h x hx).1]; simp, fun x hx => by rw [(h x hx).2]; simp⟩
theorem rows_eq (w : World) (A B : Option Addr) (n m c d : Nat) (ps : List Pkt) (h : PRow w (.slice A n c) ps) (k : PRow w (.slice B m d) ps) (hb : ∀ p ∈ ps, Bare p) (hl : ps.length ≤ 1000) :
    Calls Tryd.prog 28 #[.slice A n c, .slice B m d] w fun e w' => e = .returned (.bool true) ∧ Below w.heap.size w w' :=
  rows_callsA w A B c d n m (px ps) (px ps) (by rw [h.len]; simp) (by rw [k.len]; simp) (h.reads hb) (k.reads hb) (by simpa using h.cap) (by simpa using k.cap) (by simp only [List.length_map]; omega) (alike_refl _ (by simp))
theorem bare_next {n : Nat} : ∀ {x : St}, ∀ p ∈ (x.nextN n).2, Bare p ∧ ∃ id m, p = pubP id m false := by
  induction n with
  | zero => intro x p hp; cases hp
  | succ n ih =>
    intro x p hp
    unfold St.nextN at hp
    split at hp
    · cases hp
    · split at hp
      · rcases List.mem_cons.1 hp with rfl | hp
        · exact ⟨bare_pub _ _ _, _, _, rfl⟩
        · exact ih p hp
      · cases hp
theorem bare_again (x : St) : ∀ p ∈ x.again, Bare p := by
  intro p hp
  obtain ⟨y, _, rfl⟩ := List.mem_map.1 hp
  unfold Way.pkt
  split
  · exact bare_ack _ _
  · exact bare_pub _ _ _
theorem bare_take (x : St) (ty id : Int) : (∀ p ∈ (x.take ty id).2.1, Bare p) ∧ (x.take ty id).2.1.length ≤ 1 := by
  unfold St.take
  split
  · simp
  · split
    · simp
    · split
      · simp [bare_ack]
      · simp
theorem again_len {x : St} (h : Inv x) : x.again.length ≤ 16 := by
  have h1 := h.ways; have h2 := h.win
  simp only [St.again, List.length_map]; omega
end Snd
end Go.Proofs.YtonemmdipmohgaaDoor

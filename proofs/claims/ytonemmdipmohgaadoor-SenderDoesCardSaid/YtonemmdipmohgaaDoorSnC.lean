/- sender: what is known; the program's object; New, Count. -/
import Derived.Test.YtonemmdipmohgaaDoorSnA
import Derived.Test.YtonemmdipmohgaaDoorIdsG
import Derived.Test.YtonemmdipmohgaaDoorStJ
namespace Go.Proofs.YtonemmdipmohgaaDoor
open Go.RowKit Go.ChangeShapes
set_option linter.unusedVariables false
set_option linter.unusedSimpArgs false
namespace Snd
open Pk Str

abbrev ST : TypeId := 93
abbrev WT : TypeId := 99
abbrev MsT : TypeId := 28
structure Msg where
  topic : ByteArray
  pay : ByteArray
  qos : Int
  retain : Bool
def Msg.vals (m : Msg) : List Value := [.string m.topic, .string m.pay, .int .i64 m.qos, .bool m.retain]
structure Way where
  id : Int
  msg : Msg
  got : Bool
def Way.vals (y : Way) : List Value := [.int .i64 y.id, .string y.msg.topic, .string y.msg.pay, .int .i64 y.msg.qos, .bool y.msg.retain, .int .i64 (if y.got then 1 else 0)]
def Way.rvals (y : Way) : List Value := [.int .i64 y.id, .string y.msg.topic, .string y.msg.pay, .int .i64 y.msg.qos, .bool y.msg.retain, .bool y.got]
structure St where
  win : Int
  que : Int
  wait : List Msg
  ways : List Way
  ids : List Int
  last : Int
def wcells (l : List Msg) : List Value := (l.map Msg.vals).flatten
def ycells (l : List Way) : List Value := (l.map Way.vals).flatten
def rcells (l : List Way) : List Value := (l.map Way.rvals).flatten

/-- A packet that publishes; one that answers. -/
def pubP (id : Int) (m : Msg) (dup : Bool) : Pkt := { zeroP with ty := 3, dup := dup, id := id, topic := m.topic, payload := m.pay, qos := m.qos, retain := m.retain }
def ackP (t id : Int) : Pkt := { zeroP with ty := t, id := id }

/-- The program's object. -/
structure SAt (w : World) (T : Nat → Prop) (s B b : Nat) (vw vy : Value) (x : St) : Prop where
  obj : w.heap[s]? = some (.cells #[.int .i64 x.win, .int .i64 x.que, vw, vy, .pointer (some ⟨B, 0, none⟩)] ST)
  wait : Mid w 0 MsT 4 vw x.wait.length (wcells x.wait)
  ways : Mid w 0 WT 6 vy x.ways.length (ycells x.ways)
  ids : Ids.At w B b x.ids x.last
  ts : T s
  tB : T B
  tb : T b
  tw : ∀ k, vw.ownBlock = some k → T k
  ty : ∀ k, vy.ownBlock = some k → T k
  lt : ∀ k, T k → k < w.heap.size
  other : ∀ k, T k → ∀ cur, w.heap[k]? ≠ some (.cells cur PT (0, 0))
theorem SAt.turn {w w' : World} {T S : Nat → Prop} {s B b : Nat} {vw vy : Value} {x : St} (h : SAt w T s B b vw vy x) (t : Turn S w w') (hn : ∀ k, T k → ¬ S k) : SAt w' T s B b vw vy x where
  obj := (t.block s (heap_lt h.obj) (hn s h.ts)).trans h.obj
  wait := h.wait.turn t (fun k hk => hn k (h.tw k hk))
  ways := h.ways.turn t (fun k hk => hn k (h.ty k hk))
  ids := h.ids.turn t (hn B h.tB) (hn b h.tb)
  ts := h.ts
  tB := h.tB
  tb := h.tb
  tw := h.tw
  ty := h.ty
  lt := fun k hk => Nat.lt_of_lt_of_le (h.lt k hk) t.size
  other := fun k hk cur => by rw [t.block k (h.lt k hk) (hn k hk)]; exact h.other k hk cur
/-- What a call leaves: other blocks as they were; what the object holds was its own or is new. -/
def Moved (T T' : Nat → Prop) (w w' : World) : Prop := Turn T w w' ∧ ∀ k, T' k → T k ∨ w.heap.size ≤ k
theorem Moved.still {T : Nat → Prop} {a b : World} (t : Turn (fun _ => False) a b) : Moved T T a b := ⟨t.mono (fun _ _ h => h.elim), fun _ h => .inl h⟩
theorem Moved.trans {T T' T'' : Nat → Prop} {a b c : World} (h : Moved T T' a b) (k : Moved T' T'' b c) : Moved T T'' a c := by
  refine ⟨h.1.then k.1 (fun i hi hs => ?_), fun i hi => ?_⟩
  · rcases h.2 i hs with h | h
    · exact h
    · omega
  · rcases k.2 i hi with h1 | h1
    · exact h.2 i h1
    · exact .inr (Nat.le_trans h.1.size h1)
theorem Moved.below {T T' : Nat → Prop} {a b : World} (h : Moved T T' a b) {c : World} (hb : Below b.heap.size b c) : Moved T T' a c :=
  ⟨h.1.trans (Turn.of_below hb), h.2⟩
def SObj (w : World) (T : Nat → Prop) (s : Nat) (x : St) : Prop := ∃ B b vw vy, SAt w T s B b vw vy x
theorem SObj.turn {w w' : World} {T S : Nat → Prop} {s : Nat} {x : St} (h : SObj w T s x) (t : Turn S w w') (hn : ∀ k, T k → ¬ S k) : SObj w' T s x := by
  obtain ⟨B, b, vw, vy, h⟩ := h
  exact ⟨B, b, vw, vy, h.turn t hn⟩
theorem SAt.frozen {w : World} {T : Nat → Prop} {s B b : Nat} {vw vy : Value} {x : St} (h : SAt w T s B b vw vy x) (i : Nat) : w.frozen? ⟨s, i, none⟩ = false := frozen_heap h.obj

theorem obj_ne {w : World} {a b : Nat} {o o' : Obj} (h : w.heap[a]? = some o) (h' : w.heap[b]? = some o') (hn : o ≠ o') : a ≠ b := by
  rintro rfl
  rw [h] at h'
  exact hn (Option.some.inj h')
theorem cells_ne {c c' : Array Value} {t t' : TypeId} {f f' : Nat × Nat} (h : t ≠ t') : Obj.cells c t f ≠ Obj.cells c' t' f' := by
  intro e
  injection e with _ e _
  exact h e
theorem SAt.b_map {w : World} {T : Nat → Prop} {s B b : Nat} {vw vy : Value} {x : St} (h : SAt w T s B b vw vy x) : ∃ es clock, w.heap[b]? = some (.map es clock) := by
  obtain ⟨_, _, D, ⟨es, clock, hb, _⟩, _⟩ := h.ids.set
  exact ⟨es, clock, hb⟩
theorem SAt.s_ne {w : World} {T : Nat → Prop} {s B b : Nat} {vw vy : Value} {x : St} (h : SAt w T s B b vw vy x) : B ≠ s ∧ b ≠ s := by
  obtain ⟨es, clock, hb⟩ := h.b_map
  exact ⟨obj_ne h.ids.obj h.obj (cells_ne (by decide)), obj_ne hb h.obj (by intro e; cases e)⟩
theorem SAt.w_ne {w : World} {T : Nat → Prop} {s B b : Nat} {vw vy : Value} {x : St} (h : SAt w T s B b vw vy x) : ∀ j, vw.ownBlock = some j → j ≠ s ∧ j ≠ B ∧ j ≠ b ∧ vy.ownBlock ≠ some j := by
  intro j hj
  obtain ⟨cur, hc⟩ := h.wait.typ j hj
  obtain ⟨es, clock, hb⟩ := h.b_map
  refine ⟨obj_ne hc h.obj (cells_ne (by decide)), obj_ne hc h.ids.obj (cells_ne (by decide)), obj_ne hc hb (by intro e; cases e), fun hy => ?_⟩
  obtain ⟨cur', hc'⟩ := h.ways.typ j hy
  exact obj_ne hc hc' (cells_ne (by decide)) rfl
theorem SAt.y_ne {w : World} {T : Nat → Prop} {s B b : Nat} {vw vy : Value} {x : St} (h : SAt w T s B b vw vy x) : ∀ j, vy.ownBlock = some j → j ≠ s ∧ j ≠ B ∧ j ≠ b ∧ vw.ownBlock ≠ some j := by
  intro j hj
  obtain ⟨cur, hc⟩ := h.ways.typ j hj
  obtain ⟨es, clock, hb⟩ := h.b_map
  exact ⟨obj_ne hc h.obj (cells_ne (by decide)), obj_ne hc h.ids.obj (cells_ne (by decide)), obj_ne hc hb (by intro e; cases e), fun hy => (h.w_ne j hy).2.2.2 hj⟩

/-- The row that waits is another. -/
theorem SAt.setWait {w w5 : World} {T : Nat → Prop} {s B b : Nat} {vw vy v' : Value} {x : St} {l : List Msg} (h : SAt w T s B b vw vy x) (t : Turn (fun j => vw.ownBlock = some j) w w5) (hM : Mid w5 0 MsT 4 v' l.length (wcells l))
    (hl : ∀ g, v'.ownBlock = some g → vw.ownBlock = some g ∨ w.heap.size ≤ g) :
    SAt (w5.setCell ⟨s, 2, none⟩ v') (fun k => (T k ∧ vw.ownBlock ≠ some k) ∨ v'.ownBlock = some k) s B b v' vy { x with wait := l } ∧ Moved T (fun k => (T k ∧ vw.ownBlock ≠ some k) ∨ v'.ownBlock = some k) w (w5.setCell ⟨s, 2, none⟩ v') := by
  have hs := h.s_ne
  have hslt := heap_lt h.obj
  have hv's : v'.ownBlock ≠ some s := fun e => by
    rcases hl s e with h1 | h1
    · exact (h.w_ne s h1).1 rfl
    · omega
  have ho5 : w5.heap[s]? = some (.cells #[.int .i64 x.win, .int .i64 x.que, vw, vy, .pointer (some ⟨B, 0, none⟩)] ST) := (t.block s hslt (fun e => (h.w_ne s e).1 rfl)).trans h.obj
  have tc : Turn (· = s) w5 (w5.setCell ⟨s, 2, none⟩ v') := Turn.setCell w5 _ rfl
  have ho6 := heap_set_same w5 s 2 v' ho5
  have hM6 := hM.turn tc (fun k hk e => by subst e; exact hv's hk)
  refine ⟨⟨ho6, hM6, ?_, ?_, ?_, ?_, ?_, fun k hk => .inr hk, fun k hk => .inl ⟨h.ty k hk, (h.y_ne k hk).2.2.2⟩, ?_, ?_⟩, ?_, ?_⟩
  · exact (h.ways.turn t (fun k hk e => (h.y_ne k hk).2.2.2 e)).turn tc (fun k hk e => (h.y_ne k hk).1 e)
  · exact (h.ids.turn t (fun e => (h.w_ne _ e).2.1 rfl) (fun e => (h.w_ne _ e).2.2.1 rfl)).turn tc hs.1 hs.2
  · exact .inl ⟨h.ts, fun e => (h.w_ne _ e).1 rfl⟩
  · exact .inl ⟨h.tB, fun e => (h.w_ne _ e).2.1 rfl⟩
  · exact .inl ⟨h.tb, fun e => (h.w_ne _ e).2.2.1 rfl⟩
  · rintro k (⟨hk, _⟩ | hk)
    · exact Nat.lt_of_lt_of_le (h.lt k hk) (Nat.le_trans t.size tc.size)
    · exact (hM6.lt k hk).2
  · rintro k (⟨hk, hkw⟩ | hk) cur hc
    · by_cases e : k = s
      · subst e
        exact obj_ne ho6 hc (cells_ne (by decide)) rfl
      · rw [tc.block k (Nat.lt_of_lt_of_le (h.lt k hk) t.size) e, t.block k (h.lt k hk) hkw] at hc
        exact h.other k hk cur hc
    · obtain ⟨cur', hc'⟩ := hM6.typ k hk
      exact obj_ne hc' hc (cells_ne (by decide)) rfl
  · refine (t.mono (fun k _ hk => h.tw k hk)).then tc (fun i _ e => by subst e; exact h.ts)
  · rintro k (⟨hk, _⟩ | hk)
    · exact .inl hk
    · rcases hl k hk with h1 | h1
      · exact .inl (h.tw k h1)
      · exact .inr h1
/-- The row of ways is another; the ids' row with it. -/
theorem SAt.setWays {w w5 : World} {T : Nat → Prop} {s B b : Nat} {vw vy v' : Value} {x : St} {l : List Way} (h : SAt w T s B b vw vy x) (t : Turn (fun j => vy.ownBlock = some j) w w5) (hM : Mid w5 0 WT 6 v' l.length (ycells l))
    (hl : ∀ g, v'.ownBlock = some g → vy.ownBlock = some g ∨ w.heap.size ≤ g) :
    SAt (w5.setCell ⟨s, 3, none⟩ v') (fun k => (T k ∧ vy.ownBlock ≠ some k) ∨ v'.ownBlock = some k) s B b vw v' { x with ways := l } ∧ Moved T (fun k => (T k ∧ vy.ownBlock ≠ some k) ∨ v'.ownBlock = some k) w (w5.setCell ⟨s, 3, none⟩ v') := by
  have hs := h.s_ne
  have hslt := heap_lt h.obj
  have hv's : v'.ownBlock ≠ some s := fun e => by
    rcases hl s e with h1 | h1
    · exact (h.y_ne s h1).1 rfl
    · omega
  have ho5 : w5.heap[s]? = some (.cells #[.int .i64 x.win, .int .i64 x.que, vw, vy, .pointer (some ⟨B, 0, none⟩)] ST) := (t.block s hslt (fun e => (h.y_ne s e).1 rfl)).trans h.obj
  have tc : Turn (· = s) w5 (w5.setCell ⟨s, 3, none⟩ v') := Turn.setCell w5 _ rfl
  have ho6 := heap_set_same w5 s 3 v' ho5
  have hM6 := hM.turn tc (fun k hk e => by subst e; exact hv's hk)
  refine ⟨⟨ho6, ?_, hM6, ?_, ?_, ?_, ?_, fun k hk => .inl ⟨h.tw k hk, (h.w_ne k hk).2.2.2⟩, fun k hk => .inr hk, ?_, ?_⟩, ?_, ?_⟩
  · exact (h.wait.turn t (fun k hk e => (h.w_ne k hk).2.2.2 e)).turn tc (fun k hk e => (h.w_ne k hk).1 e)
  · exact (h.ids.turn t (fun e => (h.y_ne _ e).2.1 rfl) (fun e => (h.y_ne _ e).2.2.1 rfl)).turn tc hs.1 hs.2
  · exact .inl ⟨h.ts, fun e => (h.y_ne _ e).1 rfl⟩
  · exact .inl ⟨h.tB, fun e => (h.y_ne _ e).2.1 rfl⟩
  · exact .inl ⟨h.tb, fun e => (h.y_ne _ e).2.2.1 rfl⟩
  · rintro k (⟨hk, _⟩ | hk)
    · exact Nat.lt_of_lt_of_le (h.lt k hk) (Nat.le_trans t.size tc.size)
    · exact (hM6.lt k hk).2
  · rintro k (⟨hk, hkw⟩ | hk) cur hc
    · by_cases e : k = s
      · subst e
        exact obj_ne ho6 hc (cells_ne (by decide)) rfl
      · rw [tc.block k (Nat.lt_of_lt_of_le (h.lt k hk) t.size) e, t.block k (h.lt k hk) hkw] at hc
        exact h.other k hk cur hc
    · obtain ⟨cur', hc'⟩ := hM6.typ k hk
      exact obj_ne hc' hc (cells_ne (by decide)) rfl
  · refine (t.mono (fun k _ hk => h.ty k hk)).then tc (fun i _ e => by subst e; exact h.ts)
  · rintro k (⟨hk, _⟩ | hk)
    · exact .inl hk
    · rcases hl k hk with h1 | h1
      · exact .inl (h.ty k h1)
      · exact .inr h1

theorem SAt.atW {w Wp w5 : World} {T : Nat → Prop} {s B b : Nat} {vw vy v : Value} {x : St} (h : SAt w T s B b vw vy x) (hv : vw = v) (t0 : Turn (fun _ => False) w Wp) (t : Turn (fun j => v.ownBlock = some j) Wp w5) :
    Turn (fun j => vw.ownBlock = some j) w w5 ∧ w5.heap[s]? = some (.cells #[.int .i64 x.win, .int .i64 x.que, vw, vy, .pointer (some ⟨B, 0, none⟩)] ST) := by
  subst hv
  have t1 : Turn (fun j => vw.ownBlock = some j) w w5 := (t0.mono (fun _ _ h => h.elim)).trans t
  exact ⟨t1, (t1.block s (heap_lt h.obj) (fun e => (h.w_ne s e).1 rfl)).trans h.obj⟩
theorem SAt.atY {w Wp w5 : World} {T : Nat → Prop} {s B b : Nat} {vw vy v : Value} {x : St} (h : SAt w T s B b vw vy x) (hv : vy = v) (t0 : Turn (fun _ => False) w Wp) (t : Turn (fun j => v.ownBlock = some j) Wp w5) :
    Turn (fun j => vy.ownBlock = some j) w w5 ∧ w5.heap[s]? = some (.cells #[.int .i64 x.win, .int .i64 x.que, vw, vy, .pointer (some ⟨B, 0, none⟩)] ST) := by
  subst hv
  have t1 : Turn (fun j => vy.ownBlock = some j) w w5 := (t0.mono (fun _ _ h => h.elim)).trans t
  exact ⟨t1, (t1.block s (heap_lt h.obj) (fun e => (h.y_ne s e).1 rfl)).trans h.obj⟩

/-- The ids are others. -/
theorem SAt.setIds {w w5 : World} {T : Nat → Prop} {s B b : Nat} {vw vy : Value} {x : St} {L : List Int} {last : Int} (h : SAt w T s B b vw vy x) (t : Turn (Ids.P2 B b) w w5) (hI : Ids.At w5 B b L last) :
    SAt w5 T s B b vw vy { x with ids := L, last := last } ∧ Moved T T w w5 := by
  have hs := h.s_ne
  refine ⟨⟨(t.block s (heap_lt h.obj) (fun e => by rcases e with e | e; exact hs.1 e.symm; exact hs.2 e.symm)).trans h.obj, ?_, ?_, hI, h.ts, h.tB, h.tb, h.tw, h.ty, fun k hk => Nat.lt_of_lt_of_le (h.lt k hk) t.size, ?_⟩, ?_, fun k hk => .inl hk⟩
  · exact h.wait.turn t (fun k hk e => by rcases e with e | e; exact (h.w_ne k hk).2.1 e; exact (h.w_ne k hk).2.2.1 e)
  · exact h.ways.turn t (fun k hk e => by rcases e with e | e; exact (h.y_ne k hk).2.1 e; exact (h.y_ne k hk).2.2.1 e)
  · intro k hk cur hc
    by_cases e1 : k = B
    · subst e1
      exact obj_ne hI.obj hc (cells_ne (by decide)) rfl
    · by_cases e2 : k = b
      · subst e2
        obtain ⟨_, _, D, ⟨es, clock, hb, _⟩, _⟩ := hI.set
        exact obj_ne hb hc (by intro e; cases e) rfl
      · rw [t.block k (h.lt k hk) (by rintro (e | e); exact e1 e; exact e2 e)] at hc
        exact h.other k hk cur hc
  · exact t.mono (fun k _ e => by rcases e with rfl | rfl; exact h.tB; exact h.tb)

def NewPost (w : World) (win que : Int) (e : Ending) (w' : World) : Prop :=
  (1 ≤ win ∧ win ≤ 16 ∧ 0 ≤ que ∧ que ≤ 64 ∧ Below w.heap.size w w' ∧ ∃ s T, e = .returned (.tuple #[.pointer (some ⟨s, 0, none⟩), .int .i64 0]) ∧ SObj w' T s ⟨win, que, [], [], [], 0⟩ ∧ ∀ k, T k → w.heap.size ≤ k) ∨
  (¬ (1 ≤ win ∧ win ≤ 16 ∧ 0 ≤ que ∧ que ≤ 64) ∧ e = .returned (.tuple #[.pointer none, .int .i64 1]) ∧ w' = w)

theorem new_calls (w : World) (win que : Int) : Calls Tryd.prog 19 #[.int .i64 win, .int .i64 que] w fun e w' => NewPost w win que e w' := by
  by_cases hok : 1 ≤ win ∧ win ≤ 16 ∧ 0 ≤ que ∧ que ≤ 64
  · obtain ⟨h1, h2, h3, h4⟩ := hok
    have d1 : decide (win < 1) = false := decide_eq_false (by omega)
    have d2 : decide (16 < win) = false := decide_eq_false (by omega)
    have d3 : decide (que < 0) = false := decide_eq_false (by omega)
    have d4 : decide (64 < que) = false := decide_eq_false (by omega)
    go_enter Tryd.func19, Tryd.ntmps19
    go_wp2_with (fail)
    refine (Ids.new_calls _).mono ?_
    rintro e w1 ⟨rfl, hA, hB⟩
    go_wp2_with (fail)
    go_ret2
    have hs1 := heap_lt hA.obj
    have hs2 := hA.set.lt
    refine .inl ⟨h1, h2, h3, h4, hB.alloc hB.size _, w1.heap.size, fun k => k = w1.heap.size ∨ k = w.heap.size + 1 ∨ k = w.heap.size, rfl, ⟨w.heap.size + 1, w.heap.size, .slice none 0 0, .slice none 0 0, ?_⟩, ?_⟩
    · have hA' := hA.turn (Turn.alloc (S := fun _ => False) w1 (.cells #[.int .i64 win, .int .i64 que, .slice none 0 0, .slice none 0 0, .pointer (some ⟨w.heap.size + 1, 0, none⟩)] ST)) (fun h => h) (fun h => h)
      refine ⟨heap_new _ _, Mid.nil _ _ _ _, Mid.nil _ _ _ _, hA', .inl rfl, .inr (.inl rfl), .inr (.inr rfl), (fun k hk => (nomatch hk)), (fun k hk => (nomatch hk)), ?_, ?_⟩
      · rintro k (rfl | rfl | rfl) <;> simp <;> omega
      · rintro k (rfl | rfl | rfl) cur hc
        · rw [heap_new] at hc
          injection hc with hc
          injection hc with _ hc _
          cases hc
        · rw [hA'.obj] at hc
          injection hc with hc
          injection hc with _ hc _
          cases hc
        · obtain ⟨_, _, D, ⟨es, clock, hb, _⟩, _⟩ := hA'.set
          rw [hb] at hc
          cases hc
    · have := hB.size
      rintro k (rfl | rfl | rfl) <;> omega
  · have hbad : Hid (NewPost w win que (.returned (.tuple #[.pointer none, .int .i64 1])) w) := .inr ⟨hok, rfl, rfl⟩
    by_cases h1 : win < 1
    · have d1 : decide (win < 1) = true := decide_eq_true h1
      clear hok h1
      go_enter Tryd.func19, Tryd.ntmps19
      go_wp2
      go_ret2
      exact hbad.out
    have d1 : decide (win < 1) = false := decide_eq_false h1
    by_cases h2 : 16 < win
    · have d2 : decide (16 < win) = true := decide_eq_true h2
      clear hok h1 h2
      go_enter Tryd.func19, Tryd.ntmps19
      go_wp2
      go_ret2
      exact hbad.out
    have d2 : decide (16 < win) = false := decide_eq_false h2
    by_cases h3 : que < 0
    · have d3 : decide (que < 0) = true := decide_eq_true h3
      clear hok h1 h2 h3
      go_enter Tryd.func19, Tryd.ntmps19
      go_wp2
      go_ret2
      exact hbad.out
    have d3 : decide (que < 0) = false := decide_eq_false h3
    have d4 : decide (64 < que) = true := decide_eq_true (by omega)
    clear hok h1 h2 h3
    go_enter Tryd.func19, Tryd.ntmps19
    go_wp2
    go_ret2
    exact hbad.out

theorem count_nil (w : World) : Calls Tryd.prog 32 #[.pointer none] w fun e w' => e = .returned (.tuple #[.int .i64 0, .int .i64 0]) ∧ w' = w := by
  go_enter Tryd.func32, Tryd.ntmps32
  go_wp2
  go_ret2
  exact ⟨rfl, rfl⟩
theorem count_calls (w : World) (T : Nat → Prop) (s : Nat) (x : St) (h : SObj w T s x) :
    Calls Tryd.prog 32 #[.pointer (some ⟨s, 0, none⟩)] w fun e w' => e = .returned (.tuple #[.int .i64 x.wait.length, .int .i64 x.ways.length]) ∧ Turn (fun _ => False) w w' := by
  obtain ⟨B, b, vw, vy, h⟩ := h
  obtain ⟨A1, e1, rfl, hc1, hm1, _⟩ := h.wait.form
  obtain ⟨A2, e2, rfl, hc2, hm2, _⟩ := h.ways.form
  have c2 := cell_heap (off := 2) h.obj
  have c3 := cell_heap (off := 3) h.obj
  simp only [List.getElem?_toArray, List.getElem?_cons_succ, List.getElem?_cons_zero] at c2 c3
  clear h
  go_enter Tryd.func32, Tryd.ntmps32
  go_wp2_with (fail)
  go_quiet (fail)
  go_wp2_with (fail)
  go_ret2
  exact ⟨rfl, Turn.drewN (Turn.refl _ _) _⟩
end Snd
end Go.Proofs.YtonemmdipmohgaaDoor

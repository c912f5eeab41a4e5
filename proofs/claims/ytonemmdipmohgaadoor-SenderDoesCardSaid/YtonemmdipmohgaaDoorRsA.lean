/- The reference's sender: its object; its ids. -/
import Derived.Test.YtonemmdipmohgaaDoorSnB
import Derived.Test.YtonemmdipmohgaaDoorSnJ
namespace Go.Proofs.YtonemmdipmohgaaDoor
open Go.RowKit Go.ChangeShapes
set_option linter.unusedVariables false
set_option linter.unusedSimpArgs false
namespace Snd
open Pk Str

abbrev RST : TypeId := 58
abbrev RWT : TypeId := 108
theorem own_typ {w : World} {base : Nat} {e : TypeId} {size n : Nat} {v : Value} {xs : List Value} (h : w.ownsRow base e size v n xs) : ∀ j, v.ownBlock = some j → ∃ cur, w.heap[j]? = some (.cells cur e (0, 0)) := by
  intro j hj
  rcases h.2 with ⟨rfl, _⟩ | ⟨g, cap, cur, rfl, hg, hh, _⟩
  · cases hj
  · have : g = j := Option.some.inj hj
    subst this
    exact ⟨cur, hh⟩
structure RSt (w : World) (R : Nat) (vw vy vi : Value) (x : St) : Prop where
  obj : w.heap[R]? = some (.cells #[.int .i64 x.win, .int .i64 x.que, vw, vy, vi, .int .i64 x.last] RST)
  wait : Mid w 0 MsT 4 vw x.wait.length (wcells x.wait)
  ways : Mid w 0 RWT 6 vy x.ways.length (rcells x.ways)
  ids : OwnInts w 0 3 .i64 vi x.ids
  last : 0 ≤ x.last ∧ x.last ≤ 65535
/-- Its blocks. -/
def TT (R : Nat) (vw vy vi : Value) (k : Nat) : Prop := k = R ∨ vw.ownBlock = some k ∨ vy.ownBlock = some k ∨ vi.ownBlock = some k
theorem RSt.turn {w w' : World} {R : Nat} {vw vy vi : Value} {x : St} {S : Nat → Prop} (h : RSt w R vw vy vi x) (t : Turn S w w') (hn : ∀ k, TT R vw vy vi k → ¬ S k) : RSt w' R vw vy vi x :=
  ⟨(t.block R (heap_lt h.obj) (hn R (.inl rfl))).trans h.obj, h.wait.turn t (fun k hk => hn k (.inr (.inl hk))), h.ways.turn t (fun k hk => hn k (.inr (.inr (.inl hk)))), h.ids.turn t (fun k hk => hn k (.inr (.inr (.inr hk)))), h.last⟩
theorem RSt.still {w w' : World} {R : Nat} {vw vy vi : Value} {x : St} (h : RSt w R vw vy vi x) (t : Turn (fun _ => False) w w') : RSt w' R vw vy vi x := h.turn t (fun _ _ h => h)
theorem RSt.lt {w : World} {R : Nat} {vw vy vi : Value} {x : St} (h : RSt w R vw vy vi x) : ∀ k, TT R vw vy vi k → k < w.heap.size := by
  rintro k (rfl | hk | hk | hk)
  · exact heap_lt h.obj
  · exact (h.wait.lt k hk).2
  · exact (h.ways.lt k hk).2
  · exact (own_block_ge h.ids k hk).2
/-- Each of its blocks is of one of four types. -/
theorem RSt.typ {w : World} {R : Nat} {vw vy vi : Value} {x : St} (h : RSt w R vw vy vi x) : ∀ k, TT R vw vy vi k → ∃ cur t, w.heap[k]? = some (.cells cur t (0, 0)) ∧ (t = RST ∨ t = MsT ∨ t = RWT ∨ t = 3) := by
  rintro k (rfl | hk | hk | hk)
  · exact ⟨_, _, h.obj, .inl rfl⟩
  · obtain ⟨cur, hc⟩ := h.wait.typ k hk
    exact ⟨_, _, hc, .inr (.inl rfl)⟩
  · obtain ⟨cur, hc⟩ := h.ways.typ k hk
    exact ⟨_, _, hc, .inr (.inr (.inl rfl))⟩
  · obtain ⟨cur, hc⟩ := own_typ h.ids k hk
    exact ⟨_, _, hc, .inr (.inr (.inr rfl))⟩
theorem RSt.other {w : World} {R : Nat} {vw vy vi : Value} {x : St} (h : RSt w R vw vy vi x) : ∀ k, TT R vw vy vi k → ∀ cur, w.heap[k]? ≠ some (.cells cur PT (0, 0)) := by
  intro k hk cur hc
  obtain ⟨cur', t, h1, h2⟩ := h.typ k hk
  rw [h1] at hc
  injection hc with hc
  injection hc with _ hc _
  rcases h2 with rfl | rfl | rfl | rfl <;> exact absurd hc (by decide)
theorem RSt.w_ne {w : World} {R : Nat} {vw vy vi : Value} {x : St} (h : RSt w R vw vy vi x) : ∀ k, vw.ownBlock = some k → k ≠ R ∧ vy.ownBlock ≠ some k ∧ vi.ownBlock ≠ some k := by
  intro k hk
  obtain ⟨cur, hc⟩ := h.wait.typ k hk
  refine ⟨obj_ne hc h.obj (cells_ne (by decide)), fun e => ?_, fun e => ?_⟩
  · obtain ⟨cur', hc'⟩ := h.ways.typ k e
    exact obj_ne hc hc' (cells_ne (by decide)) rfl
  · obtain ⟨cur', hc'⟩ := own_typ h.ids k e
    exact obj_ne hc hc' (cells_ne (by decide)) rfl
theorem RSt.y_ne {w : World} {R : Nat} {vw vy vi : Value} {x : St} (h : RSt w R vw vy vi x) : ∀ k, vy.ownBlock = some k → k ≠ R ∧ vw.ownBlock ≠ some k ∧ vi.ownBlock ≠ some k := by
  intro k hk
  obtain ⟨cur, hc⟩ := h.ways.typ k hk
  refine ⟨obj_ne hc h.obj (cells_ne (by decide)), fun e => (h.w_ne k e).2.1 hk, fun e => ?_⟩
  obtain ⟨cur', hc'⟩ := own_typ h.ids k e
  exact obj_ne hc hc' (cells_ne (by decide)) rfl
theorem RSt.i_ne {w : World} {R : Nat} {vw vy vi : Value} {x : St} (h : RSt w R vw vy vi x) : ∀ k, vi.ownBlock = some k → k ≠ R ∧ vw.ownBlock ≠ some k ∧ vy.ownBlock ≠ some k := by
  intro k hk
  obtain ⟨cur, hc⟩ := own_typ h.ids k hk
  exact ⟨obj_ne hc h.obj (cells_ne (by decide)), fun e => (h.w_ne k e).2.2 hk, fun e => (h.y_ne k e).2.2 hk⟩
theorem moved_TT {w w' : World} {R : Nat} {vw vy vi vw' vy' vi' : Value} {S : Nat → Prop} (t : Turn S w w') (hS : ∀ k, S k → k < w.heap.size → TT R vw vy vi k) (hw : ∀ k, vw'.ownBlock = some k → TT R vw vy vi k ∨ w.heap.size ≤ k) (hy : ∀ k, vy'.ownBlock = some k → TT R vw vy vi k ∨ w.heap.size ≤ k) (hi : ∀ k, vi'.ownBlock = some k → TT R vw vy vi k ∨ w.heap.size ≤ k) : Moved (TT R vw vy vi) (TT R vw' vy' vi') w w' := by
  refine ⟨t.mono (fun k h1 h2 => hS k h2 h1), ?_⟩
  rintro k (rfl | hk | hk | hk)
  · exact .inl (.inl rfl)
  · exact hw k hk
  · exact hy k hk
  · exact hi k hk
theorem RSt.setWait {w w5 : World} {R : Nat} {vw vy vi v' : Value} {x : St} {l : List Msg} (h : RSt w R vw vy vi x) (t : Turn (fun j => vw.ownBlock = some j) w w5) (hM : Mid w5 0 MsT 4 v' l.length (wcells l)) (hl : ∀ g, v'.ownBlock = some g → vw.ownBlock = some g ∨ w.heap.size ≤ g) :
    RSt (w5.setCell ⟨R, 2, none⟩ v') R v' vy vi { x with wait := l } ∧ Moved (TT R vw vy vi) (TT R v' vy vi) w (w5.setCell ⟨R, 2, none⟩ v') := by
  have ho5 : w5.heap[R]? = some (.cells #[.int .i64 x.win, .int .i64 x.que, vw, vy, vi, .int .i64 x.last] RST) := (t.block R (heap_lt h.obj) (fun e => (h.w_ne R e).1 rfl)).trans h.obj
  have tc : Turn (· = R) w5 (w5.setCell ⟨R, 2, none⟩ v') := Turn.setCell w5 _ rfl
  have ho6 := heap_set_same w5 R 2 v' ho5
  have hv' : v'.ownBlock ≠ some R := fun e => by
    rcases hl R e with h1 | h1
    · exact (h.w_ne R h1).1 rfl
    · have := heap_lt h.obj; omega
  refine ⟨⟨ho6, hM.turn tc (fun k hk e => hv' (e ▸ hk)), (h.ways.turn t (fun k hk e => (h.y_ne k hk).2.1 e)).turn tc (fun k hk => (h.y_ne k hk).1), (h.ids.turn t (fun k hk e => (h.i_ne k hk).2.1 e)).turn tc (fun k hk => (h.i_ne k hk).1), h.last⟩, ?_⟩
  refine moved_TT ((t.mono (fun k _ hk => .inr hk)).trans (tc.mono (S' := fun k => k = R ∨ vw.ownBlock = some k) (fun k _ hk => .inl hk))) (fun k hk _ => by
    rcases hk with rfl | hk
    · exact .inl rfl
    · exact .inr (.inl hk)) (fun k hk => ?_) (fun k hk => .inl (.inr (.inr (.inl hk)))) (fun k hk => .inl (.inr (.inr (.inr hk))))
  rcases hl k hk with h1 | h1
  · exact .inl (.inr (.inl h1))
  · exact .inr h1
theorem RSt.setWays {w w5 : World} {R : Nat} {vw vy vi v' : Value} {x : St} {l : List Way} (h : RSt w R vw vy vi x) (t : Turn (fun j => vy.ownBlock = some j) w w5) (hM : Mid w5 0 RWT 6 v' l.length (rcells l)) (hl : ∀ g, v'.ownBlock = some g → vy.ownBlock = some g ∨ w.heap.size ≤ g) :
    RSt (w5.setCell ⟨R, 3, none⟩ v') R vw v' vi { x with ways := l } ∧ Moved (TT R vw vy vi) (TT R vw v' vi) w (w5.setCell ⟨R, 3, none⟩ v') := by
  have ho5 : w5.heap[R]? = some (.cells #[.int .i64 x.win, .int .i64 x.que, vw, vy, vi, .int .i64 x.last] RST) := (t.block R (heap_lt h.obj) (fun e => (h.y_ne R e).1 rfl)).trans h.obj
  have tc : Turn (· = R) w5 (w5.setCell ⟨R, 3, none⟩ v') := Turn.setCell w5 _ rfl
  have ho6 := heap_set_same w5 R 3 v' ho5
  have hv' : v'.ownBlock ≠ some R := fun e => by
    rcases hl R e with h1 | h1
    · exact (h.y_ne R h1).1 rfl
    · have := heap_lt h.obj; omega
  refine ⟨⟨ho6, (h.wait.turn t (fun k hk e => (h.w_ne k hk).2.1 e)).turn tc (fun k hk => (h.w_ne k hk).1), hM.turn tc (fun k hk e => hv' (e ▸ hk)), (h.ids.turn t (fun k hk e => (h.i_ne k hk).2.2 e)).turn tc (fun k hk => (h.i_ne k hk).1), h.last⟩, ?_⟩
  refine moved_TT ((t.mono (fun k _ hk => .inr hk)).trans (tc.mono (S' := fun k => k = R ∨ vy.ownBlock = some k) (fun k _ hk => .inl hk))) (fun k hk _ => by
    rcases hk with rfl | hk
    · exact .inl rfl
    · exact .inr (.inr (.inl hk))) (fun k hk => .inl (.inr (.inl hk))) (fun k hk => ?_) (fun k hk => .inl (.inr (.inr (.inr hk))))
  rcases hl k hk with h1 | h1
  · exact .inl (.inr (.inr (.inl h1)))
  · exact .inr h1
theorem RSt.ra {w : World} {R : Nat} {vw vy vi : Value} {x : St} (h : RSt w R vw vy vi x) : RA w 0 R (.int .i64 x.win) (.int .i64 x.que) vw vy vi x.ids x.last := ⟨h.obj, h.ids, fun e => (h.i_ne R e).1 rfl⟩
theorem rids_take (w : World) (R : Nat) (vw vy vi : Value) (x : St) (h : RSt w R vw vy vi x) (hl : x.ids.length < 65535) :
    Calls Tryd.prog 57 #[.pointer (some ⟨R, 4, none⟩)] w fun e w' => e = .returned (.tuple #[.int .i64 (ff x.ids x.last), .int .i64 0]) ∧ ∃ vi', RSt w' R vw vy vi' { x with ids := x.ids ++ [ff x.ids x.last], last := ff x.ids x.last } ∧ Moved (TT R vw vy vi) (TT R vw vy vi') w w' := by
  refine (rtake_calls w 0 R _ _ _ _ vi x.ids x.last h.ra h.last.1 h.last.2 (by omega) (Nat.zero_le _)).mono ?_
  rintro e w' (⟨h0, j, h1, h2, h3, rfl, vi', h4, h5, h6⟩ | ⟨h1, _⟩)
  case inr => omega
  rw [ff_is h1 h3 h2]
  have hcr := Ids.cand_range x.last j
  refine ⟨rfl, vi', ⟨h4.obj, h.wait.turn h6 (fun k hk e => ?_), h.ways.turn h6 (fun k hk e => ?_), h4.own, ⟨by show 0 ≤ Ids.cand x.last j; omega, by show Ids.cand x.last j ≤ 65535; omega⟩⟩, ?_⟩
  · rcases e with rfl | e
    · exact (h.w_ne _ hk).1 rfl
    · exact (h.w_ne _ hk).2.2 e
  · rcases e with rfl | e
    · exact (h.y_ne _ hk).1 rfl
    · exact (h.y_ne _ hk).2.2 e
  · refine moved_TT h6 (fun k hk _ => by
      rcases hk with rfl | hk
      · exact .inl rfl
      · exact .inr (.inr (.inr hk))) (fun k hk => .inl (.inr (.inl hk))) (fun k hk => .inl (.inr (.inr (.inl hk)))) (fun k hk => ?_)
    rcases h5 k hk with h7 | h7
    · exact .inl (.inr (.inr (.inr h7)))
    · exact .inr h7
theorem rids_free (w : World) (R : Nat) (vw vy vi : Value) (x : St) (h : RSt w R vw vy vi x) (hl : x.ids.length < 65535) (i : Int) :
    Calls Tryd.prog 71 #[.pointer (some ⟨R, 4, none⟩), .int .i64 i] w fun e w' => (∃ q : Bool, e = .returned (.bool q)) ∧ ∃ vi', RSt w' R vw vy vi' { x with ids := x.ids.filter (· ≠ i) } ∧ Moved (TT R vw vy vi) (TT R vw vy vi') w w' := by
  refine (rfree_calls w 0 R _ _ _ _ vi x.ids x.last h.ra (by omega) (Nat.zero_le _) i).mono ?_
  rintro e w' ⟨rfl, vi', h4, h5, h6⟩
  refine ⟨⟨_, rfl⟩, vi', ⟨h4.obj, h.wait.turn h6 (fun k hk => (h.w_ne k hk).1), h.ways.turn h6 (fun k hk => (h.y_ne k hk).1), h4.own, h.last⟩, ?_⟩
  exact moved_TT h6 (fun k hk _ => .inl hk) (fun k hk => .inl (.inr (.inl hk))) (fun k hk => .inl (.inr (.inr (.inl hk)))) (fun k hk => .inr (h5 k hk))
theorem rcells_snoc (l : List Way) (y : Way) : rcells (l ++ [y]) = rcells l ++ y.rvals := by simp [rcells]
theorem rway_at {l : List Way} {k : Nat} (h : k < l.length) (j : Nat) (hj : j < 6) : (rcells l)[6 * k + j]? = l[k].rvals[j]? := by
  induction l generalizing k with
  | nil => simp at h
  | cons y l ih =>
    have e : rcells (y :: l) = y.rvals ++ rcells l := by simp [rcells]
    have hl : y.rvals.length = 6 := rfl
    rw [e]
    cases k with
    | zero => rw [List.getElem?_append_left (by omega)]; simp
    | succ k =>
      rw [List.getElem?_append_right (by omega), hl, show 6 * (k + 1) + j - 6 = 6 * k + j by omega]
      have := ih (k := k) (by simpa using h)
      simpa using this
theorem info_rway : (Tryd.prog.info? RWT).map (fun i => (i.zero, i.size, i.bytes)) = some (some (.agg #[.int .i64 0, .string ⟨#[]⟩, .string ⟨#[]⟩, .int .i64 0, .bool false, .bool false]), 6, 64) := by kernel_rfl
end Snd
end Go.Proofs.YtonemmdipmohgaaDoor

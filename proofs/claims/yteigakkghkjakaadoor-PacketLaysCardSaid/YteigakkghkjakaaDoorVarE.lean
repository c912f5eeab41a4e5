/- varint.Put, varint.Size. -/
import Derived.Test.YteigakkghkjakaaDoorVarD
import Derived.Shelf.Abstract
namespace Go.Proofs.YteigakkghkjakaaDoor
open Go.RowKit
set_option linter.unusedVariables false
set_option linter.unusedSimpArgs false
attribute [local go_sem] Oper.semAt_some
namespace Var

/-- append of a byte in a round's frame. -/
theorem wpIn_append_int {F : Fence} {nn : Nat} {P : Program} {ops : Array Oper} {rest : List Oper} {o : Oper} {a : Act} {Q : Exit → Act → World → Prop} {W1 : World} (W : World) (base : Nat) (hgd : o.guard = none) (s x : Operand) (t e : TypeId) (k : IntKind) (bytes : Nat)
    (ho : o.op = .call { callee := .builtin .append, args := #[s, x], argTypes := #[t, t] })
    (ht : P.underlying t = some (.slice e)) (hinfo : (P.info? e).map (fun i => (i.zero, i.size, i.bytes)) = some (some (.int k 0), 1, bytes))
    (v : Value) (L : List Int) (y : Int) (hs : a.eval s = v) (nb : Nat) (hx : a.eval x = .slice (some ⟨nb, 0, none⟩) 1 1)
    (hnb : W1.heap[nb]? = some (.cells #[.int k y] e (0, 0))) (hnew : W.heap.size ≤ nb) (hW : Turn (fun _ => False) W W1)
    (HO : OwnInts W base e k v L) (hbase : base ≤ W.heap.size) (hn : L.length + 1 ≤ 140737488355328 ∧ (L.length + 1) * bytes ≤ 140737488355328)
    (K : ∀ g c1 w1, OwnInts w1 base e k (.slice (some ⟨g, 0, none⟩) (L.length + 1) c1) (L ++ [y]) → Turn (fun j => v.ownBlock = some j) W w1 → W.heap.size < w1.heap.size → wpListIn F nn P ops Q rest (a.put o.dst (.slice (some ⟨g, 0, none⟩) (L.length + 1) c1)) w1) :
    wpListIn F nn P ops Q (o :: rest) a W1 := by
  obtain ⟨i0, hi, hzz⟩ := Option.map_eq_some_iff.1 hinfo
  simp only [Prod.mk.injEq] at hzz
  obtain ⟨hz0, hz1, hz2⟩ := hzz
  have hlt := heap_lt hnb
  refine wpListIn_append_own W1 hgd s x t ho base e i0 (.int k 0) 1 bytes ht hi hz0 hz1 hz2 rfl (by omega) v L.length _ hs (HO.turn hW (fun _ _ h => h)) ⟨nb, 0, none⟩ 1 1 [.int k y] hx rfl
    (fun j u hu => by rw [add_plain0, cell_heap hnb]; simpa using hu) (by simp [Value.oneCell']) (by simp only [maxLen]; omega) hn.2 (by omega) ?_
  intro v1 w1 hown hg _
  have hsh : ∃ g c1, v1 = .slice (some ⟨g, 0, none⟩) (L.length + 1) c1 := by
    rcases hown.2 with ⟨_, h0⟩ | ⟨g, cap, cur, h, _⟩
    · exact absurd h0 (by omega)
    · exact ⟨g, cap, h⟩
  obtain ⟨g, c1, rfl⟩ := hsh
  exact K g c1 w1 (by simpa [OwnInts] using hown) ((hW.mono (fun _ _ h => h.elim)).trans (Turn.of_grownBy hg (fun k e => e))) (Nat.lt_of_lt_of_le (by omega) hg.size)

theorem turn_putObj (W : World) (l : Nat) (o : Obj) : Turn (· = l) W (W.putObj l o) := ⟨rfl, rfl, rfl, by simp, fun k _ hk => World.putObj_heap_other hk⟩

/-- A range over a closure, outermost, under no fence: the iterator's call, and what is asked behind it. -/
theorem wp_range_wide {P : Program} {n : Nat} {g : Operand} {ps : Array Tmp} {assign body : Code} {Q : Exit → Act → World → Prop} {a : Act} {w : World} (gf : Nat) (lb : Array Value) (hg : a.eval g = .func (.func gf) #[] lb)
    (eg : ∀ args w, (callFunc gf args).run P w = .ok (.enter gf args) w)
    (h : ∀ (fn : FuncId) (rec_ : LoopState → Loop), (∀ st, rec_ st = { state := st, pending := none, fn := fn, tmps := a.tmps, params := ps, assign := assign, body := body, defers := w.heap.size }) → ∀ W1 : World, W1 = (w.alloc (.deferred (some []))).alloc (.loop (rec_ .ready)) →
      CallsIn Fence.wide (n - 1) P gf (#[.func (.yield (w.heap.size + 1)) #[] #[]] ++ lb) W1 (rangePost Fence.wide n P (w.heap.size + 1) Q { a with defers := { target := .collected w.heap.size, args := #[] } :: a.defers })) :
    (Code.rangeFunc g ps assign body).wpIn Fence.wide n P Q a w := by
  refine wpIn_rangeFunc ?_
  intro fn hfn
  refine ⟨w.heap.size + 1, [{ target := .collected w.heap.size, args := #[] }], _, { target := .fn (.func gf) lb, args := #[.func (.yield (w.heap.size + 1)) #[] #[]] }, (w.alloc (.deferred (some []))).alloc (.loop { state := .ready, pending := none, fn := fn, tmps := a.tmps, params := ps, assign := assign, body := body, defers := w.heap.size }), gf,
    #[.func (.yield (w.heap.size + 1)) #[] #[]] ++ lb, _, run_enterLoop_outer _ _ _ _ _, ?_, fun _ _ => trivial, ?_, (fun hh => nomatch hh), h fn _ (fun _ => rfl) _ rfl⟩
  · simp only [resolve, hg]
    simp [go_sem]
  · simp [invoke, go_sem, eg]

/-- A call of yield: a round. -/
theorem yield_wide {P : Program} {m l : Nat} {args : Array Value} {W : World} {r : Loop} {R : Ending → World → Prop} (hl : W.heap[l]? = some (.loop r)) (hs : args.size = r.params.size)
    (h : r.assign.wpIn (Fence.wide.inRound l) m P (Exit.then (fun a₁ w₁ => ∃ w₂, (Instr.beginRound l).run P w₁ = .ok () w₂ ∧ r.body.wpIn (Fence.wide.inRound l) m P (roundPost P l R) a₁ w₂) (fun _ _ _ => False))
      { tmps := (r.params.zip args).foldl (fun tmps (t, a) => tmps.setIfInBounds t a) r.tmps, defers := [] } W) : YieldAt Fence.wide m P l args W R :=
  ⟨r.fn, _, r.assign, r.body, run_yield hl hs, roundIn_of_wpIn trivial h⟩

def PutPost (w : World) (L : List Int) (e : Ending) (w' : World) : Prop :=
  ∃ A c, e = .returned (.tuple #[.slice A L.length c, .int .i64 0]) ∧ OwnInts w' w.heap.size BT .u8 (.slice A L.length c) L ∧ Below w.heap.size w w'

/-- Between two rounds: the bytes so far in the row that 'out' holds (block b), the iterator's variable (b + 1), the block for deferred calls (b + 2), the loop's record (b + 3). -/
structure St (w : World) (rec_ : LoopState → Loop) (pre : List Int) (m : Int) (W : World) : Prop where
  out : ∃ A c, W.heap[w.heap.size]? = some (.cells #[.slice A pre.length c] 22 (0, 0)) ∧ OwnInts W (w.heap.size + 4) BT .u8 (.slice A pre.length c) pre
  var : W.heap[w.heap.size + 1]? = some (.cells #[.int .i64 m] 3 (0, 0))
  dfr : W.heap[w.heap.size + 2]? = some (.deferred (some []))
  rec_ : W.heap[w.heap.size + 3]? = some (.loop (rec_ .ready))
  below : Below w.heap.size w W
  size : w.heap.size + 4 ≤ W.heap.size

theorem St.turn {w : World} {r : LoopState → Loop} {pre : List Int} {m : Int} {W W' : World} {S : Nat → Prop} (h : St w r pre m W) (t : Turn S W W') (hs : ∀ k, S k → False) : St w r pre m W' := by
  obtain ⟨⟨A, c, h1, h2⟩, h3, h4, h5, h6, h7⟩ := h
  exact ⟨⟨A, c, (t.block _ (heap_lt h1) (hs _)).trans h1, h2.turn t (fun k _ => hs k)⟩, (t.block _ (heap_lt h3) (hs _)).trans h3, (t.block _ (heap_lt h4) (hs _)).trans h4, (t.block _ (heap_lt h5) (hs _)).trans h5, t.belowTrans h6 h6.size (fun k _ => hs k), Nat.le_trans h7 t.size⟩

set_option maxHeartbeats 4000000 in
set_option maxRecDepth 100000 in
theorem put_calls (w : World) (n : Int) (h0 : 0 ≤ n) (h1 : n ≤ 268435455) : Calls Tryd.prog 47 #[.int .i64 n] w fun e w' => PutPost w (digs 3 n) e w' := by
  refine (callsIn_wide (n := 3)).1 ?_
  refine callsIn_of_wp_marks Tryd.func47 rfl trivial ?_ rfl
  simp only [Tryd.ntmps47, List.size_toArray, List.length_cons, List.length_nil, Nat.reduceAdd, Nat.reduceSub, Array.replicate_succ, Array.replicate_zero, List.push_toArray, List.append_toArray, List.nil_append, List.cons_append]
  have hd1 : decide (n < 0) = false := decide_eq_false (by omega)
  have hd2 : decide (268435455 < n) = false := decide_eq_false (by omega)
  gi_wp2_with (refine ⟨trivial, ?_⟩; gi_at_call 74; refine (callsIn_wide.2 (digits_calls _ _)).mono ?_; rintro e w' ⟨rfl, rfl⟩)
  refine wp_range_wide 87 #[.pointer (some ⟨w.heap.size + 1, 0, none⟩)] rfl (enters_of Tryd.func87 (by kernel_rfl) rfl) ?_
  intro fn rec_ hrec W1 hW1
  have hsz : ((w.alloc (.cells #[.slice none 0 0] 22)).alloc (.cells #[.int .i64 n] 3)).heap.size = w.heap.size + 2 := by simp
  rw [hsz] at hrec ⊢
  have hSt : St w rec_ [] n W1 := by
    rw [hW1]
    have e1 := heap_new w (.cells #[.slice none 0 0] 22)
    have e2 := heap_new (w.alloc (.cells #[.slice none 0 0] 22)) (.cells #[.int .i64 n] 3)
    have e3 := heap_new ((w.alloc (.cells #[.slice none 0 0] 22)).alloc (.cells #[.int .i64 n] 3)) (.deferred (some []))
    have e4 := heap_new (((w.alloc (.cells #[.slice none 0 0] 22)).alloc (.cells #[.int .i64 n] 3)).alloc (.deferred (some []))) (.loop (rec_ .ready))
    rw [World.size_alloc] at e2 e3 e4
    rw [World.size_alloc] at e3 e4
    rw [World.size_alloc] at e4
    refine ⟨⟨none, 0, ?_, OwnInts.nil _ _ _ _⟩, ?_, ?_, e4, ?_, by simp⟩
    · rw [heap_old _ _ _ (by simp only [World.size_alloc]; omega), heap_old _ _ _ (by simp only [World.size_alloc]; omega), heap_old _ _ _ (by simp)]; exact e1
    · rw [heap_old _ _ _ (by simp only [World.size_alloc]; omega), heap_old _ _ _ (by simp only [World.size_alloc]; omega)]; exact e2
    · rw [heap_old _ _ _ (by simp)]; exact e3
    · exact ((((Below.refl _ w).alloc (Nat.le_refl _) _).alloc (by simp) _).alloc (by simp; omega) _).alloc (by simp; omega) _
  clear hW1 hsz
  have hround : ∀ pre m x W, 0 ≤ x → x < 256 → St w rec_ pre m W → pre.length ≤ 3 → YieldAt Fence.wide 1 Tryd.prog (w.heap.size + 3) #[.int .u8 x] W fun e W' => e = .returned (.bool true) ∧ St w rec_ (pre ++ [x]) m W' := by
    intro pre m x W hx0 hx1 hS hpl
    refine yield_wide hS.rec_ (by rw [hrec]; rfl) ?_
    rw [hrec]
    simp only []
    gi_wp2_with (fail)
    have hbusy := run_beginRound (P := Tryd.prog) hS.rec_ (by rw [hrec])
    refine ⟨_, hbusy, ?_⟩
    clear hbusy
    obtain ⟨Wb, hWb⟩ : ∃ Wb, Wb = W.putObj (w.heap.size + 3) (.loop { rec_ .ready with state := .busy }) := ⟨_, rfl⟩
    have tb : Turn (· = w.heap.size + 3) W Wb := by rw [hWb]; exact turn_putObj _ _ _
    have hl : Wb.heap[w.heap.size + 3]? = some (.loop { rec_ .ready with state := .busy }) := by rw [hWb]; exact World.putObj_heap_same (heap_lt hS.rec_)
    rw [← hWb]
    obtain ⟨⟨A, c, e1, e2⟩, e3, e4, e5, e6, e7⟩ := hS
    have e1b := (tb.block _ (heap_lt e1) (by omega)).trans e1
    have c0 := cell_heap (off := 0) e1b
    have f0 := frozen_heap (off := 0) e1b
    have HO : Hid (OwnInts Wb (w.heap.size + 4) BT .u8 (.slice A pre.length c) pre) := e2.turn tb (fun k hk e => by have := (own_block_ge e2 k hk).1; omega)
    have HS : Hid (w.heap.size + 4 ≤ Wb.heap.size) := Nat.le_trans e7 tb.size
    have HL : Hid (pre.length + 1 ≤ 140737488355328 ∧ (pre.length + 1) * 1 ≤ 140737488355328) := by rw [Hid]; omega
    have HREC := Lib.hid hrec
    have HWb := Lib.hid hWb
    clear hrec hWb
    gi_wp2_with (gi_at_builtin; go_must (refine wpIn_append_int Wb (w.heap.size + 4) rfl _ _ 22 5 .u8 1 rfl Tryd.underlying22 info_byte (.slice A pre.length c) pre x rfl _ rfl (heap_new Wb _) (Nat.le_refl _) (Turn.alloc Wb _) HO.out HS.out HL.out ?_))
    intro g c1 w1 hown1 ht1 hsz1
    have hng : ∀ k, (Value.slice A pre.length c).ownBlock = some k → w.heap.size + 4 ≤ k := fun k hk => (own_block_ge HO.out k hk).1
    have e1c := (ht1.block _ (heap_lt e1b) (fun e => by have := hng _ e; omega)).trans e1b
    have c0' := cell_heap (off := 0) e1c
    have f0' := frozen_heap (off := 0) e1c
    have hlc := (ht1.block _ (heap_lt hl) (fun e => by have := hng _ e; omega)).trans hl
    clear c0 f0
    gi_wp2_with (fail)
    have hl2 : (w1.setCell ⟨w.heap.size, 0, none⟩ (.slice (some ⟨g, 0, none⟩) (pre.length + 1) c1)).heap[w.heap.size + 3]? = some (.loop { rec_ .ready with state := .busy }) := by
      rw [Below.heap_setCell _ _ _ _ (by simp)]; exact hlc
    refine ⟨_, _, run_endRound none hl2, rfl, ?_⟩
    have t2 := Turn.setCell (S := (· = w.heap.size)) w1 (p := ⟨w.heap.size, 0, none⟩) (.slice (some ⟨g, 0, none⟩) (pre.length + 1) c1) rfl
    have t3 := turn_putObj (w1.setCell ⟨w.heap.size, 0, none⟩ (.slice (some ⟨g, 0, none⟩) (pre.length + 1) c1)) (w.heap.size + 3) (.loop { { rec_ .ready with state := .busy } with state := .ready, pending := none })
    have e3b := (tb.block _ (heap_lt e3) (by omega)).trans e3
    have e3c := (ht1.block _ (heap_lt e3b) (fun e => by have := hng _ e; omega)).trans e3b
    have e3d := (t2.block _ (heap_lt e3c) (by omega)).trans e3c
    have e4b := (tb.block _ (heap_lt e4) (by omega)).trans e4
    have e4c := (ht1.block _ (heap_lt e4b) (fun e => by have := hng _ e; omega)).trans e4b
    have e4d := (t2.block _ (heap_lt e4c) (by omega)).trans e4c
    have e1d := heap_set_same w1 _ 0 (.slice (some ⟨g, 0, none⟩) (pre.length + 1) c1) e1c
    have hgb : ∀ k, (Value.slice (some ⟨g, 0, none⟩) (pre.length + 1) c1).ownBlock = some k → w.heap.size + 4 ≤ k := fun k hk => (own_block_ge hown1 k hk).1
    have hb1 := tb.belowTrans e6 e6.size (fun k hk e => by omega)
    have hb2 := ht1.belowTrans hb1 hb1.size (fun k hk e => by have := hng _ e; omega)
    have hb3 := t2.belowTrans hb2 hb2.size (fun k hk e => by omega)
    have hb4 := t3.belowTrans hb3 hb3.size (fun k hk e => by omega)
    refine ⟨⟨some ⟨g, 0, none⟩, c1, ?_, ?_⟩, ?_, ?_, ?_, hb4, ?_⟩
    · rw [List.length_append, List.length_singleton]
      exact (t3.block _ (heap_lt e1d) (by omega)).trans e1d
    · rw [List.length_append, List.length_singleton]
      exact (hown1.turn t2 (fun k hk e => by have := hgb k hk; omega)).turn t3 (fun k hk e => by have := hgb k hk; omega)
    · exact (t3.block _ (heap_lt e3d) (by omega)).trans e3d
    · exact (t3.block _ (heap_lt e4d) (by omega)).trans e4d
    · have := World.putObj_heap_same (o := .loop { { rec_ .ready with state := .busy } with state := .ready, pending := none }) (heap_lt hl2)
      refine this.trans ?_
      rw [HREC.out]
    · exact Nat.le_trans HS.out (Nat.le_trans ht1.size (Nat.le_trans t2.size t3.size))
  refine (iter_in (w.heap.size + 3) (w.heap.size + 1) (St w rec_) ?_ ?_ hround n h0 h1 W1 hSt).mono ?_
  · intro pre m W hS
    exact ⟨cell_heap hS.var, frozen_heap hS.var⟩
  · intro pre m m' W hS
    obtain ⟨⟨A, c, e1, e2⟩, e3, e4, e5, e6, e7⟩ := hS
    have t := Turn.setCell (S := (· = w.heap.size + 1)) W (p := ⟨w.heap.size + 1, 0, none⟩) (.int .i64 m') rfl
    exact ⟨⟨A, c, (t.block _ (heap_lt e1) (by omega)).trans e1, e2.turn t (fun k hk e => by have := (own_block_ge e2 k hk).1; omega)⟩, heap_set_same W _ 0 _ e3, (t.block _ (heap_lt e4) (by omega)).trans e4, (t.block _ (heap_lt e5) (by omega)).trans e5,
      t.belowTrans e6 e6.size (fun k hk e => by omega), Nat.le_trans e7 t.size⟩
  · rintro e W' ⟨⟨v, rfl⟩, m, hS⟩
    have hp : (rec_ .ready).pending = none := by rw [hrec]
    have hend := run_endLoop (P := Tryd.prog) hS.rec_ (by rw [hrec]; simp)
    have t := turn_putObj W' (w.heap.size + 3) (.loop { rec_ .ready with state := .exhausted })
    generalize W'.putObj (w.heap.size + 3) (.loop { rec_ .ready with state := .exhausted }) = W2 at t hend
    rw [hp] at hend
    refine ⟨none, _, hend, ?_⟩
    clear hend hrec hd1 hd2 hp
    simp only []
    obtain ⟨⟨A, c, e1, e2⟩, e3, e4, e5, e6, e7⟩ := hS
    have e1' := (t.block _ (heap_lt e1) (by omega)).trans e1
    have e4' := (t.block _ (heap_lt e4) (by omega)).trans e4
    have e2' : OwnInts W2 (w.heap.size + 4) BT .u8 (.slice A (digs 3 n).length c) (digs 3 n) := e2.turn t (fun k hk e => by have := (own_block_ge e2 k hk).1; omega)
    have hb' := t.belowTrans e6 e6.size (fun k hk e => by omega)
    have c0 := cell_heap (off := 0) e1'
    clear e1 e2 e3 e4 e5 e6 t
    gi_wp2_with (fail)
    refine ⟨by simp, .inl ⟨_, _, rfl, run_takeDeferred e4', ?_⟩⟩
    have t5 := turn_putObj W2 (w.heap.size + 2) (.deferred none)
    have HF : PutPost w (digs 3 n) (.returned (.tuple #[.slice A (digs 3 n).length c, .int .i64 0])) (W2.putObj (w.heap.size + 2) (.deferred none)) :=
      ⟨A, c, rfl, own_mono (e2'.turn t5 (fun k hk e => by have := (own_block_ge e2' k hk).1; omega)) (by omega), t5.belowTrans hb' hb'.size (fun k hk e => by omega)⟩
    exact ⟨_, results_tmp2 (t := 2) (u := 3) rfl _ _ _, HF⟩

theorem put_bad (w : World) (n : Int) (h : n < 0 ∨ 268435455 < n) : Calls Tryd.prog 47 #[.int .i64 n] w fun e w' => e = .returned (.tuple #[.slice none 0 0, .int .i64 1]) ∧ w = w' := by
  by_cases h1 : n < 0
  · have hd : decide (n < 0) = true := decide_eq_true h1
    go_enter Tryd.func47, Tryd.ntmps47
    go_wp2_with (fail)
    go_ret2
    exact ⟨rfl, rfl⟩
  · have hd : decide (n < 0) = false := decide_eq_false h1
    have hd2 : decide (268435455 < n) = true := decide_eq_true (by omega)
    go_enter Tryd.func47, Tryd.ntmps47
    go_wp2_with (fail)
    go_ret2
    exact ⟨rfl, rfl⟩

end Var
end Go.Proofs.YteigakkghkjakaaDoor

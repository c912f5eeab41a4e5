/- Plain lemmas on worlds, for whatever program: 'Turn S w w'': but for the blocks that S names nothing that was there has turned. -/
import Derived.WalkKit
import Derived.WalkSpells
import Derived.WalkLawsBesides
import Derived.Maps.OwnSet
import Derived.Outline
import Derived.Lib.Hide
import Derived.Maps.AppendAt
import Derived.Deep.QuietTactic
import Derived.BigQuiet
import Derived.Laws.BytesArg
import Derived.Deep.LoopGhost
namespace Go.Proofs.YtonemmdipmohgaaDoor
open Go.RowKit Go.Maps
set_option linter.unusedVariables false

/-- But for the blocks that S names nothing that was there has turned; blocks may be new. -/
structure Turn (S : Nat → Prop) (w w' : World) : Prop where
  os : w'.os = w.os
  tape : w'.tape = w.tape
  output : w'.output = w.output
  size : w.heap.size ≤ w'.heap.size
  block : ∀ k, k < w.heap.size → ¬ S k → w'.heap[k]? = w.heap[k]?

theorem Turn.refl (S : Nat → Prop) (w : World) : Turn S w w := ⟨rfl, rfl, rfl, Nat.le_refl _, fun _ _ _ => rfl⟩
theorem Turn.trans {S : Nat → Prop} {a b c : World} (h : Turn S a b) (k : Turn S b c) : Turn S a c :=
  ⟨k.os.trans h.os, k.tape.trans h.tape, k.output.trans h.output, Nat.le_trans h.size k.size, fun i hi hn => (k.block i (Nat.lt_of_lt_of_le hi h.size) hn).trans (h.block i hi hn)⟩
theorem Turn.mono {S S' : Nat → Prop} {a b : World} (h : Turn S a b) (hs : ∀ k, k < a.heap.size → S k → S' k) : Turn S' a b :=
  ⟨h.os, h.tape, h.output, h.size, fun i hi hn => h.block i hi fun hk => hn (hs i hi hk)⟩
/-- What comes behind may write what is named, and whatever is new. -/
theorem Turn.then {S S' : Nat → Prop} {a b c : World} (h : Turn S a b) (k : Turn S' b c) (hs : ∀ i, i < a.heap.size → S' i → S i) : Turn S a c :=
  ⟨k.os.trans h.os, k.tape.trans h.tape, k.output.trans h.output, Nat.le_trans h.size k.size, fun i hi hn => (k.block i (Nat.lt_of_lt_of_le hi h.size) fun hk => hn (hs i hi hk)).trans (h.block i hi hn)⟩
theorem Turn.of_below {S : Nat → Prop} {w w' : World} (h : Below w.heap.size w w') : Turn S w w' := ⟨h.os, h.tape, h.output, h.size, fun k hk _ => h.block k hk⟩
theorem Turn.toBelow {S : Nat → Prop} {w w' : World} {B : Nat} (h : Turn S w w') (hB : B ≤ w.heap.size) (hs : ∀ k, k < B → ¬ S k) : Below B w w' :=
  ⟨h.os, h.tape, h.output, h.size, fun k hk => h.block k (Nat.lt_of_lt_of_le hk hB) (hs k hk)⟩
theorem Turn.of_grownBy {S : Nat → Prop} {w w' : World} {row : Option Nat} (h : w.grownBy w' row) (hs : ∀ k, row = some k → S k) : Turn S w w' :=
  ⟨h.os, h.tape, h.output, h.size, fun k hk hn => h.block k hk fun e => hn (hs k e.symm)⟩
theorem Turn.alloc {S : Nat → Prop} (w : World) (o : Obj) : Turn S w (w.alloc o) := .of_below ((Below.refl _ _).alloc (Nat.le_refl _) _)
theorem Turn.drew {S : Nat → Prop} {a w : World} (h : Turn S a w) : Turn S a w.drew := ⟨h.os, h.tape, h.output, h.size, h.block⟩
theorem Turn.drewN {S : Nat → Prop} {a w : World} (h : Turn S a w) (n : Nat) : Turn S a (w.drewN n) := ⟨h.os, h.tape, h.output, h.size, h.block⟩
theorem Turn.setCell {S : Nat → Prop} (w : World) {p : Addr} (u : Value) (hp : S p.block) : Turn S w (w.setCell p u) :=
  ⟨rfl, rfl, rfl, by simp [World.setCell], fun k hk hn => Below.heap_setCell _ _ _ _ fun e => hn (e ▸ hp)⟩
theorem Turn.cell {S : Nat → Prop} {w w' : World} (h : Turn S w w') {a : Addr} {v : Value} (hc : w.cell? a = some v) (hn : ¬ S a.block) : w'.cell? a = some v :=
  (World.cell?_of_block (w := w) (h.block a.block (World.block_lt_of_cell? w a hc) hn)).trans hc
theorem Turn.frozen {S : Nat → Prop} {w w' : World} (h : Turn S w w') {a : Addr} (hl : a.block < w.heap.size) (hn : ¬ S a.block) : w'.frozen? a = w.frozen? a :=
  World.frozen?_of_block (w := w) (h.block a.block hl hn)
theorem Turn.belowTrans {S : Nat → Prop} {w0 w w' : World} {B : Nat} (h0 : Below B w0 w) (h : Turn S w w') (hB : B ≤ w.heap.size) (hs : ∀ k, k < B → ¬ S k) : Below B w0 w' := h0.trans (h.toBelow hB hs)

theorem size_set (w : World) (p : Addr) (u : Value) : (w.setCell p u).heap.size = w.heap.size := by simp [World.setCell]
theorem cell_heap {w : World} {b off : Nat} {cs : Array Value} {t : TypeId} {fr : Nat × Nat} (h : w.heap[b]? = some (.cells cs t fr)) : w.cell? ⟨b, off, none⟩ = cs[off]? := by
  simp [World.cell?, h]
theorem frozen_heap {w : World} {b off : Nat} {cs : Array Value} {t : TypeId} (h : w.heap[b]? = some (.cells cs t (0, 0))) : w.frozen? ⟨b, off, none⟩ = false := by
  simp [World.frozen?, h]
theorem heap_new (w : World) (o : Obj) : (w.alloc o).heap[w.heap.size]? = some o := by
  show (w.heap.push o)[w.heap.size]? = _
  simp
theorem heap_old (w : World) (o : Obj) (k : Nat) (h : k < w.heap.size) : (w.alloc o).heap[k]? = w.heap[k]? := Below.heap_alloc _ _ _ h
theorem heap_set_same (w : World) (b off : Nat) (v : Value) {cs : Array Value} {t : TypeId} {fr : Nat × Nat} (h : w.heap[b]? = some (.cells cs t fr)) : (w.setCell ⟨b, off, none⟩ v).heap[b]? = some (.cells (cs.setIfInBounds off v) t fr) := by
  simp only [World.setCell, Array.getElem?_modify, if_true, h]
  rfl
theorem heap_lt {w : World} {b : Nat} {o : Obj} (h : w.heap[b]? = some o) : b < w.heap.size := (Array.getElem?_eq_some_iff.1 h).1

theorem add_plain0 (g j : Nat) : (⟨g, 0, none⟩ : Addr).add j = ⟨g, j, none⟩ := by unfold Addr.add; split <;> simp_all

/-- Element i, behind a name that the walk does not look into. -/
def lat (L : List Int) (i : Nat) : Int := L.getD i 0
theorem lat_get (L : List Int) (i : Nat) (h : i < L.length) : lat L i = L[i] := by simp [lat, List.getElem?_eq_getElem h]
theorem lat_mem (L : List Int) (i : Nat) (h : i < L.length) : lat L i ∈ L := by rw [lat_get L i h]; exact List.getElem_mem h
theorem mem_lat {L : List Int} {x : Int} (h : x ∈ L) : ∃ j, j < L.length ∧ lat L j = x := by
  obtain ⟨j, hj, e⟩ := List.getElem_of_mem h
  exact ⟨j, hj, by rw [lat_get L j hj, e]⟩
theorem take_lat (L : List Int) (i : Nat) (h : i < L.length) : L.take (i + 1) = L.take i ++ [lat L i] := by
  rw [List.take_succ_eq_append_getElem h, lat_get L i h]

/-! ### rows of the call's own -/
theorem own_turn {w w1 : World} {base : Nat} {e : TypeId} {size n : Nat} {v : Value} {xs : List Value} {S : Nat → Prop} (h : w.ownsRow base e size v n xs) (t : Turn S w w1) (hn : ∀ k, v.ownBlock = some k → ¬ S k) : w1.ownsRow base e size v n xs := by
  obtain ⟨h1, h2⟩ := h
  refine ⟨h1, ?_⟩
  rcases h2 with h2 | ⟨g, cap, cur, rfl, hg, hh, r⟩
  · exact .inl h2
  · exact .inr ⟨g, cap, cur, rfl, hg, (t.block g (heap_lt hh) (hn g rfl)).trans hh, r⟩
theorem own_mono {w : World} {base base' : Nat} {e : TypeId} {size n : Nat} {v : Value} {xs : List Value} (h : w.ownsRow base e size v n xs) (hb : base' ≤ base) : w.ownsRow base' e size v n xs := by
  obtain ⟨h1, h2⟩ := h
  refine ⟨h1, ?_⟩
  rcases h2 with h2 | ⟨g, cap, cur, rfl, hg, r⟩
  · exact .inl h2
  · exact .inr ⟨g, cap, cur, rfl, Nat.le_trans hb hg, r⟩
/-- A row's shape, nil let in: where there is an element the row's block and its cells. -/
theorem own_form {w : World} {base : Nat} {e : TypeId} {size n : Nat} {v : Value} {xs : List Value} (h : w.ownsRow base e size v n xs) :
    ∃ A c, v = .slice A n c ∧ n ≤ c ∧ c ≤ maxLen ∧ (0 < n → ∃ g, A = some ⟨g, 0, none⟩ ∧ base ≤ g ∧ g < w.heap.size ∧ ∀ i u, xs[i]? = some u → w.cell? ⟨g, i, none⟩ = some u) := by
  rcases h.2 with ⟨rfl, rfl⟩ | ⟨g, cap, cur, rfl, hg, hh, hc, hm, hs, ht⟩
  · exact ⟨none, 0, rfl, Nat.le_refl _, by simp, fun h => absurd h (by omega)⟩
  · refine ⟨some ⟨g, 0, none⟩, cap, rfl, hc, hm, fun _ => ⟨g, rfl, hg, heap_lt hh, fun i u hu => ?_⟩⟩
    rw [cell_heap hh]
    rw [← ht, List.getElem?_take] at hu
    split at hu
    · simpa using hu
    · cases hu
/-- A row of numbers. -/
def OwnInts (w : World) (base : Nat) (e : TypeId) (k : IntKind) (v : Value) (L : List Int) : Prop := w.ownsRow base e 1 v L.length (L.map (Value.int k))
theorem OwnInts.nil (w : World) (base : Nat) (e : TypeId) (k : IntKind) : OwnInts w base e k (.slice none 0 0) [] := ⟨by simp, .inl ⟨rfl, rfl⟩⟩
theorem OwnInts.turn {w w1 : World} {base : Nat} {e : TypeId} {k : IntKind} {v : Value} {L : List Int} {S : Nat → Prop} (h : OwnInts w base e k v L) (t : Turn S w w1) (hn : ∀ j, v.ownBlock = some j → ¬ S j) : OwnInts w1 base e k v L := own_turn h t hn
theorem own_block_ge {w : World} {base : Nat} {e : TypeId} {size n : Nat} {v : Value} {xs : List Value} (h : w.ownsRow base e size v n xs) : ∀ j, v.ownBlock = some j → base ≤ j ∧ j < w.heap.size := h.lt
theorem OwnInts.form {w : World} {base : Nat} {e : TypeId} {k : IntKind} {v : Value} {L : List Int} (h : OwnInts w base e k v L) :
    ∃ A c, v = .slice A L.length c ∧ L.length ≤ c ∧ c ≤ 9223372036854775807 ∧ (0 < L.length → ∃ g, A = some ⟨g, 0, none⟩ ∧ base ≤ g ∧ g < w.heap.size ∧ ∀ i, i < L.length → w.cell? ⟨g, i, none⟩ = some (.int k (lat L i))) := by
  obtain ⟨A, c, hv, hc, hm, hh⟩ := own_form h
  refine ⟨A, c, hv, hc, by simpa [maxLen] using hm, fun hp => ?_⟩
  obtain ⟨g, hA, hg, hl, hcell⟩ := hh hp
  refine ⟨g, hA, hg, hl, fun i hi => hcell i _ ?_⟩
  simp [List.getElem?_eq_getElem hi, lat_get L i hi]

/-- 'append(v, x)' of one element, laid in a block of its own (nb); the world of the append is W1, that of the row W: behind 'at_builtin'. -/
theorem wp_append_one {P : Program} {ops : Array Oper} {rest : List Oper} {o : Oper} {a : Act} {Q : Exit → Act → World → Prop} {W1 : World} (W : World) (base : Nat) (hgd : o.guard = none) (s x : Operand) (t e : TypeId) (z : Value) (size bytes : Nat)
    (ho : o.op = .call { callee := .builtin .append, args := #[s, x], argTypes := #[t, t] })
    (ht : P.underlying t = some (.slice e)) (hinfo : (P.info? e).map (fun i => (i.zero, i.size, i.bytes)) = some (some z, size, bytes)) (hz : z.cells.size = size) (hs0 : 0 < size)
    (v : Value) (n : Nat) (xs : List Value) (cs : Array Value) (hcs : cs.size = size) (h1 : ∀ u ∈ cs.toList, u.oneCell' = true) (hs : a.eval s = v) (nb : Nat) (hx : a.eval x = .slice (some ⟨nb, 0, none⟩) 1 1)
    (hnb : W1.heap[nb]? = some (.cells cs e (0, 0))) (hnew : W.heap.size ≤ nb) (hW : Turn (fun _ => False) W W1)
    (HO : W.ownsRow base e size v n xs) (hbase : base ≤ W.heap.size) (hn : n + 1 ≤ 140737488355328) (hl : (n + 1) * bytes ≤ 140737488355328)
    (K : ∀ g c1 w1, w1.ownsRow base e size (.slice (some ⟨g, 0, none⟩) (n + 1) c1) (n + 1) (xs ++ cs.toList) → Turn (fun k => v.ownBlock = some k) W w1 → (v.ownBlock = some g ∨ W.heap.size ≤ g) → W.heap.size < w1.heap.size → wpList P ops Q rest (a.put o.dst (.slice (some ⟨g, 0, none⟩) (n + 1) c1)) w1) :
    wpList P ops Q (o :: rest) a W1 := by
  obtain ⟨i0, hi, hzz⟩ := Option.map_eq_some_iff.1 hinfo
  simp only [Prod.mk.injEq] at hzz
  obtain ⟨hz0, hz1, hz2⟩ := hzz
  have hlt := heap_lt hnb
  refine wpList_append_own_at W1 hgd s x t ho base e i0 z size bytes ht hi hz0 hz1 hz2 hz hs0 v n xs hs (own_turn HO hW (fun _ _ h => h)) ⟨nb, 0, none⟩ 1 1 cs.toList hx (by simp [hcs])
    (fun j u hu => by rw [add_plain0, cell_heap hnb]; simpa using hu) h1 (by simp only [maxLen]; omega) hl (by omega) ?_
  intro v1 w1 hown hg _ hat
  have hsh : ∃ g c1, v1 = .slice (some ⟨g, 0, none⟩) (n + 1) c1 := by
    rcases hown.2 with ⟨_, h0⟩ | ⟨g, cap, cur, h, _⟩
    · exact absurd h0 (by omega)
    · exact ⟨g, cap, h⟩
  obtain ⟨g, c1, rfl⟩ := hsh
  refine K g c1 w1 hown ((hW.mono (fun _ _ h => h.elim)).trans (Turn.of_grownBy hg (fun k e => e))) ?_ (Nat.lt_of_lt_of_le (by omega) hg.size)
  rcases hat with hat | hat
  · exact .inl hat.symm
  · refine .inr ?_
    have : g = W1.heap.size := Option.some.inj hat
    rw [this]
    exact hW.size

/-- The same of a number. -/
theorem wp_append_int {P : Program} {ops : Array Oper} {rest : List Oper} {o : Oper} {a : Act} {Q : Exit → Act → World → Prop} {W1 : World} (W : World) (base : Nat) (hgd : o.guard = none) (s x : Operand) (t e : TypeId) (k : IntKind) (bytes : Nat)
    (ho : o.op = .call { callee := .builtin .append, args := #[s, x], argTypes := #[t, t] })
    (ht : P.underlying t = some (.slice e)) (hinfo : (P.info? e).map (fun i => (i.zero, i.size, i.bytes)) = some (some (.int k 0), 1, bytes))
    (v : Value) (L : List Int) (y : Int) (hs : a.eval s = v) (nb : Nat) (hx : a.eval x = .slice (some ⟨nb, 0, none⟩) 1 1)
    (hnb : W1.heap[nb]? = some (.cells #[.int k y] e (0, 0))) (hnew : W.heap.size ≤ nb) (hW : Turn (fun _ => False) W W1)
    (HO : OwnInts W base e k v L) (hbase : base ≤ W.heap.size) (hn : L.length + 1 ≤ 140737488355328 ∧ (L.length + 1) * bytes ≤ 140737488355328)
    (K : ∀ g c1 w1, OwnInts w1 base e k (.slice (some ⟨g, 0, none⟩) (L.length + 1) c1) (L ++ [y]) → Turn (fun j => v.ownBlock = some j) W w1 → (v.ownBlock = some g ∨ W.heap.size ≤ g) → W.heap.size < w1.heap.size → wpList P ops Q rest (a.put o.dst (.slice (some ⟨g, 0, none⟩) (L.length + 1) c1)) w1) :
    wpList P ops Q (o :: rest) a W1 :=
  wp_append_one W base hgd s x t e (.int k 0) 1 bytes ho ht hinfo rfl (by omega) v L.length _ #[.int k y] rfl (by simp [Value.oneCell']) hs nb hx hnb hnew hW HO hbase hn.1 hn.2
    (fun g c1 w1 h1 h2 h3 h4 => K g c1 w1 (by simpa [OwnInts] using h1) h2 h3 h4)

/-- A slice of whole numbers that came in: nil, or a row of 'cap' cells, the numbers zs; the first 'len' are its elements. -/
def IsRow (k : IntKind) (w : World) (a : Option Addr) (len cap : Nat) (zs : List Int) : Prop :=
  (a = none ∧ len = 0 ∧ cap = 0 ∧ zs = []) ∨
  ∃ x, a = some x ∧ len ≤ cap ∧ cap ≤ maxLen ∧ zs.length = cap ∧ (∀ i, i < zs.length → w.cell? (x.add i) = some (.int k (zs.getD i 0))) ∧ ∀ n ∈ zs, (Lit.int k n).wf = true

theorem IsRow.form {k : IntKind} {w : World} {a : Option Addr} {len cap : Nat} {zs : List Int} (h : IsRow k w a len cap zs) :
    len ≤ cap ∧ cap ≤ 9223372036854775807 ∧ (0 < len → ∃ x, a = some x ∧ ∀ i, i < len → w.cell? (x.add i) = some (.int k (lat zs i)) ∧ (Lit.int k (lat zs i)).wf = true) := by
  rcases h with ⟨rfl, rfl, rfl, rfl⟩ | ⟨x, rfl, h1, h2, h3, h4, h5⟩
  · exact ⟨Nat.le_refl _, by omega, fun h => absurd h (by omega)⟩
  · refine ⟨h1, by simpa [maxLen] using h2, fun _ => ⟨x, rfl, fun i hi => ⟨h4 i (by omega), h5 _ (lat_mem zs i (by omega))⟩⟩⟩
theorem add_block (x : Addr) (i : Nat) : (x.add i).block = x.block := by unfold Addr.add; split <;> rfl

/-- A callee that turns nothing, met in a quiet region. -/
theorem quiet_left {P : Program} {f : FuncId} {args : Array Value} {w : World} {n : Nat} {v : Value}
    (h : Calls P f args (w.drewN n) fun e w' => e = .returned v ∧ w.drewN n = w') : Calls P f args (w.drewN n) fun e w'' => e = .returned v ∧ ∃ m, w'' = w.drewN m :=
  h.mono fun _ _ ⟨he, hm⟩ => ⟨he, n, hm.symm⟩

/-- string(b) of a row of bytes. -/
theorem conv_own {P : Program} {W : World} {base : Nat} {e' src dst e : TypeId} {A : Option Addr} {n c : Nat} {L : List Int} (hs : P.underlying src = some (.slice e)) (he : P.underlying e = some (.int .u8)) (hd : P.underlying dst = some .string)
    (h : OwnInts W base e' .u8 (.slice A n c) L) : (convert src dst (.slice A n c)).run P W = .ok (.string (strOfNums L)) W := by
  obtain ⟨A', c', hv, _, _, hh⟩ := h.form
  injection hv with h1 h2 h3
  subst h1 h2 h3
  by_cases h0 : 0 < L.length
  · obtain ⟨g, rfl, _, _, hcell⟩ := hh h0
    exact run_convert_bytes_arg W src e hs he g 0 L.length c L rfl (fun i hi => by rw [Nat.zero_add]; exact hcell i hi) dst hd
  · have hL : L = [] := List.eq_nil_of_length_eq_zero (by omega)
    subst hL
    have hv2 := h.2
    rcases hv2 with ⟨hv2, _⟩ | ⟨g, cap, cur, hv2, _⟩
    · injection hv2 with h1
      subst h1
      exact run_convert_bytes_nil W src e hs he _ _ dst hd
    · injection hv2 with h1
      subst h1
      exact run_convert_bytes_arg W src e hs he g 0 0 c [] rfl (fun i hi => absurd hi (by omega)) dst hd

end Go.Proofs.YtonemmdipmohgaaDoor

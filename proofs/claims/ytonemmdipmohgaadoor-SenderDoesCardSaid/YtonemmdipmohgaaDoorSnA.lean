/- sender: rows somewhere in an own block; append to them. -/
import Derived.Test.YtonemmdipmohgaaDoorBase
import Derived.ArgAppend
import Derived.Deep.MidRow
import Derived.Deep.AppendSrc
namespace Go.Proofs.YtonemmdipmohgaaDoor
open Go.RowKit Go.ChangeShapes
set_option linter.unusedVariables false
set_option linter.unusedSimpArgs false
namespace Snd

theorem Turn.setCells {S : Nat → Prop} (b : Nat) (hb : S b) : ∀ (vs : List Value) (o : Nat) (w : World), Turn S w (w.setCells b o vs)
  | [], _, w => Turn.refl S w
  | v :: r, o, w => (Turn.setCell w v (p := ⟨b, o, none⟩) hb).trans (Turn.setCells b hb r (o + 1) _)
theorem heap_setCells (b : Nat) {t : TypeId} {fr : Nat × Nat} : ∀ (vs : List Value) (o : Nat) (w : World) (cs : Array Value), w.heap[b]? = some (.cells cs t fr) → ∃ cs', (w.setCells b o vs).heap[b]? = some (.cells cs' t fr) ∧ cs'.size = cs.size
  | [], _, w, cs, h => ⟨cs, h, rfl⟩
  | v :: r, o, w, cs, h => by
    obtain ⟨cs', h1, h2⟩ := heap_setCells b r (o + 1) _ _ (heap_set_same w b o v h)
    exact ⟨cs', h1, by rw [h2]; simp⟩

structure MidAt (w : World) (base : Nat) (e : TypeId) (size : Nat) (g off n cap : Nat) (xs : List Value) : Prop where
  ge : base ≤ g
  blk : ∃ cur, w.heap[g]? = some (.cells cur e (0, 0)) ∧ off + cap * size ≤ cur.size
  le : n ≤ cap
  cm : cap ≤ maxLen
  cell : ∀ j u, xs[j]? = some u → w.cell? ⟨g, off + j, none⟩ = some u
/-- A slice value whose elements lie in an own block, not needs at its head. -/
def Mid (w : World) (base : Nat) (e : TypeId) (size : Nat) (v : Value) (n : Nat) (xs : List Value) : Prop :=
  xs.length = n * size ∧ ((v = .slice none 0 0 ∧ n = 0) ∨ ∃ g off cap, v = .slice (some ⟨g, off, none⟩) n cap ∧ MidAt w base e size g off n cap xs)

theorem Mid.nil (w : World) (base : Nat) (e : TypeId) (size : Nat) : Mid w base e size (.slice none 0 0) 0 [] := ⟨by simp, .inl ⟨rfl, rfl⟩⟩
theorem Mid.of_own {w : World} {base : Nat} {e : TypeId} {size n : Nat} {v : Value} {xs : List Value} (h : w.ownsRow base e size v n xs) : Mid w base e size v n xs := by
  refine ⟨h.1, ?_⟩
  rcases h.2 with h2 | ⟨g, cap, cur, rfl, hg, hh, hc, hm, hs, ht⟩
  · exact .inl h2
  · refine .inr ⟨g, 0, cap, rfl, hg, ⟨cur, hh, by omega⟩, hc, hm, fun j u hu => ?_⟩
    rw [cell_heap hh]
    rw [← ht, List.getElem?_take] at hu
    split at hu
    · rw [Nat.zero_add]; simpa using hu
    · cases hu
theorem Mid.lt {w : World} {base : Nat} {e : TypeId} {size n : Nat} {v : Value} {xs : List Value} (h : Mid w base e size v n xs) : ∀ j, v.ownBlock = some j → base ≤ j ∧ j < w.heap.size := by
  intro j hj
  rcases h.2 with ⟨rfl, _⟩ | ⟨g, off, cap, rfl, hm⟩
  · cases hj
  · cases hj
    obtain ⟨cur, hb, _⟩ := hm.blk
    exact ⟨hm.ge, heap_lt hb⟩
theorem Mid.typ {w : World} {base : Nat} {e : TypeId} {size n : Nat} {v : Value} {xs : List Value} (h : Mid w base e size v n xs) : ∀ j, v.ownBlock = some j → ∃ cur, w.heap[j]? = some (.cells cur e (0, 0)) := by
  intro j hj
  rcases h.2 with ⟨rfl, _⟩ | ⟨g, off, cap, rfl, hm⟩
  · cases hj
  · cases hj
    obtain ⟨cur, hb, _⟩ := hm.blk
    exact ⟨cur, hb⟩
theorem Mid.turn {w w1 : World} {base : Nat} {e : TypeId} {size n : Nat} {v : Value} {xs : List Value} {S : Nat → Prop} (h : Mid w base e size v n xs) (t : Turn S w w1) (hn : ∀ k, v.ownBlock = some k → ¬ S k) : Mid w1 base e size v n xs := by
  refine ⟨h.1, ?_⟩
  rcases h.2 with h2 | ⟨g, off, cap, rfl, hm⟩
  · exact .inl h2
  · obtain ⟨cur, hb, hs⟩ := hm.blk
    exact .inr ⟨g, off, cap, rfl, hm.ge, ⟨cur, (t.block g (heap_lt hb) (hn g rfl)).trans hb, hs⟩, hm.le, hm.cm, fun j u hu => t.cell (hm.cell j u hu) (hn g rfl)⟩
theorem Mid.mono {w : World} {base base' : Nat} {e : TypeId} {size n : Nat} {v : Value} {xs : List Value} (h : Mid w base e size v n xs) (hb : base' ≤ base) : Mid w base' e size v n xs := by
  refine ⟨h.1, ?_⟩
  rcases h.2 with h2 | ⟨g, off, cap, rfl, hm⟩
  · exact .inl h2
  · exact .inr ⟨g, off, cap, rfl, Nat.le_trans hb hm.ge, hm.blk, hm.le, hm.cm, hm.cell⟩
/-- Its shape. -/
theorem Mid.form {w : World} {base : Nat} {e : TypeId} {size n : Nat} {v : Value} {xs : List Value} (h : Mid w base e size v n xs) :
    ∃ A c, v = .slice A n c ∧ n ≤ c ∧ c ≤ maxLen ∧ (0 < n → ∃ g off, A = some ⟨g, off, none⟩ ∧ base ≤ g ∧ g < w.heap.size ∧ ∀ i u, xs[i]? = some u → w.cell? ⟨g, off + i, none⟩ = some u) := by
  rcases h.2 with ⟨rfl, rfl⟩ | ⟨g, off, cap, rfl, hm⟩
  · exact ⟨none, 0, rfl, Nat.le_refl _, by simp, fun h => absurd h (by omega)⟩
  · obtain ⟨cur, hb, _⟩ := hm.blk
    exact ⟨_, cap, rfl, hm.le, hm.cm, fun _ => ⟨g, off, rfl, hm.ge, heap_lt hb, hm.cell⟩⟩
theorem Mid.frozen {w : World} {base : Nat} {e : TypeId} {size n : Nat} {v : Value} {xs : List Value} (h : Mid w base e size v n xs) : ∀ j, v.ownBlock = some j → ∀ i, w.frozen? ⟨j, i, none⟩ = false := by
  intro j hj i
  obtain ⟨cur, hb⟩ := h.typ j hj
  exact frozen_heap hb
/-- All but the first m. -/
theorem Mid.drop {w : World} {base : Nat} {e : TypeId} {size n : Nat} {g off cap m : Nat} {xs : List Value} (h : Mid w base e size (.slice (some ⟨g, off, none⟩) n cap) n xs) (hm : m ≤ n) :
    Mid w base e size (.slice (some ⟨g, off + m * size, none⟩) (n - m) (cap - m)) (n - m) (xs.drop (m * size)) := by
  refine ⟨by rw [List.length_drop, h.1, Nat.sub_mul], ?_⟩
  rcases h.2 with ⟨h2, _⟩ | ⟨g', off', cap', hv, hh⟩
  · cases h2
  · injection hv with h1 h2 h3
    injection h1 with h1
    injection h1 with h1 h4 _
    subst h1 h3 h4
    obtain ⟨cur, hb, hs⟩ := hh.blk
    have hle := hh.le
    refine .inr ⟨_, _, _, rfl, hh.ge, ⟨cur, hb, ?_⟩, by omega, by have := hh.cm; omega, fun j u hu => ?_⟩
    · rw [Nat.sub_mul]
      have : m * size ≤ cap * size := Nat.mul_le_mul_right _ (by omega)
      omega
    · rw [List.getElem?_drop] at hu
      have := hh.cell _ u hu
      rwa [← Nat.add_assoc] at this
theorem Mid.empty {w : World} {base : Nat} {e : TypeId} {size n : Nat} {g off cap : Nat} {xs : List Value} (h : Mid w base e size (.slice (some ⟨g, off, none⟩) n cap) n xs) :
    Mid w base e size (.slice (some ⟨g, off, none⟩) 0 0) 0 [] := by
  refine ⟨by simp, ?_⟩
  rcases h.2 with ⟨h2, _⟩ | ⟨g', off', cap', hv, hh⟩
  · cases h2
  · injection hv with h1 h2 h3
    injection h1 with h1
    injection h1 with h1 h4 _
    subst h1 h3 h4
    obtain ⟨cur, hb, hs⟩ := hh.blk
    exact .inr ⟨_, _, _, rfl, hh.ge, ⟨cur, hb, by omega⟩, by omega, by simp, fun j u hu => by simp at hu⟩

/-- 'append(v, news...)'. -/
theorem run_append_mid {P : Program} (W : World) (base : Nat) (t ty e : TypeId) (z : Value) (size bytes : Nat)
    (ht : P.underlying t = some (.slice e)) (hinfo : (P.info? e).map (fun i => (i.zero, i.size, i.bytes)) = some (some z, size, bytes)) (hz : z.cells.size = size) (h0 : 0 < size)
    (v : Value) (n : Nat) (xs : List Value) (HO : Mid W base e size v n xs)
    (ad : Addr) (m c : Nat) (news : List Value) (hm : 0 < m) (hn : news.length = m * size) (hc : ∀ j u, news[j]? = some u → W.cell? (ad.add j) = some u) (h1c : ∀ u ∈ news, u.oneCell' = true)
    (hbase : base ≤ W.heap.size) (b1 : n + m ≤ maxLen) (b2 : (n + m) * bytes ≤ 140737488355328) :
    ∃ g off c1 w1, (Builtin.append_ #[t, t] ty #[v, .slice (some ad) m c]).run P W = .ok (.slice (some ⟨g, off, none⟩) (n + m) c1) w1 ∧
      Mid w1 base e size (.slice (some ⟨g, off, none⟩) (n + m) c1) (n + m) (xs ++ news) ∧ Turn (fun j => v.ownBlock = some j) W w1 ∧ (v.ownBlock = some g ∨ W.heap.size ≤ g) := by
  obtain ⟨i0, hi, hzz⟩ := Option.map_eq_some_iff.1 hinfo
  simp only [Prod.mk.injEq] at hzz
  obtain ⟨hz0, hz1, hz2⟩ := hzz
  have hgrown : ∀ v' w' v0, (Builtin.append_ #[t, t] ty #[v0, .slice (some ad) m c]).run P W = .ok v' w' → w'.ownsRow W.heap.size e size v' (n + m) (xs ++ news) → W.grownBy w' none → ∃ g off c1 w1, (Builtin.append_ #[t, t] ty #[v0, .slice (some ad) m c]).run P W = .ok (.slice (some ⟨g, off, none⟩) (n + m) c1) w1 ∧
      Mid w1 base e size (.slice (some ⟨g, off, none⟩) (n + m) c1) (n + m) (xs ++ news) ∧ Turn (fun j => v.ownBlock = some j) W w1 ∧ (v.ownBlock = some g ∨ W.heap.size ≤ g) := by
    intro v' w' v0 hr h2 h3
    rcases h2.2 with ⟨_, h4⟩ | ⟨g, cap, cur, rfl, hg, _⟩
    · omega
    · exact ⟨g, 0, cap, w', hr, (Mid.of_own h2).mono hbase, Turn.of_grownBy h3 (fun k e => by cases e), .inr hg⟩
  rcases HO.2 with ⟨rfl, rfl⟩ | ⟨g, off, cap, rfl, hh⟩
  · obtain rfl : xs = [] := List.eq_nil_of_length_eq_zero (by simpa using HO.1)
    obtain ⟨v', w', hrun, r1, r2, _⟩ := run_append_own (P := P) W W.heap.size t ty e i0 z size bytes ht hi hz0 hz1 hz2 hz h0 (.slice none 0 0) 0 [] (World.ownsRow_nil W _ e size) ad m c news hn hc h1c b1 b2 (Nat.le_refl _)
    exact hgrown _ _ _ hrun r1 r2
  · obtain ⟨cur, hb, hsz⟩ := hh.blk
    by_cases hr : n + m ≤ cap
    · have hle : off + n * size + news.length ≤ cur.size := by
        have h1 : (n + m) * size ≤ cap * size := Nat.mul_le_mul_right _ hr
        rw [Nat.add_mul] at h1
        rw [hn]; omega
      subst hz1
      have hrun := run_append_room_cells (P := P) W t ty e i0 ht hi g off n cap ad m c news hn hc h1c hr (fun j hj => by rw [cell_heap hb, Array.getElem?_eq_getElem (by omega)]; rfl) (fun j hj => frozen_heap hb)
      obtain ⟨cs', hb', hs'⟩ := heap_setCells g news (off + n * i0.size) W cur hb
      refine ⟨g, off, cap, _, hrun, ⟨?_, .inr ⟨g, off, cap, rfl, hh.ge, ⟨cs', hb', by omega⟩, hr, hh.cm, fun j u hu => ?_⟩⟩, Turn.setCells (S := fun j => (Value.slice (some ⟨g, off, none⟩) n cap).ownBlock = some j) g rfl news _ W, .inl rfl⟩
      · rw [List.length_append, HO.1, hn, Nat.add_mul]
      · by_cases hj : j < xs.length
        · rw [List.getElem?_append_left hj] at hu
          rw [World.cell?_setCells_out g news _ W _ (fun _ _ => .inl (by have := HO.1; show off + j < off + n * i0.size; omega))]
          exact hh.cell j u hu
        · rw [List.getElem?_append_right (by omega)] at hu
          obtain ⟨hj1, hj2⟩ := List.getElem?_eq_some_iff.1 hu
          have := World.cell?_setCells_in g news (off + n * i0.size) W (fun j hj => by rw [cell_heap hb, Array.getElem?_eq_getElem (by omega)]; rfl) (j - xs.length) hj1
          have hx1 := HO.1
          rw [show off + n * i0.size + (j - xs.length) = off + j by omega] at this
          rw [this, hj2]
    · obtain ⟨v', w', hrun, r1, r2⟩ := run_append_arg_grows (P := P) W t ty e i0 z size bytes ht hi hz0 hz1 hz2 hz h0 ⟨g, off, none⟩ n cap xs HO.1 (fun j u hj => by rw [Addr.add_lit]; exact hh.cell j u hj) ad m c news hn hc (by omega) b1 b2
      exact hgrown _ _ _ hrun r1 r2

theorem wp_append_mid {P : Program} {ops : Array Oper} {rest : List Oper} {o : Oper} {a : Act} {Q : Exit → Act → World → Prop} {W : World} (base : Nat) (hgd : o.guard = none) (s x : Operand) (t e : TypeId) (z : Value) (size bytes : Nat)
    (ho : o.op = .call { callee := .builtin .append, args := #[s, x], argTypes := #[t, t] })
    (ht : P.underlying t = some (.slice e)) (hinfo : (P.info? e).map (fun i => (i.zero, i.size, i.bytes)) = some (some z, size, bytes)) (hz : z.cells.size = size) (h0 : 0 < size)
    (v : Value) (n : Nat) (xs : List Value) (hs : a.eval s = v) (HO : Mid W base e size v n xs)
    (ad : Addr) (m c : Nat) (news : List Value) (hx : a.eval x = .slice (some ad) m c) (hm : 0 < m) (hn : news.length = m * size) (hc : ∀ j u, news[j]? = some u → W.cell? (ad.add j) = some u) (h1c : ∀ u ∈ news, u.oneCell' = true)
    (hbase : base ≤ W.heap.size) (b1 : n + m ≤ maxLen) (b2 : (n + m) * bytes ≤ 140737488355328)
    (K : ∀ g off c1 w1, Mid w1 base e size (.slice (some ⟨g, off, none⟩) (n + m) c1) (n + m) (xs ++ news) → Turn (fun j => v.ownBlock = some j) W w1 → (v.ownBlock = some g ∨ W.heap.size ≤ g) → wpList P ops Q rest (a.put o.dst (.slice (some ⟨g, off, none⟩) (n + m) c1)) w1) :
    wpList P ops Q (o :: rest) a W := by
  refine wpList_plain hgd fun K' hK' => ?_
  obtain ⟨g, off, c1, w1, hrun, r1, r2, r3⟩ := run_append_mid W base t o.type e z size bytes ht hinfo hz h0 v n xs HO ad m c news hm hn hc h1c hbase b1 b2
  unfold Oper.wp
  simp [execOp, ho, resolve, invoke, builtin, hs, hx, hrun, Result.andThen]
  exact hK' _ _ (K g off c1 w1 r1 r2 r3)
theorem step_append_mid {P : Program} {ops : Array Oper} {o : Oper} {a : Act} {K : Act → World → Prop} {Q : Exit → Act → World → Prop} {E : Prop} {W : World} (base : Nat) (hgd : o.guard = none) (s x : Operand) (t e : TypeId) (z : Value) (size bytes : Nat)
    (ho : o.op = .call { callee := .builtin .append, args := #[s, x], argTypes := #[t, t] })
    (ht : P.underlying t = some (.slice e)) (hinfo : (P.info? e).map (fun i => (i.zero, i.size, i.bytes)) = some (some z, size, bytes)) (hz : z.cells.size = size) (h0 : 0 < size)
    (v : Value) (n : Nat) (xs : List Value) (hs : a.eval s = v) (HO : Mid W base e size v n xs)
    (ad : Addr) (m c : Nat) (news : List Value) (hx : a.eval x = .slice (some ad) m c) (hm : 0 < m) (hn : news.length = m * size) (hc : ∀ j u, news[j]? = some u → W.cell? (ad.add j) = some u) (h1c : ∀ u ∈ news, u.oneCell' = true)
    (hbase : base ≤ W.heap.size) (b1 : n + m ≤ maxLen) (b2 : (n + m) * bytes ≤ 140737488355328)
    (hK : ∀ g off c1 w1, Mid w1 base e size (.slice (some ⟨g, off, none⟩) (n + m) c1) (n + m) (xs ++ news) → Turn (fun j => v.ownBlock = some j) W w1 → (v.ownBlock = some g ∨ W.heap.size ≤ g) → K (a.put o.dst (.slice (some ⟨g, off, none⟩) (n + m) c1)) w1) :
    if Region.wanted o (yielded ops a.tmps) = true then Oper.wp P o a W K Q else E := by
  have hw : Region.wanted o (yielded ops a.tmps) = true := by simp [Region.wanted, hgd]
  rw [if_pos hw]
  obtain ⟨g, off, c1, w1, hrun, r1, r2, r3⟩ := run_append_mid W base t o.type e z size bytes ht hinfo hz h0 v n xs HO ad m c news hm hn hc h1c hbase b1 b2
  unfold Oper.wp
  simp [execOp, ho, resolve, invoke, builtin, hs, hx, hrun, Result.andThen]
  exact hK g off c1 w1 r1 r2 r3
theorem lit_cells (W : World) (t : TypeId) (vs : List Value) (cs : Array Value) (hcs : cs = vs.toArray) (j : Nat) (u : Value) (hu : vs[j]? = some u) : (W.alloc (.cells cs t)).cell? ((⟨W.heap.size, 0, none⟩ : Addr).add j) = some u := by
  rw [add_plain0, cell_heap (heap_new _ _), hcs]
  simpa using hu
theorem turn_da (w : World) (n : Nat) (o : Obj) : Turn (fun _ => False) w ((w.drewN n).alloc o) := (Turn.drewN (Turn.refl _ _) _).trans (Turn.alloc _ _)
end Snd
end Go.Proofs.YtonemmdipmohgaaDoor

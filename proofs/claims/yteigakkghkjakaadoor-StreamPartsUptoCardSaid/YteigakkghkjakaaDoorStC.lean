/- stream: rows of packets; what all bytes are cut into. -/
import Derived.Test.YteigakkghkjakaaDoorStB
namespace Go.Proofs.YteigakkghkjakaaDoor
open Go.RowKit Go.ChangeShapes
set_option linter.unusedVariables false
set_option linter.unusedSimpArgs false
namespace Str
open Utf (nums nums_length nums_bytes IsStr nums_str)
open Var (BT info_byte digs digs_length tell RetTell)
open Pk

/-- A packet that was read: its fields, its codes, its filters. -/
abbrev PkX := Pkt × List Int × List (ByteArray × Int)
def pkCells (ps : List PkX) : List Value := (ps.map fun x => x.1.cells.toList).flatten
theorem pkCells_snoc (ps : List PkX) (x : PkX) : pkCells (ps ++ [x]) = pkCells ps ++ x.1.cells.toList := by simp [pkCells]
theorem info_pkt : (Tryd.prog.info? PT).map (fun i => (i.zero, i.size, i.bytes)) = some (some (.agg zeroP.cells), 18, 200) := by kernel_rfl

theorem own_ne {w : World} {base base' : Nat} {e e' : TypeId} {size size' n n' : Nat} {v v' : Value} {xs xs' : List Value} (h : w.ownsRow base e size v n xs) (h' : w.ownsRow base' e' size' v' n' xs') (he : e ≠ e') : ∀ j, v.ownBlock = some j → v'.ownBlock ≠ some j := by
  intro j hj hj'
  rcases h.2 with ⟨hv, _⟩ | ⟨g, cap, cur, hv, _, hg, _⟩
  · subst hv; cases hj
  · rcases h'.2 with ⟨hv', _⟩ | ⟨g', cap', cur', hv', _, hg', _⟩
    · subst hv'; cases hj'
    · subst hv hv'
      cases hj
      cases hj'
      rw [hg] at hg'
      injection hg' with hg'
      injection hg' with _ hg' _
      exact he hg'

/-- A row of the call's own, of packets whose rows are the call's own. -/
structure PkRow (w : World) (base : Nat) (v : Value) (ps : List PkX) : Prop where
  row : w.ownsRow base PT 18 v ps.length (pkCells ps)
  codes : ∀ x ∈ ps, OwnInts w base 3 .i64 x.1.codes x.2.1
  subs : ∀ x ∈ ps, w.ownsRow base 76 2 x.1.subs x.2.2.length (subCells x.2.2)
theorem PkRow.nil (w : World) (base : Nat) : PkRow w base (.slice none 0 0) [] := ⟨⟨rfl, .inl ⟨rfl, rfl⟩⟩, by simp, by simp⟩
theorem PkRow.turn {w w' : World} {base : Nat} {v : Value} {ps : List PkX} {S : Nat → Prop} (h : PkRow w base v ps) (t : Turn S w w') (hn : ∀ k, base ≤ k → k < w.heap.size → ¬ S k) : PkRow w' base v ps :=
  ⟨own_turn h.row t (fun j hj => hn j (own_block_ge h.row j hj).1 (own_block_ge h.row j hj).2), fun x hx => (h.codes x hx).turn t (fun j hj => hn j (own_block_ge (h.codes x hx) j hj).1 (own_block_ge (h.codes x hx) j hj).2), fun x hx => own_turn (h.subs x hx) t (fun j hj => hn j (own_block_ge (h.subs x hx) j hj).1 (own_block_ge (h.subs x hx) j hj).2)⟩
theorem PkRow.keep {w w' : World} {base : Nat} {v : Value} {ps : List PkX} (h : PkRow w base v ps) (b : Below w.heap.size w w') : PkRow w' base v ps := h.turn (Turn.of_below (S := fun _ => False) b) (fun _ _ _ h => h)

theorem PkRow.low {w : World} {base base' : Nat} {v : Value} {ps : List PkX} (h : PkRow w base v ps) (hb : base' ≤ base) : PkRow w base' v ps :=
  ⟨own_mono h.row hb, fun x hx => oi_mono (h.codes x hx) hb rfl, fun x hx => own_mono (h.subs x hx) hb⟩

theorem kBuildS {W : World} (p : Pkt) : (Instr.buildSlice 50 1 #[(0, .agg p.cells)]).run Tryd.prog W = .ok (.slice (some ⟨W.heap.size, 0, none⟩) 1 1) (W.alloc (.cells p.cells PT)) := by kernel_rfl
theorem st_any {P : Program} {ops : Array Oper} {Q : Exit → Act → World → Prop} {a : Act} {w w' : World} {rest : List Oper} {o : Oper} (v : Value) (hw : Region.wanted o (yielded ops a.tmps) = true)
    (hr : (execOp a.eval o).run P w = .ok (.value v) w') (h : wpList P ops Q rest (a.put o.dst v) w') : wpList P ops Q (o :: rest) a w := by
  unfold wpList
  rw [if_pos hw]
  left
  unfold Oper.wp
  rw [hr]
  exact h
theorem rBuildS {P : Program} {ev : Operand → Value} {o : Oper} {W W' : World} {v : Value} {t : TypeId} {n i : Nat} {x : Operand} (ho : o.op = .buildSlice t n #[(i, x)]) (hk : (Instr.buildSlice t n #[(i, ev x)]).run P W = .ok v W') : (execOp ev o).run P W = .ok (.value v) W' := by
  unfold execOp
  rw [ho]
  show ((Instr.buildSlice t n (#[(i, x)].map fun (i, x) => (i, ev x))) >>= fun v => pure (Next.value v)).run P W = _
  rw [show (#[(i, x)].map fun (i, x) => (i, ev x)) = #[(i, ev x)] by simp, Sem.run_bind, hk]; rfl

/-- 'append(out, p)'. -/
theorem wp_append_pkt {ops : Array Oper} {rest : List Oper} {o : Oper} {a : Act} {Q : Exit → Act → World → Prop} {W : World} (base : Nat) (hgd : o.guard = none) (s x : Operand)
    (ho : o.op = .call { callee := .builtin .append, args := #[s, x], argTypes := #[50, 50] })
    (v : Value) (ps : List PkX) (p : PkX) (b : Nat) (hs : a.eval s = v) (hx : a.eval x = .slice (some ⟨b, 0, none⟩) 1 1) (hb : W.heap[b]? = some (.cells p.1.cells PT (0, 0)))
    (HO : PkRow W base v ps) (hpc : OwnInts W base 3 .i64 p.1.codes p.2.1) (hps : W.ownsRow base 76 2 p.1.subs p.2.2.length (subCells p.2.2)) (hbase : base ≤ W.heap.size) (hn : (ps.length + 1) * 200 ≤ 140737488355328)
    (K : ∀ A1 n1 c1 w1, PkRow w1 base (.slice A1 n1 c1) (ps ++ [p]) → Turn (fun j => v.ownBlock = some j) W w1 → wpList Tryd.prog ops Q rest (a.put o.dst (.slice A1 n1 c1)) w1) :
    wpList Tryd.prog ops Q (o :: rest) a W := by
  obtain ⟨i0, hi, hzz⟩ := Option.map_eq_some_iff.1 info_pkt
  simp only [Prod.mk.injEq] at hzz
  obtain ⟨hz0, hz1, hz2⟩ := hzz
  have hpc1 : p.1.codes.oneCell' = true := by obtain ⟨A', c', hv, _⟩ := hpc.form; rw [hv]; exact rfl
  have hps1 : p.1.subs.oneCell' = true := by obtain ⟨A', c', hv, _⟩ := own_form hps; rw [hv]; exact rfl
  refine wpList_append_own W hgd s x 50 ho base PT i0 (.agg zeroP.cells) 18 200 Tryd.underlying50 hi hz0 hz1 hz2 rfl (by omega) v ps.length _ hs HO.row ⟨b, 0, none⟩ 1 1 p.1.cells.toList hx rfl
    (fun j u hu => ?_) (by have a := hpc1; have b := hps1; simp [Value.oneCell'] at a b; simp [Pkt.cells, Value.oneCell']; exact ⟨a, b⟩) (by simp only [maxLen]; omega) hn hbase ?_
  · rw [add_plain0, cell_heap hb]
    simpa using hu
  · intro v' w' h2 h3 _
    have h4 : w'.ownsRow base PT 18 v' (ps ++ [p]).length (pkCells (ps ++ [p])) := by
      rw [pkCells_snoc, List.length_append]; exact h2
    obtain ⟨A1, c1, hv, _⟩ := own_form h4
    subst hv
    have t : Turn (fun j => v.ownBlock = some j) W w' := Turn.of_grownBy h3 (fun k e => e)
    have hci : ∀ x : PkX, OwnInts W base 3 .i64 x.1.codes x.2.1 → OwnInts w' base 3 .i64 x.1.codes x.2.1 := fun x h => h.turn t (fun j hj e => own_ne HO.row h (by decide) j e hj)
    have hsi : ∀ x : PkX, W.ownsRow base 76 2 x.1.subs x.2.2.length (subCells x.2.2) → w'.ownsRow base 76 2 x.1.subs x.2.2.length (subCells x.2.2) := fun x h => own_turn h t (fun j hj e => own_ne HO.row h (by decide) j e hj)
    refine K A1 _ c1 w' ⟨h4, fun x hx => ?_, fun x hx => ?_⟩ t
    · rcases List.mem_append.1 hx with h | h
      · exact hci x (HO.codes x h)
      · rw [List.mem_singleton.1 h]; exact hci p hpc
    · rcases List.mem_append.1 hx with h | h
      · exact hsi x (HO.subs x h)
      · rw [List.mem_singleton.1 h]; exact hsi p hps

/-! What all bytes are cut into. -/
theorem step_inl {most : Int} {R : List Int} {n : Nat} (hb : ∀ x ∈ R, 0 ≤ x ∧ x < 256) (h : stepS most R IsP = .inl n) : 2 ≤ n ∧ n ≤ R.length ∧ (n : Int) ≤ most ∧ IsP (R.take n) := by
  unfold stepS at h
  rcases Var.tell_inv 3 true R 1 0 1 hb with ⟨m, h0, hm', _, ht, hk, _⟩ | ⟨e, he, ht⟩
  · have ht' : tell 4 true R 1 0 1 = (0 + 1 * m, ((1 : Nat) : Int) + (digs 3 m).length, 0) := ht
    have h9 := digs_length 3 m
    rw [ht'] at h
    simp only at h
    rw [if_neg (by decide), if_neg (by decide)] at h
    split at h
    · cases h
    · split at h
      · cases h
      · split at h
        · rename_i a b c
          injection h with h
          rw [h] at c
          exact ⟨by omega, by omega, by omega, c⟩
        · cases h
  · have ht' : tell 4 true R 1 0 1 = (0, 0, e) := ht
    rw [ht'] at h
    simp only at h
    rcases he with rfl | rfl
    · rw [if_pos rfl] at h; cases h
    · rw [if_neg (by decide), if_pos (by decide)] at h; cases h

noncomputable def cuts (most : Int) : Nat → List Int → List (List Int) × Int × List Int
  | 0, R => ([], 0, R)
  | f + 1, R => match stepS most R IsP with
    | .inl n => (R.take n :: (cuts most f (R.drop n)).1, (cuts most f (R.drop n)).2)
    | .inr c => ([], c, if c = 0 then R else [])
theorem cuts_inl {most : Int} {f n : Nat} {R : List Int} (h : stepS most R IsP = .inl n) : cuts most (f + 1) R = (R.take n :: (cuts most f (R.drop n)).1, (cuts most f (R.drop n)).2) := by rw [cuts, h]
theorem cuts_inr {most : Int} {f : Nat} {R : List Int} {c : Int} (h : stepS most R IsP = .inr c) : cuts most (f + 1) R = ([], c, if c = 0 then R else []) := by rw [cuts, h]
/-- Packets told, and their bytes. -/
def Told : List (List Int) → List PkX → Prop
  | [], [] => True
  | L :: Ls, x :: ps => IsPkt L x.1 x.2.1 x.2.2 ∧ Told Ls ps
  | _, _ => False
theorem told_snoc : ∀ {Ls : List (List Int)} {ps : List PkX} {L : List Int} {x : PkX}, Told Ls ps → IsPkt L x.1 x.2.1 x.2.2 → Told (Ls ++ [L]) (ps ++ [x])
  | [], [], _, _, _, hx => ⟨hx, trivial⟩
  | _ :: _, _ :: _, _, _, h, hx => ⟨h.1, told_snoc h.2 hx⟩
  | [], _ :: _, _, _, h, _ => h.elim
  | _ :: _, [], _, _, h, _ => h.elim
end Str
end Go.Proofs.YteigakkghkjakaaDoor

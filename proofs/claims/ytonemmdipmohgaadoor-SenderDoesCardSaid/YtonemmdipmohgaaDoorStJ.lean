/- stream: slices.Concat; New, fail, Left. PacketAgain: what is read is laid down as the same bytes. stream: the object; New, fail, Left, next. stream: rows of packets; what all bytes are cut into. stream: Feed. stream: the document's examples; StreamNil. stream: what is told and what is left are all bytes that came. stream: two rows of packets; bytes parted. stream: Rows; rows of packets joined. -/
import Derived.Test.YtonemmdipmohgaaDoorPlW
import Derived.Lib.AppendZeros
import Derived.Test.YtonemmdipmohgaaDoorPlO
import Derived.OpenShut
namespace Go.Proofs.YtonemmdipmohgaaDoor
open Go.RowKit Go.ChangeShapes
set_option linter.unusedVariables false
set_option linter.unusedSimpArgs false
namespace Str
open Utf (nums nums_length nums_bytes IsStr nums_str)
open Var (BT info_byte digs digs_length tell RetTell)
open Pk

/-- A row of two rows of bytes. -/
def TwoAt (w : World) (b : Nat) (A : Option Addr) (n c : Nat) (B : Option Addr) (m d : Nat) : Prop := w.cell? ⟨b, 0, none⟩ = some (.slice A n c) ∧ w.cell? ⟨b, 1, none⟩ = some (.slice B m d)

end Str
end Go.Proofs.YtonemmdipmohgaaDoor

namespace Go.Proofs.YtonemmdipmohgaaDoor
open Go.RowKit Go.ChangeShapes
set_option linter.unusedVariables false
set_option linter.unusedSimpArgs false
namespace Pk
open Utf (nums nums_length nums_bytes IsStr nums_str)
open Var (BT)

theorem u8_range {x : Int} (h : (Lit.int .u8 x).wf = true) : 0 ≤ x ∧ x < 256 := by have := bounds_u8 h; omega
theorem row_reads8 {w : World} {a : Option Addr} {len cap : Nat} {zs : List Int} (h : IsRow .u8 w a len cap zs) :
    (zs.take len).length = len ∧ Reads .u8 w a (zs.take len) ∧ (∀ x ∈ zs.take len, 0 ≤ x ∧ x < 256) ∧ len ≤ cap := by
  rcases h with ⟨rfl, rfl, rfl, rfl⟩ | ⟨x, rfl, h1, h2, h3, h4, h5⟩
  · exact ⟨rfl, fun h => absurd h (by simp), by simp, Nat.le_refl _⟩
  · have hl : (zs.take len).length = len := by simp; omega
    refine ⟨hl, fun _ => ⟨x, rfl, fun i hi => ?_⟩, fun y hy => u8_range (h5 y (List.mem_of_mem_take hy)), h1⟩
    rw [hl] at hi
    rw [lat_take _ _ _ hi]
    exact h4 i (by omega)

end Pk
end Go.Proofs.YtonemmdipmohgaaDoor

namespace Go.Proofs.YtonemmdipmohgaaDoor
open Go.RowKit Go.ChangeShapes
set_option linter.unusedVariables false
set_option linter.unusedSimpArgs false
namespace Str
open Utf (nums nums_length nums_bytes IsStr nums_str)
open Var (BT info_byte digs digs_length tell RetTell)
open Pk

def stCells (most br : Int) (A : Option Addr) (n c : Nat) : Array Value := #[.int .i64 most, .slice A n c, .int .i64 br]
/-- What the next packet's bytes are, of those that came: how many; or none, and what broke the stream (0: nothing). -/
def stepS (most : Int) (R : List Int) (ok : List Int → Prop) [DecidablePred ok] : Sum Nat Int :=
  match tell 4 true R 1 0 1 with
  | (n, k, er) =>
    if er = 4 then .inr 100 else if er ≠ 0 then .inr 0 else if most < k + n then .inr 101 else if (R.length : Int) < k + n then .inr 0
    else if ok (R.take (k + n).toNat) then .inl (k + n).toNat else .inr 100
/-- The bytes are a packet's. -/
def IsP (L : List Int) : Prop := ∃ p C D, IsPkt L p C D
noncomputable instance : DecidablePred IsP := fun _ => Classical.propDecidable _

end Str
end Go.Proofs.YtonemmdipmohgaaDoor

namespace Go.Proofs.YtonemmdipmohgaaDoor
open Go.RowKit Go.ChangeShapes
set_option linter.unusedVariables false
set_option linter.unusedSimpArgs false
namespace Str
open Utf (nums nums_length nums_bytes IsStr nums_str)
open Var (BT info_byte digs digs_length tell RetTell)
open Pk

/-- A packet that was read: its fields, its codes, its filters. -/
abbrev PkX := Pkt × List Int × List (ByteArray × Int)
def pkCells (ps : List PkX) : List Value := (ps.map fun x => x.1.cells.toList).flatten
theorem pkCells_snoc (ps : List PkX) (x : PkX) : pkCells (ps ++ [x]) = pkCells ps ++ x.1.cells.toList := by simp [pkCells]
theorem info_pkt : (Tryd.prog.info? PT).map (fun i => (i.zero, i.size, i.bytes)) = some (some (.agg zeroP.cells), 18, 200) := by kernel_rfl

theorem own_ne {w : World} {base base' : Nat} {e e' : TypeId} {size size' n n' : Nat} {v v' : Value} {xs xs' : List Value} (h : w.ownsRow base e size v n xs) (h' : w.ownsRow base' e' size' v' n' xs') (he : e ≠ e') : ∀ j, v.ownBlock = some j → v'.ownBlock ≠ some j := by
  intro j hj hj'
  rcases h.2 with ⟨hv, _⟩ | ⟨g, cap, cur, hv, _, hg, _⟩
  · subst hv; cases hj
  · rcases h'.2 with ⟨hv', _⟩ | ⟨g', cap', cur', hv', _, hg', _⟩
    · subst hv'; cases hj'
    · subst hv hv'
      cases hj
      cases hj'
      rw [hg] at hg'
      injection hg' with hg'
      injection hg' with _ hg' _
      exact he hg'

/-- A row of the call's own, of packets whose rows are the call's own. -/
structure PkRow (w : World) (base : Nat) (v : Value) (ps : List PkX) : Prop where
  row : w.ownsRow base PT 18 v ps.length (pkCells ps)
  codes : ∀ x ∈ ps, OwnInts w base 3 .i64 x.1.codes x.2.1
  subs : ∀ x ∈ ps, w.ownsRow base 114 2 x.1.subs x.2.2.length (subCells x.2.2)
theorem PkRow.nil (w : World) (base : Nat) : PkRow w base (.slice none 0 0) [] := ⟨⟨rfl, .inl ⟨rfl, rfl⟩⟩, by simp, by simp⟩
theorem PkRow.turn {w w' : World} {base : Nat} {v : Value} {ps : List PkX} {S : Nat → Prop} (h : PkRow w base v ps) (t : Turn S w w') (hn : ∀ k, base ≤ k → k < w.heap.size → ¬ S k) : PkRow w' base v ps :=
  ⟨own_turn h.row t (fun j hj => hn j (own_block_ge h.row j hj).1 (own_block_ge h.row j hj).2), fun x hx => (h.codes x hx).turn t (fun j hj => hn j (own_block_ge (h.codes x hx) j hj).1 (own_block_ge (h.codes x hx) j hj).2), fun x hx => own_turn (h.subs x hx) t (fun j hj => hn j (own_block_ge (h.subs x hx) j hj).1 (own_block_ge (h.subs x hx) j hj).2)⟩
theorem PkRow.keep {w w' : World} {base : Nat} {v : Value} {ps : List PkX} (h : PkRow w base v ps) (b : Below w.heap.size w w') : PkRow w' base v ps := h.turn (Turn.of_below (S := fun _ => False) b) (fun _ _ _ h => h)

theorem PkRow.low {w : World} {base base' : Nat} {v : Value} {ps : List PkX} (h : PkRow w base v ps) (hb : base' ≤ base) : PkRow w base' v ps :=
  ⟨own_mono h.row hb, fun x hx => oi_mono (h.codes x hx) hb rfl, fun x hx => own_mono (h.subs x hx) hb⟩

theorem kBuildS {W : World} (p : Pkt) : (Instr.buildSlice 22 1 #[(0, .agg p.cells)]).run Tryd.prog W = .ok (.slice (some ⟨W.heap.size, 0, none⟩) 1 1) (W.alloc (.cells p.cells PT)) := by kernel_rfl
theorem st_any {P : Program} {ops : Array Oper} {Q : Exit → Act → World → Prop} {a : Act} {w w' : World} {rest : List Oper} {o : Oper} (v : Value) (hw : Region.wanted o (yielded ops a.tmps) = true)
    (hr : (execOp a.eval o).run P w = .ok (.value v) w') (h : wpList P ops Q rest (a.put o.dst v) w') : wpList P ops Q (o :: rest) a w := by
  unfold wpList
  rw [if_pos hw]
  left
  unfold Oper.wp
  rw [hr]
  exact h
theorem rBuildS {P : Program} {ev : Operand → Value} {o : Oper} {W W' : World} {v : Value} {t : TypeId} {n i : Nat} {x : Operand} (ho : o.op = .buildSlice t n #[(i, x)]) (hk : (Instr.buildSlice t n #[(i, ev x)]).run P W = .ok v W') : (execOp ev o).run P W = .ok (.value v) W' := by
  unfold execOp
  rw [ho]
  show ((Instr.buildSlice t n (#[(i, x)].map fun (i, x) => (i, ev x))) >>= fun v => pure (Next.value v)).run P W = _
  rw [show (#[(i, x)].map fun (i, x) => (i, ev x)) = #[(i, ev x)] by simp, Sem.run_bind, hk]; rfl

/-- 'append(out, p)'. -/
theorem wp_append_pkt {ops : Array Oper} {rest : List Oper} {o : Oper} {a : Act} {Q : Exit → Act → World → Prop} {W : World} (base : Nat) (hgd : o.guard = none) (s x : Operand)
    (ho : o.op = .call { callee := .builtin .append, args := #[s, x], argTypes := #[22, 22] })
    (v : Value) (ps : List PkX) (p : PkX) (b : Nat) (hs : a.eval s = v) (hx : a.eval x = .slice (some ⟨b, 0, none⟩) 1 1) (hb : W.heap[b]? = some (.cells p.1.cells PT (0, 0)))
    (HO : PkRow W base v ps) (hpc : OwnInts W base 3 .i64 p.1.codes p.2.1) (hps : W.ownsRow base 114 2 p.1.subs p.2.2.length (subCells p.2.2)) (hbase : base ≤ W.heap.size) (hn : (ps.length + 1) * 200 ≤ 140737488355328)
    (K : ∀ A1 n1 c1 w1, PkRow w1 base (.slice A1 n1 c1) (ps ++ [p]) → Turn (fun j => v.ownBlock = some j) W w1 → wpList Tryd.prog ops Q rest (a.put o.dst (.slice A1 n1 c1)) w1) :
    wpList Tryd.prog ops Q (o :: rest) a W := by
  obtain ⟨i0, hi, hzz⟩ := Option.map_eq_some_iff.1 info_pkt
  simp only [Prod.mk.injEq] at hzz
  obtain ⟨hz0, hz1, hz2⟩ := hzz
  have hpc1 : p.1.codes.oneCell' = true := by obtain ⟨A', c', hv, _⟩ := hpc.form; rw [hv]; exact rfl
  have hps1 : p.1.subs.oneCell' = true := by obtain ⟨A', c', hv, _⟩ := own_form hps; rw [hv]; exact rfl
  refine wpList_append_own W hgd s x 22 ho base PT i0 (.agg zeroP.cells) 18 200 Tryd.underlying22 hi hz0 hz1 hz2 rfl (by omega) v ps.length _ hs HO.row ⟨b, 0, none⟩ 1 1 p.1.cells.toList hx rfl
    (fun j u hu => ?_) (by have a := hpc1; have b := hps1; simp [Value.oneCell'] at a b; simp [Pkt.cells, Value.oneCell']; exact ⟨a, b⟩) (by simp only [maxLen]; omega) hn hbase ?_
  · rw [add_plain0, cell_heap hb]
    simpa using hu
  · intro v' w' h2 h3 _
    have h4 : w'.ownsRow base PT 18 v' (ps ++ [p]).length (pkCells (ps ++ [p])) := by
      rw [pkCells_snoc, List.length_append]; exact h2
    obtain ⟨A1, c1, hv, _⟩ := own_form h4
    subst hv
    have t : Turn (fun j => v.ownBlock = some j) W w' := Turn.of_grownBy h3 (fun k e => e)
    have hci : ∀ x : PkX, OwnInts W base 3 .i64 x.1.codes x.2.1 → OwnInts w' base 3 .i64 x.1.codes x.2.1 := fun x h => h.turn t (fun j hj e => own_ne HO.row h (by decide) j e hj)
    have hsi : ∀ x : PkX, W.ownsRow base 114 2 x.1.subs x.2.2.length (subCells x.2.2) → w'.ownsRow base 114 2 x.1.subs x.2.2.length (subCells x.2.2) := fun x h => own_turn h t (fun j hj e => own_ne HO.row h (by decide) j e hj)
    refine K A1 _ c1 w' ⟨h4, fun x hx => ?_, fun x hx => ?_⟩ t
    · rcases List.mem_append.1 hx with h | h
      · exact hci x (HO.codes x h)
      · rw [List.mem_singleton.1 h]; exact hci p hpc
    · rcases List.mem_append.1 hx with h | h
      · exact hsi x (HO.subs x h)
      · rw [List.mem_singleton.1 h]; exact hsi p hps

/-! What all bytes are cut into. -/
theorem step_inl {most : Int} {R : List Int} {n : Nat} (hb : ∀ x ∈ R, 0 ≤ x ∧ x < 256) (h : stepS most R IsP = .inl n) : 2 ≤ n ∧ n ≤ R.length ∧ (n : Int) ≤ most ∧ IsP (R.take n) := by
  unfold stepS at h
  rcases Var.tell_inv 3 true R 1 0 1 hb with ⟨m, h0, hm', _, ht, hk, _⟩ | ⟨e, he, ht⟩
  · have ht' : tell 4 true R 1 0 1 = (0 + 1 * m, ((1 : Nat) : Int) + (digs 3 m).length, 0) := ht
    have h9 := digs_length 3 m
    rw [ht'] at h
    simp only at h
    rw [if_neg (by decide), if_neg (by decide)] at h
    split at h
    · cases h
    · split at h
      · cases h
      · split at h
        · rename_i a b c
          injection h with h
          rw [h] at c
          exact ⟨by omega, by omega, by omega, c⟩
        · cases h
  · have ht' : tell 4 true R 1 0 1 = (0, 0, e) := ht
    rw [ht'] at h
    simp only at h
    rcases he with rfl | rfl
    · rw [if_pos rfl] at h; cases h
    · rw [if_neg (by decide), if_pos (by decide)] at h; cases h

noncomputable def cuts (most : Int) : Nat → List Int → List (List Int) × Int × List Int
  | 0, R => ([], 0, R)
  | f + 1, R => match stepS most R IsP with
    | .inl n => (R.take n :: (cuts most f (R.drop n)).1, (cuts most f (R.drop n)).2)
    | .inr c => ([], c, if c = 0 then R else [])
theorem cuts_inl {most : Int} {f n : Nat} {R : List Int} (h : stepS most R IsP = .inl n) : cuts most (f + 1) R = (R.take n :: (cuts most f (R.drop n)).1, (cuts most f (R.drop n)).2) := by rw [cuts, h]
theorem cuts_inr {most : Int} {f : Nat} {R : List Int} {c : Int} (h : stepS most R IsP = .inr c) : cuts most (f + 1) R = ([], c, if c = 0 then R else []) := by rw [cuts, h]
/-- Packets told, and their bytes. -/
def Told : List (List Int) → List PkX → Prop
  | [], [] => True
  | L :: Ls, x :: ps => IsPkt L x.1 x.2.1 x.2.2 ∧ Told Ls ps
  | _, _ => False
theorem told_snoc : ∀ {Ls : List (List Int)} {ps : List PkX} {L : List Int} {x : PkX}, Told Ls ps → IsPkt L x.1 x.2.1 x.2.2 → Told (Ls ++ [L]) (ps ++ [x])
  | [], [], _, _, _, hx => ⟨hx, trivial⟩
  | _ :: _, _ :: _, _, _, h, hx => ⟨h.1, told_snoc h.2 hx⟩
  | [], _ :: _, _, _, h, _ => h.elim
  | _ :: _, [], _, _, h, _ => h.elim
end Str
end Go.Proofs.YtonemmdipmohgaaDoor

namespace Go.Proofs.YtonemmdipmohgaaDoor
open Go.RowKit Go.ChangeShapes
set_option linter.unusedVariables false
set_option linter.unusedSimpArgs false
namespace Str
open Utf (nums nums_length nums_bytes IsStr nums_str)
open Var (BT info_byte digs digs_length tell RetTell)
open Pk

end Str
end Go.Proofs.YtonemmdipmohgaaDoor

namespace Go.Proofs.YtonemmdipmohgaaDoor
open Go.RowKit Go.ChangeShapes
set_option linter.unusedVariables false
set_option linter.unusedSimpArgs false
namespace Str
open Utf (nums nums_length nums_bytes IsStr nums_str)
open Var (BT info_byte digs digs_length tell RetTell)
open Pk

theorem is_224 : IsPkt [224, 0] (typeP 14) [] [] := by
  refine ⟨⟨rfl, rfl⟩, ⟨⟨by decide, by decide, ⟨fun h => absurd h (by decide), fun h => absurd h (by decide), fun h => absurd h (by decide), fun _ h => absurd h (by decide), fun h => absurd h (by decide), fun h => absurd h (by decide)⟩, ?_⟩, by decide⟩, by decide⟩
  exact (zero_iff _ _ _).2 ⟨⟨rfl, rfl, rfl, rfl⟩, rfl, rfl, rfl, rfl, ⟨rfl, rfl, rfl⟩, rfl, rfl, rfl, rfl, rfl, rfl⟩
theorem step_more {most : Int} {R : List Int} (h : tell 4 true R 1 0 1 = (0, 0, 7)) : stepS most R IsP = .inr 0 := by
  unfold stepS; rw [h]; rfl
theorem step_big {most : Int} {R : List Int} {n k : Int} (h : tell 4 true R 1 0 1 = (n, k, 0)) (hb : most < k + n) : stepS most R IsP = .inr 101 := by
  unfold stepS; rw [h]; simp only; rw [if_neg (by decide), if_neg (by decide), if_pos hb]
theorem step_pkt {most : Int} {R : List Int} {n k : Int} (h : tell 4 true R 1 0 1 = (n, k, 0)) (hb : ¬ most < k + n) (hl : ¬ (R.length : Int) < k + n) (hp : IsP (R.take (k + n).toNat)) : stepS most R IsP = .inl (k + n).toNat := by
  unfold stepS; rw [h]; simp only; rw [if_neg (by decide), if_neg (by decide), if_neg hb, if_neg hl, if_pos hp]
theorem step_bad {most : Int} {R : List Int} {n k : Int} (h : tell 4 true R 1 0 1 = (n, k, 0)) (hb : ¬ most < k + n) (hl : ¬ (R.length : Int) < k + n) (hp : ¬ IsP (R.take (k + n).toNat)) : stepS most R IsP = .inr 100 := by
  unfold stepS; rw [h]; simp only; rw [if_neg (by decide), if_neg (by decide), if_neg hb, if_neg hl, if_neg hp]
theorem ip1 : IsP [192, 0] := ⟨_, _, _, is_ping⟩
theorem ip2 : IsP [224, 0] := ⟨_, _, _, is_224⟩
theorem ip3 : ¬ IsP [193, 0] := fun ⟨p, C, D, h⟩ => not_193 p C D h
theorem c1 : cuts 100 2 [192] = ([], 0, [192]) := by rw [cuts_inr (step_more (by decide))]; rfl
theorem c2 : cuts 100 5 [192, 0, 224, 0] = ([[192, 0], [224, 0]], 0, []) := by
  have h1 : stepS 100 [192, 0, 224, 0] IsP = .inl 2 := step_pkt (n := 0) (k := 2) (by decide) (by decide) (by decide) ip1
  have h2 : stepS 100 [224, 0] IsP = .inl 2 := step_pkt (n := 0) (k := 2) (by decide) (by decide) (by decide) ip2
  have h3 : stepS 100 [] IsP = .inr 0 := step_more (by decide)
  rw [cuts_inl h1]
  show (([192, 0] : List Int) :: (cuts 100 4 [224, 0]).1, (cuts 100 4 [224, 0]).2) = _
  rw [cuts_inl h2]
  show (([192, 0] : List Int) :: [224, 0] :: (cuts 100 3 []).1, (cuts 100 3 []).2) = _
  rw [cuts_inr h3]; rfl
theorem c3 : cuts 100 3 [48, 99] = ([], 101, []) := by
  rw [cuts_inr (step_big (n := 99) (k := 2) (by decide) (by decide))]; rfl
theorem c4 : cuts 100 5 [192, 0, 193, 0] = ([[192, 0]], 100, []) := by
  have h1 : stepS 100 [192, 0, 193, 0] IsP = .inl 2 := step_pkt (n := 0) (k := 2) (by decide) (by decide) (by decide) ip1
  have h2 : stepS 100 [193, 0] IsP = .inr 100 := step_bad (n := 0) (k := 2) (by decide) (by decide) (by decide) ip3
  rw [cuts_inl h1]
  show (([192, 0] : List Int) :: (cuts 100 4 [193, 0]).1, (cuts 100 4 [193, 0]).2) = _
  rw [cuts_inr h2]; rfl
theorem told_len : ∀ {Ls : List (List Int)} {ps : List PkX}, Told Ls ps → ps.length = Ls.length
  | [], [], _ => rfl
  | _ :: _, _ :: _, h => by simp [told_len h.2]
  | [], _ :: _, h => h.elim
  | _ :: _, [], h => h.elim

end Str
end Go.Proofs.YtonemmdipmohgaaDoor

namespace Go.Proofs.YtonemmdipmohgaaDoor
open Go.RowKit Go.ChangeShapes
set_option linter.unusedVariables false
set_option linter.unusedSimpArgs false
namespace Str
open Utf (nums nums_length nums_bytes IsStr nums_str)
open Var (BT info_byte digs digs_length tell RetTell)
open Pk

theorem pkCells_get : ∀ (ps : List PkX) (i : Nat) (hi : i < ps.length) (j : Nat), j < 18 → (pkCells ps)[i * 18 + j]? = ps[i].1.cells.toList[j]?
  | x :: rest, 0, _, j, hj => by
    have : x.1.cells.toList.length = 18 := rfl
    simp only [pkCells, List.map_cons, List.flatten_cons]
    rw [List.getElem?_append_left (by omega)]; simp
  | x :: rest, i + 1, hi, j, hj => by
    have h18 : x.1.cells.toList.length = 18 := rfl
    have ih := pkCells_get rest i (by simpa using hi) j hj
    simp only [pkCells, List.map_cons, List.flatten_cons] at ih ⊢
    rw [List.getElem?_append_right (by omega), h18, show (i + 1) * 18 + j - 18 = i * 18 + j by omega, ih]
    rfl
theorem PkRow.get {w : World} {base n c : Nat} {A : Option Addr} {ps : List PkX} (h : PkRow w base (.slice A n c) ps) (i : Nat) (hi : i < ps.length) : ∃ g, A = some ⟨g, 0, none⟩ ∧ n = ps.length ∧ ps.length ≤ c ∧ ∀ j v, ps[i].1.cells.toList[j]? = some v → w.cell? ⟨g, i * 18 + j, none⟩ = some v := by
  have hr := h.row
  rcases hr.2 with ⟨hv, hn⟩ | ⟨g, cap, cur, hv, _, _, hc, _⟩
  · omega
  · injection hv with e1 e2 e3
    subst e1 e2 e3
    refine ⟨g, rfl, rfl, hc, fun j v hj => ?_⟩
    have hjl : j < 18 := by
      have := (List.getElem?_eq_some_iff.1 hj).1
      have h18 : ps[i].1.cells.toList.length = 18 := rfl
      omega
    have := hr.cells (g := g) rfl (i * 18 + j) v (by rw [pkCells_get ps i hi j hjl]; exact hj)
    rw [add_plain0] at this
    exact this
theorem told_get : ∀ {Ls : List (List Int)} {ps : List PkX} (h : Told Ls ps) (i : Nat) (hi : i < ps.length) (hi' : i < Ls.length), IsPkt Ls[i] ps[i].1 ps[i].2.1 ps[i].2.2
  | _ :: _, _ :: _, h, 0, _, _ => h.1
  | _ :: _, _ :: _, h, i + 1, hi, hi' => told_get h.2 i (by simpa using hi) (by simpa using hi')
  | [], _ :: _, h, _, _, _ => h.elim

/-- A packet of a row, loaded. -/
theorem wp_load_row {ops : Array Oper} {rest : List Oper} {o : Oper} {a : Act} {W : World} {Q : Exit → Act → World → Prop} {x : Operand} {g i : Nat} {p : Pkt} (hgd : o.guard = none) (ho : o.op = .load PT x) (hx : a.eval x = .pointer (some ⟨g, i * 18, none⟩)) (h : ∀ j v, p.cells.toList[j]? = some v → W.cell? ⟨g, i * 18 + j, none⟩ = some v)
    (hK : wpList Tryd.prog ops Q rest (a.put o.dst (.agg p.cells)) W) : wpList Tryd.prog ops Q (o :: rest) a W :=
  st_val _ (wanted_free hgd) (rLoad ho (by
    rw [hx]
    have := load_agg W PT ⟨g, i * 18, none⟩ p.cells.toList (by kernel_rfl) (by kernel_rfl) (fun j v hj => by have := h j v hj; by_cases h0 : j = 0 <;> simpa [Addr.add, h0] using this)
    simpa using this)) hK

theorem step_inr {most : Int} {R : List Int} {c : Int} (hb : ∀ x ∈ R, 0 ≤ x ∧ x < 256) (h : stepS most R IsP = .inr c) : c = 0 ∨ ((c = 100 ∨ c = 101) ∧ 0 < R.length) := by
  by_cases h0 : R = []
  · subst h0
    have : stepS most [] IsP = .inr 0 := step_more (by decide)
    rw [this] at h
    injection h with h
    exact .inl h.symm
  · have hp : 0 < R.length := List.length_pos_iff.2 h0
    unfold stepS at h
    split at h
    rename_i n k er ht
    split at h
    · injection h with h; exact .inr ⟨.inl h.symm, hp⟩
    · split at h
      · injection h with h; exact .inl h.symm
      · split at h
        · injection h with h; exact .inr ⟨.inr h.symm, hp⟩
        · split at h
          · injection h with h; exact .inl h.symm
          · split at h
            · cases h
            · injection h with h; exact .inr ⟨.inl h.symm, hp⟩

theorem cuts_spec (most : Int) : ∀ (f : Nat) (X : List Int), X.length < f → (∀ x ∈ X, 0 ≤ x ∧ x < 256) →
    (∀ L ∈ (cuts most f X).1, (L.length : Int) ≤ most ∧ L.length ≤ X.length) ∧ (((cuts most f X).2.1 = 0 ∧ (cuts most f X).1.flatten ++ (cuts most f X).2.2 = X) ∨ (((cuts most f X).2.1 = 100 ∨ (cuts most f X).2.1 = 101) ∧ (cuts most f X).2.2 = [] ∧ ∃ Y, 0 < Y.length ∧ (cuts most f X).1.flatten ++ Y = X))
  | 0, X, h, _ => absurd h (by omega)
  | f + 1, X, h, hb => by
    cases hs : stepS most X IsP with
    | inl n =>
      obtain ⟨h2, hn, hm, _⟩ := step_inl hb hs
      have ih := cuts_spec most f (X.drop n) (by rw [List.length_drop]; omega) (fun x hx => hb x (List.mem_of_mem_drop hx))
      rw [cuts_inl hs]
      have hl : (X.take n).length = n := by simp; omega
      refine ⟨fun L hL => ?_, ?_⟩
      · rcases List.mem_cons.1 hL with rfl | hL
        · rw [hl]; exact ⟨hm, hn⟩
        · have := ih.1 L hL
          rw [List.length_drop] at this
          exact ⟨this.1, by omega⟩
      · rcases ih.2 with ⟨h1, h2⟩ | ⟨h1, h2, Y, hY, h3⟩
        · refine .inl ⟨h1, ?_⟩
          show (X.take n :: (cuts most f (X.drop n)).1).flatten ++ _ = X
          rw [List.flatten_cons, List.append_assoc, h2, List.take_append_drop]
        · refine .inr ⟨h1, h2, Y, hY, ?_⟩
          show (X.take n :: (cuts most f (X.drop n)).1).flatten ++ _ = X
          rw [List.flatten_cons, List.append_assoc, h3, List.take_append_drop]
    | inr c =>
      rw [cuts_inr hs]
      refine ⟨fun L hL => (by cases hL), ?_⟩
      rcases step_inr hb hs with rfl | ⟨hc, hp⟩
      · exact .inl ⟨rfl, by simp⟩
      · refine .inr ⟨hc, ?_, X, hp, rfl⟩
        rw [if_neg (by omega)]
theorem take_flat (Ls : List (List Int)) (k : Nat) (hk : k < Ls.length) : (Ls.take (k + 1)).flatten = (Ls.take k).flatten ++ Ls[k] := by
  rw [List.take_succ_eq_append_getElem hk, List.flatten_append]; simp
theorem flat_le (Ls : List (List Int)) (k : Nat) : (Ls.take k).flatten.length ≤ Ls.flatten.length := by
  have h := congrArg (fun x => (List.flatten x).length) (List.take_append_drop k Ls)
  simp only [List.flatten_append, List.length_append] at h
  omega
theorem take_drop_flat (Ls : List (List Int)) (Y X : List Int) (k : Nat) (hk : k < Ls.length) (h : Ls.flatten ++ Y = X) : (X.drop (Ls.take k).flatten.length).take Ls[k].length = Ls[k] := by
  have h1 : X = (Ls.take k).flatten ++ (Ls[k] ++ ((Ls.drop (k + 1)).flatten ++ Y)) := by
    rw [← h, ← List.append_assoc, ← take_flat Ls k hk, ← List.append_assoc, ← List.flatten_append, List.take_append_drop]
  rw [h1, List.drop_left, List.take_left]

theorem flat_two : ∀ (Ls : List (List Int)), (∀ L ∈ Ls, 2 ≤ L.length) → 2 * Ls.length ≤ Ls.flatten.length
  | [], _ => by simp
  | L :: Ls, h => by
    have h1 := h L (List.mem_cons_self ..)
    have h2 := flat_two Ls (fun x hx => h x (List.mem_cons_of_mem _ hx))
    rw [List.flatten_cons, List.length_append, List.length_cons]
    omega
end Str
end Go.Proofs.YtonemmdipmohgaaDoor

namespace Go.Proofs.YtonemmdipmohgaaDoor
open Go.RowKit Go.ChangeShapes
set_option linter.unusedVariables false
set_option linter.unusedSimpArgs false
namespace Str
open Utf (nums nums_length nums_bytes IsStr nums_str)
open Var (BT info_byte digs digs_length tell RetTell)
open Pk

/-- A row of packets, wherever it lies. -/
def PkReads (w : World) (A : Option Addr) (ps : List PkX) : Prop := ∀ i (hi : i < ps.length), ∃ g, A = some ⟨g, 0, none⟩ ∧ (∀ j v, ps[i].1.cells.toList[j]? = some v → w.cell? ⟨g, i * 18 + j, none⟩ = some v) ∧ Lies w ps[i].1 ps[i].2.1 ps[i].2.2
theorem PkReads.keep {w w' : World} {A : Option Addr} {ps : List PkX} (h : PkReads w A ps) (b : Below w.heap.size w w') : PkReads w' A ps := by
  intro i hi
  obtain ⟨g, hA, hc, hl⟩ := h i hi
  refine ⟨g, hA, fun j v hj => ?_, hl.keep b⟩
  have := hc j v hj
  rw [b.cell (World.block_lt_of_cell? w _ this)]; exact this

/- what 'tell' has told stays told when more comes -/
theorem tell_more : ∀ (f : Nat) (first : Bool) (L M : List Int) (i n w : Int), 0 ≤ i → (tell f first L i n w).2.2 ≠ 7 → tell f first (L ++ M) i n w = tell f first L i n w
  | 0, _, _, _, _, _, _, _, _ => rfl
  | f + 1, first, L, M, i, n, w, hi, h => by
    unfold tell at h ⊢
    by_cases h1 : (L.length : Int) ≤ i
    · rw [if_pos h1] at h; exact absurd rfl h
    · have h2 : ¬ ((L ++ M).length : Int) ≤ i := by rw [List.length_append]; omega
      have hg : (L ++ M).getD i.toNat 0 = L.getD i.toNat 0 := by
        rw [List.getD_eq_getElem?_getD, List.getD_eq_getElem?_getD, List.getElem?_append_left (by omega)]
      rw [if_neg h1] at h ⊢
      rw [if_neg h2, hg]
      by_cases h3 : L.getD i.toNat 0 < 128
      · rw [if_pos h3] at h ⊢
        rw [if_pos h3]
      · rw [if_neg h3] at h
        rw [if_neg h3, if_neg h3]
        exact tell_more f false L M (i + 1) _ _ (by omega) h
theorem step_more_inl {most : Int} {R M : List Int} {n : Nat} (hb : ∀ x ∈ R, 0 ≤ x ∧ x < 256) (h : stepS most R IsP = .inl n) : stepS most (R ++ M) IsP = .inl n := by
  obtain ⟨_, hn, _, _⟩ := step_inl hb h
  have ht : tell 4 true (R ++ M) 1 0 1 = tell 4 true R 1 0 1 := by
    refine tell_more 4 true R M 1 0 1 (by decide) (fun h7 => ?_)
    unfold stepS at h
    split at h
    rename_i n' k er hT
    rw [hT] at h7
    simp only at h7
    rw [h7, if_neg (by decide), if_pos (by decide)] at h
    cases h
  unfold stepS at h ⊢
  rw [ht]
  split at h
  rename_i n' k er hT
  split at h
  · cases h
  · split at h
    · cases h
    · split at h
      · cases h
      · split at h
        · cases h
        · rename_i a1 a2 a3 a4
          split at h
          · rename_i a5
            injection h with h
            have htk : (R ++ M).take (k + n').toNat = R.take (k + n').toNat := List.take_append_of_le_length (by omega)
            rw [if_neg a1, if_neg a2, if_neg a3, if_neg (by rw [List.length_append]; omega), htk, if_pos a5, h]
          · cases h
theorem step_more_inr {most : Int} {R M : List Int} {c : Int} (h : stepS most R IsP = .inr c) (hc : c ≠ 0) : stepS most (R ++ M) IsP = .inr c := by
  have ht : tell 4 true (R ++ M) 1 0 1 = tell 4 true R 1 0 1 := by
    refine tell_more 4 true R M 1 0 1 (by decide) (fun h7 => ?_)
    unfold stepS at h
    split at h
    rename_i n' k er hT
    rw [hT] at h7
    simp only at h7
    rw [h7, if_neg (by decide), if_pos (by decide)] at h
    injection h with h
    exact hc h.symm
  unfold stepS at h ⊢
  rw [ht]
  split at h
  rename_i n' k er hT
  split at h
  · rename_i a1
    rw [if_pos a1]; exact h
  · rename_i a1
    rw [if_neg a1]
    split at h
    · injection h with h; exact absurd h.symm hc
    · rename_i a2
      rw [if_neg a2]
      split at h
      · rename_i a3
        rw [if_pos a3]; exact h
      · rename_i a3
        rw [if_neg a3]
        split at h
        · injection h with h; exact absurd h.symm hc
        · rename_i a4
          rw [if_neg (by rw [List.length_append]; omega)]
          split at h
          · cases h
          · rename_i a5
            have htk : (R ++ M).take (k + n').toNat = R.take (k + n').toNat := List.take_append_of_le_length (by omega)
            rw [htk, if_neg a5]; exact h
/-- More fuel than bytes: it is all one. -/
theorem cuts_fuel (most : Int) : ∀ (f f' : Nat) (X : List Int), X.length < f → X.length < f' → (∀ x ∈ X, 0 ≤ x ∧ x < 256) → cuts most f X = cuts most f' X
  | 0, _, _, h, _, _ => absurd h (by omega)
  | _ + 1, 0, _, _, h, _ => absurd h (by omega)
  | f + 1, f' + 1, X, h, h', hb => by
    cases hs : stepS most X IsP with
    | inl n =>
      obtain ⟨h2, hn, _, _⟩ := step_inl hb hs
      have e := cuts_fuel most f f' (X.drop n) (by rw [List.length_drop]; omega) (by rw [List.length_drop]; omega) (fun x hx => hb x (List.mem_of_mem_drop hx))
      rw [cuts_inl hs, cuts_inl hs, e]
    | inr c => rw [cuts_inr hs, cuts_inr hs]
/-- Bytes that come in two parts are cut as they are at once. -/
theorem cuts_part (most : Int) : ∀ (f g h : Nat) (X Y : List Int), X.length < f → (X ++ Y).length < g → (X ++ Y).length < h → (∀ x ∈ X, 0 ≤ x ∧ x < 256) → (∀ x ∈ Y, 0 ≤ x ∧ x < 256) →
    ((cuts most f X).2.1 = 0 → cuts most g (X ++ Y) = ((cuts most f X).1 ++ (cuts most h ((cuts most f X).2.2 ++ Y)).1, (cuts most h ((cuts most f X).2.2 ++ Y)).2)) ∧
    ((cuts most f X).2.1 ≠ 0 → cuts most g (X ++ Y) = cuts most f X)
  | 0, _, _, _, _, h, _, _, _, _ => absurd h (by omega)
  | _ + 1, 0, _, _, _, _, h, _, _, _ => absurd h (by omega)
  | f + 1, g + 1, h, X, Y, hf, hg, hh, hb, hy => by
    have hby : ∀ x ∈ X ++ Y, 0 ≤ x ∧ x < 256 := fun x hx => by
      rcases List.mem_append.1 hx with h | h
      · exact hb x h
      · exact hy x h
    cases hs : stepS most X IsP with
    | inl n =>
      obtain ⟨h2, hn, _, _⟩ := step_inl hb hs
      have hd : (X ++ Y).drop n = X.drop n ++ Y := List.drop_append_of_le_length hn
      have htk : (X ++ Y).take n = X.take n := List.take_append_of_le_length hn
      have hl : (X.drop n ++ Y).length + 2 ≤ (X ++ Y).length := by simp; omega
      have ih := cuts_part most f g h (X.drop n) Y (by rw [List.length_drop]; omega) (by omega) (by omega) (fun x hx => hb x (List.mem_of_mem_drop hx)) hy
      rw [cuts_inl hs, cuts_inl (step_more_inl hb hs), hd, htk]
      constructor
      · intro h0
        rw [ih.1 h0]; rfl
      · intro h0
        rw [ih.2 h0]
    | inr c =>
      rw [cuts_inr hs]
      constructor
      · intro h0
        have h0' : c = 0 := h0
        subst h0'
        show cuts most (g + 1) (X ++ Y) = ([] ++ (cuts most h ((if (0 : Int) = 0 then X else []) ++ Y)).1, (cuts most h ((if (0 : Int) = 0 then X else []) ++ Y)).2)
        rw [if_pos rfl, List.nil_append, cuts_fuel most (g + 1) h (X ++ Y) hg hh hby]
      · intro h0
        have h0' : c ≠ 0 := h0
        rw [cuts_inr (step_more_inr hs h0'), if_neg h0', if_neg h0']
/-- Packets told of the same bytes are the same. -/
theorem told_same {Ls : List (List Int)} : ∀ {ps qs : List PkX}, Told Ls ps → Told Ls qs → ps.length = qs.length ∧ ∀ i (h : i < ps.length) (h' : i < qs.length), SameP ps[i].1 qs[i].1 ps[i].2.1 qs[i].2.1 ps[i].2.2 qs[i].2.2 := by
  induction Ls with
  | nil =>
    intro ps qs h h'
    cases ps with
    | nil =>
      cases qs with
      | nil => exact ⟨rfl, fun i h => absurd h (by simp)⟩
      | cons _ _ => exact h'.elim
    | cons _ _ => exact h.elim
  | cons L Ls ih =>
    intro ps qs h h'
    cases ps with
    | nil => exact h.elim
    | cons x ps =>
      cases qs with
      | nil => exact h'.elim
      | cons y qs =>
        obtain ⟨e, ih⟩ := ih h.2 h'.2
        refine ⟨by simp [e], fun i hi hi' => ?_⟩
        cases i with
        | zero => exact is_unique h.1 h'.1
        | succ i => exact ih i (by simpa using hi) (by simpa using hi')
theorem told_append : ∀ {Ls Ms : List (List Int)} {ps qs : List PkX}, Told Ls ps → Told Ms qs → Told (Ls ++ Ms) (ps ++ qs)
  | [], _, [], _, _, h => h
  | _ :: _, _, _ :: _, _, h, h' => ⟨h.1, told_append h.2 h'⟩
end Str
end Go.Proofs.YtonemmdipmohgaaDoor

namespace Go.Proofs.YtonemmdipmohgaaDoor
open Go.RowKit Go.ChangeShapes
set_option linter.unusedVariables false
set_option linter.unusedSimpArgs false
namespace Str
open Utf (nums nums_length nums_bytes IsStr nums_str)
open Var (BT info_byte digs digs_length tell RetTell)
open Pk

theorem rLoadRow {ev : Operand → Value} {o : Oper} {x : Operand} {W : World} {g i : Nat} {p : Pkt} (ho : o.op = .load PT x) (hx : ev x = .pointer (some ⟨g, i * 18, none⟩)) (h : ∀ j v, p.cells.toList[j]? = some v → W.cell? ⟨g, i * 18 + j, none⟩ = some v) : (execOp ev o).run Tryd.prog W = .ok (.value (.agg p.cells)) W :=
  rLoad ho (by
    rw [hx]
    have := load_agg W PT ⟨g, i * 18, none⟩ p.cells.toList (by kernel_rfl) (by kernel_rfl) (fun j v hj => by have := h j v hj; by_cases h0 : j = 0 <;> simpa [Addr.add, h0] using this)
    simpa using this)

/-- What is asked of two rows that are alike. -/
structure Alike (ps qs : List PkX) : Prop where
  len : ps.length = qs.length
  same : ∀ i (h : i < ps.length) (h' : i < qs.length), SameP ps[i].1 qs[i].1 ps[i].2.1 qs[i].2.1 ps[i].2.2 qs[i].2.2
  codes : ∀ x ∈ ps, (x.2.1.length : Int) ≤ 2000000
  subs : ∀ x ∈ ps, (x.2.2.length : Int) ≤ 2000000

set_option maxRecDepth 100000 in
set_option maxHeartbeats 2000000 in
theorem rows_calls (w : World) (A B : Option Addr) (c d n m : Nat) (ps qs : List PkX) (hn : n = ps.length) (hm : m = qs.length) (hP : PkReads w A ps) (hQ : PkReads w B qs) (hcn : ps.length ≤ c) (hdm : qs.length ≤ d) (hl : (ps.length : Int) ≤ 1000000000) (hS : Alike ps qs) :
    Calls Tryd.prog 28 #[.slice A n c, .slice B m d] w fun e w' => e = .returned (.bool true) ∧ Below w.heap.size w w' := by
  subst hn hm
  have HP := Lib.hid hP
  have HQ := Lib.hid hQ
  have HS := Lib.hid hS
  have hne : ((ps.length : Int) != (qs.length : Int)) = false := by rw [hS.len]; simp
  have hlen : Hid (ps.length = qs.length) := hS.len
  clear hP hQ hS
  obtain ⟨k0, hk0⟩ : ∃ k0, Hid (k0 = ps.length) := ⟨_, rfl⟩
  go_enter Tryd.func28, Tryd.ntmps28
  go_wp2_with (fail)
  clear hne
  go_loopw [5] (fun iv wr => ∃ k : Nat, k ≤ ps.length ∧ iv = .int .i64 k ∧ Hid (Below w.heap.size w wr)) (fun iv _ => ps.length - (intOf iv).toNat)
  case atStart => exact ⟨0, Nat.zero_le _, rfl, Below.refl _ _⟩
  case round =>
    obtain ⟨k, hk, rfl, hB⟩ := hrel
    have hkb : (k : Int) ≤ 1000000000 := by omega
    by_cases hkl : k < ps.length
    · have hkm : k < qs.length := by have := hlen.out; omega
      obtain ⟨g, rfl, hc1, hL1⟩ := (HP.out.keep hB.out) k hkl
      obtain ⟨g2, rfl, hc2, hL2⟩ := (HQ.out.keep hB.out) k hkm
      have hsm := HS.out.same k hkl hkm
      have hcc := HS.out.codes _ (List.getElem_mem hkl)
      have hdd := HS.out.subs _ (List.getElem_mem hkl)
      obtain ⟨⟨p, C, D⟩, hx⟩ : ∃ x, Hid (x = ps[k]) := ⟨ps[k], by rw [Hid]⟩
      obtain ⟨⟨q, C', D'⟩, hy⟩ : ∃ x, Hid (x = qs[k]) := ⟨qs[k], by rw [Hid]⟩
      rw [← hx.out] at hc1 hL1 hsm hcc hdd
      rw [← hy.out] at hc2 hL2 hsm
      have HC1 := Lib.hid hc1
      have HC2 := Lib.hid hc2
      have HL1 := Lib.hid hL1
      have HL2 := Lib.hid hL2
      have HSM : Hid (SameP p q C C' D D') := hsm
      have HCD : Hid ((C.length : Int) ≤ 2000000 ∧ (D.length : Int) ≤ 2000000) := ⟨hcc, hdd⟩
      clear hc1 hc2 hL1 hL2 hsm hcc hdd
      have HK : Hid (∀ W', Turn (fun _ => False) wr W' → (∀ j v, p.cells.toList[j]? = some v → W'.cell? ⟨g, k * 18 + j, none⟩ = some v) ∧ (∀ j v, q.cells.toList[j]? = some v → W'.cell? ⟨g2, k * 18 + j, none⟩ = some v)) := Lib.hid fun W' t => ⟨fun j v hj => t.cell (HC1.out j v hj) (fun h => h), fun j v hj => t.cell (HC2.out j v hj) (fun h => h)⟩
      have HT0 : Hid (Turn (fun _ => False) wr wr.drew) := Turn.drew (Turn.refl _ _)
      have HBD : Hid (Below wr.heap.size wr wr.drew) := HT0.out.toBelow (Nat.le_refl _) (fun _ _ h => h)
      go_wp2_with (fail)
      refine wp_region_held_drew (S := (fun W' => Hid ((∀ j v, p.cells.toList[j]? = some v → W'.cell? ⟨g, k * 18 + j, none⟩ = some v) ∧ (∀ j v, q.cells.toList[j]? = some v → W'.cell? ⟨g2, k * 18 + j, none⟩ = some v)))) (by kernel_rfl) (by first | exact HK.out _ HT0.out | exact HK.out _ HT4.out) (fun hHeld => ?_)
      refine wpAnyH_take (i := 0) (oi := ⟨_, _, _, _, _, _⟩) (v := ?_) rfl (by kernel_rfl) (by kernel_rfl) (by kernel_rfl) (fun _ _ _ h => h) (Or.inl ⟨by kernel_rfl, ?_⟩) hHeld ?_
      rotate_left
      · (intro w hSw; have s12 := hSw.out; clear hSw; go_simp; try with_reducible rfl)
      simp only [Act.put, List.setIfInBounds_toArray, List.set_cons_zero, List.set_cons_succ]
      refine wpAnyH_take (i := 1) (oi := ⟨_, _, _, _, _, _⟩) (v := ?_) rfl (by kernel_rfl) (by kernel_rfl) (by kernel_rfl) (fun _ _ _ h => h) (Or.inl ⟨by kernel_rfl, ?_⟩) hHeld ?_
      rotate_left
      · (intro w hSw; have s12 := hSw.out; clear hSw; go_simp; try with_reducible rfl)
      simp only [Act.put, List.setIfInBounds_toArray, List.set_cons_zero, List.set_cons_succ]
      refine wpAnyH_take (i := 2) (oi := ⟨_, _, _, _, _, _⟩) (v := ?_) rfl (by kernel_rfl) (by kernel_rfl) (by kernel_rfl) (fun _ _ _ h => h) (Or.inl ⟨by kernel_rfl, ?_⟩) hHeld ?_
      rotate_left
      · (intro w hSw; have s12 := hSw.out; clear hSw; go_simp; try with_reducible rfl)
      simp only [Act.put, List.setIfInBounds_toArray, List.set_cons_zero, List.set_cons_succ]
      refine wpAnyH_take (i := 3) (oi := ⟨_, _, _, _, _, _⟩) (v := .agg p.cells) rfl (by kernel_rfl) (by kernel_rfl) (by kernel_rfl) (fun _ _ _ h => h) (Or.inl ⟨by kernel_rfl, ?_⟩) hHeld ?_
      · (intro w hSw; have s12 := hSw.out; clear hSw; exact rLoadRow (i := k) (g := g) (p := p) rfl (by with_unfolding_all rfl) s12.1)
      simp only [Act.put, List.setIfInBounds_toArray, List.set_cons_zero, List.set_cons_succ]
      refine wpAnyH_take (i := 4) (oi := ⟨_, _, _, _, _, _⟩) (v := ?_) rfl (by kernel_rfl) (by kernel_rfl) (by kernel_rfl) (fun _ _ _ h => h) (Or.inl ⟨by kernel_rfl, ?_⟩) hHeld ?_
      rotate_left
      · (intro w hSw; have s12 := hSw.out; clear hSw; go_simp; try with_reducible rfl)
      simp only [Act.put, List.setIfInBounds_toArray, List.set_cons_zero, List.set_cons_succ]
      refine wpAnyH_take (i := 5) (oi := ⟨_, _, _, _, _, _⟩) (v := ?_) rfl (by kernel_rfl) (by kernel_rfl) (by kernel_rfl) (fun _ _ _ h => h) (Or.inl ⟨by kernel_rfl, ?_⟩) hHeld ?_
      rotate_left
      · (intro w hSw; have s12 := hSw.out; clear hSw; go_simp; try with_reducible rfl)
      simp only [Act.put, List.setIfInBounds_toArray, List.set_cons_zero, List.set_cons_succ]
      refine wpAnyH_take (i := 6) (oi := ⟨_, _, _, _, _, _⟩) (v := ?_) rfl (by kernel_rfl) (by kernel_rfl) (by kernel_rfl) (fun _ _ _ h => h) (Or.inl ⟨by kernel_rfl, ?_⟩) hHeld ?_
      rotate_left
      · (intro w hSw; have s12 := hSw.out; clear hSw; go_simp; try with_reducible rfl)
      simp only [Act.put, List.setIfInBounds_toArray, List.set_cons_zero, List.set_cons_succ]
      refine wpAnyH_take (i := 7) (oi := ⟨_, _, _, _, _, _⟩) (v := .agg q.cells) rfl (by kernel_rfl) (by kernel_rfl) (by kernel_rfl) (fun _ _ _ h => h) (Or.inl ⟨by kernel_rfl, ?_⟩) hHeld ?_
      · (intro w hSw; have s12 := hSw.out; clear hSw; exact rLoadRow (i := k) (g := g2) (p := q) rfl (by with_unfolding_all rfl) s12.2)
      simp only [Act.put, List.setIfInBounds_toArray, List.set_cons_zero, List.set_cons_succ]
      refine wpAnyH_ready (rs := [8]) (by kernel_rfl) (by simp) ?_
      refine AllReadyH.cons rfl (fun K hK => ?_) AllReadyH.nil
      go_simp
      go_wp2_with (go_at_call 37; refine (same_calls _ p q C C' D D' (HL1.out.keep HBD.out) (HL2.out.keep HBD.out) HCD.out.1 HCD.out.2).mono ?_; rw [decide_eq_true HSM.out]; rintro e w4 ⟨rfl, hb4⟩; have HT4 : Hid (Turn (fun _ => False) wr w4) := HT0.out.trans (Turn.of_below hb4); clear hb4)
      refine hK.out _ _ (by first | exact HK.out _ HT0.out | exact HK.out _ HT4.out) (fun hHeld => ?_)
      clear hK K
      refine wpAnyH_take (i := 9) (oi := ⟨_, _, _, _, _, _⟩) (v := ?_) rfl (by kernel_rfl) (by kernel_rfl) (by kernel_rfl) (fun _ _ _ h => h) (Or.inl ⟨by kernel_rfl, ?_⟩) hHeld ?_
      rotate_left
      · (intro w hSw; have s12 := hSw.out; clear hSw; go_simp; try with_reducible rfl)
      simp only [Act.put, List.setIfInBounds_toArray, List.set_cons_zero, List.set_cons_succ]
      refine wpAnyH_done (by kernel_rfl) ?_ _
      go_wp2_with (fail)
      go_roundw
      case rel => exact ⟨k + 1, by omega, by go_num, hB.out.trans (HT4.out.toBelow hB.out.size (fun _ _ h => h))⟩
      case measure => simp [intOf]; omega
    · go_wp2_with (fail)
      go_ret
      exact ⟨rfl, hB.out⟩

theorem PkRow.reads {w : World} {base n c : Nat} {A : Option Addr} {ps : List PkX} {Ls : List (List Int)} (h : PkRow w base (.slice A n c) ps) (ht : Told Ls ps) (hb : ∀ L ∈ Ls, (∀ x ∈ L, 0 ≤ x ∧ x < 256) ∧ L.length ≤ 900000000) : PkReads w A ps ∧ n = ps.length ∧ ps.length ≤ c := by
  have hn := own_len h.row
  have hc : ps.length ≤ c := by
    rcases h.row.2 with ⟨hv, hz⟩ | ⟨g, cap, cur, hv, _, _, hc, _⟩
    · omega
    · injection hv with _ _ e; omega
  refine ⟨fun i hi => ?_, hn, hc⟩
  obtain ⟨g, hA, _, _, hcell⟩ := h.get i hi
  have hi' : i < Ls.length := by rw [← told_len ht]; exact hi
  obtain ⟨h1, h2⟩ := hb _ (List.getElem_mem hi')
  exact ⟨g, hA, hcell, own_lies (told_get ht i hi hi') h1 h2 (h.codes _ (List.getElem_mem hi)) (h.subs _ (List.getElem_mem hi))⟩

theorem pkCells_len (qs : List PkX) : (pkCells qs).length = qs.length * 18 := by
  induction qs with
  | nil => rfl
  | cons x qs ih =>
    have h18 : x.1.cells.toList.length = 18 := rfl
    simp only [pkCells, List.map_cons, List.flatten_cons, List.length_append, List.length_cons] at ih ⊢
    omega
theorem pkCells_append (ps qs : List PkX) : pkCells (ps ++ qs) = pkCells ps ++ pkCells qs := by simp [pkCells]
/-- 'append(out, more...)'. -/
theorem wp_append_pkts {ops : Array Oper} {rest : List Oper} {o : Oper} {a : Act} {Q : Exit → Act → World → Prop} {W : World} (base : Nat) (hgd : o.guard = none) (s x : Operand)
    (ho : o.op = .call { callee := .builtin .append, args := #[s, x], argTypes := #[22, 22] })
    (v : Value) (ps qs : List PkX) (A : Option Addr) (n c : Nat) (hs : a.eval s = v) (hx : a.eval x = .slice A n c)
    (HO : PkRow W base v ps) (b1 : Nat) (HOr : W.ownsRow b1 PT 18 v ps.length (pkCells ps)) (hb1 : base ≤ b1) (HQ : PkRow W base (.slice A n c) qs) (hbase : b1 ≤ W.heap.size) (hn : (ps.length + qs.length) * 200 ≤ 140737488355328)
    (K : ∀ A1 n1 c1 w1, PkRow w1 base (.slice A1 n1 c1) (ps ++ qs) → w1.ownsRow b1 PT 18 (.slice A1 n1 c1) (ps ++ qs).length (pkCells (ps ++ qs)) → Turn (fun j => v.ownBlock = some j) W w1 → wpList Tryd.prog ops Q rest (a.put o.dst (.slice A1 n1 c1)) w1) :
    wpList Tryd.prog ops Q (o :: rest) a W := by
  obtain ⟨i0, hi, hzz⟩ := Option.map_eq_some_iff.1 info_pkt
  simp only [Prod.mk.injEq] at hzz
  obtain ⟨hz0, hz1, hz2⟩ := hzz
  rcases HQ.row.2 with ⟨hv, hz⟩ | ⟨g, cap, cur, hv, hbg, hgg, hcc, hcm, hcs, hct⟩
  · injection hv with e1 e2 e3
    subst e1 e2 e3
    have : qs = [] := List.length_eq_zero_iff.1 hz
    subst this
    obtain ⟨A', c', hv', _⟩ := own_form HO.row
    subst hv'
    refine wpList_append_own_none hgd s x 22 ho base PT i0 18 Tryd.underlying22 hi _ ps.length _ hs HO.row hx ?_
    have := K A' ps.length c' W (by simpa using HO) (by simpa using HOr) (Turn.refl _ _)
    simpa using this
  · injection hv with e1 e2 e3
    subst e1 e2 e3
    refine wpList_append_own W hgd s x 22 ho b1 PT i0 (.agg zeroP.cells) 18 200 Tryd.underlying22 hi hz0 hz1 hz2 rfl (by omega) v ps.length _ hs HOr ⟨g, 0, none⟩ qs.length c (pkCells qs) hx (pkCells_len qs)
      (fun j u hu => HQ.row.cells (g := g) rfl j u hu) (fun u hu => ?_) (by simp only [maxLen]; omega) hn hbase ?_
    · simp only [pkCells, List.mem_flatten, List.mem_map] at hu
      obtain ⟨l, ⟨y, hy, rfl⟩, hu⟩ := hu
      have hpc1 : y.1.codes.oneCell' = true := by obtain ⟨A', c', hv, _⟩ := (HQ.codes y hy).form; rw [hv]; exact rfl
      have hps1 : y.1.subs.oneCell' = true := by obtain ⟨A', c', hv, _⟩ := own_form (HQ.subs y hy); rw [hv]; exact rfl
      have hall : ∀ v ∈ y.1.cells.toList, v.oneCell' = true := by have a := hpc1; have b := hps1; simp [Value.oneCell'] at a b; simp [Pkt.cells, Value.oneCell']; exact ⟨a, b⟩
      exact hall u hu
    · intro v' w' h2 h3 _
      have h4 : w'.ownsRow b1 PT 18 v' (ps ++ qs).length (pkCells (ps ++ qs)) := by
        rw [pkCells_append, List.length_append]; exact h2
      obtain ⟨A1, c1, hv, _⟩ := own_form h4
      subst hv
      have t : Turn (fun j => v.ownBlock = some j) W w' := Turn.of_grownBy h3 (fun k e => e)
      have hci : ∀ x : PkX, OwnInts W base 3 .i64 x.1.codes x.2.1 → OwnInts w' base 3 .i64 x.1.codes x.2.1 := fun x h => h.turn t (fun j hj e => own_ne HO.row h (by decide) j e hj)
      have hsi : ∀ x : PkX, W.ownsRow base 114 2 x.1.subs x.2.2.length (subCells x.2.2) → w'.ownsRow base 114 2 x.1.subs x.2.2.length (subCells x.2.2) := fun x h => own_turn h t (fun j hj e => own_ne HO.row h (by decide) j e hj)
      refine K A1 _ c1 w' ⟨own_mono h4 hb1, fun x hx => ?_, fun x hx => ?_⟩ h4 t
      · rcases List.mem_append.1 hx with h | h
        · exact hci x (HO.codes x h)
        · exact hci x (HQ.codes x h)
      · rcases List.mem_append.1 hx with h | h
        · exact hsi x (HO.subs x h)
        · exact hsi x (HQ.subs x h)
theorem PkRow.lit (w : World) (base : Nat) (hb : base ≤ w.heap.size) : PkRow (w.alloc (.cells #[] PT)) base (.slice (some ⟨w.heap.size, 0, none⟩) 0 0) [] :=
  ⟨⟨rfl, .inr ⟨w.heap.size, 0, #[], rfl, hb, heap_new _ _, Nat.le_refl _, by simp [maxLen], rfl, rfl⟩⟩, by simp, by simp⟩
end Str
end Go.Proofs.YtonemmdipmohgaaDoor

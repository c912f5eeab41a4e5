/- stream: Rows; rows of packets joined. -/
import Derived.Test.YteigakkghkjakaaDoorStI
namespace Go.Proofs.YteigakkghkjakaaDoor
open Go.RowKit Go.ChangeShapes
set_option linter.unusedVariables false
set_option linter.unusedSimpArgs false
namespace Str
open Utf (nums nums_length nums_bytes IsStr nums_str)
open Var (BT info_byte digs digs_length tell RetTell)
open Pk

theorem rLoadRow {ev : Operand → Value} {o : Oper} {x : Operand} {W : World} {g i : Nat} {p : Pkt} (ho : o.op = .load PT x) (hx : ev x = .pointer (some ⟨g, i * 18, none⟩)) (h : ∀ j v, p.cells.toList[j]? = some v → W.cell? ⟨g, i * 18 + j, none⟩ = some v) : (execOp ev o).run Tryd.prog W = .ok (.value (.agg p.cells)) W :=
  rLoad ho (by
    rw [hx]
    have := load_agg W PT ⟨g, i * 18, none⟩ p.cells.toList (by kernel_rfl) (by kernel_rfl) (fun j v hj => by have := h j v hj; by_cases h0 : j = 0 <;> simpa [Addr.add, h0] using this)
    simpa using this)

/-- What is asked of two rows that are alike. -/
structure Alike (ps qs : List PkX) : Prop where
  len : ps.length = qs.length
  same : ∀ i (h : i < ps.length) (h' : i < qs.length), SameP ps[i].1 qs[i].1 ps[i].2.1 qs[i].2.1 ps[i].2.2 qs[i].2.2
  codes : ∀ x ∈ ps, (x.2.1.length : Int) ≤ 2000000
  subs : ∀ x ∈ ps, (x.2.2.length : Int) ≤ 2000000

set_option maxRecDepth 100000 in
set_option maxHeartbeats 2000000 in
theorem rows_calls (w : World) (A B : Option Addr) (c d n m : Nat) (ps qs : List PkX) (hn : n = ps.length) (hm : m = qs.length) (hP : PkReads w A ps) (hQ : PkReads w B qs) (hcn : ps.length ≤ c) (hdm : qs.length ≤ d) (hl : (ps.length : Int) ≤ 1000000000) (hS : Alike ps qs) :
    Calls Tryd.prog 31 #[.slice A n c, .slice B m d] w fun e w' => e = .returned (.bool true) ∧ Below w.heap.size w w' := by
  subst hn hm
  have HP := Lib.hid hP
  have HQ := Lib.hid hQ
  have HS := Lib.hid hS
  have hne : ((ps.length : Int) != (qs.length : Int)) = false := by rw [hS.len]; simp
  have hlen : Hid (ps.length = qs.length) := hS.len
  clear hP hQ hS
  obtain ⟨k0, hk0⟩ : ∃ k0, Hid (k0 = ps.length) := ⟨_, rfl⟩
  go_enter Tryd.func31, Tryd.ntmps31
  go_wp2_with (fail)
  clear hne
  go_loopw [5] (fun iv wr => ∃ k : Nat, k ≤ ps.length ∧ iv = .int .i64 k ∧ Hid (Below w.heap.size w wr)) (fun iv _ => ps.length - (intOf iv).toNat)
  case atStart => exact ⟨0, Nat.zero_le _, rfl, Below.refl _ _⟩
  case round =>
    obtain ⟨k, hk, rfl, hB⟩ := hrel
    have hkb : (k : Int) ≤ 1000000000 := by omega
    by_cases hkl : k < ps.length
    · have hkm : k < qs.length := by have := hlen.out; omega
      obtain ⟨g, rfl, hc1, hL1⟩ := (HP.out.keep hB.out) k hkl
      obtain ⟨g2, rfl, hc2, hL2⟩ := (HQ.out.keep hB.out) k hkm
      have hsm := HS.out.same k hkl hkm
      have hcc := HS.out.codes _ (List.getElem_mem hkl)
      have hdd := HS.out.subs _ (List.getElem_mem hkl)
      obtain ⟨⟨p, C, D⟩, hx⟩ : ∃ x, Hid (x = ps[k]) := ⟨ps[k], by rw [Hid]⟩
      obtain ⟨⟨q, C', D'⟩, hy⟩ : ∃ x, Hid (x = qs[k]) := ⟨qs[k], by rw [Hid]⟩
      rw [← hx.out] at hc1 hL1 hsm hcc hdd
      rw [← hy.out] at hc2 hL2 hsm
      have HC1 := Lib.hid hc1
      have HC2 := Lib.hid hc2
      have HL1 := Lib.hid hL1
      have HL2 := Lib.hid hL2
      have HSM : Hid (SameP p q C C' D D') := hsm
      have HCD : Hid ((C.length : Int) ≤ 2000000 ∧ (D.length : Int) ≤ 2000000) := ⟨hcc, hdd⟩
      clear hc1 hc2 hL1 hL2 hsm hcc hdd
      have HK : Hid (∀ W', Turn (fun _ => False) wr W' → (∀ j v, p.cells.toList[j]? = some v → W'.cell? ⟨g, k * 18 + j, none⟩ = some v) ∧ (∀ j v, q.cells.toList[j]? = some v → W'.cell? ⟨g2, k * 18 + j, none⟩ = some v)) := Lib.hid fun W' t => ⟨fun j v hj => t.cell (HC1.out j v hj) (fun h => h), fun j v hj => t.cell (HC2.out j v hj) (fun h => h)⟩
      have HT0 : Hid (Turn (fun _ => False) wr wr.drew) := Turn.drew (Turn.refl _ _)
      have HBD : Hid (Below wr.heap.size wr wr.drew) := HT0.out.toBelow (Nat.le_refl _) (fun _ _ h => h)
      go_wp2_with (fail)
      refine wp_region_held_drew (S := (fun W' => Hid ((∀ j v, p.cells.toList[j]? = some v → W'.cell? ⟨g, k * 18 + j, none⟩ = some v) ∧ (∀ j v, q.cells.toList[j]? = some v → W'.cell? ⟨g2, k * 18 + j, none⟩ = some v)))) (by kernel_rfl) (by first | exact HK.out _ HT0.out | exact HK.out _ HT4.out) (fun hHeld => ?_)
      refine wpAnyH_take (i := 0) (oi := ⟨_, _, _, _, _, _⟩) (v := ?_) rfl (by kernel_rfl) (by kernel_rfl) (by kernel_rfl) (fun _ _ _ h => h) (Or.inl ⟨by kernel_rfl, ?_⟩) hHeld ?_
      rotate_left
      · (intro w hSw; have s12 := hSw.out; clear hSw; go_simp; try with_reducible rfl)
      simp only [Act.put, List.setIfInBounds_toArray, List.set_cons_zero, List.set_cons_succ]
      refine wpAnyH_take (i := 1) (oi := ⟨_, _, _, _, _, _⟩) (v := ?_) rfl (by kernel_rfl) (by kernel_rfl) (by kernel_rfl) (fun _ _ _ h => h) (Or.inl ⟨by kernel_rfl, ?_⟩) hHeld ?_
      rotate_left
      · (intro w hSw; have s12 := hSw.out; clear hSw; go_simp; try with_reducible rfl)
      simp only [Act.put, List.setIfInBounds_toArray, List.set_cons_zero, List.set_cons_succ]
      refine wpAnyH_take (i := 2) (oi := ⟨_, _, _, _, _, _⟩) (v := ?_) rfl (by kernel_rfl) (by kernel_rfl) (by kernel_rfl) (fun _ _ _ h => h) (Or.inl ⟨by kernel_rfl, ?_⟩) hHeld ?_
      rotate_left
      · (intro w hSw; have s12 := hSw.out; clear hSw; go_simp; try with_reducible rfl)
      simp only [Act.put, List.setIfInBounds_toArray, List.set_cons_zero, List.set_cons_succ]
      refine wpAnyH_take (i := 3) (oi := ⟨_, _, _, _, _, _⟩) (v := .agg p.cells) rfl (by kernel_rfl) (by kernel_rfl) (by kernel_rfl) (fun _ _ _ h => h) (Or.inl ⟨by kernel_rfl, ?_⟩) hHeld ?_
      · (intro w hSw; have s12 := hSw.out; clear hSw; exact rLoadRow (i := k) (g := g) (p := p) rfl (by with_unfolding_all rfl) s12.1)
      simp only [Act.put, List.setIfInBounds_toArray, List.set_cons_zero, List.set_cons_succ]
      refine wpAnyH_take (i := 4) (oi := ⟨_, _, _, _, _, _⟩) (v := ?_) rfl (by kernel_rfl) (by kernel_rfl) (by kernel_rfl) (fun _ _ _ h => h) (Or.inl ⟨by kernel_rfl, ?_⟩) hHeld ?_
      rotate_left
      · (intro w hSw; have s12 := hSw.out; clear hSw; go_simp; try with_reducible rfl)
      simp only [Act.put, List.setIfInBounds_toArray, List.set_cons_zero, List.set_cons_succ]
      refine wpAnyH_take (i := 5) (oi := ⟨_, _, _, _, _, _⟩) (v := ?_) rfl (by kernel_rfl) (by kernel_rfl) (by kernel_rfl) (fun _ _ _ h => h) (Or.inl ⟨by kernel_rfl, ?_⟩) hHeld ?_
      rotate_left
      · (intro w hSw; have s12 := hSw.out; clear hSw; go_simp; try with_reducible rfl)
      simp only [Act.put, List.setIfInBounds_toArray, List.set_cons_zero, List.set_cons_succ]
      refine wpAnyH_take (i := 6) (oi := ⟨_, _, _, _, _, _⟩) (v := ?_) rfl (by kernel_rfl) (by kernel_rfl) (by kernel_rfl) (fun _ _ _ h => h) (Or.inl ⟨by kernel_rfl, ?_⟩) hHeld ?_
      rotate_left
      · (intro w hSw; have s12 := hSw.out; clear hSw; go_simp; try with_reducible rfl)
      simp only [Act.put, List.setIfInBounds_toArray, List.set_cons_zero, List.set_cons_succ]
      refine wpAnyH_take (i := 7) (oi := ⟨_, _, _, _, _, _⟩) (v := .agg q.cells) rfl (by kernel_rfl) (by kernel_rfl) (by kernel_rfl) (fun _ _ _ h => h) (Or.inl ⟨by kernel_rfl, ?_⟩) hHeld ?_
      · (intro w hSw; have s12 := hSw.out; clear hSw; exact rLoadRow (i := k) (g := g2) (p := q) rfl (by with_unfolding_all rfl) s12.2)
      simp only [Act.put, List.setIfInBounds_toArray, List.set_cons_zero, List.set_cons_succ]
      refine wpAnyH_ready (rs := [8]) (by kernel_rfl) (by simp) ?_
      refine AllReadyH.cons rfl (fun K hK => ?_) AllReadyH.nil
      go_simp
      go_wp2_with (go_at_call 18; refine (same_calls _ p q C C' D D' (HL1.out.keep HBD.out) (HL2.out.keep HBD.out) HCD.out.1 HCD.out.2).mono ?_; rw [decide_eq_true HSM.out]; rintro e w4 ⟨rfl, hb4⟩; have HT4 : Hid (Turn (fun _ => False) wr w4) := HT0.out.trans (Turn.of_below hb4); clear hb4)
      refine hK.out _ _ (by first | exact HK.out _ HT0.out | exact HK.out _ HT4.out) (fun hHeld => ?_)
      clear hK K
      refine wpAnyH_take (i := 9) (oi := ⟨_, _, _, _, _, _⟩) (v := ?_) rfl (by kernel_rfl) (by kernel_rfl) (by kernel_rfl) (fun _ _ _ h => h) (Or.inl ⟨by kernel_rfl, ?_⟩) hHeld ?_
      rotate_left
      · (intro w hSw; have s12 := hSw.out; clear hSw; go_simp; try with_reducible rfl)
      simp only [Act.put, List.setIfInBounds_toArray, List.set_cons_zero, List.set_cons_succ]
      refine wpAnyH_done (by kernel_rfl) ?_ _
      go_wp2_with (fail)
      go_roundw
      case rel => exact ⟨k + 1, by omega, by go_num, hB.out.trans (HT4.out.toBelow hB.out.size (fun _ _ h => h))⟩
      case measure => simp [intOf]; omega
    · go_wp2_with (fail)
      go_ret
      exact ⟨rfl, hB.out⟩

theorem PkRow.reads {w : World} {base n c : Nat} {A : Option Addr} {ps : List PkX} {Ls : List (List Int)} (h : PkRow w base (.slice A n c) ps) (ht : Told Ls ps) (hb : ∀ L ∈ Ls, (∀ x ∈ L, 0 ≤ x ∧ x < 256) ∧ L.length ≤ 900000000) : PkReads w A ps ∧ n = ps.length ∧ ps.length ≤ c := by
  have hn := own_len h.row
  have hc : ps.length ≤ c := by
    rcases h.row.2 with ⟨hv, hz⟩ | ⟨g, cap, cur, hv, _, _, hc, _⟩
    · omega
    · injection hv with _ _ e; omega
  refine ⟨fun i hi => ?_, hn, hc⟩
  obtain ⟨g, hA, _, _, hcell⟩ := h.get i hi
  have hi' : i < Ls.length := by rw [← told_len ht]; exact hi
  obtain ⟨h1, h2⟩ := hb _ (List.getElem_mem hi')
  exact ⟨g, hA, hcell, own_lies (told_get ht i hi hi') h1 h2 (h.codes _ (List.getElem_mem hi)) (h.subs _ (List.getElem_mem hi))⟩

theorem pkCells_len (qs : List PkX) : (pkCells qs).length = qs.length * 18 := by
  induction qs with
  | nil => rfl
  | cons x qs ih =>
    have h18 : x.1.cells.toList.length = 18 := rfl
    simp only [pkCells, List.map_cons, List.flatten_cons, List.length_append, List.length_cons] at ih ⊢
    omega
theorem pkCells_append (ps qs : List PkX) : pkCells (ps ++ qs) = pkCells ps ++ pkCells qs := by simp [pkCells]
/-- 'append(out, more...)'. -/
theorem wp_append_pkts {ops : Array Oper} {rest : List Oper} {o : Oper} {a : Act} {Q : Exit → Act → World → Prop} {W : World} (base : Nat) (hgd : o.guard = none) (s x : Operand)
    (ho : o.op = .call { callee := .builtin .append, args := #[s, x], argTypes := #[50, 50] })
    (v : Value) (ps qs : List PkX) (A : Option Addr) (n c : Nat) (hs : a.eval s = v) (hx : a.eval x = .slice A n c)
    (HO : PkRow W base v ps) (b1 : Nat) (HOr : W.ownsRow b1 PT 18 v ps.length (pkCells ps)) (hb1 : base ≤ b1) (HQ : PkRow W base (.slice A n c) qs) (hbase : b1 ≤ W.heap.size) (hn : (ps.length + qs.length) * 200 ≤ 140737488355328)
    (K : ∀ A1 n1 c1 w1, PkRow w1 base (.slice A1 n1 c1) (ps ++ qs) → w1.ownsRow b1 PT 18 (.slice A1 n1 c1) (ps ++ qs).length (pkCells (ps ++ qs)) → Turn (fun j => v.ownBlock = some j) W w1 → wpList Tryd.prog ops Q rest (a.put o.dst (.slice A1 n1 c1)) w1) :
    wpList Tryd.prog ops Q (o :: rest) a W := by
  obtain ⟨i0, hi, hzz⟩ := Option.map_eq_some_iff.1 info_pkt
  simp only [Prod.mk.injEq] at hzz
  obtain ⟨hz0, hz1, hz2⟩ := hzz
  rcases HQ.row.2 with ⟨hv, hz⟩ | ⟨g, cap, cur, hv, hbg, hgg, hcc, hcm, hcs, hct⟩
  · injection hv with e1 e2 e3
    subst e1 e2 e3
    have : qs = [] := List.length_eq_zero_iff.1 hz
    subst this
    obtain ⟨A', c', hv', _⟩ := own_form HO.row
    subst hv'
    refine wpList_append_own_none hgd s x 50 ho base PT i0 18 Tryd.underlying50 hi _ ps.length _ hs HO.row hx ?_
    have := K A' ps.length c' W (by simpa using HO) (by simpa using HOr) (Turn.refl _ _)
    simpa using this
  · injection hv with e1 e2 e3
    subst e1 e2 e3
    refine wpList_append_own W hgd s x 50 ho b1 PT i0 (.agg zeroP.cells) 18 200 Tryd.underlying50 hi hz0 hz1 hz2 rfl (by omega) v ps.length _ hs HOr ⟨g, 0, none⟩ qs.length c (pkCells qs) hx (pkCells_len qs)
      (fun j u hu => HQ.row.cells (g := g) rfl j u hu) (fun u hu => ?_) (by simp only [maxLen]; omega) hn hbase ?_
    · simp only [pkCells, List.mem_flatten, List.mem_map] at hu
      obtain ⟨l, ⟨y, hy, rfl⟩, hu⟩ := hu
      have hpc1 : y.1.codes.oneCell' = true := by obtain ⟨A', c', hv, _⟩ := (HQ.codes y hy).form; rw [hv]; exact rfl
      have hps1 : y.1.subs.oneCell' = true := by obtain ⟨A', c', hv, _⟩ := own_form (HQ.subs y hy); rw [hv]; exact rfl
      have hall : ∀ v ∈ y.1.cells.toList, v.oneCell' = true := by have a := hpc1; have b := hps1; simp [Value.oneCell'] at a b; simp [Pkt.cells, Value.oneCell']; exact ⟨a, b⟩
      exact hall u hu
    · intro v' w' h2 h3 _
      have h4 : w'.ownsRow b1 PT 18 v' (ps ++ qs).length (pkCells (ps ++ qs)) := by
        rw [pkCells_append, List.length_append]; exact h2
      obtain ⟨A1, c1, hv, _⟩ := own_form h4
      subst hv
      have t : Turn (fun j => v.ownBlock = some j) W w' := Turn.of_grownBy h3 (fun k e => e)
      have hci : ∀ x : PkX, OwnInts W base 3 .i64 x.1.codes x.2.1 → OwnInts w' base 3 .i64 x.1.codes x.2.1 := fun x h => h.turn t (fun j hj e => own_ne HO.row h (by decide) j e hj)
      have hsi : ∀ x : PkX, W.ownsRow base 76 2 x.1.subs x.2.2.length (subCells x.2.2) → w'.ownsRow base 76 2 x.1.subs x.2.2.length (subCells x.2.2) := fun x h => own_turn h t (fun j hj e => own_ne HO.row h (by decide) j e hj)
      refine K A1 _ c1 w' ⟨own_mono h4 hb1, fun x hx => ?_, fun x hx => ?_⟩ h4 t
      · rcases List.mem_append.1 hx with h | h
        · exact hci x (HO.codes x h)
        · exact hci x (HQ.codes x h)
      · rcases List.mem_append.1 hx with h | h
        · exact hsi x (HO.subs x h)
        · exact hsi x (HQ.subs x h)
theorem PkRow.lit (w : World) (base : Nat) (hb : base ≤ w.heap.size) : PkRow (w.alloc (.cells #[] PT)) base (.slice (some ⟨w.heap.size, 0, none⟩) 0 0) [] :=
  ⟨⟨rfl, .inr ⟨w.heap.size, 0, #[], rfl, hb, heap_new _ _, Nat.le_refl _, by simp [maxLen], rfl, rfl⟩⟩, by simp, by simp⟩
end Str
end Go.Proofs.YteigakkghkjakaaDoor

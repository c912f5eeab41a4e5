/- Rows of packets, wherever the two lie. -/
import Derived.Test.YtonemmdipmohgaaDoorStJ
namespace Go.Proofs.YtonemmdipmohgaaDoor
open Go.RowKit Go.ChangeShapes
set_option linter.unusedVariables false
set_option linter.unusedSimpArgs false
namespace Snd
open Utf (nums nums_length nums_bytes IsStr nums_str)
open Pk Str

/-- A row of packets, wherever it lies. -/
def PkReadsA (w : World) (A : Option Addr) (ps : List PkX) : Prop := ∀ i (hi : i < ps.length), ∃ x, A = some x ∧ (∀ j v, ps[i].1.cells.toList[j]? = some v → w.cell? ((x.add (i * 18)).add j) = some v) ∧ Lies w ps[i].1 ps[i].2.1 ps[i].2.2
theorem PkReadsA.keep {w w' : World} {A : Option Addr} {ps : List PkX} (h : PkReadsA w A ps) (b : Below w.heap.size w w') : PkReadsA w' A ps := by
  intro i hi
  obtain ⟨g, hA, hc, hl⟩ := h i hi
  refine ⟨g, hA, fun j v hj => ?_, hl.keep b⟩
  have := hc j v hj
  rw [b.cell (World.block_lt_of_cell? w _ this)]; exact this
theorem load_rowA {W : World} {x0 : Addr} {p : Pkt} (h : ∀ j v, p.cells.toList[j]? = some v → W.cell? (x0.add j) = some v) : (Instr.loadAt PT (.pointer (some x0))).run Tryd.prog W = .ok (.agg p.cells) W := by
  have := load_agg W PT x0 p.cells.toList (by kernel_rfl) (by kernel_rfl) h
  simpa using this
theorem rLoadRowA {ev : Operand → Value} {op : Oper} {x : Operand} {W : World} {x0 : Addr} {p : Pkt} (ho : op.op = .load PT x) (hx : ev x = .pointer (some x0)) (h : ∀ j v, p.cells.toList[j]? = some v → W.cell? (x0.add j) = some v) : (execOp ev op).run Tryd.prog W = .ok (.value (.agg p.cells)) W :=
  rLoad ho (by rw [hx]; exact load_rowA h)
set_option maxRecDepth 100000 in
set_option maxHeartbeats 2000000 in
theorem rows_callsA (w : World) (A B : Option Addr) (c d n m : Nat) (ps qs : List PkX) (hn : n = ps.length) (hm : m = qs.length) (hP : PkReadsA w A ps) (hQ : PkReadsA w B qs) (hcn : ps.length ≤ c) (hdm : qs.length ≤ d) (hl : (ps.length : Int) ≤ 1000000000) (hS : Str.Alike ps qs) :
    Calls Tryd.prog 28 #[.slice A n c, .slice B m d] w fun e w' => e = .returned (.bool true) ∧ Below w.heap.size w w' := by
  subst hn hm
  have HP := Lib.hid hP
  have HQ := Lib.hid hQ
  have HS := Lib.hid hS
  have hne : ((ps.length : Int) != (qs.length : Int)) = false := by rw [hS.len]; simp
  have hlen : Hid (ps.length = qs.length) := hS.len
  clear hP hQ hS
  obtain ⟨k0, hk0⟩ : ∃ k0, Hid (k0 = ps.length) := ⟨_, rfl⟩
  go_enter Tryd.func28, Tryd.ntmps28
  go_wp2_with (fail)
  clear hne
  go_loopw [5] (fun iv wr => ∃ k : Nat, k ≤ ps.length ∧ iv = .int .i64 k ∧ Hid (Below w.heap.size w wr)) (fun iv _ => ps.length - (intOf iv).toNat)
  case atStart => exact ⟨0, Nat.zero_le _, rfl, Below.refl _ _⟩
  case round =>
    obtain ⟨k, hk, rfl, hB⟩ := hrel
    have hkb : (k : Int) ≤ 1000000000 := by omega
    by_cases hkl : k < ps.length
    · have hkm : k < qs.length := by have := hlen.out; omega
      obtain ⟨g, rfl, hc1, hL1⟩ := (HP.out.keep hB.out) k hkl
      obtain ⟨g2, rfl, hc2, hL2⟩ := (HQ.out.keep hB.out) k hkm
      have hsm := HS.out.same k hkl hkm
      have hcc := HS.out.codes _ (List.getElem_mem hkl)
      have hdd := HS.out.subs _ (List.getElem_mem hkl)
      obtain ⟨⟨p, C, D⟩, hx⟩ : ∃ x, Hid (x = ps[k]) := ⟨ps[k], by rw [Hid]⟩
      obtain ⟨⟨q, C', D'⟩, hy⟩ : ∃ x, Hid (x = qs[k]) := ⟨qs[k], by rw [Hid]⟩
      rw [← hx.out] at hc1 hL1 hsm hcc hdd
      rw [← hy.out] at hc2 hL2 hsm
      have HC1 := Lib.hid hc1
      have HC2 := Lib.hid hc2
      have HL1 := Lib.hid hL1
      have HL2 := Lib.hid hL2
      have HSM : Hid (SameP p q C C' D D') := hsm
      have HCD : Hid ((C.length : Int) ≤ 2000000 ∧ (D.length : Int) ≤ 2000000) := ⟨hcc, hdd⟩
      clear hc1 hc2 hL1 hL2 hsm hcc hdd
      have HK : Hid (∀ W', Turn (fun _ => False) wr W' → (∀ j v, p.cells.toList[j]? = some v → W'.cell? ((g.add (k * 18)).add j) = some v) ∧ (∀ j v, q.cells.toList[j]? = some v → W'.cell? ((g2.add (k * 18)).add j) = some v)) := Lib.hid fun W' t => ⟨fun j v hj => t.cell (HC1.out j v hj) (fun h => h), fun j v hj => t.cell (HC2.out j v hj) (fun h => h)⟩
      have HT0 : Hid (Turn (fun _ => False) wr wr.drew) := Turn.drew (Turn.refl _ _)
      have HBD : Hid (Below wr.heap.size wr wr.drew) := HT0.out.toBelow (Nat.le_refl _) (fun _ _ h => h)
      go_wp2_with (fail)
      refine wp_region_held_drew (S := (fun W' => Hid ((∀ j v, p.cells.toList[j]? = some v → W'.cell? ((g.add (k * 18)).add j) = some v) ∧ (∀ j v, q.cells.toList[j]? = some v → W'.cell? ((g2.add (k * 18)).add j) = some v)))) (by kernel_rfl) (by first | exact HK.out _ HT0.out | exact HK.out _ HT4.out) (fun hHeld => ?_)
      refine wpAnyH_take (i := 0) (oi := ⟨_, _, _, _, _, _⟩) (v := ?_) rfl (by kernel_rfl) (by kernel_rfl) (by kernel_rfl) (fun _ _ _ h => h) (Or.inl ⟨by kernel_rfl, ?_⟩) hHeld ?_
      rotate_left
      · (intro w hSw; have s12 := hSw.out; clear hSw; go_simp; try with_reducible rfl)
      simp only [Act.put, List.setIfInBounds_toArray, List.set_cons_zero, List.set_cons_succ]
      refine wpAnyH_take (i := 1) (oi := ⟨_, _, _, _, _, _⟩) (v := ?_) rfl (by kernel_rfl) (by kernel_rfl) (by kernel_rfl) (fun _ _ _ h => h) (Or.inl ⟨by kernel_rfl, ?_⟩) hHeld ?_
      rotate_left
      · (intro w hSw; have s12 := hSw.out; clear hSw; go_simp; try with_reducible rfl)
      simp only [Act.put, List.setIfInBounds_toArray, List.set_cons_zero, List.set_cons_succ]
      refine wpAnyH_take (i := 2) (oi := ⟨_, _, _, _, _, _⟩) (v := ?_) rfl (by kernel_rfl) (by kernel_rfl) (by kernel_rfl) (fun _ _ _ h => h) (Or.inl ⟨by kernel_rfl, ?_⟩) hHeld ?_
      rotate_left
      · (intro w hSw; have s12 := hSw.out; clear hSw; go_simp; try with_reducible rfl)
      simp only [Act.put, List.setIfInBounds_toArray, List.set_cons_zero, List.set_cons_succ]
      refine wpAnyH_take (i := 3) (oi := ⟨_, _, _, _, _, _⟩) (v := .agg p.cells) rfl (by kernel_rfl) (by kernel_rfl) (by kernel_rfl) (fun _ _ _ h => h) (Or.inl ⟨by kernel_rfl, ?_⟩) hHeld ?_
      · (intro w hSw; have s12 := hSw.out; clear hSw; exact rLoadRowA (x0 := g.add (k * 18)) (p := p) rfl (by with_unfolding_all rfl) s12.1)
      simp only [Act.put, List.setIfInBounds_toArray, List.set_cons_zero, List.set_cons_succ]
      refine wpAnyH_take (i := 4) (oi := ⟨_, _, _, _, _, _⟩) (v := ?_) rfl (by kernel_rfl) (by kernel_rfl) (by kernel_rfl) (fun _ _ _ h => h) (Or.inl ⟨by kernel_rfl, ?_⟩) hHeld ?_
      rotate_left
      · (intro w hSw; have s12 := hSw.out; clear hSw; go_simp; try with_reducible rfl)
      simp only [Act.put, List.setIfInBounds_toArray, List.set_cons_zero, List.set_cons_succ]
      refine wpAnyH_take (i := 5) (oi := ⟨_, _, _, _, _, _⟩) (v := ?_) rfl (by kernel_rfl) (by kernel_rfl) (by kernel_rfl) (fun _ _ _ h => h) (Or.inl ⟨by kernel_rfl, ?_⟩) hHeld ?_
      rotate_left
      · (intro w hSw; have s12 := hSw.out; clear hSw; go_simp; try with_reducible rfl)
      simp only [Act.put, List.setIfInBounds_toArray, List.set_cons_zero, List.set_cons_succ]
      refine wpAnyH_take (i := 6) (oi := ⟨_, _, _, _, _, _⟩) (v := ?_) rfl (by kernel_rfl) (by kernel_rfl) (by kernel_rfl) (fun _ _ _ h => h) (Or.inl ⟨by kernel_rfl, ?_⟩) hHeld ?_
      rotate_left
      · (intro w hSw; have s12 := hSw.out; clear hSw; go_simp; try with_reducible rfl)
      simp only [Act.put, List.setIfInBounds_toArray, List.set_cons_zero, List.set_cons_succ]
      refine wpAnyH_take (i := 7) (oi := ⟨_, _, _, _, _, _⟩) (v := .agg q.cells) rfl (by kernel_rfl) (by kernel_rfl) (by kernel_rfl) (fun _ _ _ h => h) (Or.inl ⟨by kernel_rfl, ?_⟩) hHeld ?_
      · (intro w hSw; have s12 := hSw.out; clear hSw; exact rLoadRowA (x0 := g2.add (k * 18)) (p := q) rfl (by with_unfolding_all rfl) s12.2)
      simp only [Act.put, List.setIfInBounds_toArray, List.set_cons_zero, List.set_cons_succ]
      refine wpAnyH_ready (rs := [8]) (by kernel_rfl) (by simp) ?_
      refine AllReadyH.cons rfl (fun K hK => ?_) AllReadyH.nil
      go_simp
      go_wp2_with (go_at_call 37; refine (same_calls _ p q C C' D D' (HL1.out.keep HBD.out) (HL2.out.keep HBD.out) HCD.out.1 HCD.out.2).mono ?_; rw [decide_eq_true HSM.out]; rintro e w4 ⟨rfl, hb4⟩; have HT4 : Hid (Turn (fun _ => False) wr w4) := HT0.out.trans (Turn.of_below hb4); clear hb4)
      refine hK.out _ _ (by first | exact HK.out _ HT0.out | exact HK.out _ HT4.out) (fun hHeld => ?_)
      clear hK K
      refine wpAnyH_take (i := 9) (oi := ⟨_, _, _, _, _, _⟩) (v := ?_) rfl (by kernel_rfl) (by kernel_rfl) (by kernel_rfl) (fun _ _ _ h => h) (Or.inl ⟨by kernel_rfl, ?_⟩) hHeld ?_
      rotate_left
      · (intro w hSw; have s12 := hSw.out; clear hSw; go_simp; try with_reducible rfl)
      simp only [Act.put, List.setIfInBounds_toArray, List.set_cons_zero, List.set_cons_succ]
      refine wpAnyH_done (by kernel_rfl) ?_ _
      go_wp2_with (fail)
      go_roundw
      case rel => exact ⟨k + 1, by omega, by go_num, hB.out.trans (HT4.out.toBelow hB.out.size (fun _ _ h => h))⟩
      case measure => simp [intOf]; omega
    · go_wp2_with (fail)
      go_ret
      exact ⟨rfl, hB.out⟩
end Snd
end Go.Proofs.YtonemmdipmohgaaDoor

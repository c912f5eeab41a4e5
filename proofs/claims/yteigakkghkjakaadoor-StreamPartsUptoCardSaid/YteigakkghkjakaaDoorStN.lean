/- StreamParts: packets whose bytes are fed, however they are parted, are told as they were, and nothing is left. -/
import Derived.Test.YteigakkghkjakaaDoorStJ
import Derived.Test.YteigakkghkjakaaDoorRfJ
import Derived.Deep.Cut
import Derived.Deep.CutRange
namespace Go.Proofs.YteigakkghkjakaaDoor
open Go.RowKit Go.ChangeShapes
set_option linter.unusedVariables false
set_option linter.unusedSimpArgs false
namespace Str
open Utf (nums nums_length nums_bytes IsStr nums_str)
open Var (BT info_byte digs digs_length tell RetTell GivesBytes)
open Pk
open Ref (MayIn may_calls)

/-- A row of packets, wherever it lies. -/
def PkReadsA (w : World) (A : Option Addr) (ps : List PkX) : Prop := ∀ i (hi : i < ps.length), ∃ x, A = some x ∧ (∀ j v, ps[i].1.cells.toList[j]? = some v → w.cell? ((x.add (i * 18)).add j) = some v) ∧ Lies w ps[i].1 ps[i].2.1 ps[i].2.2
theorem PkReadsA.keep {w w' : World} {A : Option Addr} {ps : List PkX} (h : PkReadsA w A ps) (b : Below w.heap.size w w') : PkReadsA w' A ps := by
  intro i hi
  obtain ⟨g, hA, hc, hl⟩ := h i hi
  refine ⟨g, hA, fun j v hj => ?_, hl.keep b⟩
  have := hc j v hj
  rw [b.cell (World.block_lt_of_cell? w _ this)]; exact this
theorem load_rowA {W : World} {x0 : Addr} {p : Pkt} (h : ∀ j v, p.cells.toList[j]? = some v → W.cell? (x0.add j) = some v) : (Instr.loadAt PT (.pointer (some x0))).run Tryd.prog W = .ok (.agg p.cells) W := by
  have := load_agg W PT x0 p.cells.toList (by kernel_rfl) (by kernel_rfl) h
  simpa using this
theorem rLoadRowA {ev : Operand → Value} {op : Oper} {x : Operand} {W : World} {x0 : Addr} {p : Pkt} (ho : op.op = .load PT x) (hx : ev x = .pointer (some x0)) (h : ∀ j v, p.cells.toList[j]? = some v → W.cell? (x0.add j) = some v) : (execOp ev op).run Tryd.prog W = .ok (.value (.agg p.cells)) W :=
  rLoad ho (by rw [hx]; exact load_rowA h)
theorem wp_load_rowA {ops : Array Oper} {rest : List Oper} {o : Oper} {a : Act} {W : World} {Q : Exit → Act → World → Prop} {x : Operand} {x0 : Addr} {p : Pkt} (ho : o.op = .load PT x) (hx : a.eval x = .pointer (some x0)) (h : Hid (∀ j v, p.cells.toList[j]? = some v → W.cell? (x0.add j) = some v))
    (hK : wpList Tryd.prog ops Q rest (a.put o.dst (.agg p.cells)) W) (hgd : Region.wanted o (yielded ops a.tmps) = true) : wpList Tryd.prog ops Q (o :: rest) a W :=
  st_val _ hgd (rLoadRowA ho hx h.out) hK
set_option maxRecDepth 100000 in
set_option maxHeartbeats 2000000 in
theorem rows_calls3 (w : World) (A B : Option Addr) (c d n m : Nat) (ps qs : List PkX) (hn : n = ps.length) (hm : m = qs.length) (hP : PkReads w A ps) (hQ : PkReadsA w B qs) (hcn : ps.length ≤ c) (hdm : qs.length ≤ d) (hl : (ps.length : Int) ≤ 1000000000) (hS : Alike ps qs) :
    Calls Tryd.prog 31 #[.slice A n c, .slice B m d] w fun e w' => e = .returned (.bool true) ∧ Below w.heap.size w w' := by
  subst hn hm
  have HP := Lib.hid hP
  have HQ := Lib.hid hQ
  have HS := Lib.hid hS
  have hne : ((ps.length : Int) != (qs.length : Int)) = false := by rw [hS.len]; simp
  have hlen : Hid (ps.length = qs.length) := hS.len
  clear hP hQ hS
  obtain ⟨k0, hk0⟩ : ∃ k0, Hid (k0 = ps.length) := ⟨_, rfl⟩
  go_enter Tryd.func31, Tryd.ntmps31
  go_wp2_with (fail)
  clear hne
  go_loopw [5] (fun iv wr => ∃ k : Nat, k ≤ ps.length ∧ iv = .int .i64 k ∧ Hid (Below w.heap.size w wr)) (fun iv _ => ps.length - (intOf iv).toNat)
  case atStart => exact ⟨0, Nat.zero_le _, rfl, Below.refl _ _⟩
  case round =>
    obtain ⟨k, hk, rfl, hB⟩ := hrel
    have hkb : (k : Int) ≤ 1000000000 := by omega
    by_cases hkl : k < ps.length
    · have hkm : k < qs.length := by have := hlen.out; omega
      obtain ⟨g, rfl, hc1, hL1⟩ := (HP.out.keep hB.out) k hkl
      obtain ⟨g2, rfl, hc2, hL2⟩ := (HQ.out.keep hB.out) k hkm
      have hsm := HS.out.same k hkl hkm
      have hcc := HS.out.codes _ (List.getElem_mem hkl)
      have hdd := HS.out.subs _ (List.getElem_mem hkl)
      obtain ⟨⟨p, C, D⟩, hx⟩ : ∃ x, Hid (x = ps[k]) := ⟨ps[k], by rw [Hid]⟩
      obtain ⟨⟨q, C', D'⟩, hy⟩ : ∃ x, Hid (x = qs[k]) := ⟨qs[k], by rw [Hid]⟩
      rw [← hx.out] at hc1 hL1 hsm hcc hdd
      rw [← hy.out] at hc2 hL2 hsm
      have HC1 := Lib.hid hc1
      have HC2 := Lib.hid hc2
      have HL1 := Lib.hid hL1
      have HL2 := Lib.hid hL2
      have HSM : Hid (SameP p q C C' D D') := hsm
      have HCD : Hid ((C.length : Int) ≤ 2000000 ∧ (D.length : Int) ≤ 2000000) := ⟨hcc, hdd⟩
      clear hc1 hc2 hL1 hL2 hsm hcc hdd
      have HK : Hid (∀ W', Turn (fun _ => False) wr W' → (∀ j v, p.cells.toList[j]? = some v → W'.cell? ⟨g, k * 18 + j, none⟩ = some v) ∧ (∀ j v, q.cells.toList[j]? = some v → W'.cell? ((g2.add (k * 18)).add j) = some v)) := Lib.hid fun W' t => ⟨fun j v hj => t.cell (HC1.out j v hj) (fun h => h), fun j v hj => t.cell (HC2.out j v hj) (fun h => h)⟩
      have HT0 : Hid (Turn (fun _ => False) wr wr.drew) := Turn.drew (Turn.refl _ _)
      have HBD : Hid (Below wr.heap.size wr wr.drew) := HT0.out.toBelow (Nat.le_refl _) (fun _ _ h => h)
      go_wp2_with (fail)
      refine wp_region_held_drew (S := (fun W' => Hid ((∀ j v, p.cells.toList[j]? = some v → W'.cell? ⟨g, k * 18 + j, none⟩ = some v) ∧ (∀ j v, q.cells.toList[j]? = some v → W'.cell? ((g2.add (k * 18)).add j) = some v)))) (by kernel_rfl) (by first | exact HK.out _ HT0.out | exact HK.out _ HT4.out) (fun hHeld => ?_)
      refine wpAnyH_take (i := 0) (oi := ⟨_, _, _, _, _, _⟩) (v := ?_) rfl (by kernel_rfl) (by kernel_rfl) (by kernel_rfl) (fun _ _ _ h => h) (Or.inl ⟨by kernel_rfl, ?_⟩) hHeld ?_
      rotate_left
      · (intro w hSw; have s12 := hSw.out; clear hSw; go_simp; try with_reducible rfl)
      simp only [Act.put, List.setIfInBounds_toArray, List.set_cons_zero, List.set_cons_succ]
      refine wpAnyH_take (i := 1) (oi := ⟨_, _, _, _, _, _⟩) (v := ?_) rfl (by kernel_rfl) (by kernel_rfl) (by kernel_rfl) (fun _ _ _ h => h) (Or.inl ⟨by kernel_rfl, ?_⟩) hHeld ?_
      rotate_left
      · (intro w hSw; have s12 := hSw.out; clear hSw; go_simp; try with_reducible rfl)
      simp only [Act.put, List.setIfInBounds_toArray, List.set_cons_zero, List.set_cons_succ]
      refine wpAnyH_take (i := 2) (oi := ⟨_, _, _, _, _, _⟩) (v := ?_) rfl (by kernel_rfl) (by kernel_rfl) (by kernel_rfl) (fun _ _ _ h => h) (Or.inl ⟨by kernel_rfl, ?_⟩) hHeld ?_
      rotate_left
      · (intro w hSw; have s12 := hSw.out; clear hSw; go_simp; try with_reducible rfl)
      simp only [Act.put, List.setIfInBounds_toArray, List.set_cons_zero, List.set_cons_succ]
      refine wpAnyH_take (i := 3) (oi := ⟨_, _, _, _, _, _⟩) (v := .agg p.cells) rfl (by kernel_rfl) (by kernel_rfl) (by kernel_rfl) (fun _ _ _ h => h) (Or.inl ⟨by kernel_rfl, ?_⟩) hHeld ?_
      · (intro w hSw; have s12 := hSw.out; clear hSw; exact rLoadRow (i := k) (g := g) (p := p) rfl (by with_unfolding_all rfl) s12.1)
      simp only [Act.put, List.setIfInBounds_toArray, List.set_cons_zero, List.set_cons_succ]
      refine wpAnyH_take (i := 4) (oi := ⟨_, _, _, _, _, _⟩) (v := ?_) rfl (by kernel_rfl) (by kernel_rfl) (by kernel_rfl) (fun _ _ _ h => h) (Or.inl ⟨by kernel_rfl, ?_⟩) hHeld ?_
      rotate_left
      · (intro w hSw; have s12 := hSw.out; clear hSw; go_simp; try with_reducible rfl)
      simp only [Act.put, List.setIfInBounds_toArray, List.set_cons_zero, List.set_cons_succ]
      refine wpAnyH_take (i := 5) (oi := ⟨_, _, _, _, _, _⟩) (v := ?_) rfl (by kernel_rfl) (by kernel_rfl) (by kernel_rfl) (fun _ _ _ h => h) (Or.inl ⟨by kernel_rfl, ?_⟩) hHeld ?_
      rotate_left
      · (intro w hSw; have s12 := hSw.out; clear hSw; go_simp; try with_reducible rfl)
      simp only [Act.put, List.setIfInBounds_toArray, List.set_cons_zero, List.set_cons_succ]
      refine wpAnyH_take (i := 6) (oi := ⟨_, _, _, _, _, _⟩) (v := ?_) rfl (by kernel_rfl) (by kernel_rfl) (by kernel_rfl) (fun _ _ _ h => h) (Or.inl ⟨by kernel_rfl, ?_⟩) hHeld ?_
      rotate_left
      · (intro w hSw; have s12 := hSw.out; clear hSw; go_simp; try with_reducible rfl)
      simp only [Act.put, List.setIfInBounds_toArray, List.set_cons_zero, List.set_cons_succ]
      refine wpAnyH_take (i := 7) (oi := ⟨_, _, _, _, _, _⟩) (v := .agg q.cells) rfl (by kernel_rfl) (by kernel_rfl) (by kernel_rfl) (fun _ _ _ h => h) (Or.inl ⟨by kernel_rfl, ?_⟩) hHeld ?_
      · (intro w hSw; have s12 := hSw.out; clear hSw; exact rLoadRowA (x0 := g2.add (k * 18)) (p := q) rfl (by with_unfolding_all rfl) s12.2)
      simp only [Act.put, List.setIfInBounds_toArray, List.set_cons_zero, List.set_cons_succ]
      refine wpAnyH_ready (rs := [8]) (by kernel_rfl) (by simp) ?_
      refine AllReadyH.cons rfl (fun K hK => ?_) AllReadyH.nil
      go_simp
      go_wp2_with (go_at_call 18; refine (same_calls _ p q C C' D D' (HL1.out.keep HBD.out) (HL2.out.keep HBD.out) HCD.out.1 HCD.out.2).mono ?_; rw [decide_eq_true HSM.out]; rintro e w4 ⟨rfl, hb4⟩; have HT4 : Hid (Turn (fun _ => False) wr w4) := HT0.out.trans (Turn.of_below hb4); clear hb4)
      refine hK.out _ _ (by first | exact HK.out _ HT0.out | exact HK.out _ HT4.out) (fun hHeld => ?_)
      clear hK K
      refine wpAnyH_take (i := 9) (oi := ⟨_, _, _, _, _, _⟩) (v := ?_) rfl (by kernel_rfl) (by kernel_rfl) (by kernel_rfl) (fun _ _ _ h => h) (Or.inl ⟨by kernel_rfl, ?_⟩) hHeld ?_
      rotate_left
      · (intro w hSw; have s12 := hSw.out; clear hSw; go_simp; try with_reducible rfl)
      simp only [Act.put, List.setIfInBounds_toArray, List.set_cons_zero, List.set_cons_succ]
      refine wpAnyH_done (by kernel_rfl) ?_ _
      go_wp2_with (fail)
      go_roundw
      case rel => exact ⟨k + 1, by omega, by go_num, hB.out.trans (HT4.out.toBelow hB.out.size (fun _ _ h => h))⟩
      case measure => simp [intOf]; omega
    · go_wp2_with (fail)
      go_ret
      exact ⟨rfl, hB.out⟩


/-- What is asked of the sizes of a packet. -/
structure PkFit (x : PkX) : Prop where
  codes : x.2.1.length ≤ 1048576
  subs : x.2.2.length ≤ 1048576
  payload : x.1.payload.size ≤ 1048576
  pass : x.1.pass.size ≤ 140737488351232
theorem PkFit.may {w : World} {x : PkX} (h : PkFit x) (hl : Lies w x.1 x.2.1 x.2.2) : MayIn w x.1 x.2.1 x.2.2 := by
  have h1 := h.codes
  have h2 := h.subs
  have h3 := h.payload
  have h4 := h.pass
  exact ⟨hl, by omega, by omega, by omega, by omega, fun hG => good_len hl hG (by omega) (by omega) (fun _ => by omega)⟩
theorem bytesB_length' (p : Pkt) (C : List Int) (D : List (ByteArray × Int)) : (bytesB p C D).length = 1 + (digs 3 ((bodyB p C D).length : Int)).length + (bodyB p C D).length := by
  simp [bytesB]; omega
/-- A packet's bytes ahead of others are cut off. -/
theorem step_of_pkt {most : Int} {L R : List Int} {p : Pkt} {C : List Int} {D : List (ByteArray × Int)} (h : IsPkt L p C D) (hm : (L.length : Int) ≤ most) : stepS most (L ++ R) IsP = .inl L.length := by
  obtain ⟨ht, hd, h2⟩ := pkt_tell h
  have hl := congrArg List.length h.2.2
  rw [bytesB_length'] at hl
  have hdl := digs_length 3 ((bodyB p C D).length : Int)
  have hsum : 1 + ((digs 3 ((bodyB p C D).length : Int)).length : Int) + ((bodyB p C D).length : Int) = (L.length : Int) := by omega
  have htm : tell 4 true (L ++ R) 1 0 1 = tell 4 true L 1 0 1 := tell_more 4 true L R 1 0 1 (by decide) (by rw [ht]; simp)
  rw [ht] at htm
  have hh := step_pkt (most := most) htm (by rw [hsum]; omega) (by rw [hsum, List.length_append]; omega) (by rw [hsum, Int.toNat_natCast, List.take_left]; exact ⟨p, C, D, h⟩)
  rw [hsum, Int.toNat_natCast] at hh
  exact hh
theorem cuts_all {most : Int} : ∀ {Ls : List (List Int)} {ps : List PkX} (f : Nat), Told Ls ps → (∀ L ∈ Ls, (L.length : Int) ≤ most) → Ls.flatten.length < f → cuts most f Ls.flatten = (Ls, 0, [])
  | _, _, 0, _, _, h => absurd h (by omega)
  | [], [], f + 1, _, _, _ => by
    show cuts most (f + 1) [] = _
    rw [cuts_inr (step_more (by decide))]; rfl
  | L :: Ls, x :: ps, f + 1, ht, hm, hf => by
    have h2 := (pkt_tell ht.1).2.2
    have hfl : (L :: Ls).flatten = L ++ Ls.flatten := rfl
    rw [hfl] at hf ⊢
    rw [List.length_append] at hf
    rw [cuts_inl (step_of_pkt ht.1 (hm L (by simp))), List.take_left, List.drop_left, cuts_all f ht.2 (fun M hM => hm M (by simp [hM])) (by omega)]
  | [], _ :: _, _, h, _, _ => h.elim
  | _ :: _, [], _, h, _, _ => h.elim
theorem told_bytes {w : World} : ∀ {Ls : List (List Int)} {ps : List PkX}, Told Ls ps → (∀ x ∈ ps, Lies w x.1 x.2.1 x.2.2) → ∀ L ∈ Ls, ∀ y ∈ L, 0 ≤ y ∧ y < 256
  | [], _, _, _, _, h => by cases h
  | L :: Ls, x :: ps, ht, hl, M, hM => by
    rcases List.mem_cons.1 hM with e | e
    · subst e
      have := bytesB_bytes (hl x (by simp)) ht.1.2.1
      rw [ht.1.2.2] at this
      exact this
    · exact told_bytes ht.2 (fun y hy => hl y (by simp [hy])) M e
  | _ :: _, [], h, _, _, _ => h.elim
theorem cuts_fit2 {most : Int} {M : List Int} {Ls : List (List Int)} {cd : Int} {r : List Int} (h : (Ls, cd, r) = cuts most (M.length + 1) M) (hb : ∀ x ∈ M, 0 ≤ x ∧ x < 256) (hM : M.length ≤ 60000) {ps : List PkX} (ht : Told Ls ps) :
    ps.length ≤ 60000 ∧ (∀ x ∈ ps, (x.2.1.length : Int) ≤ 2000000) ∧ (∀ x ∈ ps, (x.2.2.length : Int) ≤ 2000000) ∧ (∀ L ∈ Ls, (∀ x ∈ L, 0 ≤ x ∧ x < 256) ∧ L.length ≤ 900000000) := by
  have hs := cuts_spec most (M.length + 1) M (by omega) hb
  rw [← h] at hs
  have hs : ((∀ L ∈ Ls, (L.length : Int) ≤ most ∧ L.length ≤ M.length) ∧ ((cd = 0 ∧ Ls.flatten ++ r = M) ∨ ((cd = 100 ∨ cd = 101) ∧ r = [] ∧ ∃ Y : List Int, 0 < Y.length ∧ Ls.flatten ++ Y = M))) := hs
  have hsub : ∃ Y, Ls.flatten ++ Y = M := by
    rcases hs.2 with ⟨_, h⟩ | ⟨_, _, Y, _, h⟩
    · exact ⟨_, h⟩
    · exact ⟨_, h⟩
  obtain ⟨Y, hY⟩ := hsub
  have hL : ∀ L ∈ Ls, (∀ x ∈ L, 0 ≤ x ∧ x < 256) ∧ L.length ≤ 900000000 := fun L hL => ⟨fun x hx => hb x (by rw [← hY]; exact List.mem_append_left _ (List.mem_flatten.2 ⟨L, hL, hx⟩)), by have := (hs.1 L hL).2; omega⟩
  have hpl := told_len ht
  have h2 : ∀ L ∈ Ls, 2 ≤ L.length := fun L hL => by
    obtain ⟨i, hi, rfl⟩ := List.getElem_of_mem hL
    exact (pkt_tell (told_get ht i (by rw [hpl]; exact hi) hi)).2.2
  have h3 := flat_two Ls h2
  have h4 := congrArg List.length hY
  rw [List.length_append] at h4
  have hx : ∀ x ∈ ps, x.2.1.length ≤ 60001 ∧ x.2.2.length ≤ 60000 := fun x hx => by
    obtain ⟨i, hi, rfl⟩ := List.getElem_of_mem hx
    have hi' : i < Ls.length := by rw [← hpl]; exact hi
    have hI := told_get ht i hi hi'
    obtain ⟨b1, b2, _⟩ := is_bounds hI (hL _ (List.getElem_mem hi')).1
    have := (hs.1 _ (List.getElem_mem hi')).2
    exact ⟨by omega, by omega⟩
  exact ⟨by omega, fun x h => by have := (hx x h).1; omega, fun x h => by have := (hx x h).2; omega, hL⟩
theorem cuts_rest2 {most : Int} {M : List Int} {Ls : List (List Int)} {cd : Int} {r : List Int} (h : (Ls, cd, r) = cuts most (M.length + 1) M) (hb : ∀ x ∈ M, 0 ≤ x ∧ x < 256) : r.length ≤ M.length ∧ (∀ x ∈ r, 0 ≤ x ∧ x < 256) ∧ (cd = 0 ∨ r = []) := by
  have hs := cuts_spec most (M.length + 1) M (by omega) hb
  rw [← h] at hs
  rcases hs.2 with ⟨h0, he⟩ | ⟨h1, h2, _⟩
  · have he' : Ls.flatten ++ r = M := he
    have hl := congrArg List.length he'
    rw [List.length_append] at hl
    exact ⟨by omega, fun x hx => hb x (by rw [← he']; exact List.mem_append_right _ hx), .inl h0⟩
  · have h2' : r = [] := h2
    rw [h2']
    exact ⟨Nat.zero_le _, fun x hx => (by cases hx), .inr rfl⟩
/-- Bytes that are cut up, from where they stand. -/
structure At12 (w : World) (A : Option Addr) (c : Nat) (R : List Int) : Prop where
  reads : Reads .u8 w A R
  len : R.length ≤ c
  cap : c ≤ 9223372036854775807
  none_ : A = none → c = 0
  bytes : ∀ x ∈ R, 0 ≤ x ∧ x < 256
theorem At12.keep {w w' : World} {A : Option Addr} {c : Nat} {R : List Int} (h : At12 w A c R) (b : Below w.heap.size w w') : At12 w' A c R := ⟨h.reads.keep b, h.len, h.cap, h.none_, h.bytes⟩
theorem At12.drop {w : World} {x : Addr} {c : Nat} {R : List Int} (h : At12 w (some x) c R) (m : Nat) (hm : m ≤ R.length) : At12 w (if c = m then some x else some (x.add m)) (c - m) (R.drop m) := by
  have h1 := h.len
  have h2 := h.cap
  have hl : (R.drop m).length = R.length - m := List.length_drop
  by_cases hc : c = m
  · rw [if_pos hc, show c - m = 0 by omega]
    have hd0 : R.drop m = [] := by apply List.drop_eq_nil_of_le; omega
    rw [hd0]
    exact ⟨fun h => absurd h (by simp), Nat.le_refl _, by decide, fun h => (by cases h), fun x hx => (by cases hx)⟩
  · rw [if_neg hc]
    exact ⟨reads_drop m h.reads, by omega, by omega, fun h => (by cases h), drop_bytes m h.bytes⟩
theorem At12.turn {w w' : World} {A : Option Addr} {c : Nat} {R : List Int} {S : Nat → Prop} (h : At12 w A c R) (t : Turn S w w') (hS : ∀ x, A = some x → ¬ S x.block) : At12 w' A c R := ⟨reads_turn h.reads t hS, h.len, h.cap, h.none_, h.bytes⟩


set_option maxRecDepth 100000 in
set_option maxHeartbeats 4000000 in
theorem parts_walk (a0 : Option Addr) (len0 cap0 : Nat) (ps : List PkX) (a1 : Option Addr) (len1 cap1 : Nat) (z1 : List Int) (w : World) (h0 : len0 = ps.length ∧ ps.length ≤ cap0) (hP : PkReadsA w a0 ps) (hfit : ∀ x ∈ ps, PkFit x) (hpl : (ps.length : Int) ≤ 140737488351232) (w1 : IsRow .i64 w a1 len1 cap1 z1) (y1 : cap1 * 8 ≤ 140737488351232) (hT : Lib.Utf8Tabs 0 1 w) :
    Calls Tryd.prog 11 #[.slice a0 len0 cap0, .slice a1 len1 cap1] w fun e w' => e = .returned (.bool true) ∧ Below w.heap.size w w' := by
  obtain ⟨h0, hcap0⟩ := h0
  subst h0
  obtain ⟨hzl, hzr⟩ := row_reads w1
  have hlen1 : (len1 : Int) ≤ 140737488351232 := by
    have := w1.form.1
    omega
  have h2w := tabs_lt hT
  have HT := Lib.hid hT
  have HP := Lib.hid hP
  have HFT := Lib.hid hfit
  have HZ := Lib.hid hzr
  have HZL := Lib.hid hzl
  have HW1 := Lib.hid w1
  clear hT hP hfit hzl hzr w1 y1
  by_cases hbig : (20 : Int) < (ps.length : Int)
  · have hd := decide_eq_true hbig
    go_enter Tryd.func11, Tryd.ntmps11
    go_wp2_with (fail)
    go_ret
    exact ⟨rfl, Below.refl _ _⟩
  have hd := decide_eq_false hbig
  have hp20 : (ps.length : Int) ≤ 20 := by omega
  clear hbig hpl
  have HN := Lib.hid (new_calls w 268435460)
  go_enter Tryd.func11, Tryd.ntmps11
  go_wp2_with (fail)
  clear hd
  refine HN.out.mono ?_
  rintro e w1 (⟨_, _, rfl, hb1, hs1⟩ | ⟨hno, _⟩)
  case inr => exact absurd ⟨by decide, by decide⟩ hno
  obtain ⟨s, hs⟩ : ∃ s, Hid (s = w.heap.size) := ⟨_, rfl⟩
  have hs2 : 2 ≤ s := by rw [hs.out]; exact h2w
  rw [← hs.out] at hs1 ⊢
  have HB1 := Lib.hid hb1
  have HS1 := Lib.hid hs1
  have hs1w : Hid (s < w1.heap.size) := hs1.lt
  clear hb1 hs1 HN
  go_wp2_with (fail)
  go_loopw [7, 8, 9, 10] (fun v7 v8 v9 v10 wr => ∃ (i : Nat) (X : List Int) (Aa : Option Addr) (ca : Nat) (Ls : List (List Int)), v7 = .slice Aa X.length ca ∧ v8 = .int .i64 i ∧ i ≤ ps.length ∧ Hid (OwnInts wr w1.heap.size BT .u8 (.slice Aa X.length ca) X) ∧ Hid (X = Ls.flatten) ∧ Hid (Told Ls (ps.take i)) ∧ Hid (∀ L ∈ Ls, L.length ≤ 2000) ∧ Hid (X.length ≤ 2000 * i) ∧ Hid (Below w1.heap.size w1 wr)) (fun _ v8 _ _ _ => ps.length - (intOf v8).toNat)
  case atStart => exact ⟨0, [], none, 0, [], rfl, rfl, Nat.zero_le _, OwnInts.nil _ _ _ _, rfl, trivial, (by intro L hL; cases hL), Nat.le_refl _, Below.refl _ _⟩
  case round =>
    obtain ⟨i, X, Aa, ca, Ls, rfl, rfl, hi, hO, hX, hTo, hL2, hXl, hB⟩ := hrel
    have hib : (i : Int) ≤ 20 := by omega
    have hXb : (X.length : Int) ≤ 40000 := by have := hXl.out; omega
    have HBw : Hid (Below w.heap.size w wr) := HB1.out.trans (hB.out.mono HB1.out.size)
    by_cases hil : i < ps.length
    · have hdi : decide (i < ps.length) = true := decide_eq_true hil
      obtain ⟨x0, rfl, hc0, hl0⟩ := (HP.out.keep HBw.out) i hil
      have hfx := HFT.out _ (List.getElem_mem hil)
      have hmi := PkFit.may hfx hl0
      obtain ⟨⟨p, C, D⟩, hx⟩ : ∃ x, Hid (x = ps[i]) := ⟨ps[i], by rw [Hid]⟩
      rw [← hx.out] at hc0 hl0 hmi
      have HC0 := Lib.hid hc0
      have HMI : Hid (MayIn wr p C D) := hmi
      have hts : Hid (ps.take (i + 1) = ps.take i ++ [(p, C, D)]) := by rw [Hid, List.take_succ_eq_append_getElem hil, hx.out]
      clear hc0 hl0 hfx hmi
      go_wp2_with (with_reducible refine wp_load_rowA (o := ⟨some 39, _, _, _, _, _⟩) rfl rfl HC0 ?_ rfl)
      refine (bytes_calls wr (Utf.tabs_keep HT.out HBw.out) p C D HMI.out.lies HMI.out.len).mono ?_
      rintro e w2 ⟨hb2, (⟨hM, A2, c2, rfl, ho2⟩ | ⟨hnM, rfl⟩)⟩
      · obtain ⟨L, hLd⟩ : ∃ L, Hid (L = bytesB p C D) := ⟨_, rfl⟩
        have hLb : (bytesB p C D).length ≤ 268435465 := by
          have h1 := bytesB_length' p C D
          have h2 := digs_length 3 ((bodyB p C D).length : Int)
          have := hM.2
          omega
        rw [← hLd.out] at ho2 hLb ⊢
        have hLi : (L.length : Int) ≤ 268435465 := by omega
        have hIP : Hid (IsPkt L p C D) := ⟨Ref.lies_long HMI.out.lies, hM, hLd.out.symm⟩
        have HO2 := Lib.hid ho2
        have HBw2 : Hid (Below w.heap.size w w2) := HBw.out.trans (hb2.mono HBw.out.size)
        have HB2 := Lib.hid hb2
        clear hb2 ho2 hM hLb
        by_cases hL1 : (2000 : Int) < (L.length : Int)
        · have hdl := decide_eq_true hL1
          go_wp2_with (fail)
          go_ret
          exact ⟨rfl, HBw2.out⟩
        have hdl := decide_eq_false hL1
        have hL2k : L.length ≤ 2000 := by omega
        clear hL1
        obtain ⟨_, _, hr2, hn2⟩ := own_reads HO2.out
        have HR2 := Lib.hid (And.intro hr2 hn2)
        have hOX : Hid (OwnInts w2 w1.heap.size BT .u8 (.slice Aa X.length ca) X) := hO.out.turn (Turn.of_below (S := fun _ => False) HB2.out) (fun _ _ h => h)
        have hz2 : Hid (w1.heap.size ≤ w2.heap.size) := by have h1 := hB.out.size; have h2 := HB2.out.size; rw [Hid]; omega
        clear hr2 hn2
        go_wp2_with (at_builtin; go_must (refine wp_append_row (W := w2) w1.heap.size rfl _ _ 22 5 .u8 1 rfl Tryd.underlying22 Var.info_byte (.slice Aa X.length ca) X L A2 c2 rfl rfl HR2.out.2 HR2.out.1 hOX.out hz2.out (by omega) ?_))
        intro A3 c3 w3 ho3 ht3
        simp only [← List.length_append] at ho3 ⊢
        have HO3 := Lib.hid ho3
        have HB3 : Hid (Below w1.heap.size w1 w3) := ht3.belowTrans (hB.out.trans (HB2.out.mono hB.out.size)) hz2.out (fun j hj e => by have := (own_block_ge hOX.out j e).1; omega)
        clear ho3 ht3
        go_wp2_with (fail)
        go_roundw
        case rel =>
          refine ⟨i + 1, X ++ L, A3, c3, Ls ++ [L], rfl, by go_num, by omega, HO3.out, by rw [hX.out, Hid, List.flatten_append]; simp, by rw [hts.out]; exact told_snoc hTo.out hIP.out, fun M hM => ?_, by have := hXl.out; rw [Hid, List.length_append]; omega, HB3.out⟩
          rcases List.mem_append.1 hM with h | h
          · exact hL2.out M h
          · rw [List.mem_singleton.1 h]; exact hL2k
        case measure => simp [intOf]; omega
      · have HB2 : Hid (Below w.heap.size w w2) := HBw.out.trans (hb2.mono HBw.out.size)
        have HNM := Lib.hid hnM
        have HB2' := Lib.hid hb2
        clear hb2 hnM
        go_wp2_with (fail)
        refine (awake_calls w2 (Utf.tabs_keep HT.out HB2.out)).mono ?_
        rintro e w4 ⟨rfl, hb4⟩
        have HB4 := Lib.hid (HB2.out.trans (hb4.mono HB2.out.size))
        have HBr4 : Hid (Below wr.heap.size wr w4) := HB2'.out.trans (hb4.mono HB2'.out.size)
        have HC4 : Hid (∀ j v, p.cells.toList[j]? = some v → w4.cell? ((x0.add (i * 18)).add j) = some v) := Lib.hid fun j v hj => by
          have := HC0.out j v hj
          rw [HBr4.out.cell (World.block_lt_of_cell? wr _ this)]; exact this
        have HMAY := may_calls w4 p C D ⟨HMI.out.lies.keep HBr4.out, HMI.out.c, HMI.out.d, HMI.out.pass, HMI.out.payload, HMI.out.len⟩
        rw [decide_eq_false HNM.out] at HMAY
        have HMY := Lib.hid HMAY
        clear hb4 HMAY
        go_wp2_with (with_reducible refine wp_load_rowA (o := ⟨some 53, _, _, _, _, _⟩) rfl rfl HC4 ?_ (by with_unfolding_all rfl))
        refine HMY.out.mono ?_
        rintro e w5 ⟨rfl, hb5⟩
        have HB5 := Lib.hid (HB4.out.trans (hb5.mono HB4.out.size))
        clear hb5
        go_wp2_with (fail)
        go_ret
        exact ⟨rfl, HB5.out⟩
    · have hie : i = ps.length := by omega
      subst hie
      rw [List.take_length] at hTo
      have hLies : Hid (∀ x ∈ ps, Lies wr x.1 x.2.1 x.2.2) := fun x hx => by
        obtain ⟨j, hj, rfl⟩ := List.getElem_of_mem hx
        obtain ⟨_, _, _, h⟩ := (HP.out.keep HBw) j hj
        exact h
      have hXB : Hid (∀ y ∈ X, 0 ≤ y ∧ y < 256) := fun y hy => by
        rw [hX.out] at hy
        obtain ⟨L, hL, hyL⟩ := List.mem_flatten.1 hy
        exact told_bytes hTo.out hLies.out L hL y hyL
      have HCA : Hid (cuts 268435460 (X.length + 1) X = (Ls, 0, [])) := by
        have h := cuts_all (most := 268435460) (X.length + 1) hTo.out (fun L hL => by have := hL2.out L hL; omega) (by rw [← hX.out]; omega)
        rw [← hX.out] at h
        exact h
      obtain ⟨E0, hE0⟩ : ∃ E0, Hid (E0 = wr.heap.size) := ⟨_, rfl⟩
      have hE1 : Hid (w1.heap.size ≤ E0) := by rw [hE0.out]; exact hB.out.size
      have HAT : Hid (At12 wr Aa ca X) := by
        obtain ⟨_, h1, h2, h3⟩ := own_reads hO.out
        have hc : ca ≤ 9223372036854775807 := by obtain ⟨_, c', hv, _, h, _⟩ := hO.out.form; injection hv with _ _ e; rw [e]; exact h
        exact ⟨h2, h1, hc, h3, hXB.out⟩
      have HAB : Hid (∀ x, Aa = some x → w1.heap.size ≤ x.block ∧ x.block < E0) := fun x hx => by rw [hE0.out]; exact own_block_ge hO.out x.block (by rw [hx]; rfl)
      have HS0 : Hid (StAt wr s (s + 1) (s + 1) 268435460 0 []) := HS1.out.keep hB.out
      clear hLies hL2 hXl hO
      go_wp2_with (fail)
      go_loopw [7, 11, 12, 13, 14, 15] (fun v7 v11 v12 v13 v14 v15 wq => ∃ (k : Nat) (Ab : Option Addr) (cb t : Nat) (At : Option Addr) (ct : Nat) (qs : List PkX) (Lt : List (List Int)) (r : List Int) (B E : Nat), v7 = .slice Ab (X.drop k).length cb ∧ v11 = .slice At qs.length ct ∧ v12 = .int .i64 (t : Int) ∧ k ≤ X.length ∧ t ≤ k ∧ Hid (At12 wq Ab cb (X.drop k)) ∧ Hid (∀ x, Ab = some x → w1.heap.size ≤ x.block ∧ x.block < E0) ∧ Hid (PkRow wq E0 (.slice At qs.length ct) qs) ∧ Hid (Told Lt qs) ∧ Hid ((Lt, (0 : Int), r) = cuts 268435460 ((X.take k).length + 1) (X.take k)) ∧ Hid (StAt wq s B E 268435460 0 r) ∧ Hid (Below w.heap.size w wq) ∧ Hid (E0 ≤ wq.heap.size)) (fun v7 _ _ _ _ _ _ => Pk.rowLen v7)
      case atStart =>
        exact ⟨0, Aa, ca, 0, none, 0, [], [], [], s + 1, s + 1, rfl, rfl, rfl, Nat.zero_le _, Nat.le_refl _, HAT, HAB, PkRow.nil _ _, trivial, by (show (([] : List (List Int)), (0 : Int), ([] : List Int)) = cuts 268435460 1 []); rw [cuts_inr (step_more (by decide))]; rfl, HS0, HBw, by rw [hE0.out]; exact Nat.le_refl _⟩
      case round =>
        obtain ⟨k, Ab, cb, t, At, ct, qs, Lt, r, B, E, rfl, rfl, rfl, hk, htk, HA, HBl, HQ, HTq, HCu, HST, HBq, hEq⟩ := hrel
        obtain ⟨wq, hwq⟩ : ∃ wq, wq = wr := ⟨_, rfl⟩
        obtain ⟨Y, hY⟩ : ∃ Y, Hid (Y = X.drop k) := ⟨_, rfl⟩
        have HYL : Hid (Y.length + k = X.length) := by rw [Hid, hY.out, List.length_drop]; omega
        rw [← hY.out] at HA ⊢
        by_cases hke : k = X.length
        · have hY0 : Y = [] := List.eq_nil_of_length_eq_zero (by have := HYL.out; omega)
          subst hY0
          have hfin : Hid (Lt = Ls ∧ r = []) := by
            have h := HCu.out
            rw [hke, List.take_length, HCA.out] at h
            injection h with e1 h
            injection h with _ e2
            exact ⟨e1, e2⟩
          have HTL : Hid (Told Ls qs) := by rw [← hfin.out.1]; exact HTq.out
          have HS9 : Hid (StAt wr s B E 268435460 0 []) := by have := HST.out; rw [hfin.out.2] at this; exact this
          go_wp2_with (fail)
          refine (awake_calls _ (Utf.tabs_keep HT.out HBq.out)).mono ?_
          rintro e w4 ⟨rfl, hb4⟩
          have HB4 : Hid (Below w.heap.size w w4) := HBq.out.trans (hb4.mono HBq.out.size)
          have HFT : Hid (∀ L ∈ Ls, (∀ x ∈ L, 0 ≤ x ∧ x < 256) ∧ L.length ≤ 900000000) := (cuts_fit2 HCA.out.symm hXB.out (by omega) HTL.out).2.2.2
          have HF2 := Lib.hid (cuts_fit2 HCA.out.symm hXB.out (by omega) HTL.out)
          obtain ⟨hr1, _, hc1⟩ := (HQ.out.keep hb4).reads HTL.out HFT.out
          obtain ⟨hsm1, hsm2⟩ := told_same HTL.out hTo.out
          have HRC := Lib.hid (rows_calls3 w4 At a0 ct cap0 qs.length ps.length qs ps rfl rfl hr1 (HP.out.keep HB4.out) hc1 hcap0 (by have := HF2.out.1; omega) ⟨hsm1, hsm2, HF2.out.2.1, HF2.out.2.2.1⟩)
          have HS4 := Lib.hid (HS9.out.keep hb4)
          clear hb4 hr1 hc1 hsm1 hsm2
          go_wp2_with (fail)
          refine HRC.out.mono ?_
          rintro e w5 ⟨rfl, hb5⟩
          have HB5 := Lib.hid (HB4.out.trans (hb5.mono HB4.out.size))
          have HS5 := Lib.hid (HS4.out.keep hb5)
          clear hb5
          go_wp2_with (fail)
          refine (left_calls w5 s _ _ _ _ [] HS5.out).mono ?_
          rintro e w' ⟨rfl, rfl⟩
          go_wp2_with (fail)
          go_ret
          exact ⟨rfl, HB5.out⟩
        have hpos : 0 < Y.length := by have := HYL.out; omega
        have hYb : (Y.length : Int) ≤ 40000 := by have := HYL.out; omega
        have htb : (t : Int) ≤ 40000 := by omega
        obtain ⟨x, rfl⟩ : ∃ x, Ab = some x := by
          obtain ⟨x, hx, _⟩ := HA.out.reads hpos
          exact ⟨x, hx⟩
        have hdp : decide (0 < Y.length) = true := decide_eq_true hpos
        go_upto_region 21 with (fail)
        clear hdp
        go_cut [85] from 67 to 85 (fun v wx => ∃ b : Bool, v = .bool b ∧ (b = true → t < len1 ∧ 0 < lat (z1.take len1) t ∧ lat (z1.take len1) t < Y.length) ∧ wr = wx)
        case first =>
          by_cases ht1 : t < len1
          · obtain ⟨xz, rfl, hcz0⟩ := (HZ.out.keep HBq.out) (by rw [HZL.out]; omega)
            have hcz := hcz0 t (by rw [HZL.out]; exact ht1)
            clear hcz0
            obtain ⟨q, hq⟩ : ∃ q, Hid (q = lat (z1.take len1) t) := ⟨_, rfl⟩
            rw [← hq.out] at hcz
            have hdt : decide (t < len1) = true := decide_eq_true ht1
            by_cases q0 : 0 < q
            · have hd0 := decide_eq_true q0
              by_cases q1 : q < (Y.length : Int)
              · have hd1 := decide_eq_true q1
                go_wp2_with (fail)
                go_meet
                exact ⟨true, rfl, fun _ => ⟨ht1, by rw [← hq.out]; exact q0, by rw [← hq.out]; exact q1⟩, rfl⟩
              · have hd1 := decide_eq_false q1
                go_wp2_with (fail)
                go_meet
                exact ⟨false, rfl, fun h => (by cases h), rfl⟩
            · have hd0 := decide_eq_false q0
              go_wp2_with (fail)
              go_meet
              exact ⟨false, rfl, fun h => (by cases h), rfl⟩
          · have hdt : decide (t < len1) = false := decide_eq_false ht1
            go_wp2_with (fail)
            go_meet
            exact ⟨false, rfl, fun h => (by cases h), rfl⟩
        case rest =>
        obtain ⟨b, rfl, hb, rfl⟩ := hcut
        go_upto_if 85 with (fail)
        go_cut [13] from 86 to 89 (fun v wx => ∃ m : Nat, v = .int .i64 (m : Int) ∧ 0 < m ∧ m ≤ Y.length ∧ wr = wx)
        case first =>
          cases b with
          | true =>
            obtain ⟨ht1, q0, q1⟩ := hb rfl
            obtain ⟨xz, rfl, hcz0⟩ := (HZ.out.keep HBq.out) (by rw [HZL.out]; omega)
            have hcz := hcz0 t (by rw [HZL.out]; exact ht1)
            clear hcz0 hb
            obtain ⟨m, hm⟩ : ∃ m : Nat, lat (z1.take len1) t = (m : Int) := ⟨(lat (z1.take len1) t).toNat, by omega⟩
            rw [hm] at hcz q0 q1
            clear hm
            go_wp2_with (fail)
            go_meet
            exact ⟨m, rfl, by omega, by omega, rfl⟩
          | false =>
            go_wp2_with (fail)
            go_meet
            exact ⟨Y.length, rfl, hpos, Nat.le_refl _, rfl⟩
        case rest =>
        obtain ⟨m, rfl, hm0, hmY, rfl⟩ := hcut
        clear hb
        have hmb : (m : Int) ≤ 40000 := by omega
        have hMl : (Y.take m).length = m := by rw [List.length_take]; omega
        have hmc : m ≤ cb := by have := HA.out.len; omega
        have hXkB : ∀ y ∈ X.take k, 0 ≤ y ∧ y < 256 := fun y hy => hXB.out y (List.mem_of_mem_take hy)
        have hYmB : ∀ y ∈ Y.take m, 0 ≤ y ∧ y < 256 := fun y hy => HA.out.bytes y (List.mem_of_mem_take hy)
        have hXkl : (X.take k).length = k := by rw [List.length_take]; omega
        obtain ⟨hrl, hrb, _⟩ := cuts_rest2 HCu.out hXkB
        have HF0 := feed_calls wr (Utf.tabs_keep HT.out HBq.out) s B E 268435460 0 r HST.out hs2 (by decide) (some x) (Y.take m) cb (reads_take m HA.out.reads) (fun h => by cases h) hYmB (by omega)
        rw [hMl] at HF0
        have HF := Lib.hid HF0
        clear HF0
        obtain ⟨⟨L2, cd, r2⟩, hcut2⟩ : ∃ T, Hid (T = cuts 268435460 ((r ++ Y.take m).length + 1) (r ++ Y.take m)) := ⟨_, rfl⟩
        have hXkm : X.take (k + m) = X.take k ++ Y.take m := by rw [List.take_add, hY.out]
        have hXkml : (X.take k ++ Y.take m).length = k + m := by rw [List.length_append, hXkl, hMl]
        have hrYl : (r ++ Y.take m).length ≤ k + m := by rw [List.length_append, hMl]; rw [hXkl] at hrl; omega
        have hrYB : ∀ y ∈ r ++ Y.take m, 0 ≤ y ∧ y < 256 := fun y hy => by
          rcases List.mem_append.1 hy with h | h
          · exact hrb y h
          · exact hYmB y h
        have HJ : Hid ((Lt ++ L2, cd, r2) = cuts 268435460 ((X.take (k + m)).length + 1) (X.take (k + m))) := by
          rw [hXkm]
          have h := (cuts_part 268435460 ((X.take k).length + 1) ((X.take k ++ Y.take m).length + 1) ((X.take k ++ Y.take m).length + 1) (X.take k) (Y.take m) (by omega) (by omega) (by omega) hXkB hYmB).1
          rw [← HCu.out] at h
          have h := h rfl
          have hfu := cuts_fuel 268435460 ((X.take k ++ Y.take m).length + 1) ((r ++ Y.take m).length + 1) (r ++ Y.take m) (by omega) (by omega) hrYB
          have h' : cuts 268435460 ((X.take k ++ Y.take m).length + 1) (X.take k ++ Y.take m) = (Lt ++ (cuts 268435460 ((X.take k ++ Y.take m).length + 1) (r ++ Y.take m)).1, (cuts 268435460 ((X.take k ++ Y.take m).length + 1) (r ++ Y.take m)).2) := h
          rw [hfu, ← hcut2.out] at h'
          exact h'.symm
        have HC0 : Hid (cd = 0) := by
          have h := (cuts_part 268435460 ((X.take (k + m)).length + 1) (X.length + 1) (X.length + 1) (X.take (k + m)) (X.drop (k + m)) (by omega) (by rw [List.take_append_drop]; omega) (by rw [List.take_append_drop]; omega) (fun y hy => hXB.out y (List.mem_of_mem_take hy)) (fun y hy => hXB.out y (List.mem_of_mem_drop hy))).2
          rw [← HJ.out, List.take_append_drop, HCA.out] at h
          by_cases hc : cd = 0
          · exact hc
          · have h := h hc
            injection h with _ h
            injection h with h _
            exact absurd h.symm hc
        have hXl40 : Hid (X.length ≤ 40000) := by rw [Hid]; omega
        clear hrl hrb hXkm hXkml hrYl hrYB hXkB hYmB
        go_wp2_with (fail)
        refine HF.out.mono ?_
        rintro e w3 (⟨h0, _⟩ | ⟨_, Al, nl, cl, ls, rfl, tu, hp, hto, hst⟩)
        · exact absurd rfl h0
        rw [← hcut2.out] at hto hst ⊢
        have hto' : Told L2 ls := hto
        have hst' : StAt w3 s wr.heap.size w3.heap.size 268435460 cd r2 := hst
        have hc0 := HC0.out
        subst hc0
        have hnl := own_len hp.row
        subst hnl
        have HTL := Lib.hid (told_append HTq.out hto')
        have HST3 := Lib.hid hst'
        have hsE : Hid (s < E0) := by have h1 := hs1w.out; have h2 := hE1.out; rw [Hid]; omega
        have HP3 : Hid (PkRow w3 E0 (.slice Al ls.length cl) ls) := hp.low hEq.out
        have HQ3 : Hid (PkRow w3 E0 (.slice At qs.length ct) qs) := HQ.out.turn tu (fun j hj _ e => by have := hsE.out; omega)
        have HBw3 : Hid (Below w.heap.size w w3) := tu.belowTrans HBq.out HBq.out.size (fun j hj e => by have := hs.out; omega)
        have HA3 : Hid (At12 w3 (some x) cb Y) := HA.out.turn tu (fun y hy e => by have := (HBl.out y hy).1; have := hs1w.out; omega)
        have hE3 : Hid (E0 ≤ w3.heap.size) := by have h1 := hEq.out; have h2 := tu.size; rw [Hid]; omega
        have hlens : Hid (qs.length + ls.length ≤ 60000) := by
          have h := (cuts_fit2 HJ.out (fun y hy => hXB.out y (List.mem_of_mem_take hy)) (by rw [List.length_take]; have := hXl40.out; omega) HTL.out).1
          rw [List.length_append] at h
          exact h
        clear tu hp hto hto' hst hst' HF
        go_wp2_with (at_builtin; go_must (refine wp_append_pkts (W := w3) E0 rfl _ _ rfl (.slice At qs.length ct) qs ls Al ls.length cl rfl rfl HQ3.out E0 HQ3.out.row (Nat.le_refl _) HP3.out hE3.out (by have := hlens.out; omega) ?_))
        intro A4 n4 c4 w4 hp4 hr4 tu4
        have hn4 := own_len hp4.row
        subst hn4
        have HP4 := Lib.hid hp4
        have hjo : ∀ j, (Value.slice At qs.length ct).ownBlock = some j → E0 ≤ j ∧ j < wr.heap.size := fun j hj => own_block_ge HQ.out.row j hj
        have HB4 : Hid (Below w.heap.size w w4) := tu4.belowTrans HBw3.out HBw3.out.size (fun j hj e => by have h1 := (hjo j e).1; have h2 := hsE.out; have h3 := hs.out; omega)
        have HA4 : Hid (At12 w4 (some x) cb Y) := HA3.out.turn tu4 (fun y hy e => by have h1 := (HBl.out y hy).2; have h2 := (hjo _ e).1; omega)
        have HST4 : Hid (StAt w4 s wr.heap.size w3.heap.size 268435460 0 r2) := HST3.out.turn tu4 (fun e => by have h1 := (hjo _ e).1; have h2 := hsE.out; omega) (fun j hj _ e => by have h1 := (hjo _ e).2; omega)
        have hE4 : Hid (E0 ≤ w4.heap.size) := by have h1 := hE3.out; have h2 := tu4.size; rw [Hid]; omega
        have hnl4 : Hid (Y.length - m = (X.drop (k + m)).length) := by have := HYL.out; rw [Hid, List.length_drop]; omega
        have hdd : Hid (X.drop (k + m) = Y.drop m) := by rw [hY.out, Hid, List.drop_drop]
        clear hp4 hr4 tu4 hjo
        go_wp2_with (fail)
        go_roundw
        case rel =>
          refine ⟨k + m, if cb = m then some x else some (x.add m), cb - m, t + 1, A4, c4, qs ++ ls, Lt ++ L2, r2, wr.heap.size, w3.heap.size, by rw [← hnl4.out], rfl, by go_num, by have := HYL.out; omega, by omega, by rw [hdd.out]; exact HA4.out.drop m hmY, fun y hy => ?_, HP4.out, HTL.out, HJ.out, HST4.out, HB4.out, hE4.out⟩
          by_cases hcm : cb = m
          · rw [if_pos hcm] at hy
            exact HBl.out y hy
          · rw [if_neg hcm] at hy
            cases hy
            rw [add_block]
            exact HBl.out x rfl
        case measure => simp [Pk.rowLen]; omega

end Str
end Go.Proofs.YteigakkghkjakaaDoor

/- StreamLeft: what is told and what is left are all bytes that came. -/
import Derived.Test.YteigakkghkjakaaDoorStG
namespace Go.Proofs.YteigakkghkjakaaDoor
open Go.RowKit Go.ChangeShapes
set_option linter.unusedVariables false
set_option linter.unusedSimpArgs false
namespace Str
open Utf (nums nums_length nums_bytes IsStr nums_str)
open Var (BT info_byte digs digs_length tell RetTell)
open Pk

theorem take_flat (Ls : List (List Int)) (k : Nat) (hk : k < Ls.length) : (Ls.take (k + 1)).flatten = (Ls.take k).flatten ++ Ls[k] := by
  rw [List.take_succ_eq_append_getElem hk, List.flatten_append]; simp
theorem flat_le (Ls : List (List Int)) (k : Nat) : (Ls.take k).flatten.length ≤ Ls.flatten.length := by
  have h := congrArg (fun x => (List.flatten x).length) (List.take_append_drop k Ls)
  simp only [List.flatten_append, List.length_append] at h
  omega
theorem take_drop_flat (Ls : List (List Int)) (Y X : List Int) (k : Nat) (hk : k < Ls.length) (h : Ls.flatten ++ Y = X) : (X.drop (Ls.take k).flatten.length).take Ls[k].length = Ls[k] := by
  have h1 : X = (Ls.take k).flatten ++ (Ls[k] ++ ((Ls.drop (k + 1)).flatten ++ Y)) := by
    rw [← h, ← List.append_assoc, ← take_flat Ls k hk, ← List.append_assoc, ← List.flatten_append, List.take_append_drop]
  rw [h1, List.drop_left, List.take_left]

theorem flat_two : ∀ (Ls : List (List Int)), (∀ L ∈ Ls, 2 ≤ L.length) → 2 * Ls.length ≤ Ls.flatten.length
  | [], _ => by simp
  | L :: Ls, h => by
    have h1 := h L (List.mem_cons_self ..)
    have h2 := flat_two Ls (fun x hx => h x (List.mem_cons_of_mem _ hx))
    rw [List.flatten_cons, List.length_append, List.length_cons]
    omega
set_option maxRecDepth 100000 in
set_option maxHeartbeats 2000000 in
theorem left_walk (a0 : Int) (a1 : Option Addr) (len1 cap1 : Nat) (z1 : List Int) (w : World) (w0 : (Lit.int .i64 a0).wf = true) (w1 : IsRow .u8 w a1 len1 cap1 z1) (y1 : cap1 * 1 ≤ 140737488351232) (hT : Lib.Utf8Tabs 0 1 w) :
    Calls Tryd.prog 14 #[.int .i64 a0, .slice a1 len1 cap1] w fun e w' => e = .returned (.bool true) ∧ Below w.heap.size w w' := by
  obtain ⟨hl, hR, hMb, hcap⟩ := row_reads8 w1
  have hnil : a1 = none → cap1 = 0 := by
    intro h
    rcases w1 with ⟨_, _, rfl, _⟩ | ⟨x, rfl, _⟩
    · rfl
    · cases h
  obtain ⟨M, hM⟩ : ∃ M, M = z1.take len1 := ⟨_, rfl⟩
  rw [← hM] at hl hR hMb
  subst hl
  clear hM w1
  have h2w := tabs_lt hT
  have HT := Lib.hid hT
  have HR := Lib.hid hR
  have HMB := Lib.hid hMb
  have HNIL := Lib.hid hnil
  have hMlen : (M.length : Int) ≤ 140737488351232 := by omega
  clear hT hR hMb hnil
  by_cases hbig : (3000 : Int) < M.length
  · have hd := decide_eq_true hbig
    go_enter Tryd.func14, Tryd.ntmps14
    go_wp2_with (fail)
    go_ret
    exact ⟨rfl, Below.refl _ _⟩
  have hd := decide_eq_false hbig
  have hM3 : (M.length : Int) ≤ 3000 := by omega
  clear hbig
  have HN := Lib.hid (new_calls w a0)
  go_enter Tryd.func14, Tryd.ntmps14
  go_wp2_with (fail)
  refine HN.out.mono ?_
  rintro e w1 (⟨hm2, hmb, rfl, hb1, hs1⟩ | ⟨hno, rfl, rfl⟩)
  case inr =>
    go_wp2_with (fail)
    refine (awake_calls _ HT.out).mono ?_
    rintro e w2 ⟨rfl, hb2⟩
    have HB2 := Lib.hid hb2
    clear hb2
    go_wp2_with (fail)
    go_ret
    exact ⟨rfl, HB2.out⟩
  obtain ⟨s, hs⟩ : ∃ s, Hid (s = w.heap.size) := ⟨_, rfl⟩
  have HB1 := Lib.hid hb1
  have hs2 : 2 ≤ s := by rw [hs.out]; exact h2w
  rw [← hs.out] at hs1 ⊢
  have HS1 := Lib.hid hs1
  have HF := Lib.hid (feed_calls w1 (Utf.tabs_keep HT.out hb1) s _ _ a0 0 [] hs1 hs2 hmb a1 M cap1 (HR.out.keep hb1) HNIL.out HMB.out (by simp; omega))
  clear hb1 hs1
  go_wp2_with (fail)
  refine HF.out.mono ?_
  rintro e w2 (⟨h0, _⟩ | ⟨_, A, n, c, ps, rfl, ht, hp, hto, hst⟩)
  · exact absurd rfl h0
  rw [List.nil_append] at hto hst ⊢
  have HSPEC := Lib.hid (cuts_spec a0 (M.length + 1) M (by omega) HMB.out)
  obtain ⟨⟨Ls, cd, r⟩, hcut⟩ : ∃ T, Hid (T = cuts a0 (M.length + 1) M) := ⟨_, rfl⟩
  rw [← hcut.out] at hto hst HSPEC ⊢
  have HSP : Hid ((∀ L ∈ Ls, (L.length : Int) ≤ a0 ∧ L.length ≤ M.length) ∧ ((cd = 0 ∧ Ls.flatten ++ r = M) ∨ ((cd = 100 ∨ cd = 101) ∧ r = [] ∧ ∃ Y : List Int, 0 < Y.length ∧ Ls.flatten ++ Y = M))) := HSPEC.out
  have hnl : n = ps.length := own_len hp.row
  subst hnl
  have HP2 := Lib.hid hp
  have HTO := Lib.hid hto
  have HS2 := Lib.hid hst
  have HB2 : Hid (Below w.heap.size w w2) := HB1.out.trans (ht.toBelow HB1.out.size (fun k hk e => by have := hs.out; omega))
  have hpl : Hid (ps.length = Ls.length) := told_len hto
  have hpsb : (ps.length : Int) ≤ 3001 := by
    have h1 := (own_form hp.row)
    have h2 : ∀ L ∈ Ls, 2 ≤ L.length := fun L hL => by
      obtain ⟨i, hi, rfl⟩ := List.getElem_of_mem hL
      exact (pkt_tell (told_get hto i (by rw [hpl.out]; exact hi) hi)).2.2
    have h3 : 2 * Ls.length ≤ Ls.flatten.length := flat_two Ls h2
    have h4 : Ls.flatten.length ≤ M.length := by
      rcases HSP.out.2 with ⟨_, h⟩ | ⟨_, _, Y, _, h⟩ <;> (have := congrArg List.length h; rw [List.length_append] at this; omega)
    have := hpl.out
    omega
  have hfl : Hid (Ls.flatten.length ≤ M.length) := by
    rcases HSP.out.2 with ⟨_, h⟩ | ⟨_, _, Y, _, h⟩ <;> (have := congrArg List.length h; rw [List.length_append] at this; rw [Hid]; omega)
  have hsub : Hid (∃ Y, Ls.flatten ++ Y = M) := by
    rcases HSP.out.2 with ⟨_, h⟩ | ⟨_, _, Y, _, h⟩
    · exact ⟨_, h⟩
    · exact ⟨_, h⟩
  clear ht hp hto hst
  obtain ⟨k0, hk0⟩ : ∃ k0, Hid (k0 = ps.length) := ⟨_, rfl⟩
  go_wp2_with (fail)
  go_loopw [9, 10, 11, 12] (fun nv iv cv gv wr => ∃ k : Nat, k ≤ ps.length ∧ iv = .int .i64 k ∧ nv = .int .i64 ((Ls.take k).flatten.length) ∧ Hid (Below w2.heap.size w2 wr)) (fun _ iv _ _ _ => ps.length - (intOf iv).toNat)
  case atStart => exact ⟨0, Nat.zero_le _, rfl, rfl, Below.refl _ _⟩
  case round =>
    obtain ⟨k, hk, rfl, rfl, hBr⟩ := hrel
    have hkb : (k : Int) ≤ 3001 := by omega
    obtain ⟨N, hN⟩ : ∃ N, Hid (N = (Ls.take k).flatten.length) := ⟨_, rfl⟩
    have hNb : (N : Int) ≤ 3000 := by have := hN.out; have := flat_le Ls k; have := hfl.out; omega
    rw [← hN.out]
    by_cases hkl : k < ps.length
    · have hkL : k < Ls.length := by have := hpl.out; omega
      have HPr := Lib.hid (HP2.out.keep hBr.out)
      obtain ⟨g, rfl, _, _, hcell⟩ := HPr.out.get k hkl
      obtain ⟨⟨p, C, D⟩, hx⟩ : ∃ x, Hid (x = ps[k]) := ⟨ps[k], by rw [Hid]⟩
      rw [← hx.out] at hcell
      obtain ⟨L, hL⟩ : ∃ L, Hid (L = Ls[k]) := ⟨Ls[k], by rw [Hid]⟩
      have HI : Hid (IsPkt L p C D) := by have := told_get HTO.out k hkl hkL; rw [← hx.out, ← hL.out] at this; exact this
      have hLm : (L.length : Int) ≤ a0 := by have := (HSP.out.1 Ls[k] (List.getElem_mem hkL)).1; rw [← hL.out] at this; exact this
      have htd : Hid ((M.drop N).take L.length = L) := by
        obtain ⟨Y, hY⟩ := hsub.out
        rw [hN.out, hL.out]; exact take_drop_flat Ls Y M k hkL hY
      have hNL : N + L.length ≤ M.length := by
        have h1 := take_flat Ls k hkL
        have h2 := flat_le Ls (k + 1)
        have h3 := congrArg List.length h1
        rw [List.length_append, ← hL.out, ← hN.out] at h3
        have := hfl.out
        omega
      have hLb : ∀ x ∈ L, 0 ≤ x ∧ x < 256 := by rw [← htd.out]; exact fun x hx => HMB.out x (List.mem_of_mem_drop (List.mem_of_mem_take hx))
      have hmem : ((p, C, D) : PkX) ∈ ps := by rw [hx.out]; exact List.getElem_mem hkl
      have HLI : Hid (Lies wr p C D) := own_lies HI.out hLb (by omega) (HPr.out.codes _ hmem) (HPr.out.subs _ hmem)
      have HCELL : Hid (∀ j v, p.cells.toList[j]? = some v → wr.cell? ⟨g, k * 18 + j, none⟩ = some v) := hcell
      have HBYT := Lib.hid (bytes_calls wr (Utf.tabs_keep HT.out (HB2.out.trans (hBr.out.mono HB2.out.size))) p C D HLI.out (fun _ => by have := (is_bounds HI.out hLb).2.2.2; omega))
      have HLB := Lib.hid hLb
      have hL2 : Hid (2 ≤ L.length) := (pkt_tell HI.out).2.2
      clear hcell hLb hmem
      go_wp2_with (with_reducible refine wp_load_row (o := ⟨some 48, _, _, _, _, _⟩) (i := k) (g := g) (p := p) rfl rfl (by with_unfolding_all rfl) HCELL.out ?_)
      refine HBYT.out.mono ?_
      rintro e w3 ⟨hb3, (⟨_, A3, c3, rfl, ho3⟩ | ⟨hnm, _⟩)⟩
      case inr => exact absurd HI.out.2.1 hnm
      rw [HI.out.2.2] at ho3 ⊢
      have HB3 : Hid (Below w2.heap.size w2 w3) := hBr.out.trans (hb3.mono hBr.out.size)
      have HBw3 : Hid (Below w.heap.size w w3) := HB2.out.trans (HB3.out.mono HB2.out.size)
      have hx1 : ∃ x, a1 = some x := by
        have h0 : 0 < M.length := by have := hL2.out; omega
        obtain ⟨x, hx, _⟩ := HR.out h0
        exact ⟨x, hx⟩
      obtain ⟨x, rfl⟩ := hx1
      have HO3 := Lib.hid ho3
      have HK : Hid (∀ W', Turn (fun _ => False) w3 W' → (convert 22 9 (.slice A3 L.length c3)).run Tryd.prog W' = .ok (.string (strOfNums L)) W' ∧ (convert 22 9 (.slice (some (x.add N)) L.length (cap1 - N))).run Tryd.prog W' = .ok (.string (strOfNums L)) W') := by
        intro W' tt
        refine ⟨conv_own (src := 22) (dst := 9) (e := BT) Tryd.underlying22 Tryd.underlying5 Tryd.underlying9 (HO3.out.turn tt (fun _ _ h => h)), ?_⟩
        have hr : Reads .u8 W' (some (x.add N)) L := by
          have h1 := reads_take L.length (reads_drop N (reads_turn (HR.out.keep HBw3.out) tt (fun _ _ h => h)))
          rw [htd.out] at h1
          exact h1
        exact conv_reads (P := Tryd.prog) (W := W') (src := 22) (dst := 9) (c := cap1 - N) Tryd.underlying22 Tryd.underlying5 Tryd.underlying9 rfl hr
      have hd1 : decide (a0 < (L.length : Int)) = false := decide_eq_false (by omega)
      have hd2 : decide ((M.length : Int) < (N : Int) + L.length) = false := decide_eq_false (by omega)
      have hsl : (N : Int) + (L.length : Int) - N = L.length := by omega
      have hLb3 : (L.length : Int) ≤ 3000 := by omega
      have hw : IntKind.i64.wrap ((N : Int) + (L.length : Int)) = (N : Int) + (L.length : Int) := by rw [IntKind.wrap_i64]; omega
      have hw0 : 0 ≤ (N : Int) + (L.length : Int) := by omega
      have hw1 : (N : Int) + (L.length : Int) ≤ (cap1 : Int) := by omega
      have hw2 : N ≤ ((N : Int) + (L.length : Int)).toNat := by omega
      have hw3 : ((N : Int) + (L.length : Int)).toNat - N = L.length := by omega
      have hNc : N + L.length ≤ cap1 := by omega
      have hNlc : N < cap1 := by have := hL2.out; omega
      have hcne : ¬ cap1 = N := by omega
      clear hb3 ho3
      go_wp2_with (fail)
      refine wp_region_held_drew (S := (fun W' => (convert 22 9 (.slice A3 L.length c3)).run Tryd.prog W' = .ok (.string (strOfNums L)) W' ∧ (convert 22 9 (.slice (some (x.add N)) L.length (cap1 - N))).run Tryd.prog W' = .ok (.string (strOfNums L)) W')) (by kernel_rfl) (by exact HK.out _ (Turn.drew (Turn.refl _ _))) (fun hHeld => ?_)
      refine wpAnyH_take (i := 0) (oi := ⟨_, _, _, _, _, _⟩) (v := ?_) rfl (by kernel_rfl) (by kernel_rfl) (by kernel_rfl) (fun _ _ _ h => h) (Or.inl ⟨by kernel_rfl, ?_⟩) hHeld ?_
      rotate_left
      · (intro w hSw; obtain ⟨s1, s2⟩ := hSw; go_simp; try with_reducible rfl)
      simp only [Act.put, List.setIfInBounds_toArray, List.set_cons_zero, List.set_cons_succ]
      refine wpAnyH_take (i := 1) (oi := ⟨_, _, _, _, _, _⟩) (v := ?_) rfl (by kernel_rfl) (by kernel_rfl) (by kernel_rfl) (fun _ _ _ h => h) (Or.inl ⟨by kernel_rfl, ?_⟩) hHeld ?_
      rotate_left
      · (intro w hSw; obtain ⟨s1, s2⟩ := hSw; go_simp; try with_reducible rfl)
      simp only [Act.put, List.setIfInBounds_toArray, List.set_cons_zero, List.set_cons_succ]
      refine wpAnyH_take (i := 2) (oi := ⟨_, _, _, _, _, _⟩) (v := ?_) rfl (by kernel_rfl) (by kernel_rfl) (by kernel_rfl) (fun _ _ _ h => h) (Or.inl ⟨by kernel_rfl, ?_⟩) hHeld ?_
      rotate_left
      · (intro w hSw; obtain ⟨s1, s2⟩ := hSw; go_simp; try with_reducible rfl)
      simp only [Act.put, List.setIfInBounds_toArray, List.set_cons_zero, List.set_cons_succ]
      refine wpAnyH_take (i := 3) (oi := ⟨_, _, _, _, _, _⟩) (v := ?_) rfl (by kernel_rfl) (by kernel_rfl) (by kernel_rfl) (fun _ _ _ h => h) (Or.inl ⟨by kernel_rfl, ?_⟩) hHeld ?_
      rotate_left
      · (intro w hSw; obtain ⟨s1, s2⟩ := hSw; go_simp; try with_reducible rfl)
      simp only [Act.put, List.setIfInBounds_toArray, List.set_cons_zero, List.set_cons_succ]
      refine wpAnyH_take (i := 4) (oi := ⟨_, _, _, _, _, _⟩) (v := ?_) rfl (by kernel_rfl) (by kernel_rfl) (by kernel_rfl) (fun _ _ _ h => h) (Or.inl ⟨by kernel_rfl, ?_⟩) hHeld ?_
      rotate_left
      · (intro w hSw; obtain ⟨s1, s2⟩ := hSw; go_simp; try with_reducible rfl)
      simp only [Act.put, List.setIfInBounds_toArray, List.set_cons_zero, List.set_cons_succ]
      refine wpAnyH_take (i := 5) (oi := ⟨_, _, _, _, _, _⟩) (v := ?_) rfl (by kernel_rfl) (by kernel_rfl) (by kernel_rfl) (fun _ _ _ h => h) (Or.inl ⟨by kernel_rfl, ?_⟩) hHeld ?_
      rotate_left
      · (intro w hSw; obtain ⟨s1, s2⟩ := hSw; go_simp; try with_reducible rfl)
      simp only [Act.put, List.setIfInBounds_toArray, List.set_cons_zero, List.set_cons_succ]
      refine wpAnyH_take (i := 6) (oi := ⟨_, _, _, _, _, _⟩) (v := ?_) rfl (by kernel_rfl) (by kernel_rfl) (by kernel_rfl) (fun _ _ _ h => h) (Or.inl ⟨by kernel_rfl, ?_⟩) hHeld ?_
      rotate_left
      · (intro w hSw; obtain ⟨s1, s2⟩ := hSw; go_simp; try with_reducible rfl)
      simp only [Act.put, List.setIfInBounds_toArray, List.set_cons_zero, List.set_cons_succ]
      refine wpAnyH_take (i := 7) (oi := ⟨_, _, _, _, _, _⟩) (v := ?_) rfl (by kernel_rfl) (by kernel_rfl) (by kernel_rfl) (fun _ _ _ h => h) (Or.inl ⟨by kernel_rfl, ?_⟩) hHeld ?_
      rotate_left
      · (intro w hSw; obtain ⟨s1, s2⟩ := hSw; go_simp; try with_reducible rfl)
      simp only [Act.put, List.setIfInBounds_toArray, List.set_cons_zero, List.set_cons_succ]
      refine wpAnyH_take (i := 8) (oi := ⟨_, _, _, _, _, _⟩) (v := ?_) rfl (by kernel_rfl) (by kernel_rfl) (by kernel_rfl) (fun _ _ _ h => h) (Or.inl ⟨by kernel_rfl, ?_⟩) hHeld ?_
      rotate_left
      · (intro w hSw; obtain ⟨s1, s2⟩ := hSw; go_simp; try with_reducible rfl)
      simp only [Act.put, List.setIfInBounds_toArray, List.set_cons_zero, List.set_cons_succ]
      refine wpAnyH_take (i := 9) (oi := ⟨_, _, _, _, _, _⟩) (v := ?_) rfl (by kernel_rfl) (by kernel_rfl) (by kernel_rfl) (fun _ _ _ h => h) (Or.inl ⟨by kernel_rfl, ?_⟩) hHeld ?_
      rotate_left
      · (intro w hSw; obtain ⟨s1, s2⟩ := hSw; go_simp; try with_reducible rfl)
      simp only [Act.put, List.setIfInBounds_toArray, List.set_cons_zero, List.set_cons_succ]
      refine wpAnyH_take (i := 10) (oi := ⟨_, _, _, _, _, _⟩) (v := ?_) rfl (by kernel_rfl) (by kernel_rfl) (by kernel_rfl) (fun _ _ _ h => h) (Or.inl ⟨by kernel_rfl, ?_⟩) hHeld ?_
      rotate_left
      · (intro w hSw; obtain ⟨s1, s2⟩ := hSw; go_simp; try with_reducible rfl)
      simp only [Act.put, List.setIfInBounds_toArray, List.set_cons_zero, List.set_cons_succ]
      refine wpAnyH_take (i := 11) (oi := ⟨_, _, _, _, _, _⟩) (v := ?_) rfl (by kernel_rfl) (by kernel_rfl) (by kernel_rfl) (fun _ _ _ h => h) (Or.inl ⟨by kernel_rfl, ?_⟩) hHeld ?_
      rotate_left
      · (intro w hSw; obtain ⟨s1, s2⟩ := hSw; go_simp; try with_reducible rfl)
      simp only [Act.put, List.setIfInBounds_toArray, List.set_cons_zero, List.set_cons_succ]
      refine wpAnyH_take (i := 12) (oi := ⟨_, _, _, _, _, _⟩) (v := ?_) rfl (by kernel_rfl) (by kernel_rfl) (by kernel_rfl) (fun _ _ _ h => h) (Or.inl ⟨by kernel_rfl, ?_⟩) hHeld ?_
      rotate_left
      · (intro w hSw; obtain ⟨s1, s2⟩ := hSw; go_simp; try with_reducible rfl)
      simp only [Act.put, List.setIfInBounds_toArray, List.set_cons_zero, List.set_cons_succ]
      refine wpAnyH_take (i := 13) (oi := ⟨_, _, _, _, _, _⟩) (v := ?_) rfl (by kernel_rfl) (by kernel_rfl) (by kernel_rfl) (fun _ _ _ h => h) (Or.inl ⟨by kernel_rfl, ?_⟩) hHeld ?_
      rotate_left
      · (intro w hSw; obtain ⟨s1, s2⟩ := hSw; go_simp; try with_reducible rfl)
      simp only [Act.put, List.setIfInBounds_toArray, List.set_cons_zero, List.set_cons_succ]
      refine wpAnyH_take (i := 14) (oi := ⟨_, _, _, _, _, _⟩) (v := ?_) rfl (by kernel_rfl) (by kernel_rfl) (by kernel_rfl) (fun _ _ _ h => h) (Or.inl ⟨by kernel_rfl, ?_⟩) hHeld ?_
      rotate_left
      · (intro w hSw; obtain ⟨s1, s2⟩ := hSw; go_simp; try with_reducible rfl)
      simp only [Act.put, List.setIfInBounds_toArray, List.set_cons_zero, List.set_cons_succ]
      refine wpAnyH_take (i := 15) (oi := ⟨_, _, _, _, _, _⟩) (v := ?_) rfl (by kernel_rfl) (by kernel_rfl) (by kernel_rfl) (fun _ _ _ h => h) (Or.inl ⟨by kernel_rfl, ?_⟩) hHeld ?_
      rotate_left
      · (intro w hSw; obtain ⟨s1, s2⟩ := hSw; go_simp; try with_reducible rfl)
      simp only [Act.put, List.setIfInBounds_toArray, List.set_cons_zero, List.set_cons_succ]
      refine wpAnyH_take (i := 16) (oi := ⟨_, _, _, _, _, _⟩) (v := ?_) rfl (by kernel_rfl) (by kernel_rfl) (by kernel_rfl) (fun _ _ _ h => h) (Or.inl ⟨by kernel_rfl, ?_⟩) hHeld ?_
      rotate_left
      · (intro w hSw; obtain ⟨s1, s2⟩ := hSw; go_simp; try with_reducible rfl)
      simp only [Act.put, List.setIfInBounds_toArray, List.set_cons_zero, List.set_cons_succ]
      refine wpAnyH_take (i := 17) (oi := ⟨_, _, _, _, _, _⟩) (v := ?_) rfl (by kernel_rfl) (by kernel_rfl) (by kernel_rfl) (fun _ _ _ h => h) (Or.inl ⟨by kernel_rfl, ?_⟩) hHeld ?_
      rotate_left
      · (intro w hSw; obtain ⟨s1, s2⟩ := hSw; go_simp; try with_reducible rfl)
      simp only [Act.put, List.setIfInBounds_toArray, List.set_cons_zero, List.set_cons_succ]
      refine wpAnyH_take (i := 18) (oi := ⟨_, _, _, _, _, _⟩) (v := ?_) rfl (by kernel_rfl) (by kernel_rfl) (by kernel_rfl) (fun _ _ _ h => h) (Or.inl ⟨by kernel_rfl, ?_⟩) hHeld ?_
      rotate_left
      · (intro w hSw; obtain ⟨s1, s2⟩ := hSw; go_simp; try with_reducible rfl)
      simp only [Act.put, List.setIfInBounds_toArray, List.set_cons_zero, List.set_cons_succ]
      refine wpAnyH_take (i := 19) (oi := ⟨_, _, _, _, _, _⟩) (v := ?_) rfl (by kernel_rfl) (by kernel_rfl) (by kernel_rfl) (fun _ _ _ h => h) (Or.inl ⟨by kernel_rfl, ?_⟩) hHeld ?_
      rotate_left
      · (intro w hSw; obtain ⟨s1, s2⟩ := hSw; go_simp; try with_reducible rfl)
      simp only [Act.put, List.setIfInBounds_toArray, List.set_cons_zero, List.set_cons_succ]
      refine wpAnyH_take (i := 20) (oi := ⟨_, _, _, _, _, _⟩) (v := ?_) rfl (by kernel_rfl) (by kernel_rfl) (by kernel_rfl) (fun _ _ _ h => h) (Or.inl ⟨by kernel_rfl, ?_⟩) hHeld ?_
      rotate_left
      · (intro w hSw; obtain ⟨s1, s2⟩ := hSw; go_simp; try with_reducible rfl)
      simp only [Act.put, List.setIfInBounds_toArray, List.set_cons_zero, List.set_cons_succ]
      refine wpAnyH_take (i := 21) (oi := ⟨_, _, _, _, _, _⟩) (v := ?_) rfl (by kernel_rfl) (by kernel_rfl) (by kernel_rfl) (fun _ _ _ h => h) (Or.inl ⟨by kernel_rfl, ?_⟩) hHeld ?_
      rotate_left
      · (intro w hSw; obtain ⟨s1, s2⟩ := hSw; go_simp; try with_reducible rfl)
      simp only [Act.put, List.setIfInBounds_toArray, List.set_cons_zero, List.set_cons_succ]
      refine wpAnyH_take (i := 22) (oi := ⟨_, _, _, _, _, _⟩) (v := ?_) rfl (by kernel_rfl) (by kernel_rfl) (by kernel_rfl) (fun _ _ _ h => h) (Or.inl ⟨by kernel_rfl, ?_⟩) hHeld ?_
      rotate_left
      · (intro w hSw; obtain ⟨s1, s2⟩ := hSw; go_simp; try with_reducible rfl)
      simp only [Act.put, List.setIfInBounds_toArray, List.set_cons_zero, List.set_cons_succ]
      refine wpAnyH_take (i := 23) (oi := ⟨_, _, _, _, _, _⟩) (v := ?_) rfl (by kernel_rfl) (by kernel_rfl) (by kernel_rfl) (fun _ _ _ h => h) (Or.inl ⟨by kernel_rfl, ?_⟩) hHeld ?_
      rotate_left
      · (intro w hSw; obtain ⟨s1, s2⟩ := hSw; go_simp; try with_reducible rfl)
      simp only [Act.put, List.setIfInBounds_toArray, List.set_cons_zero, List.set_cons_succ]
      refine wpAnyH_take (i := 24) (oi := ⟨_, _, _, _, _, _⟩) (v := ?_) rfl (by kernel_rfl) (by kernel_rfl) (by kernel_rfl) (fun _ _ _ h => h) (Or.inl ⟨by kernel_rfl, ?_⟩) hHeld ?_
      rotate_left
      · (intro w hSw; obtain ⟨s1, s2⟩ := hSw; go_simp; try with_reducible rfl)
      simp only [Act.put, List.setIfInBounds_toArray, List.set_cons_zero, List.set_cons_succ]
      refine wpAnyH_take (i := 25) (oi := ⟨_, _, _, _, _, _⟩) (v := ?_) rfl (by kernel_rfl) (by kernel_rfl) (by kernel_rfl) (fun _ _ _ h => h) (Or.inl ⟨by kernel_rfl, ?_⟩) hHeld ?_
      rotate_left
      · (intro w hSw; obtain ⟨s1, s2⟩ := hSw; go_simp; try with_reducible rfl)
      simp only [Act.put, List.setIfInBounds_toArray, List.set_cons_zero, List.set_cons_succ]
      refine wpAnyH_take (i := 26) (oi := ⟨_, _, _, _, _, _⟩) (v := ?_) rfl (by kernel_rfl) (by kernel_rfl) (by kernel_rfl) (fun _ _ _ h => h) (Or.inl ⟨by kernel_rfl, ?_⟩) hHeld ?_
      rotate_left
      · (intro w hSw; obtain ⟨s1, s2⟩ := hSw; go_simp; try with_reducible rfl)
      simp only [Act.put, List.setIfInBounds_toArray, List.set_cons_zero, List.set_cons_succ]
      refine wpAnyH_take (i := 27) (oi := ⟨_, _, _, _, _, _⟩) (v := ?_) rfl (by kernel_rfl) (by kernel_rfl) (by kernel_rfl) (fun _ _ _ h => h) (Or.inl ⟨by kernel_rfl, ?_⟩) hHeld ?_
      rotate_left
      · (intro w hSw; obtain ⟨s1, s2⟩ := hSw; go_simp; try with_reducible rfl)
      simp only [Act.put, List.setIfInBounds_toArray, List.set_cons_zero, List.set_cons_succ]
      refine wpAnyH_take (i := 28) (oi := ⟨_, _, _, _, _, _⟩) (v := ?_) rfl (by kernel_rfl) (by kernel_rfl) (by kernel_rfl) (fun _ _ _ h => h) (Or.inl ⟨by kernel_rfl, ?_⟩) hHeld ?_
      rotate_left
      · (intro w hSw; obtain ⟨s1, s2⟩ := hSw; go_simp; try with_reducible rfl)
      simp only [Act.put, List.setIfInBounds_toArray, List.set_cons_zero, List.set_cons_succ]
      refine wpAnyH_take (i := 29) (oi := ⟨_, _, _, _, _, _⟩) (v := ?_) rfl (by kernel_rfl) (by kernel_rfl) (by kernel_rfl) (fun _ _ _ h => h) (Or.inl ⟨by kernel_rfl, ?_⟩) hHeld ?_
      rotate_left
      · (intro w hSw; obtain ⟨s1, s2⟩ := hSw; go_simp; try with_reducible rfl)
      simp only [Act.put, List.setIfInBounds_toArray, List.set_cons_zero, List.set_cons_succ]
      refine wpAnyH_done (by kernel_rfl) ?_ _
      go_wp2_with (fail)
      go_roundw
      case rel =>
        refine ⟨k + 1, by omega, by go_num, ?_, HB3.out.trans ((Turn.drew (Turn.refl (fun _ => False) w3)).toBelow HB3.out.size (fun _ _ h => h))⟩
        rw [take_flat Ls k hkL, List.length_append, ← hN.out, ← hL.out]
        go_num
      case measure => simp [intOf]; omega
    · have hk2 : (Ls.take k).flatten = Ls.flatten := by rw [List.take_of_length_le (by have := hpl.out; omega)]
      have hN2 : Hid (N = Ls.flatten.length) := by rw [hN.out, hk2, Hid]
      have HBwr : Hid (Below w.heap.size w wr) := HB2.out.trans (hBr.out.mono HB2.out.size)
      have HSr := Lib.hid (HS2.out.keep hBr.out)
      rcases HSP.out.2 with ⟨hcd, hall⟩ | ⟨hcd, hr, Y, hY, hall⟩
      · have hl2 := congrArg List.length hall
        rw [List.length_append] at hl2
        have hcd' : cd = 0 := hcd
        subst hcd'
        have hsum : (N : Int) + (r.length : Int) = M.length := by have := hN2.out; omega
        clear hall hk2
        go_wp2_with (fail)
        refine (awake_calls wr (Utf.tabs_keep HT.out HBwr.out)).mono ?_
        rintro e w4 ⟨rfl, hb4⟩
        have HB4 := Lib.hid (HBwr.out.trans (hb4.mono HBwr.out.size))
        have HS4 := Lib.hid (HSr.out.keep hb4)
        have hrb : (r.length : Int) ≤ 3000 := by omega
        clear hb4
        go_wp2_with (fail)
        refine (left_calls w4 s _ _ _ _ _ HS4.out).mono ?_
        rintro e w' ⟨rfl, rfl⟩
        go_wp2_with (fail)
        go_ret
        exact ⟨rfl, HB4.out⟩
      · have hl2 := congrArg List.length hall
        rw [List.length_append] at hl2
        have hne : (cd != 0) = true := bne_iff_ne.2 (by have h : cd = 100 ∨ cd = 101 := hcd; omega)
        have hr' : r = [] := hr
        subst hr'
        have hltN : N < M.length := by have := hN2.out; omega
        have hlt : decide (N < M.length) = true := decide_eq_true hltN
        clear hall hk2
        go_wp2_with (fail)
        refine (awake_calls wr (Utf.tabs_keep HT.out HBwr.out)).mono ?_
        rintro e w4 ⟨rfl, hb4⟩
        have HB4 := Lib.hid (HBwr.out.trans (hb4.mono HBwr.out.size))
        have HS4 := Lib.hid (HSr.out.keep hb4)
        clear hb4
        go_wp2_with (fail)
        refine (left_calls w4 s _ _ _ _ _ HS4.out).mono ?_
        rintro e w' ⟨rfl, rfl⟩
        go_wp2_with (fail)
        go_ret
        exact ⟨by simp [hltN], HB4.out⟩
end Str
end Go.Proofs.YteigakkghkjakaaDoor

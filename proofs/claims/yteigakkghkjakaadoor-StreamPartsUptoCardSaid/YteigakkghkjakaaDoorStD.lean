/- stream: Feed. -/
import Derived.Test.YteigakkghkjakaaDoorStC
namespace Go.Proofs.YteigakkghkjakaaDoor
open Go.RowKit Go.ChangeShapes
set_option linter.unusedVariables false
set_option linter.unusedSimpArgs false
namespace Str
open Utf (nums nums_length nums_bytes IsStr nums_str)
open Var (BT info_byte digs digs_length tell RetTell)
open Pk

def FeedPost (w : World) (s : Nat) (most br : Int) (R M : List Int) (e : Ending) (w' : World) : Prop :=
  (br ≠ 0 ∧ e = .returned (.tuple #[.slice none 0 0, .int .i64 br]) ∧ Turn (fun _ => False) w w') ∨
  (br = 0 ∧ ∃ A n c ps, e = .returned (.tuple #[.slice A n c, .int .i64 (cuts most ((R ++ M).length + 1) (R ++ M)).2.1]) ∧ Turn (fun k => k = s) w w' ∧ PkRow w' w.heap.size (.slice A n c) ps ∧ Told (cuts most ((R ++ M).length + 1) (R ++ M)).1 ps ∧ StAt w' s w.heap.size w'.heap.size most (cuts most ((R ++ M).length + 1) (R ++ M)).2.1 (cuts most ((R ++ M).length + 1) (R ++ M)).2.2)

set_option maxRecDepth 100000 in
set_option maxHeartbeats 2000000 in
theorem feed_calls (w : World) (hT : Lib.Utf8Tabs 0 1 w) (s B E : Nat) (most br : Int) (R : List Int) (h : StAt w s B E most br R) (hs2 : 2 ≤ s) (hm : most ≤ 268435460) (A : Option Addr) (M : List Int) (c : Nat) (hA : Reads .u8 w A M) (hAc : A = none → c = 0) (hby : ∀ x ∈ M, 0 ≤ x ∧ x < 256) (hl : R.length + M.length ≤ 900000000) :
    Calls Tryd.prog 27 #[.pointer (some ⟨s, 0, none⟩), .slice A M.length c] w fun e w' => FeedPost w s most br R M e w' := by
  have H := Lib.hid h
  obtain ⟨Ar, cr, h1, h2, h3, h4, h5, h6, h7⟩ := h
  have k1 : w.cell? ⟨s, 1, none⟩ = some (.slice Ar R.length cr) := cell_heap h1
  have k2 : w.cell? ⟨s, 2, none⟩ = some (.int .i64 br) := cell_heap h1
  by_cases hbr : br = 0
  case neg =>
    have hb : (br != 0) = true := bne_iff_ne.2 hbr
    have HB := Lib.hid hbr
    clear h1 h4 h5 h6 h7 hbr
    go_enter Tryd.func27, Tryd.ntmps27
    go_wp2_with (fail)
    go_quiet (fail)
    go_wp2_with (fail)
    go_ret2
    exact .inl ⟨HB.out, rfl, Turn.drewN (Turn.refl _ _) _⟩
  subst hbr
  have H1 := Lib.hid h1
  have H4 := Lib.hid h4
  have H5 := Lib.hid h5
  have H7 := Lib.hid h7
  have HA := Lib.hid hA
  have HT := Lib.hid hT
  have f1 : w.frozen? ⟨s, 1, none⟩ = false := frozen_heap h1
  obtain ⟨W, hW⟩ : ∃ W, Hid (W = w.alloc (.cells #[.slice Ar R.length cr, .slice A M.length c] 22)) := ⟨_, rfl⟩
  obtain ⟨b, hbd⟩ : ∃ b, Hid (b = w.heap.size) := ⟨_, rfl⟩
  have HBW : Hid (Below w.heap.size w W) := by rw [hW.out]; exact (Below.refl _ _).alloc (Nat.le_refl _) _
  have hn : W.heap[b]? = some (.cells #[.slice Ar R.length cr, .slice A M.length c] 22 (0, 0)) := by rw [hW.out, hbd.out]; exact heap_new _ _
  have HCC := Lib.hid (concat_calls W b Ar A cr c R M (h5.keep HBW.out) (hA.keep HBW.out) h4 hAc ⟨cell_heap hn, cell_heap hn⟩ (by omega))
  have hslt : s < w.heap.size := heap_lt h1
  clear h1 h4 h5 h6 h7 hA hT hn
  go_enter Tryd.func27, Tryd.ntmps27
  go_wp2_with (fail)
  rw [← hW.out, ← hbd.out]
  refine HCC.out.mono ?_
  rintro e w2 ⟨A2, c2, rfl, ho2, hb2⟩
  obtain ⟨X, hX⟩ : ∃ X, Hid (X = R ++ M) := ⟨_, rfl⟩
  rw [← hX.out] at ho2 ⊢
  have HO2 := Lib.hid ho2
  have HB2 : Hid (Below w.heap.size w w2) := HBW.out.trans (hb2.mono HBW.out.size)
  have G2 : Hid (w2.heap[s]? = some (.cells (stCells most 0 Ar R.length cr) ST (0, 0))) := by rw [Hid, HB2.out.block _ hslt]; exact H1.out
  have q1 : w2.cell? ⟨s, 1, none⟩ = some (.slice Ar R.length cr) := cell_heap G2.out
  have g1 : w2.frozen? ⟨s, 1, none⟩ = false := frozen_heap G2.out
  have HXb : Hid (∀ x ∈ X, 0 ≤ x ∧ x < 256) := by
    intro x hx
    rw [hX.out] at hx
    rcases List.mem_append.1 hx with h | h
    · exact H7.out x h
    · exact hby x h
  have HXl : Hid (X.length ≤ 900000000) := by rw [hX.out, Hid, List.length_append]; exact hl
  have HS3 : Hid (StAt (w2.setCell ⟨s, 1, none⟩ (.slice A2 X.length c2)) s w.heap.size w2.heap.size most 0 X) := by
    have e1 := heap_set_same w2 s 1 (.slice A2 X.length c2) G2.out
    have t6 : Turn (fun k => k = s) w2 (w2.setCell ⟨s, 1, none⟩ (.slice A2 X.length c2)) := Turn.setCell (S := fun k => k = s) w2 (p := ⟨s, 1, none⟩) _ rfl
    have hge : ∀ x, A2 = some x → W.heap.size ≤ x.block ∧ x.block < w2.heap.size := fun x hx => own_block_ge HO2.out x.block (by rw [hx]; rfl)
    have hWs := HBW.out.size
    obtain ⟨_, hc, hr, hnc⟩ := own_reads HO2.out
    refine ⟨A2, c2, ?_, hc, ?_, hnc, reads_turn hr t6 (fun x hx e => by have := (hge x hx).1; omega), fun x hx => ⟨fun e => by have := (hge x hx).1; omega, by have := (hge x hx).1; omega, (hge x hx).2⟩, HXb.out⟩
    · rw [e1]; rfl
    · obtain ⟨_, c', hv, _, h', _⟩ := HO2.out.form
      injection hv with _ _ e
      rw [e]; exact h'
  have HT3 : Hid (Turn (fun k => k = s) w (w2.setCell ⟨s, 1, none⟩ (.slice A2 X.length c2))) := (Turn.of_below HB2.out).trans (Turn.setCell (S := fun k => k = s) w2 (p := ⟨s, 1, none⟩) _ rfl)
  clear ho2 hb2 k1 k2 f1 hby
  go_wp2_with (fail)
  obtain ⟨w3, hw3⟩ : ∃ w3, Hid (w3 = w2.setCell ⟨s, 1, none⟩ (.slice A2 X.length c2)) := ⟨_, rfl⟩
  have hz3 : Hid (w2.heap.size ≤ w3.heap.size) := by rw [hw3.out]; exact (Turn.setCell (S := fun k => k = s) w2 (p := ⟨s, 1, none⟩) _ rfl).size
  rw [← hw3.out] at HS3 HT3 ⊢
  obtain ⟨E3, hE3⟩ : ∃ E3, Hid (E3 = w2.heap.size) := ⟨_, rfl⟩
  have hE3w : Hid (w.heap.size ≤ E3) := by rw [hE3.out]; exact HB2.out.size
  rw [← hE3.out] at HS3 hz3
  obtain ⟨F, hF⟩ : ∃ F, Hid (F = X.length + 1) := ⟨_, rfl⟩
  clear q1 g1
  go_loopw [6, 7, 8] (fun v x y wr => ∃ (A1 : Option Addr) (c1 : Nat) (Ls : List (List Int)) (ps : List PkX) (Rc : List Int) (f : Nat), v = .slice A1 ps.length c1 ∧ Hid (E3 ≤ wr.heap.size) ∧ Hid (PkRow wr E3 (.slice A1 ps.length c1) ps) ∧ Hid (Told Ls ps) ∧ Hid (StAt wr s w.heap.size E3 most 0 Rc) ∧ Hid (Turn (fun k => k = s) w wr) ∧ Hid (cuts most F X = (Ls ++ (cuts most f Rc).1, (cuts most f Rc).2)) ∧ Hid (Rc.length < f) ∧ Hid (ps.length + Rc.length ≤ X.length)) (fun v _ _ _ => X.length + 1 - Pk.rowLen v)
  case atStart => exact ⟨none, 0, [], [], X, F, rfl, hz3.out, PkRow.nil _ _, trivial, HS3.out, HT3.out, by rw [List.nil_append, Hid], by rw [hF.out, Hid]; omega, by rw [Hid]; simp⟩
  case round =>
    obtain ⟨A1, c1, Ls, ps, Rc, f, rfl, hEr, hP, hTo, hSt, hTu, hCu, hf, hLen⟩ := hrel
    obtain ⟨f', hf'⟩ : ∃ f', f = f' + 1 := ⟨f - 1, by have := hf.out; omega⟩
    subst hf'
    have HNX := Lib.hid (next_calls wr (tabs_turn HT.out hTu.out (by omega) (by omega)) s w.heap.size E3 hEr.out most Rc hSt.out hs2 hm (by have := hLen.out; have := HXl.out; omega))
    go_wp2_with (fail)
    refine HNX.out.mono ?_
    rintro e w5 ⟨ht5, hcs⟩
    have hSz5 : Hid (wr.heap.size ≤ w5.heap.size) := ht5.size
    rcases hcs with (⟨n, p, C, D, hst, hnl, hI, rfl, hS5, hoc, hos⟩ | ⟨cd, hst, rfl, hS5⟩)
    · have HT5 : Hid (Turn (fun k => k = s) w w5) := hTu.out.trans ht5
      have HP5 : Hid (PkRow w5 E3 (.slice A1 ps.length c1) ps) := hP.out.turn ht5 (fun k hk _ e => by have := hE3w.out; omega)
      have HS5 := Lib.hid hS5
      have hpc : Hid (p.codes.oneCell' = true) := by obtain ⟨A', c', hv, _⟩ := hoc.form; rw [hv]; exact rfl
      have hps : Hid (p.subs.oneCell' = true) := by obtain ⟨A', c', hv, _⟩ := own_form hos; rw [hv]; exact rfl
      have HOC := Lib.hid (oi_mono hoc hEr.out rfl)
      have HOS := Lib.hid (own_mono hos hEr.out)
      have HI := Lib.hid hI
      have Hst := Lib.hid hst
      obtain ⟨hn2, hn3, hn4, hn5⟩ := step_inl (by obtain ⟨_, _, _, _, _, _, _, _, h7⟩ := hSt.out; exact h7) hst
      have hnn : Hid (2 ≤ n ∧ n ≤ Rc.length) := ⟨hn2, hnl⟩
      clear ht5 hS5 hoc hos hI hst hn2 hnl hn3 hn4 hn5
      rename_i hK
      refine hK _ _ ?_
      refine st_val (.tuple #[.agg p.cells, .bool true]) (wanted_free rfl) (by exact rMove (x := .tmp 34) rfl) ?_
      refine st_val (.agg p.cells) (wanted_free rfl) (by exact rExtract (x := .tmp 32) rfl (kExt0 _ _)) ?_
      refine st_val (.bool true) (wanted_free rfl) (by exact rExtract (x := .tmp 32) rfl (kExt1 _ _)) ?_
      refine st_alloc (wanted_free rfl) rfl (by exact kAllocP _) ?_
      refine wp_store_pkt (g := w5.heap.size) p zeroP rfl rfl rfl rfl (by exact heap_new _ _) hpc.out hps.out ?_
      intro w6 HP6 t
      refine st_val (.bool true) (wanted_free rfl) (by exact rAssign (x := .tmp 36) rfl) ?_
      refine wpList_nil ?_
      simp only [Exit.then, Act.put, List.setIfInBounds_toArray, List.set_cons_zero, List.set_cons_succ]
      have HW6 : Hid (Below w5.heap.size w5 w6) := (Below.alloc (Below.refl _ _) (Nat.le_refl _) _).trans (t.toBelow (by simp) (fun k hk e => by omega))
      have HPK6 := Lib.hid HP6
      have HT6 : Hid (Turn (fun k => k = s) w w6) := HT5.out.trans (Turn.of_below HW6.out)
      have HPR6 := Lib.hid (HP5.out.keep HW6.out)
      have HS6 := Lib.hid (HS5.out.keep HW6.out)
      have HOC6 : Hid (OwnInts w6 E3 3 .i64 p.codes C) := HOC.out.turn (Turn.of_below (S := fun _ => False) HW6.out) (fun _ _ h => h)
      have HOS6 : Hid (w6.ownsRow E3 76 2 p.subs D.length (subCells D)) := own_turn HOS.out (Turn.of_below (S := fun _ => False) HW6.out) (fun _ _ h => h)
      obtain ⟨b8, hb8⟩ : ∃ b8, Hid (b8 = w5.heap.size) := ⟨_, rfl⟩
      rw [← hb8.out] at HPK6 ⊢
      clear t hK HP6
      have hE5 : Hid (E3 ≤ w5.heap.size) := by have h1 := HT5.out.size; have h2 := hEr.out; have h3 := hSz5.out; rw [Hid]; omega
      have hE6 : Hid (E3 ≤ w6.heap.size) := by have := HW6.out.size; have := hE5.out; rw [Hid]; omega
      go_upto_region 10 with (fail)
      refine wp_region_lit ?_
      refine st_val (.slice A1 ps.length c1) (wanted_free rfl) (by exact rMove (x := .tmp 6) rfl) ?_
      refine wp_load_pkt (p := p) rfl rfl (by rfl) HPK6.out ?_
      refine st_any (.slice (some ⟨w6.heap.size, 0, none⟩) 1 1) (wanted_free rfl) (by exact rBuildS rfl (by exact kBuildS p)) ?_
      refine wp_append_pkt (W := w6.alloc (.cells p.cells PT)) E3 rfl _ _ rfl (.slice A1 ps.length c1) ps (p, C, D) w6.heap.size rfl rfl (heap_new _ _) (HPR6.out.keep ((Below.refl _ _).alloc (Nat.le_refl _) _)) (own_alloc HOC6.out _) (own_turn HOS6.out (Turn.alloc (S := fun _ => False) w6 _) (fun _ _ h => h)) (Nat.le_trans hE6.out (by simp)) (by have := hLen.out; have := HXl.out; have := hnn.out; omega) ?_
      intro A7 n7 c7 w7 hp7 ht7
      have hn7 : n7 = (ps ++ [((p, C, D) : PkX)]).length := own_len hp7.row
      subst hn7
      have HP7 := Lib.hid hp7
      have HT7 := Lib.hid ht7
      refine st_val (.slice A7 (ps ++ [((p, C, D) : PkX)]).length c7) (wanted_free rfl) (by exact rAssign (x := .tmp 47) rfl) ?_
      refine wpList_nil ?_
      simp only [Act.put, List.setIfInBounds_toArray, List.set_cons_zero, List.set_cons_succ]
      have hjo : Hid (∀ j, (Value.slice A1 ps.length c1).ownBlock = some j → E3 ≤ j) := fun j hj => (own_block_ge HPR6.out.row j hj).1
      have T67 : Hid (Turn (fun j => (Value.slice A1 ps.length c1).ownBlock = some j) w6 w7) := (Turn.alloc w6 _).trans HT7.out
      clear hp7 ht7
      go_roundw
      case rel =>
        refine ⟨_, _, _, _, _, _, _, _, _, _, _, _, _, _, _, _, _, _, _, _, _, ?_, rfl⟩
        refine ⟨A7, c7, Ls ++ [Rc.take n], ps ++ [(p, C, D)], Rc.drop n, f', rfl, Nat.le_trans hE6.out T67.out.size, HP7.out, told_snoc (x := (p, C, D)) hTo.out HI.out, ?_, ?_, ?_, ?_, ?_⟩
        · exact HS6.out.turn T67.out (fun e => by have := hjo.out s e; have := hE3w.out; omega) (fun k _ hk e => by have := hjo.out k e; omega)
        · exact HT6.out.then T67.out (fun i hi e => by have := hjo.out i e; have := hE3w.out; omega)
        · rw [Hid, hCu.out, cuts_inl Hst.out, List.append_assoc]; rfl
        · have := hf.out; have := hnn.out; rw [Hid, List.length_drop]; omega
        · have := hLen.out; have := hnn.out; rw [Hid, List.length_drop, List.length_append]; simp; omega
      case measure =>
        have := hLen.out; have := hnn.out
        simp [Pk.rowLen]; omega
    · have HT5 : Hid (Turn (fun k => k = s) w w5) := hTu.out.trans ht5
      have HP5 : Hid (PkRow w5 E3 (.slice A1 ps.length c1) ps) := hP.out.turn ht5 (fun k hk _ e => by have := hE3w.out; omega)
      have HS5 := Lib.hid hS5
      have hcu := hCu.out
      rw [cuts_inr hst, List.append_nil] at hcu
      have HCU := Lib.hid hcu
      clear ht5 hS5 hst hcu
      rename_i hK
      refine hK _ _ ?_
      refine st_val (.tuple #[.agg zeroP.cells, .bool false]) (wanted_free rfl) (by exact rMove (x := .tmp 34) rfl) ?_
      refine st_val (.agg zeroP.cells) (wanted_free rfl) (by exact rExtract (x := .tmp 32) rfl (kExt0 _ _)) ?_
      refine st_val (.bool false) (wanted_free rfl) (by exact rExtract (x := .tmp 32) rfl (kExt1 _ _)) ?_
      refine st_alloc (wanted_free rfl) rfl (by exact kAllocP _) ?_
      refine wp_store_pkt (g := w5.heap.size) zeroP zeroP rfl rfl rfl rfl (by exact heap_new _ _) rfl rfl ?_
      intro w6 HP6 t
      refine st_val (.bool false) (wanted_free rfl) (by exact rAssign (x := .tmp 36) rfl) ?_
      refine wpList_nil ?_
      simp only [Exit.then, Act.put, List.setIfInBounds_toArray, List.set_cons_zero, List.set_cons_succ]
      have HW6 : Hid (Below w5.heap.size w5 w6) := (Below.alloc (Below.refl _ _) (Nat.le_refl _) _).trans (t.toBelow (by simp) (fun k hk e => by omega))
      have HT6 : Hid (Turn (fun k => k = s) w w6) := HT5.out.trans (Turn.of_below HW6.out)
      have HPR6 := Lib.hid (HP5.out.keep HW6.out)
      have HS6 := Lib.hid (HS5.out.keep HW6.out)
      have q2 : w6.cell? ⟨s, 2, none⟩ = some (.int .i64 cd) := by obtain ⟨A', c', h1, _⟩ := HS6.out; exact cell_heap h1
      have hE6 : Hid (E3 ≤ w6.heap.size) := by have h1 := hEr.out; have h2 := hSz5.out; have h3 := HW6.out.size; rw [Hid]; omega
      clear t hK HP6
      go_wp2_with (fail)
      go_quiet (fail)
      go_wp2_with (fail)
      go_ret2
      have hX1 : (R ++ M) = X := hX.out.symm
      refine .inr ⟨rfl, A1, ps.length, c1, ps, ?_, ?_, ?_, ?_, ?_⟩
      · rw [hX1, ← hF.out, HCU.out]; simp
      · exact HT6.out.trans (Turn.drewN (Turn.refl _ _) _)
      · exact (HPR6.out.low hE3w.out).turn (S := fun _ => False) (Turn.drewN (Turn.refl _ _) _) (fun _ _ _ h => h)
      · rw [hX1, ← hF.out, HCU.out]; exact hTo.out
      · rw [hX1, ← hF.out, HCU.out]
        exact (HS6.out.turn (S := fun _ => False) (Turn.drewN (Turn.refl _ _) _) (fun h => h) (fun _ _ _ h => h)).low (Nat.le_refl _) (Nat.le_trans hE6.out (Turn.drewN (Turn.refl (fun _ => False) w6) _).size)
end Str
end Go.Proofs.YteigakkghkjakaaDoor

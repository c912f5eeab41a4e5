/- PacketParses: any bytes are read as the packet that the document says, or refused; what was handed in stays. -/
import Derived.Test.YteigakkghkjakaaDoorRfT
import Derived.Test.YteigakkghkjakaaDoorPlR
namespace Go.Proofs.YteigakkghkjakaaDoor
open Go.RowKit Go.ChangeShapes
set_option linter.unusedVariables false
set_option linter.unusedSimpArgs false
namespace Ref
open Utf (nums nums_length nums_bytes IsStr nums_str)
open Var (BT)
open Pk

theorem own_lit0 (w : World) (base : Nat) (hb : base ≤ w.heap.size) : OwnInts (w.alloc (.cells #[] BT)) base BT .u8 (.slice (some ⟨w.heap.size, 0, none⟩) 0 0) [] :=
  ⟨rfl, .inr ⟨w.heap.size, 0, #[], rfl, hb, heap_new _ _, Nat.le_refl _, by simp [maxLen], rfl, rfl⟩⟩
theorem turn_above0 {w2 W w1 : World} {base : Nat} {e : TypeId} {k : IntKind} {v : Value} {L : List Int} (T : Turn (fun j => base ≤ j) w2 W) (HO : OwnInts W base e k v L) (t : Turn (fun j => v.ownBlock = some j) W w1) : Turn (fun j => base ≤ j) w2 w1 :=
  T.trans (t.mono fun k _ h => (own_block_ge HO k h).1)
theorem lies_zero (w : World) : Lies w zeroP [] [] := ⟨⟨none, 0, rfl, fun h => absurd h (by simp)⟩, ⟨none, 0, rfl, fun h => absurd h (by simp)⟩, by decide, by decide, by decide⟩
theorem same_zero (w : World) : Calls Tryd.prog 18 #[.agg zeroP.cells, .agg zeroP.cells] w fun e w' => e = .returned (.bool true) ∧ Below w.heap.size w w' := by
  have h := same_calls w zeroP zeroP [] [] [] [] (lies_zero w) (lies_zero w) (by decide) (by decide)
  rw [decide_eq_true ⟨rfl, rfl, rfl⟩] at h
  exact h
/-- A row of the call's own that is being filled. -/
def Fills (w w' : World) (A : Option Addr) (n c : Nat) : Prop :=
  Turn (fun j => (Value.slice A n c).ownBlock = some j) w w' ∧ (0 < n → ∃ g cur, A = some ⟨g, 0, none⟩ ∧ w'.heap[g]? = some (.cells cur BT (0, 0)) ∧ n ≤ cur.size)
theorem Fills.start {w : World} {base : Nat} {A : Option Addr} {n c : Nat} {L : List Int} (h : OwnInts w base BT .u8 (.slice A n c) L) : Fills w w A n c := by
  refine ⟨Turn.refl _ _, fun hn => ?_⟩
  have hl := (own_reads h).1
  rcases h.2 with ⟨h1, h2⟩ | ⟨g, cap, cur, h1, hg, hh, hc, hm, hs, ht⟩
  · omega
  · injection h1 with h1 _ _
    refine ⟨g, cur, h1, hh, ?_⟩
    have := congrArg List.length ht
    simp at this
    omega
theorem Fills.step {w w' : World} {A : Option Addr} {n c k : Nat} {x : Addr} (h : Fills w w' A n c) (hA : A = some x) (hk : k < n) (v : Value) : Fills w (w'.setCell (x.add k) v) A n c := by
  obtain ⟨t, h2⟩ := h
  obtain ⟨g, cur, h3, h4, h5⟩ := h2 (by omega)
  rw [h3] at hA
  cases hA
  rw [add_plain0]
  refine ⟨t.trans (Turn.setCell _ _ (by rw [h3]; rfl)), fun _ => ⟨g, cur.setIfInBounds k v, h3, heap_set_same _ _ _ _ h4, by simpa using h5⟩⟩
theorem Fills.cell {w w' : World} {A : Option Addr} {n c k : Nat} (h : Fills w w' A n c) (hk : k < n) : ∃ x v, A = some x ∧ w'.cell? (x.add k) = some v ∧ w'.frozen? (x.add k) = false := by
  obtain ⟨g, cur, h3, h4, h5⟩ := h.2 (by omega)
  refine ⟨_, cur[k]'(by omega), h3, ?_, ?_⟩
  · rw [add_plain0, cell_heap h4]; simp
  · rw [add_plain0]; exact frozen_heap h4

set_option maxRecDepth 100000 in
set_option maxHeartbeats 2000000 in
theorem parses_walk (a0 : Option Addr) (len0 cap0 : Nat) (z0 : List Int) (w : World) (w0 : IsRow .u8 w a0 len0 cap0 z0) (y0 : cap0 * 1 ≤ 140737488351232) (hT : Lib.Utf8Tabs 0 1 w) :
    Calls Tryd.prog 3 #[.slice a0 len0 cap0] w fun e w' => e = .returned (.bool true) ∧ Below w.heap.size w w' := by
  obtain ⟨hl, hR, hb, hcap⟩ := row_reads8 w0
  have hN : a0 = none → cap0 = 0 := by
    rcases w0 with ⟨rfl, rfl, rfl, rfl⟩ | ⟨x, rfl, _⟩
    · exact fun _ => rfl
    · exact fun h => by cases h
  obtain ⟨L, hLd⟩ : ∃ L, L = z0.take len0 := ⟨_, rfl⟩
  rw [← hLd] at hl hR hb
  subst hl
  clear hLd w0
  have hlen : Hid (((L.length : Nat) : Int) ≤ 140737488355328) := by rw [Hid]; omega
  have HC := Lib.hid (And.intro hcap (show cap0 ≤ 140737488355328 by omega))
  have HR := Lib.hid hR
  have HT := Lib.hid hT
  have Hb := Lib.hid hb
  have HN := Lib.hid hN
  clear hR hb y0 hcap hT hN
  by_cases hbig : (3000 : Int) < (L.length : Int)
  · have hd := decide_eq_true hbig
    go_enter Tryd.func3, Tryd.ntmps3
    go_wp2_with (fail)
    go_ret
    exact ⟨rfl, Below.refl _ _⟩
  have hd := decide_eq_false hbig
  have Hbig : Hid (L.length ≤ 3000) := by rw [Hid]; omega
  clear hbig
  go_enter Tryd.func3, Tryd.ntmps3
  go_upto_region 3 with (fail)
  clear hd
  go_wp2_with (at_builtin; go_must (refine wp_append_row (W := w.alloc (.cells #[] BT)) w.heap.size rfl _ _ 22 5 .u8 1 rfl Tryd.underlying22 Var.info_byte _ [] L a0 cap0 rfl rfl HN.out (HR.out.keep (Below.alloc (Below.refl _ _) (Nat.le_refl _) _)) (own_lit0 _ _ (Nat.le_refl _)) (by first | (simp; done) | (simp; omega)) (by have := Hbig.out; first | (simp; done) | (simp; omega)) ?_))
  intro A1 c1 w1 ho1 ht1
  try rw [List.nil_append] at ho1
  have HO1 := Lib.hid ho1
  have HT1 := Lib.hid (turn_above0 (Turn.alloc w (.cells #[] BT)) (own_lit0 w _ (Nat.le_refl _)) ht1)
  have HB1 : Hid (Below w.heap.size w w1) := HT1.out.toBelow (Nat.le_refl _) (fun k hk h => by omega)
  have HOB : Hid (∀ j, (Value.slice A1 L.length c1).ownBlock = some j → w.heap.size ≤ j ∧ j < w1.heap.size) := fun j hj => own_block_ge HO1.out j hj
  obtain ⟨_, hc1, hr1, _⟩ := own_reads ho1
  have HR1 := Lib.hid hr1
  have HC1b : Hid (c1 ≤ 9223372036854775807) := by obtain ⟨_, c', hv, _, h, _⟩ := ho1.form; injection hv with _ _ e; rw [e]; exact h
  have HC1 := Lib.hid hc1
  have hLb : (L.length : Int) ≤ 3000 := by have := Hbig.out; omega
  clear ho1 ht1 hc1 hr1 HT1
  try simp only [List.nil_append]
  go_wp2_with (fail)
  refine (parse_calls w1 (Utf.tabs_keep HT.out HB1.out) A1 L c1 HR1.out HC1.out HC1b.out Hb.out (by have := Hbig.out; omega)).mono ?_
  rintro e w2 ⟨hb2, (⟨p, C, D, hI, rfl, hoc, hos⟩ | ⟨hnI, rfl⟩)⟩
  case inr =>
    have HNI := Lib.hid hnI
    clear hnI
    have HB2 : Hid (Below w1.heap.size w1 w2) := hb2
    have HB2w : Hid (Below w.heap.size w w2) := HB1.out.trans (hb2.mono HB1.out.size)
    clear hb2
    rename_i hK hTr
    clear hTr
    refine hK _ _ ?_
    refine st_val (.tuple #[.agg zeroP.cells, .int .i64 100]) (wanted_free rfl) (by exact rMove (x := .tmp 17) rfl) ?_
    refine st_val (.agg zeroP.cells) (wanted_free rfl) (by exact rExtract (x := .tmp 15) rfl (kExt0 _ _)) ?_
    refine st_val (.int .i64 100) (wanted_free rfl) (by exact rExtract (x := .tmp 15) rfl (kExt1 _ _)) ?_
    refine st_alloc (wanted_free rfl) rfl (by exact kAllocP _) ?_
    refine wp_store_pkt (g := w2.heap.size) zeroP zeroP rfl rfl rfl rfl (by exact heap_new _ _) rfl rfl ?_
    intro w3 HP3 t
    refine st_val (.int .i64 100) (wanted_free rfl) (by exact rAssign (x := .tmp 19) rfl) ?_
    refine wpList_nil ?_
    simp only [Exit.then, Act.put, List.setIfInBounds_toArray, List.set_cons_zero, List.set_cons_succ]
    have HW3 : Hid (Below w2.heap.size w2 w3) := (Below.alloc (Below.refl _ _) (Nat.le_refl _) _).trans (t.toBelow (by simp) (fun k hk e => by omega))
    clear t hK
    have HB3 : Hid (Below w.heap.size w w3) := HB2w.out.trans (HW3.out.mono HB2w.out.size)
    have HB13 : Hid (Below w1.heap.size w1 w3) := HB2.out.trans (HW3.out.mono HB2.out.size)
    obtain ⟨g3, hg3⟩ : ∃ g3, Hid (g3 = w2.heap.size) := ⟨_, rfl⟩
    have HG3 : Hid (w1.heap.size ≤ g3) := by rw [hg3.out]; exact HB2.out.size
    rw [← hg3.out] at HP3 ⊢
    go_wp2_with (fail)
    refine (rparse_calls w3 a0 L cap0 (HR.out.keep HB3.out) HC.out.1 (by have := HC.out.2; omega) Hb.out (by have := Hbig.out; omega)).mono ?_
    rintro e w4 ⟨hb4, (⟨q, C', D', hI', rfl, hoc', hos'⟩ | ⟨hn', rfl⟩)⟩
    · exact absurd hI' (HNI.out _ _ _)
    have HB4 : Hid (Below w3.heap.size w3 w4) := hb4
    have HB4w : Hid (Below w.heap.size w w4) := HB3.out.trans (hb4.mono HB3.out.size)
    clear hb4
    rename_i hK
    refine hK _ _ ?_
    refine st_val (.tuple #[.agg zeroP.cells, .bool false]) (wanted_free rfl) (by exact rMove (x := .tmp 22) rfl) ?_
    refine st_val (.agg zeroP.cells) (wanted_free rfl) (by exact rExtract (x := .tmp 20) rfl (kExt0 _ _)) ?_
    refine st_val (.bool false) (wanted_free rfl) (by exact rExtract (x := .tmp 20) rfl (kExt1 _ _)) ?_
    refine st_alloc (wanted_free rfl) rfl (by exact kAllocP _) ?_
    refine wp_store_pkt (g := w4.heap.size) zeroP zeroP rfl rfl rfl rfl (by exact heap_new _ _) rfl rfl ?_
    intro w5 HP5 t
    refine st_val (.bool false) (wanted_free rfl) (by exact rAssign (x := .tmp 24) rfl) ?_
    refine wpList_nil ?_
    simp only [Exit.then, Act.put, List.setIfInBounds_toArray, List.set_cons_zero, List.set_cons_succ]
    have HW5 : Hid (Below w4.heap.size w4 w5) := (Below.alloc (Below.refl _ _) (Nat.le_refl _) _).trans (t.toBelow (by simp) (fun k hk e => by omega))
    clear t hK
    have HB5 : Hid (Below w.heap.size w w5) := HB4w.out.trans (HW5.out.mono HB4w.out.size)
    have HB15 : Hid (Below w1.heap.size w1 w5) := HB13.out.trans ((HB4.out.trans (HW5.out.mono HB4.out.size)).mono HB13.out.size)
    have HB35 : Hid (Below w3.heap.size w3 w5) := HB4.out.trans (HW5.out.mono HB4.out.size)
    obtain ⟨g5, hg5⟩ : ∃ g5, Hid (g5 = w4.heap.size) := ⟨_, rfl⟩
    have HG5 : Hid (w1.heap.size ≤ g5) := by rw [Hid, hg5.out]; have := HB13.out.size; have := HB4.out.size; omega
    rw [← hg5.out] at HP5 ⊢
    have HO5 : Hid (OwnInts w5 w.heap.size BT .u8 (.slice A1 L.length c1) L) := HO1.out.turn (Turn.of_below (S := fun _ => False) HB15.out) (fun _ _ h => h)
    have HP35 : Hid (PkAt w5 g3 zeroP) := HP3.out.keep (Turn.of_below (S := fun _ => False) HB35.out) (fun h => h)
    have hcv := conv_own (P := Tryd.prog) (W := w5) (src := 22) (dst := 9) Tryd.underlying22 Tryd.underlying5 Tryd.underlying9 HO5.out
    have hcv0 := conv_reads (P := Tryd.prog) (W := w5) (src := 22) (dst := 9) (c := cap0) Tryd.underlying22 Tryd.underlying5 Tryd.underlying9 rfl (HR.out.keep HB5.out)
    go_wp2_with (fail)
    refine (awake_calls w5 (Utf.tabs_keep HT.out HB5.out)).mono ?_
    rintro e w6 ⟨rfl, hb6⟩
    have HB6 := Lib.hid (HB5.out.trans (hb6.mono HB5.out.size))
    have HP6 := Lib.hid (HP35.out.keep (Turn.of_below (S := fun _ => False) hb6) (fun h => h))
    clear hb6 hcv hcv0
    go_wp2_with (with_reducible refine wp_load_pktG (o := ⟨some 38, _, _, _, _, _⟩) rfl rfl HP6.out ?_ (by with_unfolding_all rfl))
    refine (same_zero w6).mono ?_
    rintro e w8 ⟨rfl, hb8⟩
    have HB8 := Lib.hid (HB6.out.trans (hb8.mono HB6.out.size))
    clear hb8
    go_wp2_with (fail)
    go_ret
    exact ⟨rfl, HB8.out⟩
  case inl =>
    have HI := Lib.hid hI
    have HOC := Lib.hid hoc
    have HOS := Lib.hid hos
    have hpc : p.codes.oneCell' = true := by obtain ⟨A', c', hv, _⟩ := hoc.form; rw [hv]; exact rfl
    have hps : p.subs.oneCell' = true := by obtain ⟨A', c', hv, _⟩ := own_form hos; rw [hv]; exact rfl
    have HPC := Lib.hid hpc
    have HPS := Lib.hid hps
    clear hI hoc hos hpc hps
    have HB2 : Hid (Below w1.heap.size w1 w2) := hb2
    have HB2w : Hid (Below w.heap.size w w2) := HB1.out.trans (hb2.mono HB1.out.size)
    clear hb2
    rename_i hK hTr
    clear hTr
    refine hK _ _ ?_
    refine st_val (.tuple #[.agg p.cells, .int .i64 0]) (wanted_free rfl) (by exact rMove (x := .tmp 17) rfl) ?_
    refine st_val (.agg p.cells) (wanted_free rfl) (by exact rExtract (x := .tmp 15) rfl (kExt0 _ _)) ?_
    refine st_val (.int .i64 0) (wanted_free rfl) (by exact rExtract (x := .tmp 15) rfl (kExt1 _ _)) ?_
    refine st_alloc (wanted_free rfl) rfl (by exact kAllocP _) ?_
    refine wp_store_pkt (g := w2.heap.size) p zeroP rfl rfl rfl rfl (by exact heap_new _ _) HPC.out HPS.out ?_
    intro w3 HP3 t
    refine st_val (.int .i64 0) (wanted_free rfl) (by exact rAssign (x := .tmp 19) rfl) ?_
    refine wpList_nil ?_
    simp only [Exit.then, Act.put, List.setIfInBounds_toArray, List.set_cons_zero, List.set_cons_succ]
    have HW3 : Hid (Below w2.heap.size w2 w3) := (Below.alloc (Below.refl _ _) (Nat.le_refl _) _).trans (t.toBelow (by simp) (fun k hk e => by omega))
    clear t hK
    have HB3 : Hid (Below w.heap.size w w3) := HB2w.out.trans (HW3.out.mono HB2w.out.size)
    have HB13 : Hid (Below w1.heap.size w1 w3) := HB2.out.trans (HW3.out.mono HB2.out.size)
    obtain ⟨g3, hg3⟩ : ∃ g3, Hid (g3 = w2.heap.size) := ⟨_, rfl⟩
    have HG3 : Hid (w1.heap.size ≤ g3) := by rw [hg3.out]; exact HB2.out.size
    rw [← hg3.out] at HP3 ⊢
    go_wp2_with (fail)
    refine (rparse_calls w3 a0 L cap0 (HR.out.keep HB3.out) HC.out.1 (by have := HC.out.2; omega) Hb.out (by have := Hbig.out; omega)).mono ?_
    rintro e w4 ⟨hb4, (⟨q, C', D', hI', rfl, hoc', hos'⟩ | ⟨hn, _⟩)⟩
    case inr => exact absurd HI.out (hn _ _ _)
    have HI' := Lib.hid hI'
    have HOC' := Lib.hid hoc'
    have HOS' := Lib.hid hos'
    have hqc : q.codes.oneCell' = true := by obtain ⟨A', c', hv, _⟩ := hoc'.form; rw [hv]; exact rfl
    have hqs : q.subs.oneCell' = true := by obtain ⟨A', c', hv, _⟩ := own_form hos'; rw [hv]; exact rfl
    have HQC := Lib.hid hqc
    have HQS := Lib.hid hqs
    clear hI' hoc' hos' hqc hqs
    have HB4 : Hid (Below w3.heap.size w3 w4) := hb4
    have HB4w : Hid (Below w.heap.size w w4) := HB3.out.trans (hb4.mono HB3.out.size)
    clear hb4
    rename_i hK
    refine hK _ _ ?_
    refine st_val (.tuple #[.agg q.cells, .bool true]) (wanted_free rfl) (by exact rMove (x := .tmp 22) rfl) ?_
    refine st_val (.agg q.cells) (wanted_free rfl) (by exact rExtract (x := .tmp 20) rfl (kExt0 _ _)) ?_
    refine st_val (.bool true) (wanted_free rfl) (by exact rExtract (x := .tmp 20) rfl (kExt1 _ _)) ?_
    refine st_alloc (wanted_free rfl) rfl (by exact kAllocP _) ?_
    refine wp_store_pkt (g := w4.heap.size) q zeroP rfl rfl rfl rfl (by exact heap_new _ _) HQC.out HQS.out ?_
    intro w5 HP5 t
    refine st_val (.bool true) (wanted_free rfl) (by exact rAssign (x := .tmp 24) rfl) ?_
    refine wpList_nil ?_
    simp only [Exit.then, Act.put, List.setIfInBounds_toArray, List.set_cons_zero, List.set_cons_succ]
    have HW5 : Hid (Below w4.heap.size w4 w5) := (Below.alloc (Below.refl _ _) (Nat.le_refl _) _).trans (t.toBelow (by simp) (fun k hk e => by omega))
    clear t hK
    have HB5 : Hid (Below w.heap.size w w5) := HB4w.out.trans (HW5.out.mono HB4w.out.size)
    have HB15 : Hid (Below w1.heap.size w1 w5) := HB13.out.trans ((HB4.out.trans (HW5.out.mono HB4.out.size)).mono HB13.out.size)
    have HB35 : Hid (Below w3.heap.size w3 w5) := HB4.out.trans (HW5.out.mono HB4.out.size)
    obtain ⟨g5, hg5⟩ : ∃ g5, Hid (g5 = w4.heap.size) := ⟨_, rfl⟩
    have HG5 : Hid (w1.heap.size ≤ g5) := by rw [Hid, hg5.out]; have := HB13.out.size; have := HB4.out.size; omega
    rw [← hg5.out] at HP5 ⊢
    have HO5 : Hid (OwnInts w5 w.heap.size BT .u8 (.slice A1 L.length c1) L) := HO1.out.turn (Turn.of_below (S := fun _ => False) HB15.out) (fun _ _ h => h)
    have HP35 : Hid (PkAt w5 g3 p) := HP3.out.keep (Turn.of_below (S := fun _ => False) HB35.out) (fun h => h)
    have hcv := conv_own (P := Tryd.prog) (W := w5) (src := 22) (dst := 9) Tryd.underlying22 Tryd.underlying5 Tryd.underlying9 HO5.out
    have hcv0 := conv_reads (P := Tryd.prog) (W := w5) (src := 22) (dst := 9) (c := cap0) Tryd.underlying22 Tryd.underlying5 Tryd.underlying9 rfl (HR.out.keep HB5.out)
    go_wp2_with (fail)
    clear hcv hcv0
    go_loopw [8] (fun xk wr => ∃ k : Nat, k ≤ L.length ∧ xk = .int .i64 k ∧ Hid (Fills w5 wr A1 L.length c1)) (fun xk _ => L.length - (intOf xk).toNat)
    case atStart => exact ⟨0, Nat.zero_le _, rfl, Fills.start HO5.out⟩
    case round =>
      obtain ⟨k, hk, rfl, HF⟩ := hrel
      have hkb : (k : Int) ≤ 3000 := by omega
      by_cases hkl : k < L.length
      · obtain ⟨x, v, hA, hcell, hfz⟩ := HF.out.cell hkl
        have HN1 := Lib.hid (HF.out.step hA hkl (.int .u8 1))
        subst hA
        go_wp2_with (fail)
        go_roundw
        case rel => exact ⟨k + 1, by omega, by go_num, HN1.out⟩
        case measure => simp [intOf]; omega
      · have hT5 : Hid (Turn (fun j => (Value.slice A1 L.length c1).ownBlock = some j) w5 wr) := HF.out.1
        have HBr : Hid (Below w.heap.size w wr) := hT5.out.belowTrans HB5.out HB5.out.size (fun j hj e => by have := (HOB.out j e).1; omega)
        have HPr : Hid (PkAt wr g3 p) := HP35.out.keep hT5.out (fun e => by have := (HOB.out g3 e).2; have := HG3.out; omega)
        have HQr : Hid (PkAt wr g5 q) := HP5.out.keep hT5.out (fun e => by have := (HOB.out g5 e).2; have := HG5.out; omega)
        have HOCr : Hid (OwnInts wr w1.heap.size 3 .i64 p.codes C) := ((HOC.out.turn (Turn.of_below (S := fun _ => False) (HW3.out.trans (HB35.out.mono HW3.out.size))) (fun _ _ h => h))).turn hT5.out (fun j hj e => by have h1 := (HOB.out j e).2; have h2 := (own_block_ge HOC.out j hj).1; omega)
        have HOSr : Hid (wr.ownsRow w1.heap.size 76 2 p.subs D.length (subCells D)) := own_turn (own_turn HOS.out (Turn.of_below (S := fun _ => False) (HW3.out.trans (HB35.out.mono HW3.out.size))) (fun _ _ h => h)) hT5.out (fun j hj e => by have h1 := (HOB.out j e).2; have h2 := (own_block_ge HOS.out j hj).1; omega)
        have h13 := HB13.out.size
        have HOCr' : Hid (OwnInts wr w3.heap.size 3 .i64 q.codes C') := (HOC'.out.turn (Turn.of_below (S := fun _ => False) HW5.out) (fun _ _ h => h)).turn hT5.out (fun j hj e => by have h1 := (HOB.out j e).2; have h2 := (own_block_ge HOC'.out j hj).1; omega)
        have HOSr' : Hid (wr.ownsRow w3.heap.size 76 2 q.subs D'.length (subCells D')) := own_turn (own_turn HOS'.out (Turn.of_below (S := fun _ => False) HW5.out) (fun _ _ h => h)) hT5.out (fun j hj e => by have h1 := (HOB.out j e).2; have h2 := (own_block_ge HOS'.out j hj).1; omega)
        have HLr : Hid (Lies wr p C D) := own_lies HI.out Hb.out (by have := Hbig.out; omega) HOCr.out HOSr.out
        have HLr' : Hid (Lies wr q C' D') := own_lies HI'.out Hb.out (by have := Hbig.out; omega) HOCr'.out HOSr'.out
        have HSP : Hid (SameP p q C C' D D') := is_unique HI.out HI'.out
        clear h13
        have hdk : decide (k < L.length) = false := decide_eq_false hkl
        go_wp2_with (fail)
        refine (awake_calls wr (Utf.tabs_keep HT.out HBr.out)).mono ?_
        rintro e w6 ⟨rfl, hb6⟩
        have HB6 := Lib.hid (HBr.out.trans (hb6.mono HBr.out.size))
        have HP6 := Lib.hid (HPr.out.keep (Turn.of_below (S := fun _ => False) hb6) (fun h => h))
        have HQ6 := Lib.hid (HQr.out.keep (Turn.of_below (S := fun _ => False) hb6) (fun h => h))
        have HL6 := Lib.hid (HLr.out.keep hb6)
        have HL6' := Lib.hid (HLr'.out.keep hb6)
        clear hb6
        go_wp2_with ((with_reducible refine wp_load_pktG (o := ⟨some 57, _, _, _, _, _⟩) rfl rfl HP6.out ?_ (by with_unfolding_all rfl)); (with_reducible refine wp_load_pktG (o := ⟨some 58, _, _, _, _, _⟩) rfl (by with_unfolding_all rfl) HQ6.out ?_ (by with_unfolding_all rfl)))
        refine (same_calls w6 p q C C' D D' HL6.out HL6'.out (by have := (is_bounds HI.out Hb.out).1; omega) (by have := (is_bounds HI.out Hb.out).2.1; omega)).mono ?_
        rw [decide_eq_true HSP.out]
        rintro e w8 ⟨rfl, hb8⟩
        have HB8 := Lib.hid (HB6.out.trans (hb8.mono HB6.out.size))
        clear hb8
        go_wp2_with (fail)
        go_ret
        exact ⟨rfl, HB8.out⟩
end Ref
end Go.Proofs.YteigakkghkjakaaDoor

/- The reader: read, a Suback's codes; the types with an Id alone. The reader: read, filters. -/
import Derived.Test.YteigakkghkjakaaDoorPlD
import Derived.Deep.LoopGhost
namespace Go.Proofs.YteigakkghkjakaaDoor
open Go.RowKit
set_option linter.unusedVariables false
set_option linter.unusedSimpArgs false
namespace Pk
open Utf (nums nums_length nums_bytes IsStr)
open Var (BT)

theorem RS.grow {w W W' : World} {r g B : Nat} {p : Pkt} {L : List Int} {S : Nat → Prop} (h : RS w W r g B p L) (hr : r < w.heap.size) (hg : g < w.heap.size) (t : Turn S W W') (hS : ∀ k, S k → w.heap.size ≤ k) : RS w W' r g B p L :=
  ⟨h.turn.then t (fun i hi hx => by have := hS i hx; omega), h.rd.other t (fun k hk => ⟨by have := hS k hk; have := h.bg; omega, by have := hS k hk; omega⟩), h.pk.keep t (fun hx => by have := hS g hx; omega), h.ne, h.bg⟩
theorem rdWord_len {L M : List Int} {n : Int} (h : rdWord L = some (n, M)) : M.length + 2 = L.length := by
  match L, h with
  | a :: b :: L', h => simp [rdWord] at h; obtain ⟨_, rfl⟩ := h; simp
theorem RQ.grow {w W1 W W' : World} {r g v B : Nat} {p : Pkt} {L : List Int} {S : Nat → Prop} (h : RQ w W1 W r g v B p L) (t : Turn S W W') (hS : ∀ k, S k → W1.heap.size ≤ k) (hr : r < W1.heap.size ∧ g < W1.heap.size) : RQ w W1 W' r g v B p L :=
  h.next (h.rs.grow hr.1 hr.2 t hS)
theorem RQ.drew {w W1 W : World} {r g v B : Nat} {p : Pkt} {L : List Int} (h : RQ w W1 W r g v B p L) : RQ w W1 W.drew r g v B p L := h.next (h.rs.old ⟨rfl, rfl, rfl, Nat.le_refl _, fun _ _ => rfl⟩)
theorem RQ.ws {w W1 W : World} {r g v B : Nat} {p : Pkt} {L : List Int} (h : RQ w W1 W r g v B p L) : W1.heap.size ≤ W.heap.size := h.rs.turn.size
theorem info_int : (Tryd.prog.info? 3).map (fun i => (i.zero, i.size, i.bytes)) = some (some (.int .i64 0), 1, 8) := by kernel_rfl

set_option maxRecDepth 100000 in
set_option maxHeartbeats 2000000 in
theorem read_id (w : World) (r B : Nat) (f T : Int) (L : List Int) (hf : 0 ≤ f ∧ f ≤ 255) (hTf : T = f / 16) (h : RdAt w r B L) (hLb : L.length ≤ 1000000000000) (hT : ¬ (T = 1 ∨ T = 2 ∨ T = 3 ∨ T = 8 ∨ T = 9 ∨ T = 10 ∨ T = 12 ∨ T = 13 ∨ T = 14)) : Calls Tryd.prog 34 #[.pointer (some ⟨r, 0, none⟩), .int .i64 f] w fun e w' => ReadPost w r (rdPkt f L) e w' := by
  obtain ⟨hf0, hf1⟩ := hf
  obtain ⟨g, hg⟩ : ∃ g, Hid (g = (w.alloc (.cells zeroC PT)).heap.size) := ⟨_, rfl⟩
  obtain ⟨v, hv⟩ : ∃ v, Hid (v = w.heap.size) := ⟨_, rfl⟩
  have hgw : Hid (g = w.heap.size + 1) := by rw [hg.out, Hid]; simp
  obtain ⟨o, ho⟩ : ∃ o, Hid (o = rdPkt f L) := ⟨_, rfl⟩
  rw [← ho.out]
  unfold rdPkt at ho
  rw [← hTf] at ho
  go_enter Tryd.func34, Tryd.ntmps34
  go_upto_region 1 with (fail)
  refine wp_region_lit ?_
  refine st_val (.int .i64 f) (wanted_free rfl) (by exact rMove (x := .tmp 1) rfl) ?_
  refine st_val (.int .i64 T) (wanted_free rfl) (by rw [hTf]; exact rBin (x := .tmp 7) (y := .const (.int .u64 4)) rfl (kShr4 f hf0 hf1)) ?_
  refine st_val (.agg (typeP T).cells) (wanted_free rfl) (by exact rBuild1 (x := .tmp 8) rfl (kBuildP T)) ?_
  refine st_alloc (wanted_free rfl) rfl (by exact kAllocP _) ?_
  refine wp_store_pkt (g := (w.alloc (.cells zeroC PT)).heap.size) (typeP T) zeroP rfl rfl rfl rfl (by exact heap_new _ _) rfl rfl ?_
  intro W1 HP1 t1
  refine wpList_nil ?_
  simp only [Exit.then, Act.put, List.setIfInBounds_toArray, List.set_cons_zero, List.set_cons_succ]
  rw [← hg.out, ← hv.out]
  rw [← hg.out] at t1 HP1
  have hH : Hid (RQ w W1 W1 r g v B (typeP T) L) := by
    have hz : (w.alloc (.cells zeroC PT)).heap.size = w.heap.size + 1 := by simp
    have hb0 : Below w.heap.size w ((w.alloc (.cells zeroC PT)).alloc (.cells zeroP.cells PT)) := Below.alloc (Below.alloc (Below.refl _ _) (Nat.le_refl _) _) (by simp) _
    have hb : Below w.heap.size w W1 := hb0.trans (t1.toBelow (by simp; omega) (fun k hk e => by have := hgw.out; omega))
    have hB := h
    obtain ⟨_, _, _, _, _, _, _, hb6, _⟩ := hB
    have hlt := h.lt
    refine ⟨⟨Turn.refl _ _, h.keep hb, HP1.out, by rw [hgw.out]; omega, by rw [hgw.out]; have := hb6.1; omega⟩, hgw.out, hv.out, hlt, hb, ?_⟩
    have hres : PkAt ((w.alloc (.cells zeroC PT)).alloc (.cells zeroP.cells PT)) v zeroP := by
      unfold PkAt
      rw [hv.out, heap_old _ _ _ (by simp)]
      exact heap_new _ _
    exact hres.keep t1 (fun e => by have := hgw.out; have := hv.out; omega)
  clear t1 HP1 h hTf
  have k0 : W1.cell? ⟨g, 0, none⟩ = some (.int .i64 T) := hH.out.rs.pk.cell 0
  have hx1 : (T == 1) = false := by simp; omega
  have hx2 : (T == 2) = false := by simp; omega
  have hx3 : (T == 3) = false := by simp; omega
  have hx12 : (T == 12) = false := by simp; omega
  have hx13 : (T == 13) = false := by simp; omega
  have hx14 : (T == 14) = false := by simp; omega
  rw [if_neg (by omega), if_neg (by omega), if_neg (by omega), if_neg (by omega)] at ho
  go_wp2_with (fail)
  refine (rword_calls W1 r B L hH.out.rs.rd).mono ?_
  rintro e W2 ⟨t, (⟨id, L2, hs, rfl, hR⟩ | ⟨hs, rfl⟩)⟩
  · rw [hs, Option.bind_some] at ho
    have hb2 := rdWord_len hs
    have hL2b : Hid (L2.length ≤ 1000000000000) := by rw [Hid]; omega
    clear hb2
    have H2 : Hid (RQ w W1 W2 r g v B (typeP T) L2) := hH.out.next (hH.out.rs.read t hR)
    clear t hR hs
    have y2 : W2.cell? ⟨g, 2, none⟩ = some (.int .i64 0) := H2.out.rs.pk.cell 2
    have s2 := H2.out.rs.pk.frozen 2
    obtain ⟨q, hq⟩ : ∃ x : Pkt, Hid (x = { typeP T with id := id }) := ⟨_, rfl⟩
    have H3 : Hid (RQ w W1 (W2.setCell ⟨g, 2, none⟩ (.int .i64 id)) r g v B q L2) := by rw [hq.out]; exact H2.out.next (H2.out.rs.set 2 _ _ rfl)
    have hcod : Hid (q.codes = nilV ∧ q.subs = nilV ∧ q.ty = T) := by rw [hq.out]; exact ⟨rfl, rfl, rfl⟩
    have hrlt : Hid (r < W1.heap.size ∧ g < W1.heap.size) := ⟨by have := hH.out.w1.size; have := hH.out.rw_; omega, hH.out.rs.pk.lt⟩
    have hx8 : (T == 8) = false := by simp; omega
    have hx9 : (T == 9) = false := by simp; omega
    have hx10 : (T == 10) = false := by simp; omega
    rw [if_neg (by omega), if_neg (by omega)] at ho
    have hoo : Hid (o = some (q, [], [])) := by rw [ho.out, hq.out]; exact rfl
    have l0 : (W2.setCell ⟨g, 2, none⟩ (.int .i64 id)).cell? ⟨g, 0, none⟩ = some (.int .i64 T) := by rw [← hcod.out.2.2]; exact H3.out.rs.pk.cell 0
    go_wp2_with (fail)
    generalize hW3 : W2.setCell ⟨g, 2, none⟩ (.int .i64 id) = W3 at H3 l0 ⊢
    clear hW3 y2 s2
    go_loopw [] (fun wr => wr = W3) (fun _ => 0)
    case atStart => exact rfl
    case round =>
      rw [hrel]
      clear hrel wr
      go_wp2_with (fail)
      go_loopw [] (fun wr => wr = W3) (fun _ => 0)
      case atStart => exact rfl
      case round =>
        rw [hrel]
        clear hrel wr
        have HOC : Hid (OwnInts W3 (w.heap.size + 2) 3 .i64 nilV []) := OwnInts.nil _ _ _ _
        have HOS : Hid ((W3).ownsRow (w.heap.size + 2) 76 2 nilV ([] : List (ByteArray × Int)).length (subCells [])) := own_nilSub _ _
        have HV := Lib.hid H3.out.resAt
        have HTU := Lib.hid H3.out.turn
        go_upto_region 25 with (fail)
        rename_i hKont
        refine wp_region_lit (wp_load_pkt (p := q) rfl rfl (by rfl) H3.out.rs.pk ?_)
        refine wp_store_pkt q zeroP rfl rfl (by rfl) (by rfl) HV.out (by rw [hcod.out.1]; rfl) (by rw [hcod.out.2.1]; rfl) ?_
        intro Wf HPf tf
        refine wpList_nil (hKont _ _ (wp_ret ?_))
        exact ⟨rfl, _, read_results Wf v q _ rfl HPf.out, HTU.out.then tf (fun i hi e => by have := hv.out; omega), .inl ⟨q, [], [], _, _, hoo.out, by rw [rows_self q (vc := nilV) (vs := nilV) hcod.out.1 hcod.out.2.1], oi_mono (HOC.out.turn tf (fun j hj e => by have := (own_block_ge HOC.out j hj).1; have := hv.out; omega)) (by omega) rfl, own_mono (own_turn HOS.out tf (fun j hj e => by have := (own_block_ge HOS.out j hj).1; have := hv.out; omega)) (by omega)⟩⟩
  · rw [hs, Option.bind_none] at ho
    have HF : Hid (Turn (fun k => k = r) w _) := turn_of hH.out.w1 hgw.out (hH.out.rs.fail t)
    clear t hs
    go_wp2_with (fail)
    exact ⟨rfl, HF.out, .inr ⟨ho.out, rfl⟩⟩
set_option maxRecDepth 100000 in
set_option maxHeartbeats 2000000 in
theorem read_suback (w : World) (r B : Nat) (f T : Int) (L : List Int) (hf : 0 ≤ f ∧ f ≤ 255) (hTf : T = f / 16) (h : RdAt w r B L) (hLb : L.length ≤ 1000000000000) (hT : T = 9) : Calls Tryd.prog 34 #[.pointer (some ⟨r, 0, none⟩), .int .i64 f] w fun e w' => ReadPost w r (rdPkt f L) e w' := by
  obtain ⟨hf0, hf1⟩ := hf
  obtain ⟨g, hg⟩ : ∃ g, Hid (g = (w.alloc (.cells zeroC PT)).heap.size) := ⟨_, rfl⟩
  obtain ⟨v, hv⟩ : ∃ v, Hid (v = w.heap.size) := ⟨_, rfl⟩
  have hgw : Hid (g = w.heap.size + 1) := by rw [hg.out, Hid]; simp
  obtain ⟨o, ho⟩ : ∃ o, Hid (o = rdPkt f L) := ⟨_, rfl⟩
  rw [← ho.out]
  unfold rdPkt at ho
  rw [← hTf] at ho
  go_enter Tryd.func34, Tryd.ntmps34
  go_upto_region 1 with (fail)
  refine wp_region_lit ?_
  refine st_val (.int .i64 f) (wanted_free rfl) (by exact rMove (x := .tmp 1) rfl) ?_
  refine st_val (.int .i64 T) (wanted_free rfl) (by rw [hTf]; exact rBin (x := .tmp 7) (y := .const (.int .u64 4)) rfl (kShr4 f hf0 hf1)) ?_
  refine st_val (.agg (typeP T).cells) (wanted_free rfl) (by exact rBuild1 (x := .tmp 8) rfl (kBuildP T)) ?_
  refine st_alloc (wanted_free rfl) rfl (by exact kAllocP _) ?_
  refine wp_store_pkt (g := (w.alloc (.cells zeroC PT)).heap.size) (typeP T) zeroP rfl rfl rfl rfl (by exact heap_new _ _) rfl rfl ?_
  intro W1 HP1 t1
  refine wpList_nil ?_
  simp only [Exit.then, Act.put, List.setIfInBounds_toArray, List.set_cons_zero, List.set_cons_succ]
  rw [← hg.out, ← hv.out]
  rw [← hg.out] at t1 HP1
  have hH : Hid (RQ w W1 W1 r g v B (typeP T) L) := by
    have hz : (w.alloc (.cells zeroC PT)).heap.size = w.heap.size + 1 := by simp
    have hb0 : Below w.heap.size w ((w.alloc (.cells zeroC PT)).alloc (.cells zeroP.cells PT)) := Below.alloc (Below.alloc (Below.refl _ _) (Nat.le_refl _) _) (by simp) _
    have hb : Below w.heap.size w W1 := hb0.trans (t1.toBelow (by simp; omega) (fun k hk e => by have := hgw.out; omega))
    have hB := h
    obtain ⟨_, _, _, _, _, _, _, hb6, _⟩ := hB
    have hlt := h.lt
    refine ⟨⟨Turn.refl _ _, h.keep hb, HP1.out, by rw [hgw.out]; omega, by rw [hgw.out]; have := hb6.1; omega⟩, hgw.out, hv.out, hlt, hb, ?_⟩
    have hres : PkAt ((w.alloc (.cells zeroC PT)).alloc (.cells zeroP.cells PT)) v zeroP := by
      unfold PkAt
      rw [hv.out, heap_old _ _ _ (by simp)]
      exact heap_new _ _
    exact hres.keep t1 (fun e => by have := hgw.out; have := hv.out; omega)
  clear t1 HP1 h hTf
  have k0 : W1.cell? ⟨g, 0, none⟩ = some (.int .i64 T) := hH.out.rs.pk.cell 0
  have hx1 : (T == 1) = false := by simp; omega
  have hx2 : (T == 2) = false := by simp; omega
  have hx3 : (T == 3) = false := by simp; omega
  have hx12 : (T == 12) = false := by simp; omega
  have hx13 : (T == 13) = false := by simp; omega
  have hx14 : (T == 14) = false := by simp; omega
  rw [if_neg (by omega), if_neg (by omega), if_neg (by omega), if_neg (by omega)] at ho
  go_wp2_with (fail)
  refine (rword_calls W1 r B L hH.out.rs.rd).mono ?_
  rintro e W2 ⟨t, (⟨id, L2, hs, rfl, hR⟩ | ⟨hs, rfl⟩)⟩
  · rw [hs, Option.bind_some] at ho
    have hb2 := rdWord_len hs
    have hL2b : Hid (L2.length ≤ 1000000000000) := by rw [Hid]; omega
    clear hb2
    have H2 : Hid (RQ w W1 W2 r g v B (typeP T) L2) := hH.out.next (hH.out.rs.read t hR)
    clear t hR hs
    have y2 : W2.cell? ⟨g, 2, none⟩ = some (.int .i64 0) := H2.out.rs.pk.cell 2
    have s2 := H2.out.rs.pk.frozen 2
    obtain ⟨q, hq⟩ : ∃ x : Pkt, Hid (x = { typeP T with id := id }) := ⟨_, rfl⟩
    have H3 : Hid (RQ w W1 (W2.setCell ⟨g, 2, none⟩ (.int .i64 id)) r g v B q L2) := by rw [hq.out]; exact H2.out.next (H2.out.rs.set 2 _ _ rfl)
    have hcod : Hid (q.codes = nilV ∧ q.subs = nilV ∧ q.ty = T) := by rw [hq.out]; exact ⟨rfl, rfl, rfl⟩
    have hrlt : Hid (r < W1.heap.size ∧ g < W1.heap.size) := ⟨by have := hH.out.w1.size; have := hH.out.rw_; omega, hH.out.rs.pk.lt⟩
    rw [if_pos hT] at ho
    have hoo : Hid (o = some (q, L2, [])) := by rw [ho.out, hq.out, hT]; exact rfl
    subst hT
    have l0 : (W2.setCell ⟨g, 2, none⟩ (.int .i64 id)).cell? ⟨g, 0, none⟩ = some (.int .i64 9) := by rw [← hcod.out.2.2]; exact H3.out.rs.pk.cell 0
    go_wp2_with (fail)
    generalize hW3 : W2.setCell ⟨g, 2, none⟩ (.int .i64 id) = W3 at H3 l0 ⊢
    clear hW3 y2 s2 l0
    go_loopg [] L2.length (fun gk wr => ∃ (vc : Value) (C0 Lc : List Int), Hid (RQ w W1 wr r g v B (q.rows vc nilV) Lc) ∧ Hid (OwnInts wr W1.heap.size 3 .i64 vc C0) ∧ Hid (C0 ++ Lc = L2) ∧ Hid (Lc.length = gk))
    case atStart => exact ⟨nilV, [], L2, (by rw [rows_self q hcod.out.1 hcod.out.2.1]; exact H3), OwnInts.nil _ _ _ _, (by rw [List.nil_append, Hid]), by rw [Hid]⟩
    case round =>
      obtain ⟨vc, C0, Lc, HQ, HO, hC, hgk⟩ := hrel
      have l0 : wr.cell? ⟨g, 0, none⟩ = some (.int .i64 9) := by rw [← hcod.out.2.2]; exact HQ.out.rs.pk.cell 0
      obtain ⟨Ar, cr, hr0, hrc, hrb, _, _, _, _⟩ := HQ.out.rs.rd
      have kr : wr.cell? ⟨r, 0, none⟩ = some (.slice Ar Lc.length cr) := by rw [cell_heap hr0]; exact rfl
      have hrl : (Lc.length : Int) ≤ 140737488355328 := by omega
      clear hr0 hrc hrb
      cases Lc with
      | nil =>
        have hoo2 : Hid (o = some (q, C0, [])) := by rw [hoo.out, ← hC.out, List.append_nil, Hid]
        have l5 := l0
        go_wp2_with (fail)
        obtain ⟨W5, hW5⟩ : ∃ W5, W5 = wr := ⟨_, rfl⟩
        rw [← hW5]
        rw [← hW5] at HQ HO l0
        clear hW5 kr l5
        go_loopw [] (fun wr => wr = W5) (fun _ => 0)
        case atStart => exact rfl
        case round =>
          rw [hrel]
          clear hrel
          have HOC : Hid (OwnInts W5 (w.heap.size + 2) 3 .i64 vc C0) := oi_mono HO.out (by have := hrlt.out.2; have := hgw.out; omega) rfl
          have hone : Hid (vc.oneCell' = true) := by obtain ⟨A, c, hv, _⟩ := HO.out.form; rw [hv]; exact rfl
          have HOS : Hid ((W5).ownsRow (w.heap.size + 2) 76 2 nilV ([] : List (ByteArray × Int)).length (subCells [])) := own_nilSub _ _
          have HV := Lib.hid HQ.out.resAt
          have HTU := Lib.hid HQ.out.turn
          go_upto_region 25 with (fail)
          rename_i hKont
          refine wp_region_lit (wp_load_pkt (p := (q.rows vc nilV)) rfl rfl (by rfl) HQ.out.rs.pk ?_)
          refine wp_store_pkt (q.rows vc nilV) zeroP rfl rfl (by rfl) (by rfl) HV.out (by exact hone.out) (by rfl) ?_
          intro Wf HPf tf
          refine wpList_nil (hKont _ _ (wp_ret ?_))
          exact ⟨rfl, _, read_results Wf v (q.rows vc nilV) _ rfl HPf.out, HTU.out.then tf (fun i hi e => by have := hv.out; omega), .inl ⟨q, C0, [], _, _, hoo2.out, rfl, oi_mono (HOC.out.turn tf (fun j hj e => by have := (own_block_ge HOC.out j hj).1; have := hv.out; omega)) (by omega) rfl, own_mono (own_turn HOS.out tf (fun j hj e => by have := (own_block_ge HOS.out j hj).1; have := hv.out; omega)) (by omega)⟩⟩
      | cons x L' =>
        obtain ⟨A, c, hv, _, _, _⟩ := HO.out.form
        subst hv
        cases gk with
        | zero => exact absurd hgk.out (by simp)
        | succ k1 =>
          have hk1 : Hid (L'.length = k1) := by have := hgk.out; rw [Hid]; simpa using this
          have hCx : Hid ((C0 ++ [x]) ++ L' = L2) := by rw [List.append_assoc]; exact hC.out
          have hlen : Hid (C0.length + 1 ≤ 140737488355328 ∧ (C0.length + 1) * 8 ≤ 140737488355328) := by
            have h1 := congrArg List.length hC.out
            have h2 := hL2b.out
            rw [List.length_append, List.length_cons] at h1
            rw [Hid]; exact ⟨by omega, by omega⟩
          have k16 : wr.cell? ⟨g, 16, none⟩ = some (.slice A C0.length c) := HQ.out.rs.pk.cell 16
          have k16d : wr.drew.cell? ⟨g, 16, none⟩ = some (.slice A C0.length c) := k16
          have HOct : Hid (∀ (R : Ending → World → Prop), (∀ w5, Hid (RQ w W1 w5 r g v B (q.rows (.slice A C0.length c) nilV) L') → Hid (OwnInts w5 W1.heap.size 3 .i64 (.slice A C0.length c) C0) → w5.cell? ⟨g, 16, none⟩ = some (.slice A C0.length c) → (∀ o, (w5.alloc o).cell? ⟨g, 16, none⟩ = some (.slice A C0.length c)) → R (.returned (.int .i64 x)) w5) → Calls Tryd.prog 61 #[.pointer (some ⟨r, 0, none⟩)] wr.drew R) := by
            intro R hK
            refine (octet_calls wr.drew r B (x :: L') HQ.out.drew.rs.rd).mono ?_
            rintro e w5 ⟨t, (⟨a, L3, hs, rfl, hR⟩ | ⟨hs, _⟩)⟩
            · cases hs
              have H5 : RQ w W1 w5 r g v B (q.rows (.slice A C0.length c) nilV) L' := HQ.out.drew.next (HQ.out.drew.rs.read t hR)
              exact hK w5 H5 (OwnInts.turn (OwnInts.turn HO.out (Turn.drew (Turn.refl (fun _ => False) _)) (fun _ _ h => h)) t (fun j hj e => by have := (own_block_ge HO.out j hj).1; have := hrlt.out.1; omega)) (H5.rs.pk.cell 16) (fun o => (H5.rs.old (Below.alloc (Below.refl _ _) (Nat.le_refl _) o)).pk.cell 16)
            · cases hs
          go_upto_region 5 with (fail)
          go_region_law (first
            | (refine step_append_row W1.heap.size rfl _ _ 25 3 .i64 8 rfl Tryd.underlying25 info_int _ C0 [x] _ 1 rfl rfl (by exact reads_lit _ [x] _ rfl) (own_alloc HO5.out _) (Nat.le_trans H5.out.ws (by simp)) hlen.out ?_
               intro A6 c6 w6 hown6 ht6
               have H6 : Hid (RQ w W1 w6 r g v B (q.rows (.slice A C0.length c) nilV) L') := (H5.out.next (H5.out.rs.old (Below.alloc (Below.refl _ _) (Nat.le_refl _) _))).grow ht6 (fun k hk => (own_block_ge HO5.out k hk).1) hrlt.out
               have k166 : w6.cell? ⟨g, 16, none⟩ = some (.slice A C0.length c) := H6.out.rs.pk.cell 16
               have f166 := H6.out.rs.pk.frozen 16
               have HO6 := Lib.hid hown6
               clear hown6 ht6)
            | (go_simp; go_at_call 61
               refine HOct.out _ ?_
               intro w5 H5 HO5 k165 k165a))
          all_goals
            go_wp2_with (fail)
            have HQ6 : Hid (RQ w W1 (w6.setCell ⟨g, 16, none⟩ (.slice A6 (C0.length + 1) c6)) r g v B (q.rows (.slice A6 (C0.length + 1) c6) nilV) L') := H6.out.next (H6.out.rs.set 16 _ _ rfl)
            have HO7 : Hid (OwnInts (w6.setCell ⟨g, 16, none⟩ (.slice A6 (C0.length + 1) c6)) W1.heap.size 3 .i64 (.slice A6 (C0.length + 1) c6) (C0 ++ [x])) := by
              have := HO6.out
              rw [List.length_append, List.length_singleton] at this
              exact this.turn (Turn.setCell (S := fun k => k = g) _ _ rfl) (fun j hj e => by have := (own_block_ge this j hj).1; have := hrlt.out.2; omega)
            go_roundg k1
            case rel => exact ⟨_, _, _, HQ6, HO7, hCx, hk1⟩
            case measure => omega
  · rw [hs, Option.bind_none] at ho
    have HF : Hid (Turn (fun k => k = r) w _) := turn_of hH.out.w1 hgw.out (hH.out.rs.fail t)
    clear t hs
    go_wp2_with (fail)
    exact ⟨rfl, HF.out, .inr ⟨ho.out, rfl⟩⟩
end Pk
end Go.Proofs.YteigakkghkjakaaDoor

namespace Go.Proofs.YteigakkghkjakaaDoor
open Go.RowKit
set_option linter.unusedVariables false
set_option linter.unusedSimpArgs false
namespace Pk
open Utf (nums nums_length nums_bytes IsStr)
open Var (BT)

theorem rdText_len {L M : List Int} {s : ByteArray} (h : rdText L = some (s, M)) : M.length + 2 ≤ L.length := by
  unfold rdText at h
  cases hw : rdWord L with
  | none => rw [hw] at h; cases h
  | some x =>
    obtain ⟨n, N⟩ := x
    rw [hw] at h
    have := rdWord_len hw
    simp only at h
    split at h
    · cases h
      rw [List.length_drop]; omega
    · cases h
theorem rdOct_len {L M : List Int} {x : Int} (h : rdOct L = some (x, M)) : M.length + 1 = L.length := by
  cases L with
  | nil => cases h
  | cons a b => cases h; rfl
theorem rdSubs_nil (k : Nat) (t : Int) : rdSubs k t [] = some [] := by cases k <;> rfl
theorem info_sub : (Tryd.prog.info? 76).map (fun i => (i.zero, i.size, i.bytes)) = some (some (.agg #[.string ⟨#[]⟩, .int .i64 0]), 2, 24) := by kernel_rfl
theorem own_len {w : World} {base : Nat} {e : TypeId} {size n m c : Nat} {A : Option Addr} {xs : List Value} (h : w.ownsRow base e size (.slice A n c) m xs) : n = m := by
  obtain ⟨A', c', hv, _⟩ := own_form h
  injection hv
theorem subCells_snoc (D : List (ByteArray × Int)) (s : ByteArray) (q : Int) : subCells (D ++ [(s, q)]) = subCells D ++ [.string s, .int .i64 q] := by simp [subCells]

/-- 'append(p.Subs, s)'. -/
theorem wp_append_sub {ops : Array Oper} {rest : List Oper} {o : Oper} {a : Act} {Q : Exit → Act → World → Prop} {W : World} (base : Nat) (hgd : o.guard = none) (s x : Operand)
    (ho : o.op = .call { callee := .builtin .append, args := #[s, x], argTypes := #[26, 26] })
    (v : Value) (D : List (ByteArray × Int)) (f : ByteArray) (q : Int) (b : Nat) (hs : a.eval s = v) (hx : a.eval x = .slice (some ⟨b, 0, none⟩) 1 1) (hb : W.heap[b]? = some (.cells #[.string f, .int .i64 q] 76 (0, 0)))
    (HO : W.ownsRow base 76 2 v D.length (subCells D)) (hbase : base ≤ W.heap.size) (hn : (D.length + 1) * 24 ≤ 140737488355328) (D1 : List (ByteArray × Int)) (hD1 : D1 = D ++ [(f, q)])
    (K : ∀ A1 n1 c1 w1, Hid (w1.ownsRow base 76 2 (.slice A1 n1 c1) D1.length (subCells D1)) → Turn (fun j => v.ownBlock = some j) W w1 → wpList Tryd.prog ops Q rest (a.put o.dst (.slice A1 n1 c1)) w1) :
    wpList Tryd.prog ops Q (o :: rest) a W := by
  subst hD1
  obtain ⟨i0, hi, hzz⟩ := Option.map_eq_some_iff.1 info_sub
  simp only [Prod.mk.injEq] at hzz
  obtain ⟨hz0, hz1, hz2⟩ := hzz
  refine wpList_append_own W hgd s x 26 ho base 76 i0 (.agg #[.string ⟨#[]⟩, .int .i64 0]) 2 24 Tryd.underlying26 hi hz0 hz1 hz2 rfl (by omega) v D.length _ hs HO ⟨b, 0, none⟩ 1 1 [.string f, .int .i64 q] hx rfl
    (fun j u hu => ?_) (by simp [Value.oneCell']) (by simp only [maxLen]; omega) hn hbase ?_
  · rw [add_plain0, cell_heap hb]
    match j, hu with
    | 0, hu => exact hu
    | 1, hu => exact hu
  · intro v' w' h2 h3 _
    have h4 : w'.ownsRow base 76 2 v' (D ++ [(f, q)]).length (subCells (D ++ [(f, q)])) := by
      rw [subCells_snoc, List.length_append]; exact h2
    obtain ⟨A1, c1, hv, _⟩ := own_form h4
    subst hv
    exact K A1 _ c1 w' h4 (Turn.of_grownBy h3 (fun k e => e))

set_option maxRecDepth 100000 in
set_option maxHeartbeats 2000000 in
theorem read_subs8 (w : World) (r B : Nat) (f T : Int) (L : List Int) (hf : 0 ≤ f ∧ f ≤ 255) (hTf : T = f / 16) (h : RdAt w r B L) (hLb : L.length ≤ 1000000000000) (hT : T = 8) : Calls Tryd.prog 34 #[.pointer (some ⟨r, 0, none⟩), .int .i64 f] w fun e w' => ReadPost w r (rdPkt f L) e w' := by
  obtain ⟨hf0, hf1⟩ := hf
  obtain ⟨g, hg⟩ : ∃ g, Hid (g = (w.alloc (.cells zeroC PT)).heap.size) := ⟨_, rfl⟩
  obtain ⟨v, hv⟩ : ∃ v, Hid (v = w.heap.size) := ⟨_, rfl⟩
  have hgw : Hid (g = w.heap.size + 1) := by rw [hg.out, Hid]; simp
  obtain ⟨o, ho⟩ : ∃ o, Hid (o = rdPkt f L) := ⟨_, rfl⟩
  rw [← ho.out]
  unfold rdPkt at ho
  rw [← hTf] at ho
  go_enter Tryd.func34, Tryd.ntmps34
  go_upto_region 1 with (fail)
  refine wp_region_lit ?_
  refine st_val (.int .i64 f) (wanted_free rfl) (by exact rMove (x := .tmp 1) rfl) ?_
  refine st_val (.int .i64 T) (wanted_free rfl) (by rw [hTf]; exact rBin (x := .tmp 7) (y := .const (.int .u64 4)) rfl (kShr4 f hf0 hf1)) ?_
  refine st_val (.agg (typeP T).cells) (wanted_free rfl) (by exact rBuild1 (x := .tmp 8) rfl (kBuildP T)) ?_
  refine st_alloc (wanted_free rfl) rfl (by exact kAllocP _) ?_
  refine wp_store_pkt (g := (w.alloc (.cells zeroC PT)).heap.size) (typeP T) zeroP rfl rfl rfl rfl (by exact heap_new _ _) rfl rfl ?_
  intro W1 HP1 t1
  refine wpList_nil ?_
  simp only [Exit.then, Act.put, List.setIfInBounds_toArray, List.set_cons_zero, List.set_cons_succ]
  rw [← hg.out, ← hv.out]
  rw [← hg.out] at t1 HP1
  have hH : Hid (RQ w W1 W1 r g v B (typeP T) L) := by
    have hz : (w.alloc (.cells zeroC PT)).heap.size = w.heap.size + 1 := by simp
    have hb0 : Below w.heap.size w ((w.alloc (.cells zeroC PT)).alloc (.cells zeroP.cells PT)) := Below.alloc (Below.alloc (Below.refl _ _) (Nat.le_refl _) _) (by simp) _
    have hb : Below w.heap.size w W1 := hb0.trans (t1.toBelow (by simp; omega) (fun k hk e => by have := hgw.out; omega))
    have hB := h
    obtain ⟨_, _, _, _, _, _, _, hb6, _⟩ := hB
    have hlt := h.lt
    refine ⟨⟨Turn.refl _ _, h.keep hb, HP1.out, by rw [hgw.out]; omega, by rw [hgw.out]; have := hb6.1; omega⟩, hgw.out, hv.out, hlt, hb, ?_⟩
    have hres : PkAt ((w.alloc (.cells zeroC PT)).alloc (.cells zeroP.cells PT)) v zeroP := by
      unfold PkAt
      rw [hv.out, heap_old _ _ _ (by simp)]
      exact heap_new _ _
    exact hres.keep t1 (fun e => by have := hgw.out; have := hv.out; omega)
  clear t1 HP1 h hTf
  have k0 : W1.cell? ⟨g, 0, none⟩ = some (.int .i64 T) := hH.out.rs.pk.cell 0
  have hx1 : (T == 1) = false := by simp; omega
  have hx2 : (T == 2) = false := by simp; omega
  have hx3 : (T == 3) = false := by simp; omega
  have hx12 : (T == 12) = false := by simp; omega
  have hx13 : (T == 13) = false := by simp; omega
  have hx14 : (T == 14) = false := by simp; omega
  rw [if_neg (by omega), if_neg (by omega), if_neg (by omega), if_neg (by omega)] at ho
  go_wp2_with (fail)
  refine (rword_calls W1 r B L hH.out.rs.rd).mono ?_
  rintro e W2 ⟨t, (⟨id, L2, hs, rfl, hR⟩ | ⟨hs, rfl⟩)⟩
  · rw [hs, Option.bind_some] at ho
    have hb2 := rdWord_len hs
    have hL2b : Hid (L2.length ≤ 1000000000000) := by rw [Hid]; omega
    clear hb2
    have H2 : Hid (RQ w W1 W2 r g v B (typeP T) L2) := hH.out.next (hH.out.rs.read t hR)
    clear t hR hs
    have y2 : W2.cell? ⟨g, 2, none⟩ = some (.int .i64 0) := H2.out.rs.pk.cell 2
    have s2 := H2.out.rs.pk.frozen 2
    obtain ⟨q, hq⟩ : ∃ x : Pkt, Hid (x = { typeP T with id := id }) := ⟨_, rfl⟩
    have H3 : Hid (RQ w W1 (W2.setCell ⟨g, 2, none⟩ (.int .i64 id)) r g v B q L2) := by rw [hq.out]; exact H2.out.next (H2.out.rs.set 2 _ _ rfl)
    have hcod : Hid (q.codes = nilV ∧ q.subs = nilV ∧ q.ty = T) := by rw [hq.out]; exact ⟨rfl, rfl, rfl⟩
    have hrlt : Hid (r < W1.heap.size ∧ g < W1.heap.size) := ⟨by have := hH.out.w1.size; have := hH.out.rw_; omega, hH.out.rs.pk.lt⟩
    rw [if_neg (by omega), if_pos (by omega)] at ho
    subst hT
    have hoo : Hid (o = (rdSubs L2.length 8 L2).bind fun D => some (q, [], D)) := by rw [ho.out, hq.out]; exact rfl
    have l0 : (W2.setCell ⟨g, 2, none⟩ (.int .i64 id)).cell? ⟨g, 0, none⟩ = some (.int .i64 8) := by rw [← hcod.out.2.2]; exact H3.out.rs.pk.cell 0
    go_wp2_with (fail)
    generalize hW3 : W2.setCell ⟨g, 2, none⟩ (.int .i64 id) = W3 at H3 l0 ⊢
    clear hW3 y2 s2
    go_loopw [] (fun wr => wr = W3) (fun _ => 0)
    case atStart => exact rfl
    case round =>
      rw [hrel]
      clear hrel wr
      go_wp2_with (fail)
      clear l0
      go_loopg [] L2.length (fun gk wr => ∃ (vs : Value) (D0 : List (ByteArray × Int)) (Lc : List Int), Hid (RQ w W1 wr r g v B (q.rows nilV vs) Lc) ∧ Hid (wr.ownsRow W1.heap.size 76 2 vs D0.length (subCells D0)) ∧ Hid (rdSubs L2.length 8 L2 = (rdSubs gk 8 Lc).bind fun D => some (D0 ++ D)) ∧ Hid (Lc.length ≤ gk) ∧ Hid (D0.length + Lc.length ≤ L2.length))
      case atStart => exact ⟨nilV, [], L2, (by rw [rows_self q hcod.out.1 hcod.out.2.1]; exact H3), own_nilSub _ _, (by cases h : rdSubs L2.length 8 L2 <;> simp [Hid]), Nat.le_refl _, (by rw [Hid]; simp)⟩
      case round =>
        obtain ⟨vs, D0, Lc, HQ, HO, hC, hgk, hDl⟩ := hrel
        have l0 : wr.cell? ⟨g, 0, none⟩ = some (.int .i64 8) := by rw [← hcod.out.2.2]; exact HQ.out.rs.pk.cell 0
        obtain ⟨Ar, cr, hr0, hrc, hrb, _, _, _, _⟩ := HQ.out.rs.rd
        have kr : wr.cell? ⟨r, 0, none⟩ = some (.slice Ar Lc.length cr) := by rw [cell_heap hr0]; exact rfl
        have hrl : (Lc.length : Int) ≤ 140737488355328 := by omega
        obtain ⟨A, c, hv2, _, _, _⟩ := own_form HO.out
        subst hv2
        clear hr0 hrc hrb
        by_cases hLc : Lc = []
        · subst hLc
          have hoo2 : Hid (o = some (q, [], D0)) := by rw [hoo.out, hC.out, rdSubs_nil]; simp [Hid]
          have HOC : Hid (OwnInts wr (w.heap.size + 2) 3 .i64 nilV []) := OwnInts.nil _ _ _ _
          have HOS : Hid (wr.ownsRow (w.heap.size + 2) 76 2 (.slice A D0.length c) D0.length (subCells D0)) := own_mono HO.out (by have := hrlt.out.2; have := hgw.out; omega)
          have HV := Lib.hid HQ.out.resAt
          have HTU := Lib.hid HQ.out.turn
          go_upto_region 25 with (fail)
          rename_i hKont
          refine wp_region_lit (wp_load_pkt (p := (q.rows nilV (.slice A D0.length c))) rfl rfl (by rfl) HQ.out.rs.pk ?_)
          refine wp_store_pkt (q.rows nilV (.slice A D0.length c)) zeroP rfl rfl (by rfl) (by rfl) HV.out (by rfl) (by rfl) ?_
          intro Wf HPf tf
          refine wpList_nil (hKont _ _ (wp_ret ?_))
          exact ⟨rfl, _, read_results Wf v (q.rows nilV (.slice A D0.length c)) _ rfl HPf.out, HTU.out.then tf (fun i hi e => by have := hv.out; omega), .inl ⟨q, [], D0, _, _, hoo2.out, rfl, oi_mono (HOC.out.turn tf (fun j hj e => by have := (own_block_ge HOC.out j hj).1; have := hv.out; omega)) (by omega) rfl, own_mono (own_turn HOS.out tf (fun j hj e => by have := (own_block_ge HOS.out j hj).1; have := hv.out; omega)) (by omega)⟩⟩
        · have hpos : 0 < Lc.length := by
            cases Lc with
            | nil => exact absurd rfl hLc
            | cons a b => simp
          have hdp : decide (0 < Lc.length) = true := decide_eq_true hpos
          cases gk with
          | zero => exact absurd hgk.out (by omega)
          | succ k1 =>
            have hstep : Hid (rdSubs (k1 + 1) 8 Lc = (rdText Lc).bind fun s => if (8 : Int) = 8 then (rdOct s.2).bind fun q => (rdSubs k1 8 q.2).map fun D => (s.1, q.1) :: D else (rdSubs k1 8 s.2).map fun D => (s.1, 0) :: D) := by rw [Hid, rdSubs, if_neg hLc]
            have HLc := Lib.hid hLc
            clear hLc
            go_wp2_with (fail)
            refine (rtext_calls wr r B Lc HQ.out.rs.rd).mono ?_
            rintro e W4 ⟨t, (⟨s, L4, hs, rfl, hR⟩ | ⟨hs, rfl⟩)⟩
            · have hl4 := rdText_len hs
              rw [hs, Option.bind_some] at hstep
              have H4 : Hid (RQ w W1 W4 r g v B (q.rows nilV (.slice A D0.length c)) L4) := HQ.out.next (HQ.out.rs.read t hR)
              have HO4 : Hid (W4.ownsRow W1.heap.size 76 2 (.slice A D0.length c) D0.length (subCells D0)) := own_turn HO.out t (fun j hj e => by have := (own_block_ge HO.out j hj).1; have := hrlt.out.1; omega)
              have hlt4 : Hid (∀ j, (Value.slice A D0.length c).ownBlock = some j → j < W4.heap.size) := fun j hj => (own_block_ge HO4.out j hj).2
              clear t hR hs kr
              have H5 : Hid (RQ w W1 (W4.alloc (.cells #[.string s, .int .i64 0] 76)) r g v B (q.rows nilV (.slice A D0.length c)) L4) := H4.out.next (H4.out.rs.old (Below.alloc (Below.refl _ _) (Nat.le_refl _) _))
              have HO5 : Hid ((W4.alloc (.cells #[.string s, .int .i64 0] 76)).ownsRow W1.heap.size 76 2 (.slice A D0.length c) D0.length (subCells D0)) := own_turn HO4.out (Turn.alloc (S := fun _ => False) _ _) (fun _ _ h => h)
              have hnew : Hid ((W4.alloc (.cells #[.string s, .int .i64 0] 76)).heap[W4.heap.size]? = some (.cells #[.string s, .int .i64 0] 76 (0, 0))) := heap_new _ _
              obtain ⟨sb, hsb⟩ : ∃ sb, Hid (sb = W4.heap.size) := ⟨_, rfl⟩
              have hsbw : Hid (W1.heap.size ≤ sb) := by rw [hsb.out]; exact H4.out.ws
              have l5 : (W4.alloc (.cells #[.string s, .int .i64 0] 76)).cell? ⟨g, 0, none⟩ = some (.int .i64 8) := by rw [← hcod.out.2.2]; exact H5.out.rs.pk.cell 0
              go_upto_region 8 with (fail)
              rw [← hsb.out]
              rw [← hsb.out] at hnew
              generalize hW5 : W4.alloc (.cells #[.string s, .int .i64 0] 76) = W5 at H5 HO5 hnew l5 ⊢
              clear hW5 H4 HO4 l0
              first | rw [if_pos rfl] at hstep | rw [if_pos trivial] at hstep
              go_wp2_with (fail)
              refine (octet_calls W5 r B L4 H5.out.rs.rd).mono ?_
              rintro e W6 ⟨t, (⟨qv, L6, hs, rfl, hR⟩ | ⟨hs, rfl⟩)⟩
              · have hl6 := rdOct_len hs
                rw [hs, Option.bind_some] at hstep
                have hstep' : Hid (rdSubs (k1 + 1) 8 Lc = (rdSubs k1 8 L6).map fun D => (s, qv) :: D) := hstep.out
                have H6 : Hid (RQ w W1 W6 r g v B (q.rows nilV (.slice A D0.length c)) L6) := H5.out.next (H5.out.rs.read t hR)
                have HO6 : Hid (W6.ownsRow W1.heap.size 76 2 (.slice A D0.length c) D0.length (subCells D0)) := own_turn HO5.out t (fun j hj e => by have := (own_block_ge HO5.out j hj).1; have := hrlt.out.1; omega)
                have hnew6 : Hid (W6.heap[sb]? = some (.cells #[.string s, .int .i64 0] 76 (0, 0))) := by
                  rw [Hid, t.block sb (heap_lt hnew.out) (fun e => by have := hsbw.out; have := hrlt.out.1; omega)]; exact hnew.out
                have b1 : W6.cell? ⟨sb, 1, none⟩ = some (.int .i64 0) := by rw [cell_heap hnew6.out]; exact rfl
                have bz1 : W6.frozen? ⟨sb, 1, none⟩ = false := frozen_heap hnew6.out
                have hnew7 : Hid ((W6.setCell ⟨sb, 1, none⟩ (.int .i64 qv)).heap[sb]? = some (.cells #[.string s, .int .i64 qv] 76 (0, 0))) := heap_set_same W6 sb 1 _ hnew6.out
                have t7 : Turn (fun k => k = sb) W6 (W6.setCell ⟨sb, 1, none⟩ (.int .i64 qv)) := Turn.setCell _ _ rfl
                have H7 : Hid (RQ w W1 (W6.setCell ⟨sb, 1, none⟩ (.int .i64 qv)) r g v B (q.rows nilV (.slice A D0.length c)) L6) := H6.out.grow t7 (fun k hk => by have := hsbw.out; omega) hrlt.out
                have hsbn : Hid (∀ j, (Value.slice A D0.length c).ownBlock = some j → j ≠ sb) := fun j hj e => by have h1 := hlt4.out j hj; have h2 := hsb.out; omega
                have HO7 : Hid ((W6.setCell ⟨sb, 1, none⟩ (.int .i64 qv)).ownsRow W1.heap.size 76 2 (.slice A D0.length c) D0.length (subCells D0)) := own_turn HO6.out t7 (fun j hj e => hsbn.out j hj e)
                clear t hR hs
                go_upto_region 10 with (fail)
                generalize hW7 : W6.setCell ⟨sb, 1, none⟩ (.int .i64 qv) = W7 at H7 HO7 hnew7 ⊢
                clear hW7 b1 bz1
                have c0 : W7.cell? ⟨sb, 0, none⟩ = some (.string s) := by rw [cell_heap hnew7.out]; exact rfl
                have c1 : W7.cell? ⟨sb, 1, none⟩ = some (.int .i64 qv) := by rw [cell_heap hnew7.out]; exact rfl
                have m17 : W7.cell? ⟨g, 17, none⟩ = some (.slice A D0.length c) := H7.out.rs.pk.cell 17
                have HO8 : Hid ((W7.alloc (.cells #[.string s, .int .i64 qv] 76)).ownsRow W1.heap.size 76 2 (.slice A D0.length c) D0.length (subCells D0)) := own_turn HO7.out (Turn.alloc (S := fun _ => False) _ _) (fun _ _ h => h)
                have H8 : Hid (RQ w W1 (W7.alloc (.cells #[.string s, .int .i64 qv] 76)) r g v B (q.rows nilV (.slice A D0.length c)) L6) := H7.out.next (H7.out.rs.old (Below.alloc (Below.refl _ _) (Nat.le_refl _) _))
                have hbn : Hid ((D0.length + 1) * 24 ≤ 140737488355328) := by have := hDl.out; have := hL2b.out; rw [Hid]; omega
                obtain ⟨D1, hD1⟩ : ∃ D1 : List (ByteArray × Int), Hid (D1 = D0 ++ [(s, (qv : Int))]) := ⟨D0 ++ [(s, (qv : Int))], by rw [Hid]⟩
                go_wp2_with (at_builtin; go_must (refine wp_append_sub W1.heap.size rfl _ _ rfl (.slice A D0.length c) D0 s qv _ rfl rfl (heap_new _ _) HO8.out H8.out.ws hbn.out D1 hD1.out ?_))
                intro A9 n9 c9 W9 HO9 t9
                have hn9 := (own_len HO9.out)
                subst hn9
                have H9 : Hid (RQ w W1 W9 r g v B (q.rows nilV (.slice A D0.length c)) L6) := H8.out.grow t9 (fun k hk => (own_block_ge HO8.out k hk).1) hrlt.out
                have m17' : W9.cell? ⟨g, 17, none⟩ = some (.slice A D0.length c) := H9.out.rs.pk.cell 17
                have z17 := H9.out.rs.pk.frozen 17
                have hD1l : Hid (D1.length = D0.length + 1) := by rw [hD1.out, Hid]; simp
                have H10 : Hid (RQ w W1 (W9.setCell ⟨g, 17, none⟩ (.slice A9 D1.length c9)) r g v B (q.rows nilV (.slice A9 D1.length c9)) L6) := H9.out.next (H9.out.rs.set 17 _ _ rfl)
                have HO10 : Hid ((W9.setCell ⟨g, 17, none⟩ (.slice A9 D1.length c9)).ownsRow W1.heap.size 76 2 (.slice A9 D1.length c9) D1.length (subCells D1)) := own_turn HO9.out (Turn.setCell (S := fun k => k = g) _ _ rfl) (fun j hj e => by have := (own_block_ge HO9.out j hj).1; have := hrlt.out.2; omega)
                have hC2 : Hid (rdSubs L2.length 8 L2 = (rdSubs k1 8 L6).bind fun D => some (D1 ++ D)) := by
                  rw [hC.out, hstep'.out, hD1.out]
                  cases rdSubs k1 8 L6 <;> simp [Hid]
                go_wp2_with (fail)
                go_roundg k1
                case rel => exact ⟨_, D1, L6, H10, HO10, hC2, (by have := hgk.out; rw [Hid]; omega), (by have := hDl.out; have := hD1l.out; rw [Hid]; omega)⟩
                case measure => omega
              · rw [hs, Option.bind_none] at hstep
                have hoo2 : Hid (o = none) := by rw [hoo.out, hC.out, hstep.out]; exact rfl
                have HF : Hid (Turn (fun k => k = r) w _) := turn_of H5.out.w1 hgw.out (H5.out.rs.fail t)
                clear t hs
                go_wp2_with (fail)
                exact ⟨rfl, HF.out, .inr ⟨hoo2.out, rfl⟩⟩
            · rw [hs, Option.bind_none] at hstep
              have hoo2 : Hid (o = none) := by rw [hoo.out, hC.out, hstep.out]; exact rfl
              have HF : Hid (Turn (fun k => k = r) w _) := turn_of HQ.out.w1 hgw.out (HQ.out.rs.fail t)
              clear t hs
              go_wp2_with (fail)
              exact ⟨rfl, HF.out, .inr ⟨hoo2.out, rfl⟩⟩
  · rw [hs, Option.bind_none] at ho
    have HF : Hid (Turn (fun k => k = r) w _) := turn_of hH.out.w1 hgw.out (hH.out.rs.fail t)
    clear t hs
    go_wp2_with (fail)
    exact ⟨rfl, HF.out, .inr ⟨ho.out, rfl⟩⟩
set_option maxRecDepth 100000 in
set_option maxHeartbeats 2000000 in
theorem read_subs10 (w : World) (r B : Nat) (f T : Int) (L : List Int) (hf : 0 ≤ f ∧ f ≤ 255) (hTf : T = f / 16) (h : RdAt w r B L) (hLb : L.length ≤ 1000000000000) (hT : T = 10) : Calls Tryd.prog 34 #[.pointer (some ⟨r, 0, none⟩), .int .i64 f] w fun e w' => ReadPost w r (rdPkt f L) e w' := by
  obtain ⟨hf0, hf1⟩ := hf
  obtain ⟨g, hg⟩ : ∃ g, Hid (g = (w.alloc (.cells zeroC PT)).heap.size) := ⟨_, rfl⟩
  obtain ⟨v, hv⟩ : ∃ v, Hid (v = w.heap.size) := ⟨_, rfl⟩
  have hgw : Hid (g = w.heap.size + 1) := by rw [hg.out, Hid]; simp
  obtain ⟨o, ho⟩ : ∃ o, Hid (o = rdPkt f L) := ⟨_, rfl⟩
  rw [← ho.out]
  unfold rdPkt at ho
  rw [← hTf] at ho
  go_enter Tryd.func34, Tryd.ntmps34
  go_upto_region 1 with (fail)
  refine wp_region_lit ?_
  refine st_val (.int .i64 f) (wanted_free rfl) (by exact rMove (x := .tmp 1) rfl) ?_
  refine st_val (.int .i64 T) (wanted_free rfl) (by rw [hTf]; exact rBin (x := .tmp 7) (y := .const (.int .u64 4)) rfl (kShr4 f hf0 hf1)) ?_
  refine st_val (.agg (typeP T).cells) (wanted_free rfl) (by exact rBuild1 (x := .tmp 8) rfl (kBuildP T)) ?_
  refine st_alloc (wanted_free rfl) rfl (by exact kAllocP _) ?_
  refine wp_store_pkt (g := (w.alloc (.cells zeroC PT)).heap.size) (typeP T) zeroP rfl rfl rfl rfl (by exact heap_new _ _) rfl rfl ?_
  intro W1 HP1 t1
  refine wpList_nil ?_
  simp only [Exit.then, Act.put, List.setIfInBounds_toArray, List.set_cons_zero, List.set_cons_succ]
  rw [← hg.out, ← hv.out]
  rw [← hg.out] at t1 HP1
  have hH : Hid (RQ w W1 W1 r g v B (typeP T) L) := by
    have hz : (w.alloc (.cells zeroC PT)).heap.size = w.heap.size + 1 := by simp
    have hb0 : Below w.heap.size w ((w.alloc (.cells zeroC PT)).alloc (.cells zeroP.cells PT)) := Below.alloc (Below.alloc (Below.refl _ _) (Nat.le_refl _) _) (by simp) _
    have hb : Below w.heap.size w W1 := hb0.trans (t1.toBelow (by simp; omega) (fun k hk e => by have := hgw.out; omega))
    have hB := h
    obtain ⟨_, _, _, _, _, _, _, hb6, _⟩ := hB
    have hlt := h.lt
    refine ⟨⟨Turn.refl _ _, h.keep hb, HP1.out, by rw [hgw.out]; omega, by rw [hgw.out]; have := hb6.1; omega⟩, hgw.out, hv.out, hlt, hb, ?_⟩
    have hres : PkAt ((w.alloc (.cells zeroC PT)).alloc (.cells zeroP.cells PT)) v zeroP := by
      unfold PkAt
      rw [hv.out, heap_old _ _ _ (by simp)]
      exact heap_new _ _
    exact hres.keep t1 (fun e => by have := hgw.out; have := hv.out; omega)
  clear t1 HP1 h hTf
  have k0 : W1.cell? ⟨g, 0, none⟩ = some (.int .i64 T) := hH.out.rs.pk.cell 0
  have hx1 : (T == 1) = false := by simp; omega
  have hx2 : (T == 2) = false := by simp; omega
  have hx3 : (T == 3) = false := by simp; omega
  have hx12 : (T == 12) = false := by simp; omega
  have hx13 : (T == 13) = false := by simp; omega
  have hx14 : (T == 14) = false := by simp; omega
  rw [if_neg (by omega), if_neg (by omega), if_neg (by omega), if_neg (by omega)] at ho
  go_wp2_with (fail)
  refine (rword_calls W1 r B L hH.out.rs.rd).mono ?_
  rintro e W2 ⟨t, (⟨id, L2, hs, rfl, hR⟩ | ⟨hs, rfl⟩)⟩
  · rw [hs, Option.bind_some] at ho
    have hb2 := rdWord_len hs
    have hL2b : Hid (L2.length ≤ 1000000000000) := by rw [Hid]; omega
    clear hb2
    have H2 : Hid (RQ w W1 W2 r g v B (typeP T) L2) := hH.out.next (hH.out.rs.read t hR)
    clear t hR hs
    have y2 : W2.cell? ⟨g, 2, none⟩ = some (.int .i64 0) := H2.out.rs.pk.cell 2
    have s2 := H2.out.rs.pk.frozen 2
    obtain ⟨q, hq⟩ : ∃ x : Pkt, Hid (x = { typeP T with id := id }) := ⟨_, rfl⟩
    have H3 : Hid (RQ w W1 (W2.setCell ⟨g, 2, none⟩ (.int .i64 id)) r g v B q L2) := by rw [hq.out]; exact H2.out.next (H2.out.rs.set 2 _ _ rfl)
    have hcod : Hid (q.codes = nilV ∧ q.subs = nilV ∧ q.ty = T) := by rw [hq.out]; exact ⟨rfl, rfl, rfl⟩
    have hrlt : Hid (r < W1.heap.size ∧ g < W1.heap.size) := ⟨by have := hH.out.w1.size; have := hH.out.rw_; omega, hH.out.rs.pk.lt⟩
    rw [if_neg (by omega), if_pos (by omega)] at ho
    subst hT
    have hoo : Hid (o = (rdSubs L2.length 10 L2).bind fun D => some (q, [], D)) := by rw [ho.out, hq.out]; exact rfl
    have l0 : (W2.setCell ⟨g, 2, none⟩ (.int .i64 id)).cell? ⟨g, 0, none⟩ = some (.int .i64 10) := by rw [← hcod.out.2.2]; exact H3.out.rs.pk.cell 0
    go_wp2_with (fail)
    generalize hW3 : W2.setCell ⟨g, 2, none⟩ (.int .i64 id) = W3 at H3 l0 ⊢
    clear hW3 y2 s2
    go_loopw [] (fun wr => wr = W3) (fun _ => 0)
    case atStart => exact rfl
    case round =>
      rw [hrel]
      clear hrel wr
      go_wp2_with (fail)
      clear l0
      go_loopg [] L2.length (fun gk wr => ∃ (vs : Value) (D0 : List (ByteArray × Int)) (Lc : List Int), Hid (RQ w W1 wr r g v B (q.rows nilV vs) Lc) ∧ Hid (wr.ownsRow W1.heap.size 76 2 vs D0.length (subCells D0)) ∧ Hid (rdSubs L2.length 10 L2 = (rdSubs gk 10 Lc).bind fun D => some (D0 ++ D)) ∧ Hid (Lc.length ≤ gk) ∧ Hid (D0.length + Lc.length ≤ L2.length))
      case atStart => exact ⟨nilV, [], L2, (by rw [rows_self q hcod.out.1 hcod.out.2.1]; exact H3), own_nilSub _ _, (by cases h : rdSubs L2.length 10 L2 <;> simp [Hid]), Nat.le_refl _, (by rw [Hid]; simp)⟩
      case round =>
        obtain ⟨vs, D0, Lc, HQ, HO, hC, hgk, hDl⟩ := hrel
        have l0 : wr.cell? ⟨g, 0, none⟩ = some (.int .i64 10) := by rw [← hcod.out.2.2]; exact HQ.out.rs.pk.cell 0
        obtain ⟨Ar, cr, hr0, hrc, hrb, _, _, _, _⟩ := HQ.out.rs.rd
        have kr : wr.cell? ⟨r, 0, none⟩ = some (.slice Ar Lc.length cr) := by rw [cell_heap hr0]; exact rfl
        have hrl : (Lc.length : Int) ≤ 140737488355328 := by omega
        obtain ⟨A, c, hv2, _, _, _⟩ := own_form HO.out
        subst hv2
        clear hr0 hrc hrb
        by_cases hLc : Lc = []
        · subst hLc
          have hoo2 : Hid (o = some (q, [], D0)) := by rw [hoo.out, hC.out, rdSubs_nil]; simp [Hid]
          have HOC : Hid (OwnInts wr (w.heap.size + 2) 3 .i64 nilV []) := OwnInts.nil _ _ _ _
          have HOS : Hid (wr.ownsRow (w.heap.size + 2) 76 2 (.slice A D0.length c) D0.length (subCells D0)) := own_mono HO.out (by have := hrlt.out.2; have := hgw.out; omega)
          have HV := Lib.hid HQ.out.resAt
          have HTU := Lib.hid HQ.out.turn
          go_upto_region 25 with (fail)
          rename_i hKont
          refine wp_region_lit (wp_load_pkt (p := (q.rows nilV (.slice A D0.length c))) rfl rfl (by rfl) HQ.out.rs.pk ?_)
          refine wp_store_pkt (q.rows nilV (.slice A D0.length c)) zeroP rfl rfl (by rfl) (by rfl) HV.out (by rfl) (by rfl) ?_
          intro Wf HPf tf
          refine wpList_nil (hKont _ _ (wp_ret ?_))
          exact ⟨rfl, _, read_results Wf v (q.rows nilV (.slice A D0.length c)) _ rfl HPf.out, HTU.out.then tf (fun i hi e => by have := hv.out; omega), .inl ⟨q, [], D0, _, _, hoo2.out, rfl, oi_mono (HOC.out.turn tf (fun j hj e => by have := (own_block_ge HOC.out j hj).1; have := hv.out; omega)) (by omega) rfl, own_mono (own_turn HOS.out tf (fun j hj e => by have := (own_block_ge HOS.out j hj).1; have := hv.out; omega)) (by omega)⟩⟩
        · have hpos : 0 < Lc.length := by
            cases Lc with
            | nil => exact absurd rfl hLc
            | cons a b => simp
          have hdp : decide (0 < Lc.length) = true := decide_eq_true hpos
          cases gk with
          | zero => exact absurd hgk.out (by omega)
          | succ k1 =>
            have hstep : Hid (rdSubs (k1 + 1) 10 Lc = (rdText Lc).bind fun s => if (10 : Int) = 8 then (rdOct s.2).bind fun q => (rdSubs k1 10 q.2).map fun D => (s.1, q.1) :: D else (rdSubs k1 10 s.2).map fun D => (s.1, 0) :: D) := by rw [Hid, rdSubs, if_neg hLc]
            have HLc := Lib.hid hLc
            clear hLc
            go_wp2_with (fail)
            refine (rtext_calls wr r B Lc HQ.out.rs.rd).mono ?_
            rintro e W4 ⟨t, (⟨s, L4, hs, rfl, hR⟩ | ⟨hs, rfl⟩)⟩
            · have hl4 := rdText_len hs
              rw [hs, Option.bind_some] at hstep
              have H4 : Hid (RQ w W1 W4 r g v B (q.rows nilV (.slice A D0.length c)) L4) := HQ.out.next (HQ.out.rs.read t hR)
              have HO4 : Hid (W4.ownsRow W1.heap.size 76 2 (.slice A D0.length c) D0.length (subCells D0)) := own_turn HO.out t (fun j hj e => by have := (own_block_ge HO.out j hj).1; have := hrlt.out.1; omega)
              have hlt4 : Hid (∀ j, (Value.slice A D0.length c).ownBlock = some j → j < W4.heap.size) := fun j hj => (own_block_ge HO4.out j hj).2
              clear t hR hs kr
              have H5 : Hid (RQ w W1 (W4.alloc (.cells #[.string s, .int .i64 0] 76)) r g v B (q.rows nilV (.slice A D0.length c)) L4) := H4.out.next (H4.out.rs.old (Below.alloc (Below.refl _ _) (Nat.le_refl _) _))
              have HO5 : Hid ((W4.alloc (.cells #[.string s, .int .i64 0] 76)).ownsRow W1.heap.size 76 2 (.slice A D0.length c) D0.length (subCells D0)) := own_turn HO4.out (Turn.alloc (S := fun _ => False) _ _) (fun _ _ h => h)
              have hnew : Hid ((W4.alloc (.cells #[.string s, .int .i64 0] 76)).heap[W4.heap.size]? = some (.cells #[.string s, .int .i64 0] 76 (0, 0))) := heap_new _ _
              obtain ⟨sb, hsb⟩ : ∃ sb, Hid (sb = W4.heap.size) := ⟨_, rfl⟩
              have hsbw : Hid (W1.heap.size ≤ sb) := by rw [hsb.out]; exact H4.out.ws
              have l5 : (W4.alloc (.cells #[.string s, .int .i64 0] 76)).cell? ⟨g, 0, none⟩ = some (.int .i64 10) := by rw [← hcod.out.2.2]; exact H5.out.rs.pk.cell 0
              go_upto_region 8 with (fail)
              rw [← hsb.out]
              rw [← hsb.out] at hnew
              generalize hW5 : W4.alloc (.cells #[.string s, .int .i64 0] 76) = W5 at H5 HO5 hnew l5 ⊢
              clear hW5 H4 HO4 l0
              first | rw [if_neg (by decide)] at hstep | rw [if_neg not_false] at hstep
              have hstep' : Hid (rdSubs (k1 + 1) 10 Lc = (rdSubs k1 10 L4).map fun D => (s, 0) :: D) := hstep.out
              go_upto_region 10 with (fail)
              have c0 : W5.cell? ⟨sb, 0, none⟩ = some (.string s) := by rw [cell_heap hnew.out]; exact rfl
              have c1 : W5.cell? ⟨sb, 1, none⟩ = some (.int .i64 0) := by rw [cell_heap hnew.out]; exact rfl
              have m17 : W5.cell? ⟨g, 17, none⟩ = some (.slice A D0.length c) := H5.out.rs.pk.cell 17
              have HO8 : Hid ((W5.alloc (.cells #[.string s, .int .i64 0] 76)).ownsRow W1.heap.size 76 2 (.slice A D0.length c) D0.length (subCells D0)) := own_turn HO5.out (Turn.alloc (S := fun _ => False) _ _) (fun _ _ h => h)
              have H8 : Hid (RQ w W1 (W5.alloc (.cells #[.string s, .int .i64 0] 76)) r g v B (q.rows nilV (.slice A D0.length c)) L4) := H5.out.next (H5.out.rs.old (Below.alloc (Below.refl _ _) (Nat.le_refl _) _))
              have hbn : Hid ((D0.length + 1) * 24 ≤ 140737488355328) := by have := hDl.out; have := hL2b.out; rw [Hid]; omega
              obtain ⟨D1, hD1⟩ : ∃ D1 : List (ByteArray × Int), Hid (D1 = D0 ++ [(s, (0 : Int))]) := ⟨D0 ++ [(s, (0 : Int))], by rw [Hid]⟩
              go_wp2_with (at_builtin; go_must (refine wp_append_sub W1.heap.size rfl _ _ rfl (.slice A D0.length c) D0 s 0 _ rfl rfl (heap_new _ _) HO8.out H8.out.ws hbn.out D1 hD1.out ?_))
              intro A9 n9 c9 W9 HO9 t9
              have hn9 := (own_len HO9.out)
              subst hn9
              have H9 : Hid (RQ w W1 W9 r g v B (q.rows nilV (.slice A D0.length c)) L4) := H8.out.grow t9 (fun k hk => (own_block_ge HO8.out k hk).1) hrlt.out
              have m17' : W9.cell? ⟨g, 17, none⟩ = some (.slice A D0.length c) := H9.out.rs.pk.cell 17
              have z17 := H9.out.rs.pk.frozen 17
              have hD1l : Hid (D1.length = D0.length + 1) := by rw [hD1.out, Hid]; simp
              have H10 : Hid (RQ w W1 (W9.setCell ⟨g, 17, none⟩ (.slice A9 D1.length c9)) r g v B (q.rows nilV (.slice A9 D1.length c9)) L4) := H9.out.next (H9.out.rs.set 17 _ _ rfl)
              have HO10 : Hid ((W9.setCell ⟨g, 17, none⟩ (.slice A9 D1.length c9)).ownsRow W1.heap.size 76 2 (.slice A9 D1.length c9) D1.length (subCells D1)) := own_turn HO9.out (Turn.setCell (S := fun k => k = g) _ _ rfl) (fun j hj e => by have := (own_block_ge HO9.out j hj).1; have := hrlt.out.2; omega)
              have hC2 : Hid (rdSubs L2.length 10 L2 = (rdSubs k1 10 L4).bind fun D => some (D1 ++ D)) := by
                rw [hC.out, hstep'.out, hD1.out]
                cases rdSubs k1 10 L4 <;> simp [Hid]
              go_wp2_with (fail)
              go_roundg k1
              case rel => exact ⟨_, D1, L4, H10, HO10, hC2, (by have := hgk.out; rw [Hid]; omega), (by have := hDl.out; have := hD1l.out; rw [Hid]; omega)⟩
              case measure => omega
            · rw [hs, Option.bind_none] at hstep
              have hoo2 : Hid (o = none) := by rw [hoo.out, hC.out, hstep.out]; exact rfl
              have HF : Hid (Turn (fun k => k = r) w _) := turn_of HQ.out.w1 hgw.out (HQ.out.rs.fail t)
              clear t hs
              go_wp2_with (fail)
              exact ⟨rfl, HF.out, .inr ⟨hoo2.out, rfl⟩⟩
  · rw [hs, Option.bind_none] at ho
    have HF : Hid (Turn (fun k => k = r) w _) := turn_of hH.out.w1 hgw.out (hH.out.rs.fail t)
    clear t hs
    go_wp2_with (fail)
    exact ⟨rfl, HF.out, .inr ⟨ho.out, rfl⟩⟩
end Pk
end Go.Proofs.YteigakkghkjakaaDoor

/- The reader: read, the types without loops. -/
import Derived.Test.YteigakkghkjakaaDoorPlC
namespace Go.Proofs.YteigakkghkjakaaDoor
open Go.RowKit
set_option linter.unusedVariables false
set_option linter.unusedSimpArgs false
namespace Pk
open Utf (nums nums_length nums_bytes IsStr)
open Var (BT)

theorem con9_rows {p q : Pkt} {L M : List Int} (h : con9 p L = some (q, M)) : q.codes = p.codes ∧ q.subs = p.subs ∧ q.ty = p.ty := by
  unfold con9 at h
  split at h
  · cases hr : rdText L with
    | none => rw [hr] at h; cases h
    | some x => rw [hr] at h; cases h; exact ⟨rfl, rfl, rfl⟩
  · cases h; exact ⟨rfl, rfl, rfl⟩
theorem con8_rows {p q : Pkt} {L M : List Int} (h : con8 p L = some (q, M)) : q.codes = p.codes ∧ q.subs = p.subs ∧ q.ty = p.ty := by
  unfold con8 at h
  split at h
  · cases hr : rdText L with
    | none => rw [hr] at h; cases h
    | some x => rw [hr, Option.bind_some] at h; have := con9_rows h; exact this
  · have := con9_rows h; exact this
theorem con6_rows {p q : Pkt} {L M : List Int} (h : con6 p L = some (q, M)) : q.codes = p.codes ∧ q.subs = p.subs ∧ q.ty = p.ty := by
  unfold con6 at h
  cases hr : rdText L with
  | none => rw [hr] at h; cases h
  | some x =>
    rw [hr, Option.bind_some] at h
    unfold con7 at h
    cases hr2 : rdText x.2 with
    | none => rw [hr2] at h; cases h
    | some y => rw [hr2, Option.bind_some] at h; have := con8_rows h; exact this
theorem con5_rows {p q : Pkt} {f : Int} {L M : List Int} (h : con5 p f L = some (q, M)) : q.codes = p.codes ∧ q.subs = p.subs ∧ q.ty = p.ty := by
  unfold con5 at h
  split at h
  · have := con6_rows h; exact this
  · have := con8_rows h; exact this
theorem rdCon_all {p q : Pkt} {L M : List Int} (h : rdCon p L = some (q, M)) : q.codes = p.codes ∧ q.subs = p.subs ∧ q.ty = p.ty := by
  unfold rdCon at h
  cases h1 : rdText L with
  | none => rw [h1] at h; cases h
  | some x =>
    rw [h1, Option.bind_some] at h
    split at h
    · unfold con1 at h
      cases h2 : rdOct x.2 with
      | none => rw [h2] at h; cases h
      | some y =>
        rw [h2, Option.bind_some] at h
        split at h
        · unfold con2 at h
          cases h3 : rdOct y.2 with
          | none => rw [h3] at h; cases h
          | some z =>
            rw [h3, Option.bind_some] at h
            unfold con3 at h
            cases h4 : rdWord z.2 with
            | none => rw [h4] at h; cases h
            | some u =>
              rw [h4, Option.bind_some] at h
              unfold con4 at h
              cases h5 : rdText u.2 with
              | none => rw [h5] at h; cases h
              | some t => rw [h5, Option.bind_some] at h; have := con5_rows h; exact this
        · cases h
    · cases h
theorem rdCon_rows {t : Int} {q : Pkt} {L M : List Int} (h : rdCon (typeP t) L = some (q, M)) : q.codes = nilV ∧ q.subs = nilV := ⟨(rdCon_all h).1, (rdCon_all h).2.1⟩

abbrev zeroC : Array Value := #[.int .i64 0, .bool false, .int .i64 0, .string ⟨#[]⟩, .string ⟨#[]⟩, .int .i64 0, .bool false, .string ⟨#[]⟩, .bool false, .int .i64 0, .bool false, .bool false, .bool false, .string ⟨#[]⟩, .string ⟨#[]⟩, .bool false, .slice none 0 0, .slice none 0 0]
theorem kShr4 {W : World} {x y : Operand} (f : Int) (h0 : 0 ≤ f) (h1 : f ≤ 255) : (do eqGuard .shr 3 x y (.int .i64 f) (.int .u64 4); binOp .shr 3 (.int .i64 f) (.int .u64 4) : Sem Value).run Tryd.prog W = .ok (.int .i64 (f / 16)) W := by
  simp [go_sem, eqGuard]
theorem rBuild1 {P : Program} {ev : Operand → Value} {o : Oper} {W : World} {v : Value} {t : TypeId} {i : Nat} {x : Operand} (ho : o.op = .build t #[(i, x)]) (hk : (Instr.build t #[(i, ev x)]).run P W = .ok v W) : (execOp ev o).run P W = .ok (.value v) W :=
  rBuild ho (by have : (#[(i, x)] : Array (Nat × Operand)).map (fun (i, x) => (i, ev x)) = #[(i, ev x)] := by simp
                rw [this]; exact hk)
theorem kBuildP {W : World} (T : Int) : (Instr.build PT #[(0, .int .i64 T)]).run Tryd.prog W = .ok (.agg (typeP T).cells) W := by kernel_rfl
theorem kAllocP (W : World) : (Instr.alloc PT true (.tuple #[])).run Tryd.prog W = .ok (.pointer (some ⟨W.heap.size, 0, none⟩)) (W.alloc (.cells zeroC PT)) := by kernel_rfl
theorem st_alloc {P : Program} {ops : Array Oper} {Q : Exit → Act → World → Prop} {a : Act} {w w' : World} {rest : List Oper} {o : Oper} {t : TypeId} {v : Value} (hw : Region.wanted o (yielded ops a.tmps) = true) (ho : o.op = .alloc t)
    (hr : (Instr.alloc t true (.tuple #[])).run P w = .ok v w') (h : wpList P ops Q rest (a.put o.dst v) w') : wpList P ops Q (o :: rest) a w := by
  unfold wpList
  rw [if_pos hw]
  left
  unfold Oper.wp
  have he : (execOp a.eval o).run P w = .ok (.value v) w' := by
    unfold execOp
    rw [ho]
    show ((Instr.alloc t true (.tuple #[])) >>= fun v => pure (Next.value v)).run P w = _
    rw [Sem.run_bind, hr]; rfl
  rw [he]
  exact h

set_option maxRecDepth 100000 in
set_option maxHeartbeats 2000000 in
theorem read_none (w : World) (r B : Nat) (f T : Int) (L : List Int) (hf : 0 ≤ f ∧ f ≤ 255) (hTf : T = f / 16) (h : RdAt w r B L) (hLb : L.length ≤ 1000000000000) (hT : T = 12 ∨ T = 13 ∨ T = 14) : Calls Tryd.prog 34 #[.pointer (some ⟨r, 0, none⟩), .int .i64 f] w fun e w' => ReadPost w r (rdPkt f L) e w' := by
  obtain ⟨hf0, hf1⟩ := hf
  obtain ⟨g, hg⟩ : ∃ g, Hid (g = (w.alloc (.cells zeroC PT)).heap.size) := ⟨_, rfl⟩
  obtain ⟨v, hv⟩ : ∃ v, Hid (v = w.heap.size) := ⟨_, rfl⟩
  have hgw : Hid (g = w.heap.size + 1) := by rw [hg.out, Hid]; simp
  obtain ⟨o, ho⟩ : ∃ o, Hid (o = rdPkt f L) := ⟨_, rfl⟩
  rw [← ho.out]
  unfold rdPkt at ho
  rw [← hTf] at ho
  go_enter Tryd.func34, Tryd.ntmps34
  go_upto_region 1 with (fail)
  refine wp_region_lit ?_
  refine st_val (.int .i64 f) (wanted_free rfl) (by exact rMove (x := .tmp 1) rfl) ?_
  refine st_val (.int .i64 T) (wanted_free rfl) (by rw [hTf]; exact rBin (x := .tmp 7) (y := .const (.int .u64 4)) rfl (kShr4 f hf0 hf1)) ?_
  refine st_val (.agg (typeP T).cells) (wanted_free rfl) (by exact rBuild1 (x := .tmp 8) rfl (kBuildP T)) ?_
  refine st_alloc (wanted_free rfl) rfl (by exact kAllocP _) ?_
  refine wp_store_pkt (g := (w.alloc (.cells zeroC PT)).heap.size) (typeP T) zeroP rfl rfl rfl rfl (by exact heap_new _ _) rfl rfl ?_
  intro W1 HP1 t1
  refine wpList_nil ?_
  simp only [Exit.then, Act.put, List.setIfInBounds_toArray, List.set_cons_zero, List.set_cons_succ]
  rw [← hg.out, ← hv.out]
  rw [← hg.out] at t1 HP1
  have hH : Hid (RQ w W1 W1 r g v B (typeP T) L) := by
    have hz : (w.alloc (.cells zeroC PT)).heap.size = w.heap.size + 1 := by simp
    have hb0 : Below w.heap.size w ((w.alloc (.cells zeroC PT)).alloc (.cells zeroP.cells PT)) := Below.alloc (Below.alloc (Below.refl _ _) (Nat.le_refl _) _) (by simp) _
    have hb : Below w.heap.size w W1 := hb0.trans (t1.toBelow (by simp; omega) (fun k hk e => by have := hgw.out; omega))
    have hB := h
    obtain ⟨_, _, _, _, _, _, _, hb6, _⟩ := hB
    have hlt := h.lt
    refine ⟨⟨Turn.refl _ _, h.keep hb, HP1.out, by rw [hgw.out]; omega, by rw [hgw.out]; have := hb6.1; omega⟩, hgw.out, hv.out, hlt, hb, ?_⟩
    have hres : PkAt ((w.alloc (.cells zeroC PT)).alloc (.cells zeroP.cells PT)) v zeroP := by
      unfold PkAt
      rw [hv.out, heap_old _ _ _ (by simp)]
      exact heap_new _ _
    exact hres.keep t1 (fun e => by have := hgw.out; have := hv.out; omega)
  clear t1 HP1 h hTf
  have k0 : W1.cell? ⟨g, 0, none⟩ = some (.int .i64 T) := hH.out.rs.pk.cell 0
  have ho : Hid (o = some (typeP T, [], [])) := by rw [ho.out, if_neg (by omega), if_neg (by omega), if_neg (by omega), if_pos hT]; exact rfl
  rcases hT with e | e | e <;> subst e
  all_goals
    have HOC : Hid (OwnInts W1 (w.heap.size + 2) 3 .i64 nilV []) := OwnInts.nil _ _ _ _
    have HOS : Hid ((W1).ownsRow (w.heap.size + 2) 76 2 nilV ([] : List (ByteArray × Int)).length (subCells [])) := own_nilSub _ _
    have HV := Lib.hid hH.out.resAt
    have HTU := Lib.hid hH.out.turn
    go_upto_region 25 with (fail)
    rename_i hKont
    refine wp_region_lit (wp_load_pkt (p := (typeP _)) rfl rfl (by rfl) hH.out.rs.pk ?_)
    refine wp_store_pkt (typeP _) zeroP rfl rfl (by rfl) (by rfl) HV.out (by rfl) (by rfl) ?_
    intro Wf HPf tf
    refine wpList_nil (hKont _ _ (wp_ret ?_))
    exact ⟨rfl, _, read_results Wf v (typeP _) _ rfl HPf.out, HTU.out.then tf (fun i hi e => by have := hv.out; omega), .inl ⟨typeP _, [], [], _, _, ho.out, rfl, oi_mono (HOC.out.turn tf (fun j hj e => by have := (own_block_ge HOC.out j hj).1; have := hv.out; omega)) (by omega) rfl, own_mono (own_turn HOS.out tf (fun j hj e => by have := (own_block_ge HOS.out j hj).1; have := hv.out; omega)) (by omega)⟩⟩
set_option maxRecDepth 100000 in
set_option maxHeartbeats 2000000 in
theorem read_connect (w : World) (r B : Nat) (f T : Int) (L : List Int) (hf : 0 ≤ f ∧ f ≤ 255) (hTf : T = f / 16) (h : RdAt w r B L) (hLb : L.length ≤ 1000000000000) (hT : T = 1) : Calls Tryd.prog 34 #[.pointer (some ⟨r, 0, none⟩), .int .i64 f] w fun e w' => ReadPost w r (rdPkt f L) e w' := by
  obtain ⟨hf0, hf1⟩ := hf
  obtain ⟨g, hg⟩ : ∃ g, Hid (g = (w.alloc (.cells zeroC PT)).heap.size) := ⟨_, rfl⟩
  obtain ⟨v, hv⟩ : ∃ v, Hid (v = w.heap.size) := ⟨_, rfl⟩
  have hgw : Hid (g = w.heap.size + 1) := by rw [hg.out, Hid]; simp
  obtain ⟨o, ho⟩ : ∃ o, Hid (o = rdPkt f L) := ⟨_, rfl⟩
  rw [← ho.out]
  unfold rdPkt at ho
  rw [← hTf] at ho
  go_enter Tryd.func34, Tryd.ntmps34
  go_upto_region 1 with (fail)
  refine wp_region_lit ?_
  refine st_val (.int .i64 f) (wanted_free rfl) (by exact rMove (x := .tmp 1) rfl) ?_
  refine st_val (.int .i64 T) (wanted_free rfl) (by rw [hTf]; exact rBin (x := .tmp 7) (y := .const (.int .u64 4)) rfl (kShr4 f hf0 hf1)) ?_
  refine st_val (.agg (typeP T).cells) (wanted_free rfl) (by exact rBuild1 (x := .tmp 8) rfl (kBuildP T)) ?_
  refine st_alloc (wanted_free rfl) rfl (by exact kAllocP _) ?_
  refine wp_store_pkt (g := (w.alloc (.cells zeroC PT)).heap.size) (typeP T) zeroP rfl rfl rfl rfl (by exact heap_new _ _) rfl rfl ?_
  intro W1 HP1 t1
  refine wpList_nil ?_
  simp only [Exit.then, Act.put, List.setIfInBounds_toArray, List.set_cons_zero, List.set_cons_succ]
  rw [← hg.out, ← hv.out]
  rw [← hg.out] at t1 HP1
  have hH : Hid (RQ w W1 W1 r g v B (typeP T) L) := by
    have hz : (w.alloc (.cells zeroC PT)).heap.size = w.heap.size + 1 := by simp
    have hb0 : Below w.heap.size w ((w.alloc (.cells zeroC PT)).alloc (.cells zeroP.cells PT)) := Below.alloc (Below.alloc (Below.refl _ _) (Nat.le_refl _) _) (by simp) _
    have hb : Below w.heap.size w W1 := hb0.trans (t1.toBelow (by simp; omega) (fun k hk e => by have := hgw.out; omega))
    have hB := h
    obtain ⟨_, _, _, _, _, _, _, hb6, _⟩ := hB
    have hlt := h.lt
    refine ⟨⟨Turn.refl _ _, h.keep hb, HP1.out, by rw [hgw.out]; omega, by rw [hgw.out]; have := hb6.1; omega⟩, hgw.out, hv.out, hlt, hb, ?_⟩
    have hres : PkAt ((w.alloc (.cells zeroC PT)).alloc (.cells zeroP.cells PT)) v zeroP := by
      unfold PkAt
      rw [hv.out, heap_old _ _ _ (by simp)]
      exact heap_new _ _
    exact hres.keep t1 (fun e => by have := hgw.out; have := hv.out; omega)
  clear t1 HP1 h hTf
  have k0 : W1.cell? ⟨g, 0, none⟩ = some (.int .i64 T) := hH.out.rs.pk.cell 0
  rw [if_pos hT] at ho
  subst hT
  go_wp2_with (fail)
  refine (rcon_calls W1 r g B (typeP 1) L hH.out.rs).mono ?_
  rintro e W2 ⟨t, (⟨p, L2, hs, rfl, hp, hR⟩ | ⟨hs, rfl⟩)⟩
  · rw [hs, Option.bind_some] at ho
    have H2 : Hid (RQ w W1 W2 r g v B p L2) := hH.out.next ⟨t, hR, hp, hH.out.rs.ne, hH.out.rs.bg⟩
    obtain ⟨hpc, hps⟩ := rdCon_rows hs
    clear t hR hp hs
    have HPE : True := trivial
    have HOC : Hid (OwnInts W2 (w.heap.size + 2) 3 .i64 nilV []) := OwnInts.nil _ _ _ _
    have HOS : Hid ((W2).ownsRow (w.heap.size + 2) 76 2 nilV ([] : List (ByteArray × Int)).length (subCells [])) := own_nilSub _ _
    have HV := Lib.hid H2.out.resAt
    have HTU := Lib.hid H2.out.turn
    go_upto_region 25 with (fail)
    rename_i hKont
    refine wp_region_lit (wp_load_pkt (p := p) rfl rfl (by rfl) H2.out.rs.pk ?_)
    refine wp_store_pkt p zeroP rfl rfl (by rfl) (by rfl) HV.out (by rw [hpc]; rfl) (by rw [hps]; rfl) ?_
    intro Wf HPf tf
    refine wpList_nil (hKont _ _ (wp_ret ?_))
    exact ⟨rfl, _, read_results Wf v p _ rfl HPf.out, HTU.out.then tf (fun i hi e => by have := hv.out; omega), .inl ⟨p, [], [], _, _, ho.out, by rw [rows_self p (vc := nilV) (vs := nilV) hpc hps], oi_mono (HOC.out.turn tf (fun j hj e => by have := (own_block_ge HOC.out j hj).1; have := hv.out; omega)) (by omega) rfl, own_mono (own_turn HOS.out tf (fun j hj e => by have := (own_block_ge HOS.out j hj).1; have := hv.out; omega)) (by omega)⟩⟩
  · rw [hs, Option.bind_none] at ho
    have HF : Hid (Turn (fun k => k = r) w W2) := turn_of hH.out.w1 hgw.out t
    clear t hs
    go_wp2_with (fail)
    exact ⟨rfl, HF.out, .inr ⟨ho.out, rfl⟩⟩
set_option maxRecDepth 100000 in
set_option maxHeartbeats 2000000 in
theorem read_connack (w : World) (r B : Nat) (f T : Int) (L : List Int) (hf : 0 ≤ f ∧ f ≤ 255) (hTf : T = f / 16) (h : RdAt w r B L) (hLb : L.length ≤ 1000000000000) (hT : T = 2) : Calls Tryd.prog 34 #[.pointer (some ⟨r, 0, none⟩), .int .i64 f] w fun e w' => ReadPost w r (rdPkt f L) e w' := by
  obtain ⟨hf0, hf1⟩ := hf
  obtain ⟨g, hg⟩ : ∃ g, Hid (g = (w.alloc (.cells zeroC PT)).heap.size) := ⟨_, rfl⟩
  obtain ⟨v, hv⟩ : ∃ v, Hid (v = w.heap.size) := ⟨_, rfl⟩
  have hgw : Hid (g = w.heap.size + 1) := by rw [hg.out, Hid]; simp
  obtain ⟨o, ho⟩ : ∃ o, Hid (o = rdPkt f L) := ⟨_, rfl⟩
  rw [← ho.out]
  unfold rdPkt at ho
  rw [← hTf] at ho
  go_enter Tryd.func34, Tryd.ntmps34
  go_upto_region 1 with (fail)
  refine wp_region_lit ?_
  refine st_val (.int .i64 f) (wanted_free rfl) (by exact rMove (x := .tmp 1) rfl) ?_
  refine st_val (.int .i64 T) (wanted_free rfl) (by rw [hTf]; exact rBin (x := .tmp 7) (y := .const (.int .u64 4)) rfl (kShr4 f hf0 hf1)) ?_
  refine st_val (.agg (typeP T).cells) (wanted_free rfl) (by exact rBuild1 (x := .tmp 8) rfl (kBuildP T)) ?_
  refine st_alloc (wanted_free rfl) rfl (by exact kAllocP _) ?_
  refine wp_store_pkt (g := (w.alloc (.cells zeroC PT)).heap.size) (typeP T) zeroP rfl rfl rfl rfl (by exact heap_new _ _) rfl rfl ?_
  intro W1 HP1 t1
  refine wpList_nil ?_
  simp only [Exit.then, Act.put, List.setIfInBounds_toArray, List.set_cons_zero, List.set_cons_succ]
  rw [← hg.out, ← hv.out]
  rw [← hg.out] at t1 HP1
  have hH : Hid (RQ w W1 W1 r g v B (typeP T) L) := by
    have hz : (w.alloc (.cells zeroC PT)).heap.size = w.heap.size + 1 := by simp
    have hb0 : Below w.heap.size w ((w.alloc (.cells zeroC PT)).alloc (.cells zeroP.cells PT)) := Below.alloc (Below.alloc (Below.refl _ _) (Nat.le_refl _) _) (by simp) _
    have hb : Below w.heap.size w W1 := hb0.trans (t1.toBelow (by simp; omega) (fun k hk e => by have := hgw.out; omega))
    have hB := h
    obtain ⟨_, _, _, _, _, _, _, hb6, _⟩ := hB
    have hlt := h.lt
    refine ⟨⟨Turn.refl _ _, h.keep hb, HP1.out, by rw [hgw.out]; omega, by rw [hgw.out]; have := hb6.1; omega⟩, hgw.out, hv.out, hlt, hb, ?_⟩
    have hres : PkAt ((w.alloc (.cells zeroC PT)).alloc (.cells zeroP.cells PT)) v zeroP := by
      unfold PkAt
      rw [hv.out, heap_old _ _ _ (by simp)]
      exact heap_new _ _
    exact hres.keep t1 (fun e => by have := hgw.out; have := hv.out; omega)
  clear t1 HP1 h hTf
  have k0 : W1.cell? ⟨g, 0, none⟩ = some (.int .i64 T) := hH.out.rs.pk.cell 0
  rw [if_neg (by omega), if_pos hT] at ho
  subst hT
  have k15 : W1.cell? ⟨g, 15, none⟩ = some (.bool false) := hH.out.rs.pk.cell 15
  go_wp2_with (fail)
  refine (octet_calls W1 r B L hH.out.rs.rd).mono ?_
  rintro e W2 ⟨t, (⟨a, L2, hs, rfl, hR⟩ | ⟨hs, rfl⟩)⟩
  · rw [hs, Option.bind_some] at ho
    have H2 : Hid (RQ w W1 W2 r g v B (typeP 2) L2) := hH.out.next (hH.out.rs.read t hR)
    clear t hR hs k15
    have k15 : W2.cell? ⟨g, 15, none⟩ = some (.bool false) := H2.out.rs.pk.cell 15
    have f15 := H2.out.rs.pk.frozen 15
    have H3 : Hid (RQ w W1 (W2.setCell ⟨g, 15, none⟩ (.bool (a == 1))) r g v B { typeP 2 with present := a == 1 } L2) := H2.out.next (H2.out.rs.set 15 _ _ rfl)
    go_wp2_with (fail)
    generalize W2.setCell ⟨g, 15, none⟩ (.bool (a == 1)) = W3 at H3 ⊢
    clear k15 f15
    refine (octet_calls W3 r B L2 H3.out.rs.rd).mono ?_
    rintro e W4 ⟨t, (⟨b, L4, hs, rfl, hR⟩ | ⟨hs, rfl⟩)⟩
    · rw [hs, Option.bind_some] at ho
      have H4 : Hid (RQ w W1 W4 r g v B { typeP 2 with present := a == 1 } L4) := H3.out.next (H3.out.rs.read t hR)
      clear t hR hs
      have k16 : (W4.alloc (.cells #[.int .i64 b] 3)).cell? ⟨g, 16, none⟩ = some nilV := (H4.out.rs.old (Below.alloc (Below.refl _ _) (Nat.le_refl _) _)).pk.cell 16
      have f16 := (H4.out.rs.old (Below.alloc (Below.refl _ _) (Nat.le_refl _) (.cells #[.int .i64 b] 3))).pk.frozen 16
      have k16' : W4.cell? ⟨g, 16, none⟩ = some (.slice none 0 0) := H4.out.rs.pk.cell 16
      have f16' := H4.out.rs.pk.frozen 16
      have HBIG := Lib.hid H4.out.big
      have H5 : Hid (RQ w W1 ((W4.alloc (.cells #[.int .i64 b] 3)).setCell ⟨g, 16, none⟩ (.slice (some ⟨W4.heap.size, 0, none⟩) 1 1)) r g v B { typeP 2 with present := a == 1, codes := .slice (some ⟨W4.heap.size, 0, none⟩) 1 1 } L4) :=
        H4.out.next ((H4.out.rs.old (Below.alloc (Below.refl _ _) (Nat.le_refl _) _)).set 16 _ _ rfl)
      have HOC : Hid (OwnInts ((W4.alloc (.cells #[.int .i64 b] 3)).setCell ⟨g, 16, none⟩ (.slice (some ⟨W4.heap.size, 0, none⟩) 1 1)) (w.heap.size + 2) 3 .i64 (.slice (some ⟨W4.heap.size, 0, none⟩) 1 1) [b]) :=
        OwnInts.turn (own_of_heap (cur := #[.int .i64 b]) (heap_new W4 _) HBIG.out rfl (Nat.le_refl _) (by decide) rfl rfl) (Turn.setCell (S := fun k => k = g) _ _ rfl) (fun j hj e => by injection hj with hj; have h1 := HBIG.out; have h2 := hgw.out; simp at hj; omega)
      have HOS : Hid (((W4.alloc (.cells #[.int .i64 b] 3)).setCell ⟨g, 16, none⟩ (.slice (some ⟨W4.heap.size, 0, none⟩) 1 1)).ownsRow (w.heap.size + 2) 76 2 nilV ([] : List (ByteArray × Int)).length (subCells [])) := own_nilSub _ _
      have HV := Lib.hid H5.out.resAt
      have HTU := Lib.hid H5.out.turn
      go_upto_region 25 with (fail)
      rename_i hKont
      refine wp_region_lit (wp_load_pkt (p := { typeP 2 with present := a == 1, codes := .slice (some ⟨W4.heap.size, 0, none⟩) 1 1 }) rfl rfl (by rfl) H5.out.rs.pk ?_)
      refine wp_store_pkt { typeP 2 with present := a == 1, codes := .slice (some ⟨W4.heap.size, 0, none⟩) 1 1 } zeroP rfl rfl (by rfl) (by rfl) HV.out (by rfl) (by rfl) ?_
      intro Wf HPf tf
      refine wpList_nil (hKont _ _ (wp_ret ?_))
      exact ⟨rfl, _, read_results Wf v { typeP 2 with present := a == 1, codes := .slice (some ⟨W4.heap.size, 0, none⟩) 1 1 } _ rfl HPf.out, HTU.out.then tf (fun i hi e => by have := hv.out; omega), .inl ⟨{ typeP 2 with present := a == 1 }, [b], [], _, _, ho.out, rfl, oi_mono (HOC.out.turn tf (fun j hj e => by have := (own_block_ge HOC.out j hj).1; have := hv.out; omega)) (by omega) rfl, own_mono (own_turn HOS.out tf (fun j hj e => by have := (own_block_ge HOS.out j hj).1; have := hv.out; omega)) (by omega)⟩⟩
    · rw [hs, Option.bind_none] at ho
      have HF : Hid (Turn (fun k => k = r) w _) := turn_of H3.out.w1 hgw.out (H3.out.rs.fail t)
      clear t hs
      go_wp2_with (fail)
      exact ⟨rfl, HF.out, .inr ⟨ho.out, rfl⟩⟩
  · rw [hs, Option.bind_none] at ho
    have HF : Hid (Turn (fun k => k = r) w _) := turn_of hH.out.w1 hgw.out (hH.out.rs.fail t)
    clear t hs
    go_wp2_with (fail)
    exact ⟨rfl, HF.out, .inr ⟨ho.out, rfl⟩⟩
set_option maxRecDepth 100000 in
set_option maxHeartbeats 2000000 in
theorem read_publish (w : World) (r B : Nat) (f T : Int) (L : List Int) (hf : 0 ≤ f ∧ f ≤ 255) (hTf : T = f / 16) (h : RdAt w r B L) (hLb : L.length ≤ 1000000000000) (hT : T = 3) : Calls Tryd.prog 34 #[.pointer (some ⟨r, 0, none⟩), .int .i64 f] w fun e w' => ReadPost w r (rdPkt f L) e w' := by
  obtain ⟨hf0, hf1⟩ := hf
  obtain ⟨g, hg⟩ : ∃ g, Hid (g = (w.alloc (.cells zeroC PT)).heap.size) := ⟨_, rfl⟩
  obtain ⟨v, hv⟩ : ∃ v, Hid (v = w.heap.size) := ⟨_, rfl⟩
  have hgw : Hid (g = w.heap.size + 1) := by rw [hg.out, Hid]; simp
  obtain ⟨o, ho⟩ : ∃ o, Hid (o = rdPkt f L) := ⟨_, rfl⟩
  rw [← ho.out]
  unfold rdPkt at ho
  rw [← hTf] at ho
  go_enter Tryd.func34, Tryd.ntmps34
  go_upto_region 1 with (fail)
  refine wp_region_lit ?_
  refine st_val (.int .i64 f) (wanted_free rfl) (by exact rMove (x := .tmp 1) rfl) ?_
  refine st_val (.int .i64 T) (wanted_free rfl) (by rw [hTf]; exact rBin (x := .tmp 7) (y := .const (.int .u64 4)) rfl (kShr4 f hf0 hf1)) ?_
  refine st_val (.agg (typeP T).cells) (wanted_free rfl) (by exact rBuild1 (x := .tmp 8) rfl (kBuildP T)) ?_
  refine st_alloc (wanted_free rfl) rfl (by exact kAllocP _) ?_
  refine wp_store_pkt (g := (w.alloc (.cells zeroC PT)).heap.size) (typeP T) zeroP rfl rfl rfl rfl (by exact heap_new _ _) rfl rfl ?_
  intro W1 HP1 t1
  refine wpList_nil ?_
  simp only [Exit.then, Act.put, List.setIfInBounds_toArray, List.set_cons_zero, List.set_cons_succ]
  rw [← hg.out, ← hv.out]
  rw [← hg.out] at t1 HP1
  have hH : Hid (RQ w W1 W1 r g v B (typeP T) L) := by
    have hz : (w.alloc (.cells zeroC PT)).heap.size = w.heap.size + 1 := by simp
    have hb0 : Below w.heap.size w ((w.alloc (.cells zeroC PT)).alloc (.cells zeroP.cells PT)) := Below.alloc (Below.alloc (Below.refl _ _) (Nat.le_refl _) _) (by simp) _
    have hb : Below w.heap.size w W1 := hb0.trans (t1.toBelow (by simp; omega) (fun k hk e => by have := hgw.out; omega))
    have hB := h
    obtain ⟨_, _, _, _, _, _, _, hb6, _⟩ := hB
    have hlt := h.lt
    refine ⟨⟨Turn.refl _ _, h.keep hb, HP1.out, by rw [hgw.out]; omega, by rw [hgw.out]; have := hb6.1; omega⟩, hgw.out, hv.out, hlt, hb, ?_⟩
    have hres : PkAt ((w.alloc (.cells zeroC PT)).alloc (.cells zeroP.cells PT)) v zeroP := by
      unfold PkAt
      rw [hv.out, heap_old _ _ _ (by simp)]
      exact heap_new _ _
    exact hres.keep t1 (fun e => by have := hgw.out; have := hv.out; omega)
  clear t1 HP1 h hTf
  have k0 : W1.cell? ⟨g, 0, none⟩ = some (.int .i64 T) := hH.out.rs.pk.cell 0
  rw [if_neg (by omega), if_neg (by omega), if_pos hT] at ho
  subst hT
  obtain ⟨d8, hd8⟩ : ∃ b, Hid (b = flagB f 8) := ⟨_, rfl⟩
  obtain ⟨d1, hd1⟩ : ∃ b, Hid (b = flagB f 1) := ⟨_, rfl⟩
  obtain ⟨q3, hq3⟩ : ∃ x, x = bits .and .i64 (f / 2) 3 := ⟨_, rfl⟩
  have e8 : decide (0 < bits .and .i64 f 8) = d8 := hd8.out.symm
  have e1 : decide (0 < bits .and .i64 f 1) = d1 := hd1.out.symm
  have eq3 : bits .and .i64 (f / 2) 3 = q3 := hq3.symm
  clear hq3
  have k1 : W1.cell? ⟨g, 1, none⟩ = some (.bool false) := hH.out.rs.pk.cell 1
  have f1 := hH.out.rs.pk.frozen 1
  have HS : Hid (RQ w W1 (W1.setCell ⟨g, 1, none⟩ (.bool d8)) r g v B { typeP 3 with dup := d8 } L) := hH.out.next (hH.out.rs.set 1 _ _ rfl)
  go_wp2_with (fail)
  generalize hWs : W1.setCell ⟨g, 1, none⟩ (.bool d8) = Ws at HS ⊢
  clear k1 f1 k0 hWs
  refine (rtext_calls Ws r B L HS.out.rs.rd).mono ?_
  rintro e W2 ⟨t, (⟨tp, L2, hs, rfl, hR⟩ | ⟨hs, rfl⟩)⟩
  · rw [hs, Option.bind_some] at ho
    unfold pub3 at ho
    rw [eq3, ← hd8.out, ← hd1.out] at ho
    have H2 : Hid (RQ w W1 W2 r g v B { typeP 3 with dup := d8 } L2) := HS.out.next (HS.out.rs.read t hR)
    clear t hR hs
    have x3 : W2.cell? ⟨g, 3, none⟩ = some (.string ⟨#[]⟩) := H2.out.rs.pk.cell 3
    have x4 : W2.cell? ⟨g, 4, none⟩ = some (.string ⟨#[]⟩) := H2.out.rs.pk.cell 4
    have x5 : W2.cell? ⟨g, 5, none⟩ = some (.int .i64 0) := H2.out.rs.pk.cell 5
    have x6 : W2.cell? ⟨g, 6, none⟩ = some (.bool false) := H2.out.rs.pk.cell 6
    have z3 := H2.out.rs.pk.frozen 3
    have z4 := H2.out.rs.pk.frozen 4
    have z5 := H2.out.rs.pk.frozen 5
    have z6 := H2.out.rs.pk.frozen 6
    obtain ⟨q, hqe⟩ : ∃ x : Pkt, Hid (x = { typeP 3 with dup := d8, topic := tp, qos := q3, retain := d1 }) := ⟨_, rfl⟩
    have H3 : Hid (RQ w W1 ((((W2.setCell ⟨g, 3, none⟩ (.string tp)).setCell ⟨g, 4, none⟩ (.string ⟨#[]⟩)).setCell ⟨g, 5, none⟩ (.int .i64 q3)).setCell ⟨g, 6, none⟩ (.bool d1)) r g v B q L2) := by
      rw [hqe.out]
      exact H2.out.next ((((H2.out.rs.set 3 (.string tp) { typeP 3 with dup := d8, topic := tp } rfl).set 4 (.string ⟨#[]⟩) { typeP 3 with dup := d8, topic := tp } rfl).set 5 (.int .i64 q3) { typeP 3 with dup := d8, topic := tp, qos := q3 } rfl).set 6 _ _ rfl)
    have hcod : Hid (q.codes = nilV ∧ q.subs = nilV) := by rw [hqe.out]; exact ⟨rfl, rfl⟩
    go_upto_region 19 with (fail)
    generalize hW3 : (((W2.setCell ⟨g, 3, none⟩ (.string tp)).setCell ⟨g, 4, none⟩ (.string ⟨#[]⟩)).setCell ⟨g, 5, none⟩ (.int .i64 q3)).setCell ⟨g, 6, none⟩ (.bool d1) = W3 at H3 ⊢
    clear hW3 x3 x4 x5 x6 z3 z4 z5 z6
    have hq5 : Hid (q.qos = q3) := by rw [hqe.out]; exact rfl
    have y5 : W3.cell? ⟨g, 5, none⟩ = some (.int .i64 q3) := by rw [← hq5.out]; exact H3.out.rs.pk.cell 5
    by_cases hz : 0 < q3
    · have hdz : decide (0 < q3) = true := decide_eq_true hz
      rw [if_pos hz] at ho
      clear hz
      go_wp2_with (fail)
      refine (rword_calls W3 r B L2 H3.out.rs.rd).mono ?_
      rintro e W4 ⟨t, (⟨id, L4, hs, rfl, hR⟩ | ⟨hs, rfl⟩)⟩
      · rw [hs, Option.bind_some] at ho
        have H4 : Hid (RQ w W1 W4 r g v B q L4) := H3.out.next (H3.out.rs.read t hR)
        clear t hR hs
        have y2 : W4.cell? ⟨g, 2, none⟩ = some (.int .i64 q.id) := H4.out.rs.pk.cell 2
        have s2 := H4.out.rs.pk.frozen 2
        obtain ⟨q4, hq4⟩ : ∃ x : Pkt, Hid (x = { q with id := id }) := ⟨_, rfl⟩
        have H5 : Hid (RQ w W1 (W4.setCell ⟨g, 2, none⟩ (.int .i64 id)) r g v B q4 L4) := by rw [hq4.out]; exact H4.out.next (H4.out.rs.set 2 _ _ rfl)
        have hcod2 : Hid (q4.codes = nilV ∧ q4.subs = nilV) := by rw [hq4.out]; exact hcod.out
        have hoo : Hid (o = some ({ q4 with payload := strOfNums L4 }, [], [])) := by rw [ho.out, hq4.out, hqe.out]; exact rfl
        go_upto_region 21 with (fail)
        generalize hW5 : W4.setCell ⟨g, 2, none⟩ (.int .i64 id) = W5 at H5 ⊢
        clear hW5 y2 s2 y5
        obtain ⟨Ar, cr, hr0, hrc, hrb, _, _, _, _⟩ := H5.out.rs.rd
        have kr : W5.cell? ⟨r, 0, none⟩ = some (.slice Ar L4.length cr) := by rw [cell_heap hr0]; exact rfl
        have hrl : (L4.length : Int) ≤ 140737488355328 := by omega
        have HTK := Lib.hid (take_calls W5 r B L4 L4.length hrl H5.out.rs.rd)
        clear hr0 hrc hrb
        go_wp2_with (fail)
        refine HTK.out.mono ?_
        rintro e W9 ⟨t9, (⟨_, ⟨A9, c9, rfl, hr9, _⟩, hR9⟩ | ⟨hn9, _⟩)⟩
        · rw [List.take_length] at hr9
          have hcv := conv_reads (P := Tryd.prog) (W := W9) (src := 22) (dst := 9) (e := 5) (A := A9) (n := L4.length) (c := c9) (L := L4) Tryd.underlying22 Tryd.underlying5 Tryd.underlying9 rfl hr9
          have H9 : Hid (RQ w W1 W9 r g v B q4 (L4.drop L4.length)) := H5.out.next (H5.out.rs.read t9 hR9)
          have u4 : W9.cell? ⟨g, 4, none⟩ = some (.string q4.payload) := H9.out.rs.pk.cell 4
          have g4 := H9.out.rs.pk.frozen 4
          obtain ⟨pl, hpl⟩ : ∃ x, Hid (x = strOfNums L4) := ⟨_, rfl⟩
          rw [← hpl.out] at hcv
          have HE : Hid (RQ w W1 (W9.setCell ⟨g, 4, none⟩ (.string pl)) r g v B { q4 with payload := pl } (L4.drop L4.length)) := H9.out.next (H9.out.rs.set 4 _ _ rfl)
          clear t9 hr9 hR9 HTK kr
          have HOC : Hid (OwnInts (W9.setCell ⟨g, 4, none⟩ (.string pl)) (w.heap.size + 2) 3 .i64 nilV []) := OwnInts.nil _ _ _ _
          have HOS : Hid ((W9.setCell ⟨g, 4, none⟩ (.string pl)).ownsRow (w.heap.size + 2) 76 2 nilV ([] : List (ByteArray × Int)).length (subCells [])) := own_nilSub _ _
          have HV := Lib.hid HE.out.resAt
          have HTU := Lib.hid HE.out.turn
          go_upto_region 25 with (fail)
          rename_i hKont
          refine wp_region_lit (wp_load_pkt (p := { q4 with payload := pl }) rfl rfl (by rfl) HE.out.rs.pk ?_)
          refine wp_store_pkt { q4 with payload := pl } zeroP rfl rfl (by rfl) (by rfl) HV.out (by rw [hcod2.out.1]; rfl) (by rw [hcod2.out.2]; rfl) ?_
          intro Wf HPf tf
          refine wpList_nil (hKont _ _ (wp_ret ?_))
          exact ⟨rfl, _, read_results Wf v { q4 with payload := pl } _ rfl HPf.out, HTU.out.then tf (fun i hi e => by have := hv.out; omega), .inl ⟨{ q4 with payload := pl }, [], [], _, _, by rw [hpl.out]; exact hoo.out, by rw [rows_self { q4 with payload := pl } (vc := nilV) (vs := nilV) hcod2.out.1 hcod2.out.2], oi_mono (HOC.out.turn tf (fun j hj e => by have := (own_block_ge HOC.out j hj).1; have := hv.out; omega)) (by omega) rfl, own_mono (own_turn HOS.out tf (fun j hj e => by have := (own_block_ge HOS.out j hj).1; have := hv.out; omega)) (by omega)⟩⟩
        · exact absurd (Nat.le_refl _) hn9
      · rw [hs, Option.bind_none] at ho
        have HF : Hid (Turn (fun k => k = r) w _) := turn_of H3.out.w1 hgw.out (H3.out.rs.fail t)
        clear t hs
        go_wp2_with (fail)
        exact ⟨rfl, HF.out, .inr ⟨ho.out, rfl⟩⟩
    · have hdz : decide (0 < q3) = false := decide_eq_false hz
      rw [if_neg hz] at ho
      clear hz
      have hoo : Hid (o = some ({ q with payload := strOfNums L2 }, [], [])) := by rw [ho.out, hqe.out]; exact rfl
      go_upto_region 21 with (fail)
      clear y5
      obtain ⟨Ar, cr, hr0, hrc, hrb, _, _, _, _⟩ := H3.out.rs.rd
      have kr : W3.cell? ⟨r, 0, none⟩ = some (.slice Ar L2.length cr) := by rw [cell_heap hr0]; exact rfl
      have hrl : (L2.length : Int) ≤ 140737488355328 := by omega
      have HTK := Lib.hid (take_calls W3 r B L2 L2.length hrl H3.out.rs.rd)
      clear hr0 hrc hrb
      go_wp2_with (fail)
      refine HTK.out.mono ?_
      rintro e W9 ⟨t9, (⟨_, ⟨A9, c9, rfl, hr9, _⟩, hR9⟩ | ⟨hn9, _⟩)⟩
      · rw [List.take_length] at hr9
        have hcv := conv_reads (P := Tryd.prog) (W := W9) (src := 22) (dst := 9) (e := 5) (A := A9) (n := L2.length) (c := c9) (L := L2) Tryd.underlying22 Tryd.underlying5 Tryd.underlying9 rfl hr9
        have H9 : Hid (RQ w W1 W9 r g v B q (L2.drop L2.length)) := H3.out.next (H3.out.rs.read t9 hR9)
        have u4 : W9.cell? ⟨g, 4, none⟩ = some (.string q.payload) := H9.out.rs.pk.cell 4
        have g4 := H9.out.rs.pk.frozen 4
        obtain ⟨pl, hpl⟩ : ∃ x, Hid (x = strOfNums L2) := ⟨_, rfl⟩
        rw [← hpl.out] at hcv
        have HE : Hid (RQ w W1 (W9.setCell ⟨g, 4, none⟩ (.string pl)) r g v B { q with payload := pl } (L2.drop L2.length)) := H9.out.next (H9.out.rs.set 4 _ _ rfl)
        clear t9 hr9 hR9 HTK kr
        have HOC : Hid (OwnInts (W9.setCell ⟨g, 4, none⟩ (.string pl)) (w.heap.size + 2) 3 .i64 nilV []) := OwnInts.nil _ _ _ _
        have HOS : Hid ((W9.setCell ⟨g, 4, none⟩ (.string pl)).ownsRow (w.heap.size + 2) 76 2 nilV ([] : List (ByteArray × Int)).length (subCells [])) := own_nilSub _ _
        have HV := Lib.hid HE.out.resAt
        have HTU := Lib.hid HE.out.turn
        go_upto_region 25 with (fail)
        rename_i hKont
        refine wp_region_lit (wp_load_pkt (p := { q with payload := pl }) rfl rfl (by rfl) HE.out.rs.pk ?_)
        refine wp_store_pkt { q with payload := pl } zeroP rfl rfl (by rfl) (by rfl) HV.out (by rw [hcod.out.1]; rfl) (by rw [hcod.out.2]; rfl) ?_
        intro Wf HPf tf
        refine wpList_nil (hKont _ _ (wp_ret ?_))
        exact ⟨rfl, _, read_results Wf v { q with payload := pl } _ rfl HPf.out, HTU.out.then tf (fun i hi e => by have := hv.out; omega), .inl ⟨{ q with payload := pl }, [], [], _, _, by rw [hpl.out]; exact hoo.out, by rw [rows_self { q with payload := pl } (vc := nilV) (vs := nilV) hcod.out.1 hcod.out.2], oi_mono (HOC.out.turn tf (fun j hj e => by have := (own_block_ge HOC.out j hj).1; have := hv.out; omega)) (by omega) rfl, own_mono (own_turn HOS.out tf (fun j hj e => by have := (own_block_ge HOS.out j hj).1; have := hv.out; omega)) (by omega)⟩⟩
      · exact absurd (Nat.le_refl _) hn9
  · rw [hs, Option.bind_none] at ho
    have HF : Hid (Turn (fun k => k = r) w _) := turn_of HS.out.w1 hgw.out (HS.out.rs.fail t)
    clear t hs
    go_wp2_with (fail)
    exact ⟨rfl, HF.out, .inr ⟨ho.out, rfl⟩⟩
end Pk
end Go.Proofs.YteigakkghkjakaaDoor

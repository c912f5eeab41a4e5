/- The reference of the stream: All, Both; Rows of a row's end. -/
import Derived.Test.YteigakkghkjakaaDoorStJ
import Derived.Test.YteigakkghkjakaaDoorRfP
namespace Go.Proofs.YteigakkghkjakaaDoor
open Go.RowKit Go.ChangeShapes
set_option linter.unusedVariables false
set_option linter.unusedSimpArgs false
namespace Str
open Utf (nums nums_length nums_bytes IsStr nums_str)
open Var (BT info_byte digs digs_length tell RetTell GivesBytes)
open Pk
open Ref (kSliceFrom rSlice)

/-- What All answers. -/
def AllPost (w : World) (most : Int) (L : List Int) (e : Ending) (w' : World) : Prop :=
  Below w.heap.size w w' ∧ ∃ A n c ps, e = .returned (.tuple #[.slice A n c, .int .i64 (cuts most (L.length + 1) L).2.2.length, .int .i64 (cuts most (L.length + 1) L).2.1]) ∧ PkRow w' w.heap.size (.slice A n c) ps ∧ Told (cuts most (L.length + 1) L).1 ps
theorem step_nil (most : Int) : stepS most [] IsP = .inr 0 := step_more (by decide)
/-- Bytes that are cut up, from where they stand. -/
structure At11 (w : World) (A : Option Addr) (c : Nat) (R : List Int) : Prop where
  reads : Reads .u8 w A R
  len : R.length ≤ c
  cap : c ≤ 9223372036854775807
  none_ : A = none → c = 0
  bytes : ∀ x ∈ R, 0 ≤ x ∧ x < 256
theorem At11.keep {w w' : World} {A : Option Addr} {c : Nat} {R : List Int} (h : At11 w A c R) (b : Below w.heap.size w w') : At11 w' A c R := ⟨h.reads.keep b, h.len, h.cap, h.none_, h.bytes⟩
theorem At11.drop {w : World} {x : Addr} {c : Nat} {R : List Int} (h : At11 w (some x) c R) (m : Nat) (hm : m ≤ R.length) : At11 w (if c = m then some x else some (x.add m)) (c - m) (R.drop m) := by
  have h1 := h.len
  have h2 := h.cap
  have hl : (R.drop m).length = R.length - m := List.length_drop
  by_cases hc : c = m
  · rw [if_pos hc, show c - m = 0 by omega]
    have hd0 : R.drop m = [] := by apply List.drop_eq_nil_of_le; omega
    rw [hd0]
    exact ⟨fun h => absurd h (by simp), Nat.le_refl _, by decide, fun h => (by cases h), fun x hx => (by cases hx)⟩
  · rw [if_neg hc]
    exact ⟨reads_drop m h.reads, by omega, by omega, fun h => (by cases h), drop_bytes m h.bytes⟩
theorem kAddI {W : World} {x y : Operand} (k n : Int) (m : Nat) (h : k + n = (m : Int)) (hb : (m : Int) ≤ 268435460) : (do eqGuard .add 3 x y (.int .i64 k) (.int .i64 n); binOp .add 3 (.int .i64 k) (.int .i64 n) : Sem Value).run Tryd.prog W = .ok (.int .i64 (m : Int)) W := by
  have h3 : IntKind.i64.wrap (k + n) = (m : Int) := by rw [h, IntKind.wrap_i64]; omega
  simp [go_sem, eqGuard, h3]
theorem kSliceFromB {W : World} (x : Addr) (n c k : Nat) (hk : k ≤ n) (hc : n ≤ c) (hb : (k : Int) ≤ 268435460) : (Instr.sliceAt 22 (.slice (some x) n c) (some (.int .i64 (k : Int))) none none).run Tryd.prog W = .ok (.slice (some (if c = k then x else x.add k)) (n - k) (if c = k then 0 else c - k)) W := by
  by_cases h : c = k
  · subst h
    have : n - c = 0 := by omega
    simp [go_sem, this]
    omega
  · simp [go_sem, h]
    omega
theorem wp_sliceG {ops : Array Oper} {rest : List Oper} {o : Oper} {a : Act} {W : World} {Q : Exit → Act → World → Prop} {x y : Operand} {t : TypeId} {X Y v : Value} (ho : o.op = .slice t x (some y) none none) (hx : a.eval x = X) (hy : a.eval y = Y) (hs : ∀ W, (Instr.sliceAt t X (some Y) none none).run Tryd.prog W = .ok v W)
    (hK : wpList Tryd.prog ops Q rest (a.put o.dst v) W) (hgd : Region.wanted o (yielded ops a.tmps) = true) : wpList Tryd.prog ops Q (o :: rest) a W :=
  st_val v hgd (rSlice ho (by rw [hx, hy]; exact hs W)) hK

set_option maxRecDepth 100000 in
set_option maxHeartbeats 2000000 in
theorem all_calls (w : World) (most : Int) (A : Option Addr) (L : List Int) (c : Nat) (hA : At11 w A c L) (hl : L.length ≤ 50000) : Calls Tryd.prog 30 #[.int .i64 most, .slice A L.length c] w fun e w' => AllPost w most L e w' := by
  have H0 := Lib.hid hA
  have hlb := Lib.hid hl
  obtain ⟨F, hF⟩ : ∃ F, Hid (F = L.length + 1) := ⟨_, rfl⟩
  obtain ⟨r0, hr0⟩ : ∃ r0, Hid (r0 = cuts most F L) := ⟨_, rfl⟩
  have hend : Hid (∀ (e : Ending) (w' : World), (Below w.heap.size w w' ∧ ∃ A n c ps, e = .returned (.tuple #[.slice A n c, .int .i64 r0.2.2.length, .int .i64 r0.2.1]) ∧ PkRow w' w.heap.size (.slice A n c) ps ∧ Told r0.1 ps) → AllPost w most L e w') := by
    intro e w' h
    unfold AllPost
    rw [← hF.out, ← hr0.out]
    exact h
  clear hA hl
  go_enter Tryd.func30, Tryd.ntmps30
  go_wp2_with (fail)
  go_loopw [1, 7, 8, 9, 10, 11, 12] (fun v1 v7 v8 v9 v10 v11 v12 wr => ∃ (A1 : Option Addr) (c1 : Nat) (Rc : List Int) (Ao : Option Addr) (co : Nat) (Ls : List (List Int)) (ps : List PkX) (f : Nat), v1 = .slice A1 Rc.length c1 ∧ Hid (∀ W', Below w.heap.size w W' → Reads .u8 W' A1 Rc) ∧ v7 = .slice Ao ps.length co ∧ Hid (At11 wr A1 c1 Rc) ∧ Hid (PkRow wr w.heap.size (.slice Ao ps.length co) ps) ∧ Hid (Told Ls ps) ∧ Hid (Below w.heap.size w wr) ∧ Hid (r0 = (Ls ++ (cuts most f Rc).1, (cuts most f Rc).2)) ∧ Hid (Rc.length < f) ∧ Hid (ps.length + Rc.length ≤ L.length)) (fun v1 _ _ _ _ _ _ _ => Pk.rowLen v1)
  case atStart => exact ⟨A, c, L, none, 0, [], [], F, rfl, Lib.hid (fun W' b => H0.out.reads.keep b), rfl, H0, PkRow.nil _ _, trivial, Below.refl _ _, by rw [List.nil_append]; exact hr0, by rw [hF.out, Hid]; omega, by rw [Hid]; simp⟩
  case round =>
    obtain ⟨A1, c1, Rc, Ao, co, Ls, ps, f, rfl, HNEW, rfl, HA, HP, HTo, HB, HCu, hf, hLen⟩ := hrel
    obtain ⟨f', hf'⟩ : ∃ f', f = f' + 1 := ⟨f - 1, by have := hf.out; omega⟩
    subst hf'
    have hRb : (Rc.length : Int) ≤ 50000 := by have := hLen.out; have := hlb.out; omega
    have HEND : Hid (∀ (cd : Int) (W' : World), stepS most Rc IsP = .inr cd → Turn (fun _ => False) wr W' → AllPost w most L (.returned (.tuple #[.slice Ao ps.length co, .int .i64 (if cd = 0 then Rc else []).length, .int .i64 cd])) W') := by
      intro cd W' hst t
      have hcu := HCu.out
      rw [cuts_inr hst, List.append_nil] at hcu
      refine hend.out _ _ ⟨t.belowTrans HB.out HB.out.size (fun _ _ h => h), Ao, ps.length, co, ps, ?_, HP.out.turn t (fun _ _ _ h => h), ?_⟩
      · rw [hcu]
      · rw [hcu]; exact HTo.out
    by_cases hR0 : Rc = []
    · subst hR0
      have HE := Lib.hid (HEND.out 0 wr (step_nil most) (Turn.refl _ _))
      go_wp2_with (fail)
      go_ret3
      exact HE.out
    have hpos : 0 < Rc.length := List.length_pos_iff.2 hR0
    have hdp : decide (0 < Rc.length) = true := decide_eq_true hpos
    obtain ⟨x, rfl⟩ : ∃ x, A1 = some x := by
      obtain ⟨x, hx, _⟩ := HA.out.reads hpos
      exact ⟨x, hx⟩
    clear hR0
    obtain ⟨⟨n, k, er⟩, hTe⟩ : ∃ T, Hid (T = tell 4 true Rc 1 0 1) := ⟨_, rfl⟩
    have HST : Hid (stepS most Rc IsP = (if er = 4 then .inr 100 else if er ≠ 0 then .inr 0 else if most < k + n then .inr 101 else if (Rc.length : Int) < k + n then .inr 0 else if IsP (Rc.take (k + n).toNat) then .inl (k + n).toNat else .inr 100)) := by
      rw [Hid, stepS, ← hTe.out]
    have HAT := Lib.hid (Var.rat_calls wr (some x) Rc c1 HA.out.len HA.out.reads HA.out.bytes (by omega) 1 (by decide))
    rw [← hTe.out] at HAT
    have HINV : Hid ((er = 0 ∧ 0 ≤ n ∧ n < 268435456 ∧ 2 ≤ k ∧ k ≤ 5) ∨ er = 4 ∨ er = 7) := by
      rcases Var.tell_inv 3 true Rc 1 0 1 HA.out.bytes with ⟨m, h0, hm', _, ht, _, _⟩ | ⟨e, he, ht⟩
      · have h8 := hTe.out
        have ht' : tell 4 true Rc 1 0 1 = (0 + 1 * m, ((1 : Nat) : Int) + (digs 3 m).length, 0) := ht
        rw [ht'] at h8
        injection h8 with e0 h8
        injection h8 with e1 e2
        have h9 := digs_length 3 m
        have h10 : (128 : Int) ^ (3 + 1) = 268435456 := by decide
        rw [h10] at hm'
        exact .inl ⟨e2, by omega, by omega, by omega, by omega⟩
      · have h8 := hTe.out
        have ht' : tell 4 true Rc 1 0 1 = (0, 0, e) := ht
        rw [ht'] at h8
        injection h8 with e0 h8
        injection h8 with e1 e2
        rw [e2]
        exact .inr he
    go_wp2_with (fail)
    refine HAT.out.mono ?_
    rintro e w' ⟨rfl, rfl⟩
    rcases HINV.out with ⟨rfl, hn0, hn1, hk2, hk5⟩ | rfl | rfl
    case inr.inl =>
      have HE := Lib.hid (HEND.out 100 wr (by rw [HST.out, if_pos rfl]) (Turn.refl _ _))
      go_wp2_with (fail)
      go_ret3
      exact HE.out
    case inr.inr =>
      have HE := Lib.hid (HEND.out 0 wr (by rw [HST.out, if_neg (by decide), if_pos (by decide)]) (Turn.refl _ _))
      go_wp2_with (fail)
      go_ret3
      exact HE.out
    by_cases hbig : most < k + n
    · have hd := decide_eq_true hbig
      have HE := Lib.hid (HEND.out 101 wr (by rw [HST.out, if_neg (by decide), if_neg (by decide), if_pos hbig]) (Turn.refl _ _))
      clear hbig
      go_wp2_with (fail)
      go_ret3
      exact HE.out
    have hd := decide_eq_false hbig
    by_cases hmore : (Rc.length : Int) < k + n
    · have hd2 := decide_eq_true hmore
      have HE := Lib.hid (HEND.out 0 wr (by rw [HST.out, if_neg (by decide), if_neg (by decide), if_neg hbig, if_pos hmore]) (Turn.refl _ _))
      clear hbig hmore
      go_wp2_with (fail)
      go_ret3
      exact HE.out
    have hd2 := decide_eq_false hmore
    have HS1 : Hid (stepS most Rc IsP = if IsP (Rc.take (k + n).toNat) then .inl (k + n).toNat else .inr 100) := by rw [Hid, HST.out, if_neg (by decide), if_neg (by decide), if_neg hbig, if_neg hmore]
    obtain ⟨m, hm1⟩ : ∃ m : Nat, k + n = (m : Int) := ⟨(k + n).toNat, by omega⟩
    have hmR : m ≤ Rc.length := by omega
    have hmb : (m : Int) ≤ 268435460 := by omega
    rw [hm1, Int.toNat_natCast] at HS1
    rw [hm1] at hd hd2
    clear hbig hmore HST
    have hlt : (Rc.take m).length = m := by simp; omega
    have hm2 : 2 ≤ m := by omega
    have hmc : m ≤ c1 := by have := HA.out.len; omega
    have HPC0 := Ref.rparse_calls wr (some x) (Rc.take m) c1 (reads_take m HA.out.reads) (by rw [hlt]; exact hmc) HA.out.cap (fun y hy => HA.out.bytes y (List.mem_of_mem_take hy)) (by rw [hlt]; omega)
    unfold Ref.RParsePost at HPC0
    rw [hlt] at HPC0
    have HPC := Lib.hid HPC0
    clear HPC0 hlt
    go_wp2_with (fail)
    refine HPC.out.mono ?_
    rintro e w5 ⟨hb5, (⟨p, C, D, hI, rfl, hoc, hos⟩ | ⟨hnI, rfl⟩)⟩
    case inr =>
      have HNP : Hid (¬ IsP (Rc.take m)) := fun ⟨p, C, D, h⟩ => hnI p C D h
      have HB5 := Lib.hid hb5
      clear hb5 hnI
      rename_i hK
      refine hK _ _ ?_
      refine st_val (.tuple #[.agg zeroP.cells, .bool false]) (wanted_free rfl) (by exact rMove (x := .tmp 45) rfl) ?_
      refine st_val (.agg zeroP.cells) (wanted_free rfl) (by exact rExtract (x := .tmp 39) rfl (kExt0 _ _)) ?_
      refine st_val (.bool false) (wanted_free rfl) (by exact rExtract (x := .tmp 39) rfl (kExt1 _ _)) ?_
      refine st_alloc (wanted_free rfl) rfl (by exact kAllocP _) ?_
      refine wp_store_pkt (g := w5.heap.size) zeroP zeroP rfl rfl rfl rfl (by exact heap_new _ _) rfl rfl ?_
      intro w6 HP6 t
      refine st_val (.bool false) (wanted_free rfl) (by exact rAssign (x := .tmp 47) rfl) ?_
      refine wpList_nil ?_
      simp only [Exit.then, Act.put, List.setIfInBounds_toArray, List.set_cons_zero, List.set_cons_succ]
      have HW6 : Hid (Below w5.heap.size w5 w6) := (Below.alloc (Below.refl _ _) (Nat.le_refl _) _).trans (t.toBelow (by simp) (fun k hk e => by omega))
      clear t hK
      have HE := Lib.hid (HEND.out 100 w6 (by rw [HS1.out, if_neg HNP.out]) ((Turn.of_below HB5.out).trans (Turn.of_below HW6.out)))
      clear HP6
      go_wp2_with (fail)
      go_ret3
      exact HE.out
    case inl =>
      have HIP : Hid (stepS most Rc IsP = .inl m) := by rw [Hid, HS1.out, if_pos ⟨p, C, D, hI⟩]
      have HB5 := Lib.hid hb5
      have HI := Lib.hid hI
      have hpc : Hid (p.codes.oneCell' = true) := by obtain ⟨A', c', hv, _⟩ := hoc.form; rw [hv]; exact rfl
      have hps : Hid (p.subs.oneCell' = true) := by obtain ⟨A', c', hv, _⟩ := own_form hos; rw [hv]; exact rfl
      have HOC := Lib.hid (oi_mono hoc HB.out.size rfl)
      have HOS := Lib.hid (own_mono hos HB.out.size)
      clear hb5 hI hoc hos
      rename_i hK
      refine hK _ _ ?_
      refine st_val (.tuple #[.agg p.cells, .bool true]) (wanted_free rfl) (by exact rMove (x := .tmp 45) rfl) ?_
      refine st_val (.agg p.cells) (wanted_free rfl) (by exact rExtract (x := .tmp 39) rfl (kExt0 _ _)) ?_
      refine st_val (.bool true) (wanted_free rfl) (by exact rExtract (x := .tmp 39) rfl (kExt1 _ _)) ?_
      refine st_alloc (wanted_free rfl) rfl (by exact kAllocP _) ?_
      refine wp_store_pkt (g := w5.heap.size) p zeroP rfl rfl rfl rfl (by exact heap_new _ _) hpc.out hps.out ?_
      intro w6 HP6 t
      refine st_val (.bool true) (wanted_free rfl) (by exact rAssign (x := .tmp 47) rfl) ?_
      refine wpList_nil ?_
      simp only [Exit.then, Act.put, List.setIfInBounds_toArray, List.set_cons_zero, List.set_cons_succ]
      have HW6 : Hid (Below w5.heap.size w5 w6) := (Below.alloc (Below.refl _ _) (Nat.le_refl _) _).trans (t.toBelow (by simp) (fun k hk e => by omega))
      clear t hK
      have HB6 : Hid (Below wr.heap.size wr w6) := HB5.out.trans (HW6.out.mono HB5.out.size)
      have HPR6 := Lib.hid (HP.out.keep HB6.out)
      have HA6 := Lib.hid (HA.out.keep HB6.out)
      have HOC6 : Hid (OwnInts w6 w.heap.size 3 .i64 p.codes C) := HOC.out.turn (Turn.of_below (S := fun _ => False) HW6.out) (fun _ _ h => h)
      have HOS6 : Hid (w6.ownsRow w.heap.size 76 2 p.subs D.length (subCells D)) := own_turn HOS.out (Turn.of_below (S := fun _ => False) HW6.out) (fun _ _ h => h)
      have HBw6 : Hid (Below w.heap.size w w6) := HB.out.trans (HB6.out.mono HB.out.size)
      have HPK6 := Lib.hid HP6
      obtain ⟨b8, hb8⟩ : ∃ b8, Hid (b8 = w5.heap.size) := ⟨_, rfl⟩
      rw [← hb8.out] at HPK6 ⊢
      clear HP6
      go_upto_region 13 with (fail)
      rename_i hKont
      refine wp_region_lit ?_
      refine st_val (.slice Ao ps.length co) (wanted_free rfl) (by exact rMove (x := .tmp 7) rfl) ?_
      refine wp_load_pkt (p := p) rfl rfl (by rfl) HPK6.out ?_
      refine st_any (.slice (some ⟨w6.heap.size, 0, none⟩) 1 1) (wanted_free rfl) (by exact rBuildS rfl (by exact kBuildS p)) ?_
      refine wp_append_pkt (W := w6.alloc (.cells p.cells PT)) w.heap.size rfl _ _ rfl (.slice Ao ps.length co) ps (p, C, D) w6.heap.size rfl rfl (heap_new _ _) (HPR6.out.keep ((Below.refl _ _).alloc (Nat.le_refl _) _)) (own_alloc HOC6.out _) (own_turn HOS6.out (Turn.alloc (S := fun _ => False) w6 _) (fun _ _ h => h)) (Nat.le_trans HBw6.out.size (by simp)) (by have := hLen.out; have := hlb.out; omega) ?_
      intro A7 n7 c7 w7 hp7 ht7
      have hn7 : n7 = (ps ++ [((p, C, D) : PkX)]).length := own_len hp7.row
      subst hn7
      have HP7 := Lib.hid hp7
      have hjo : ∀ j, (Value.slice Ao ps.length co).ownBlock = some j → w.heap.size ≤ j := fun j hj => (own_block_ge HPR6.out.row j hj).1
      have T67 : Turn (fun j => (Value.slice Ao ps.length co).ownBlock = some j) w6 w7 := (Turn.alloc w6 _).trans ht7
      have HB7 : Hid (Below w.heap.size w w7) := T67.belowTrans HBw6.out HBw6.out.size (fun j hj e => by have := hjo j e; omega)
      have HA7 : Hid (At11 w7 (some x) c1 Rc) := by
        refine ⟨?_, HA.out.len, HA.out.cap, HA.out.none_, HA.out.bytes⟩
        exact HNEW.out w7 HB7.out
      refine st_val (.slice A7 (ps ++ [((p, C, D) : PkX)]).length c7) (wanted_free rfl) (by exact rAssign (x := .tmp 54) rfl) ?_
      refine wpList_nil (hKont _ _ ?_)
      simp only [Act.put, List.setIfInBounds_toArray, List.set_cons_zero, List.set_cons_succ]
      clear hKont hp7 ht7 hjo T67
      clear hn0 hk2
      go_wp2_with (fail)
      go_roundw
      case rel =>
        refine ⟨if c1 = m then some x else some (x.add m), c1 - m, Rc.drop m, A7, c7, Ls ++ [Rc.take m], ps ++ [(p, C, D)], f', by rw [List.length_drop], ?_, rfl, ?_, HP7, told_snoc (x := (p, C, D)) HTo.out HI.out, HB7, ?_, ?_, ?_⟩
        · exact Lib.hid fun W' b => ((At11.mk (HNEW.out W' b) HA.out.len HA.out.cap HA.out.none_ HA.out.bytes).drop m hmR).reads
        · exact HA7.out.drop m hmR
        · rw [Hid, HCu.out, cuts_inl HIP.out, List.append_assoc]; rfl
        · have := hf.out; rw [Hid, List.length_drop]; omega
        · have := hLen.out; rw [Hid, List.length_drop, List.length_append]; simp; omega
      case measure =>
        simp [Pk.rowLen]; omega

set_option maxHeartbeats 1000000 in
theorem both_calls (w : World) (A B : Option Addr) (c d : Nat) (X M : List Int) (hA : At11 w A c X) (hB : At11 w B d M) (hl : X.length + M.length ≤ 50000) : Calls Tryd.prog 29 #[.slice A X.length c, .slice B M.length d] w fun e w' => GivesBytes w (X ++ M) e w' := by
  have HA := Lib.hid hA
  have HB := Lib.hid hB
  have hl1 : (X.length : Int) ≤ 50000 := by omega
  have hl2 : (M.length : Int) ≤ 50000 := by omega
  clear hA hB
  go_enter Tryd.func29, Tryd.ntmps29
  go_wp2_with (at_builtin; go_must (refine wp_append_row (W := w) w.heap.size rfl _ _ 22 5 .u8 1 rfl Tryd.underlying22 Var.info_byte _ [] X A c rfl rfl HA.out.none_ HA.out.reads (OwnInts.nil _ _ _ _) (Nat.le_refl _) (by first | (simp; done) | (simp; omega)) ?_))
  intro A1 c1 w1 ho1 ht1
  try rw [List.nil_append] at ho1
  try simp only [List.nil_append]
  have HO1 := Lib.hid ho1
  have HB1 : Hid (Below w.heap.size w w1) := ht1.toBelow (Nat.le_refl _) (fun j hj e => by cases e)
  clear ho1 ht1
  go_wp2_with (at_builtin; go_must (refine wp_append_row (W := w1) w.heap.size rfl _ _ 22 5 .u8 1 rfl Tryd.underlying22 Var.info_byte (.slice A1 X.length c1) X M B d rfl rfl HB.out.none_ (HB.out.reads.keep HB1.out) HO1.out HB1.out.size (by omega) ?_))
  intro A2 c2 w2 ho2 ht2
  simp only [← List.length_append] at ho2 ⊢
  have HO2 := Lib.hid ho2
  have HB2 : Hid (Below w.heap.size w w2) := ht2.belowTrans HB1.out HB1.out.size (fun j hj e => by have := (own_block_ge HO1.out j e).1; omega)
  clear ho2 ht2
  go_wp2_with (fail)
  go_ret
  exact ⟨A2, c2, rfl, HO2.out, HB2.out⟩

def PkReadsO (w : World) (A : Option Addr) (o : Nat) (ps : List PkX) : Prop := ∀ i (hi : i < ps.length), ∃ g, A = some ⟨g, o, none⟩ ∧ (∀ j v, ps[i].1.cells.toList[j]? = some v → w.cell? ⟨g, o + i * 18 + j, none⟩ = some v) ∧ Lies w ps[i].1 ps[i].2.1 ps[i].2.2
theorem PkReadsO.keep {w w' : World} {A : Option Addr} {o : Nat} {ps : List PkX} (h : PkReadsO w A o ps) (b : Below w.heap.size w w') : PkReadsO w' A o ps := by
  intro i hi
  obtain ⟨g, hA, hc, hl⟩ := h i hi
  refine ⟨g, hA, fun j v hj => ?_, hl.keep b⟩
  have := hc j v hj
  rw [b.cell (World.block_lt_of_cell? w _ this)]; exact this
theorem rLoadRowO {ev : Operand → Value} {op : Oper} {x : Operand} {W : World} {g i o : Nat} {p : Pkt} (ho : op.op = .load PT x) (hx : ev x = .pointer (some ⟨g, o + i * 18, none⟩)) (h : ∀ j v, p.cells.toList[j]? = some v → W.cell? ⟨g, o + i * 18 + j, none⟩ = some v) : (execOp ev op).run Tryd.prog W = .ok (.value (.agg p.cells)) W :=
  rLoad ho (by
    rw [hx]
    have := load_agg W PT ⟨g, o + i * 18, none⟩ p.cells.toList (by kernel_rfl) (by kernel_rfl) (fun j v hj => by have := h j v hj; by_cases h0 : j = 0 <;> simpa [Addr.add, h0] using this)
    simpa using this)

set_option maxRecDepth 100000 in
set_option maxHeartbeats 2000000 in
theorem rows_calls2 (w : World) (A B : Option Addr) (c d n m : Nat) (ps qs : List PkX) (hn : n = ps.length) (hm : m = qs.length) (hP : PkReads w A ps) (o : Nat) (hQ : PkReadsO w B o qs) (hcn : ps.length ≤ c) (hdm : qs.length ≤ d) (hl : (ps.length : Int) ≤ 1000000000) (hS : Alike ps qs) :
    Calls Tryd.prog 31 #[.slice A n c, .slice B m d] w fun e w' => e = .returned (.bool true) ∧ Below w.heap.size w w' := by
  subst hn hm
  have HP := Lib.hid hP
  have HQ := Lib.hid hQ
  have HS := Lib.hid hS
  have hne : ((ps.length : Int) != (qs.length : Int)) = false := by rw [hS.len]; simp
  have hlen : Hid (ps.length = qs.length) := hS.len
  clear hP hQ hS
  obtain ⟨k0, hk0⟩ : ∃ k0, Hid (k0 = ps.length) := ⟨_, rfl⟩
  go_enter Tryd.func31, Tryd.ntmps31
  go_wp2_with (fail)
  clear hne
  go_loopw [5] (fun iv wr => ∃ k : Nat, k ≤ ps.length ∧ iv = .int .i64 k ∧ Hid (Below w.heap.size w wr)) (fun iv _ => ps.length - (intOf iv).toNat)
  case atStart => exact ⟨0, Nat.zero_le _, rfl, Below.refl _ _⟩
  case round =>
    obtain ⟨k, hk, rfl, hB⟩ := hrel
    have hkb : (k : Int) ≤ 1000000000 := by omega
    by_cases hkl : k < ps.length
    · have hkm : k < qs.length := by have := hlen.out; omega
      obtain ⟨g, rfl, hc1, hL1⟩ := (HP.out.keep hB.out) k hkl
      obtain ⟨g2, rfl, hc2, hL2⟩ := (HQ.out.keep hB.out) k hkm
      have hsm := HS.out.same k hkl hkm
      have hcc := HS.out.codes _ (List.getElem_mem hkl)
      have hdd := HS.out.subs _ (List.getElem_mem hkl)
      obtain ⟨⟨p, C, D⟩, hx⟩ : ∃ x, Hid (x = ps[k]) := ⟨ps[k], by rw [Hid]⟩
      obtain ⟨⟨q, C', D'⟩, hy⟩ : ∃ x, Hid (x = qs[k]) := ⟨qs[k], by rw [Hid]⟩
      rw [← hx.out] at hc1 hL1 hsm hcc hdd
      rw [← hy.out] at hc2 hL2 hsm
      have HC1 := Lib.hid hc1
      have HC2 := Lib.hid hc2
      have HL1 := Lib.hid hL1
      have HL2 := Lib.hid hL2
      have HSM : Hid (SameP p q C C' D D') := hsm
      have HCD : Hid ((C.length : Int) ≤ 2000000 ∧ (D.length : Int) ≤ 2000000) := ⟨hcc, hdd⟩
      clear hc1 hc2 hL1 hL2 hsm hcc hdd
      have HK : Hid (∀ W', Turn (fun _ => False) wr W' → (∀ j v, p.cells.toList[j]? = some v → W'.cell? ⟨g, k * 18 + j, none⟩ = some v) ∧ (∀ j v, q.cells.toList[j]? = some v → W'.cell? ⟨g2, o + k * 18 + j, none⟩ = some v)) := Lib.hid fun W' t => ⟨fun j v hj => t.cell (HC1.out j v hj) (fun h => h), fun j v hj => t.cell (HC2.out j v hj) (fun h => h)⟩
      have HT0 : Hid (Turn (fun _ => False) wr wr.drew) := Turn.drew (Turn.refl _ _)
      have HBD : Hid (Below wr.heap.size wr wr.drew) := HT0.out.toBelow (Nat.le_refl _) (fun _ _ h => h)
      go_wp2_with (fail)
      refine wp_region_held_drew (S := (fun W' => Hid ((∀ j v, p.cells.toList[j]? = some v → W'.cell? ⟨g, k * 18 + j, none⟩ = some v) ∧ (∀ j v, q.cells.toList[j]? = some v → W'.cell? ⟨g2, o + k * 18 + j, none⟩ = some v)))) (by kernel_rfl) (by first | exact HK.out _ HT0.out | exact HK.out _ HT4.out) (fun hHeld => ?_)
      refine wpAnyH_take (i := 0) (oi := ⟨_, _, _, _, _, _⟩) (v := ?_) rfl (by kernel_rfl) (by kernel_rfl) (by kernel_rfl) (fun _ _ _ h => h) (Or.inl ⟨by kernel_rfl, ?_⟩) hHeld ?_
      rotate_left
      · (intro w hSw; have s12 := hSw.out; clear hSw; go_simp; try with_reducible rfl)
      simp only [Act.put, List.setIfInBounds_toArray, List.set_cons_zero, List.set_cons_succ]
      refine wpAnyH_take (i := 1) (oi := ⟨_, _, _, _, _, _⟩) (v := ?_) rfl (by kernel_rfl) (by kernel_rfl) (by kernel_rfl) (fun _ _ _ h => h) (Or.inl ⟨by kernel_rfl, ?_⟩) hHeld ?_
      rotate_left
      · (intro w hSw; have s12 := hSw.out; clear hSw; go_simp; try with_reducible rfl)
      simp only [Act.put, List.setIfInBounds_toArray, List.set_cons_zero, List.set_cons_succ]
      refine wpAnyH_take (i := 2) (oi := ⟨_, _, _, _, _, _⟩) (v := ?_) rfl (by kernel_rfl) (by kernel_rfl) (by kernel_rfl) (fun _ _ _ h => h) (Or.inl ⟨by kernel_rfl, ?_⟩) hHeld ?_
      rotate_left
      · (intro w hSw; have s12 := hSw.out; clear hSw; go_simp; try with_reducible rfl)
      simp only [Act.put, List.setIfInBounds_toArray, List.set_cons_zero, List.set_cons_succ]
      refine wpAnyH_take (i := 3) (oi := ⟨_, _, _, _, _, _⟩) (v := .agg p.cells) rfl (by kernel_rfl) (by kernel_rfl) (by kernel_rfl) (fun _ _ _ h => h) (Or.inl ⟨by kernel_rfl, ?_⟩) hHeld ?_
      · (intro w hSw; have s12 := hSw.out; clear hSw; exact rLoadRow (i := k) (g := g) (p := p) rfl (by with_unfolding_all rfl) s12.1)
      simp only [Act.put, List.setIfInBounds_toArray, List.set_cons_zero, List.set_cons_succ]
      refine wpAnyH_take (i := 4) (oi := ⟨_, _, _, _, _, _⟩) (v := ?_) rfl (by kernel_rfl) (by kernel_rfl) (by kernel_rfl) (fun _ _ _ h => h) (Or.inl ⟨by kernel_rfl, ?_⟩) hHeld ?_
      rotate_left
      · (intro w hSw; have s12 := hSw.out; clear hSw; go_simp; try with_reducible rfl)
      simp only [Act.put, List.setIfInBounds_toArray, List.set_cons_zero, List.set_cons_succ]
      refine wpAnyH_take (i := 5) (oi := ⟨_, _, _, _, _, _⟩) (v := ?_) rfl (by kernel_rfl) (by kernel_rfl) (by kernel_rfl) (fun _ _ _ h => h) (Or.inl ⟨by kernel_rfl, ?_⟩) hHeld ?_
      rotate_left
      · (intro w hSw; have s12 := hSw.out; clear hSw; go_simp; try with_reducible rfl)
      simp only [Act.put, List.setIfInBounds_toArray, List.set_cons_zero, List.set_cons_succ]
      refine wpAnyH_take (i := 6) (oi := ⟨_, _, _, _, _, _⟩) (v := ?_) rfl (by kernel_rfl) (by kernel_rfl) (by kernel_rfl) (fun _ _ _ h => h) (Or.inl ⟨by kernel_rfl, ?_⟩) hHeld ?_
      rotate_left
      · (intro w hSw; have s12 := hSw.out; clear hSw; go_simp; try with_reducible rfl)
      simp only [Act.put, List.setIfInBounds_toArray, List.set_cons_zero, List.set_cons_succ]
      refine wpAnyH_take (i := 7) (oi := ⟨_, _, _, _, _, _⟩) (v := .agg q.cells) rfl (by kernel_rfl) (by kernel_rfl) (by kernel_rfl) (fun _ _ _ h => h) (Or.inl ⟨by kernel_rfl, ?_⟩) hHeld ?_
      · (intro w hSw; have s12 := hSw.out; clear hSw; exact rLoadRowO (i := k) (o := o) (g := g2) (p := q) rfl (by with_unfolding_all rfl) s12.2)
      simp only [Act.put, List.setIfInBounds_toArray, List.set_cons_zero, List.set_cons_succ]
      refine wpAnyH_ready (rs := [8]) (by kernel_rfl) (by simp) ?_
      refine AllReadyH.cons rfl (fun K hK => ?_) AllReadyH.nil
      go_simp
      go_wp2_with (go_at_call 18; refine (same_calls _ p q C C' D D' (HL1.out.keep HBD.out) (HL2.out.keep HBD.out) HCD.out.1 HCD.out.2).mono ?_; rw [decide_eq_true HSM.out]; rintro e w4 ⟨rfl, hb4⟩; have HT4 : Hid (Turn (fun _ => False) wr w4) := HT0.out.trans (Turn.of_below hb4); clear hb4)
      refine hK.out _ _ (by first | exact HK.out _ HT0.out | exact HK.out _ HT4.out) (fun hHeld => ?_)
      clear hK K
      refine wpAnyH_take (i := 9) (oi := ⟨_, _, _, _, _, _⟩) (v := ?_) rfl (by kernel_rfl) (by kernel_rfl) (by kernel_rfl) (fun _ _ _ h => h) (Or.inl ⟨by kernel_rfl, ?_⟩) hHeld ?_
      rotate_left
      · (intro w hSw; have s12 := hSw.out; clear hSw; go_simp; try with_reducible rfl)
      simp only [Act.put, List.setIfInBounds_toArray, List.set_cons_zero, List.set_cons_succ]
      refine wpAnyH_done (by kernel_rfl) ?_ _
      go_wp2_with (fail)
      go_roundw
      case rel => exact ⟨k + 1, by omega, by go_num, hB.out.trans (HT4.out.toBelow hB.out.size (fun _ _ h => h))⟩
      case measure => simp [intOf]; omega
    · go_wp2_with (fail)
      go_ret
      exact ⟨rfl, hB.out⟩


theorem PkReads.drop {w : World} {g : Nat} {ps : List PkX} (h : PkReads w (some ⟨g, 0, none⟩) ps) (t : Nat) : PkReadsO w (some ⟨g, t * 18, none⟩) (t * 18) (ps.drop t) := by
  intro i hi
  rw [List.length_drop] at hi
  obtain ⟨g', hA, hc, hl⟩ := h (t + i) (by omega)
  cases hA
  have he : (ps.drop t)[i]'(by rw [List.length_drop]; exact hi) = ps[t + i]'(by omega) := by simp
  refine ⟨g, rfl, fun j v hj => ?_, by rw [he]; exact hl⟩
  rw [he] at hj
  have := hc j v hj
  rw [← this]; congr 2; omega
end Str
end Go.Proofs.YteigakkghkjakaaDoor

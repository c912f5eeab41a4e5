/- stream: the object; New, fail, Left, next. -/
import Derived.Test.YteigakkghkjakaaDoorStA
import Derived.Test.YteigakkghkjakaaDoorPlR
namespace Go.Proofs.YteigakkghkjakaaDoor
open Go.RowKit Go.ChangeShapes
set_option linter.unusedVariables false
set_option linter.unusedSimpArgs false
namespace Str
open Utf (nums nums_length nums_bytes IsStr nums_str)
open Var (BT info_byte digs digs_length tell RetTell)
open Pk

abbrev ST : TypeId := 89
def stCells (most br : Int) (A : Option Addr) (n c : Nat) : Array Value := #[.int .i64 most, .slice A n c, .int .i64 br]
/-- Block s is a stream: of most bytes a packet, broken by br, with the bytes R in no packet yet; these lie in a block of its own, from B to below E. -/
def StAt (w : World) (s B E : Nat) (most br : Int) (R : List Int) : Prop := ∃ A c, w.heap[s]? = some (.cells (stCells most br A R.length c) ST (0, 0)) ∧ R.length ≤ c ∧ c ≤ 9223372036854775807 ∧ (A = none → c = 0) ∧ Reads .u8 w A R ∧ (∀ x, A = some x → x.block ≠ s ∧ B ≤ x.block ∧ x.block < E) ∧ ∀ x ∈ R, 0 ≤ x ∧ x < 256
theorem StAt.lt {w : World} {s B E : Nat} {most br : Int} {R : List Int} (h : StAt w s B E most br R) : s < w.heap.size := by obtain ⟨A, c, h1, _⟩ := h; exact heap_lt h1
theorem StAt.low {w : World} {s B B' E E' : Nat} {most br : Int} {R : List Int} (h : StAt w s B E most br R) (hB : B' ≤ B) (hE : E ≤ E') : StAt w s B' E' most br R := by
  obtain ⟨A, c, h1, h2, h3, h4, h5, h6, h7⟩ := h
  exact ⟨A, c, h1, h2, h3, h4, h5, fun x hx => ⟨(h6 x hx).1, Nat.le_trans hB (h6 x hx).2.1, Nat.lt_of_lt_of_le (h6 x hx).2.2 hE⟩, h7⟩
/-- What is done elsewhere, in blocks below B. -/
theorem StAt.turn {w w' : World} {s B E : Nat} {most br : Int} {R : List Int} {S : Nat → Prop} (h : StAt w s B E most br R) (t : Turn S w w') (hs : ¬ S s) (hB : ∀ k, B ≤ k → k < E → ¬ S k) : StAt w' s B E most br R := by
  obtain ⟨A, c, h1, h2, h3, h4, h5, h6, h7⟩ := h
  exact ⟨A, c, (t.block s (heap_lt h1) hs).trans h1, h2, h3, h4, reads_turn h5 t (fun x hx => hB _ (h6 x hx).2.1 (h6 x hx).2.2), h6, h7⟩
theorem StAt.keep {w w' : World} {s B E : Nat} {most br : Int} {R : List Int} (h : StAt w s B E most br R) (b : Below w.heap.size w w') : StAt w' s B E most br R :=
  h.turn (Turn.of_below (S := fun _ => False) b) (fun h => h) (fun _ _ _ h => h)
theorem st_nil {w : World} {s B E : Nat} {most br : Int} (h : w.heap[s]? = some (.cells (stCells most br none 0 0) ST (0, 0))) : StAt w s B E most br [] :=
  ⟨none, 0, h, Nat.le_refl _, by decide, fun _ => rfl, fun h => absurd h (by simp), fun x h => (by cases h), by simp⟩

def NewPost (w : World) (most : Int) (e : Ending) (w' : World) : Prop :=
    (2 ≤ most ∧ most ≤ 268435460 ∧ e = .returned (.tuple #[.pointer (some ⟨w.heap.size, 0, none⟩), .int .i64 0]) ∧ Below w.heap.size w w' ∧ StAt w' w.heap.size (w.heap.size + 1) (w.heap.size + 1) most 0 []) ∨ (¬ (2 ≤ most ∧ most ≤ 268435460) ∧ e = .returned (.tuple #[.pointer none, .int .i64 1]) ∧ w' = w)
set_option maxRecDepth 100000 in
set_option maxHeartbeats 1000000 in
/-- New. -/
theorem new_calls (w : World) (most : Int) : Calls Tryd.prog 25 #[.int .i64 most] w fun e w' => NewPost w most e w' := by
  by_cases h1 : most < 2
  · have hd := decide_eq_true h1
    go_enter Tryd.func25, Tryd.ntmps25
    go_wp2_with (fail)
    go_ret2
    exact .inr ⟨by omega, rfl, rfl⟩
  · have hd := decide_eq_false h1
    by_cases h2 : 268435460 < most
    · have hd2 := decide_eq_true h2
      go_enter Tryd.func25, Tryd.ntmps25
      go_wp2_with (fail)
      go_ret2
      exact .inr ⟨by omega, rfl, rfl⟩
    · have hd2 := decide_eq_false h2
      go_enter Tryd.func25, Tryd.ntmps25
      go_wp2_with (fail)
      go_ret2
      exact .inl ⟨by omega, by omega, rfl, (Below.refl _ _).alloc (Nat.le_refl _) _, none, 0, heap_new _ _, Nat.le_refl _, by decide, fun _ => rfl, fun h => absurd h (by simp), fun x h => (by cases h), by simp⟩

set_option maxRecDepth 100000 in
set_option maxHeartbeats 1000000 in
theorem left_calls (w : World) (s B E : Nat) (most br : Int) (R : List Int) (h : StAt w s B E most br R) : Calls Tryd.prog 28 #[.pointer (some ⟨s, 0, none⟩)] w fun e w' => e = .returned (.int .i64 R.length) ∧ w = w' := by
  obtain ⟨A, c, h1, _⟩ := h
  have k1 : w.cell? ⟨s, 1, none⟩ = some (.slice A R.length c) := cell_heap h1
  clear h1
  go_enter Tryd.func28, Tryd.ntmps28
  go_wp2_with (fail)
  go_ret
  exact ⟨rfl, rfl⟩
set_option maxRecDepth 100000 in
set_option maxHeartbeats 1000000 in
theorem left_nil (w : World) : Calls Tryd.prog 28 #[.pointer none] w fun e w' => e = .returned (.int .i64 0) ∧ w = w' := by
  go_enter Tryd.func28, Tryd.ntmps28
  go_wp2_with (fail)
  go_ret
  exact ⟨rfl, rfl⟩

set_option maxRecDepth 100000 in
set_option maxHeartbeats 1000000 in
theorem fail_calls (w : World) (s B E : Nat) (most br e0 : Int) (R : List Int) (h : StAt w s B E most br R) : Calls Tryd.prog 82 #[.pointer (some ⟨s, 0, none⟩), .int .i64 e0] w fun e w' => e = .returned (.tuple #[]) ∧ Turn (fun k => k = s) w w' ∧ w'.heap[s]? = some (.cells (stCells most e0 none 0 0) ST (0, 0)) := by
  obtain ⟨A, c, h1, _⟩ := h
  have H1 := Lib.hid h1
  have k1 : w.cell? ⟨s, 1, none⟩ = some (.slice A R.length c) := cell_heap h1
  have k2 : w.cell? ⟨s, 2, none⟩ = some (.int .i64 br) := cell_heap h1
  have f1 : w.frozen? ⟨s, 1, none⟩ = false := frozen_heap h1
  have f2 : w.frozen? ⟨s, 2, none⟩ = false := frozen_heap h1
  clear h1
  go_enter Tryd.func82, Tryd.ntmps82
  go_wp2_with (fail)
  go_end0
  have e1 := heap_set_same w s 2 (.int .i64 e0) H1.out
  have e2 := heap_set_same _ s 1 (.slice none 0 0) e1
  exact ⟨rfl, (Turn.setCell (S := fun k => k = s) w (p := ⟨s, 2, none⟩) _ rfl).trans (Turn.setCell (S := fun k => k = s) _ (p := ⟨s, 1, none⟩) _ rfl), e2⟩

/-- What the next packet's bytes are, of those that came: how many; or none, and what broke the stream (0: nothing). -/
def stepS (most : Int) (R : List Int) (ok : List Int → Prop) [DecidablePred ok] : Sum Nat Int :=
  match tell 4 true R 1 0 1 with
  | (n, k, er) =>
    if er = 4 then .inr 100 else if er ≠ 0 then .inr 0 else if most < k + n then .inr 101 else if (R.length : Int) < k + n then .inr 0
    else if ok (R.take (k + n).toNat) then .inl (k + n).toNat else .inr 100
/-- The bytes are a packet's. -/
def IsP (L : List Int) : Prop := ∃ p C D, IsPkt L p C D
noncomputable instance : DecidablePred IsP := fun _ => Classical.propDecidable _

def NextPost (w : World) (s B E : Nat) (most : Int) (R : List Int) (e : Ending) (w' : World) : Prop :=
  Turn (fun k => k = s) w w' ∧ ((∃ n p C D, stepS most R IsP = .inl n ∧ n ≤ R.length ∧ IsPkt (R.take n) p C D ∧ e = .returned (.tuple #[.agg p.cells, .bool true]) ∧ StAt w' s B E most 0 (R.drop n) ∧ OwnInts w' w.heap.size 3 .i64 p.codes C ∧ w'.ownsRow w.heap.size 76 2 p.subs D.length (subCells D)) ∨
    (∃ c, stepS most R IsP = .inr c ∧ e = .returned (.tuple #[.agg zeroP.cells, .bool false]) ∧ StAt w' s B E most c (if c = 0 then R else [])))

theorem next_results (W : World) (v : Nat) (p : Pkt) (b : Bool) (tmps : Array Value) (hv : tmps.getD 2 undef = .pointer (some ⟨v, 0, none⟩)) (hn : tmps.getD 3 undef = .bool b) (h : PkAt W v p) : (results Tryd.f58 tmps).run Tryd.prog W = .ok (.tuple #[.agg p.cells, .bool b]) W := by
  have hl := load_pkt W v p h
  unfold Instr.loadAt at hl
  simp only [Instr.sureAddr, Sem.run_bind, Sem.run_pure, Result.andThen_ok] at hl
  simp only [results, Tryd.results58]
  have hv' : tmps[2]?.getD undef = .pointer (some ⟨v, 0, none⟩) := by rw [← hv]; simp
  have hn' : tmps[3]?.getD undef = .bool b := by rw [← hn]; simp
  simp [hv', hn', asAddr, hl]

set_option maxRecDepth 100000 in
set_option maxHeartbeats 2000000 in
theorem next_calls (w : World) (hT : Lib.Utf8Tabs 0 1 w) (s B E : Nat) (hE : E ≤ w.heap.size) (most : Int) (R : List Int) (h : StAt w s B E most 0 R) (hs2 : 2 ≤ s) (hm : most ≤ 268435460) (hl : R.length ≤ 900000000) : Calls Tryd.prog 58 #[.pointer (some ⟨s, 0, none⟩)] w fun e w' => NextPost w s B E most R e w' := by
  have hmf : ∀ (fn : Fn) (first cap : Array Value) (w : World), (Instr.makeFunc fn first cap).run Tryd.prog w = .ok (.func fn first cap) w := fun _ _ _ _ => rfl
  have H := Lib.hid h
  obtain ⟨A, c, h1, h2, h3, h4, h5, h6, h7⟩ := h
  obtain ⟨v, hv⟩ : ∃ v, Hid (v = w.heap.size) := ⟨_, rfl⟩
  obtain ⟨W, hW⟩ : ∃ W, Hid (W = w.alloc (.cells zeroC PT)) := ⟨_, rfl⟩
  have HB : Hid (Below w.heap.size w W) := by rw [hW.out]; exact (Below.refl _ _).alloc (Nat.le_refl _) _
  have HV : Hid (PkAt W v zeroP) := by rw [hW.out, hv.out]; exact heap_new _ _
  have hslt := heap_lt h1
  have hsv : Hid (s ≠ v) := by rw [hv.out]; exact Nat.ne_of_lt hslt
  have HW : Hid (StAt W s B E most 0 R) := H.out.keep HB.out
  have g1 : W.heap[s]? = some (.cells (stCells most 0 A R.length c) ST (0, 0)) := by rw [HB.out.block _ hslt]; exact h1
  have G1 := Lib.hid g1
  have k0 : W.cell? ⟨s, 0, none⟩ = some (.int .i64 most) := cell_heap g1
  have k1 : W.cell? ⟨s, 1, none⟩ = some (.slice A R.length c) := cell_heap g1
  have f1 : W.frozen? ⟨s, 1, none⟩ = false := frozen_heap g1
  have HR : Hid (Reads .u8 W A R) := h5.keep HB.out
  have H7 := Lib.hid h7
  have H6 := Lib.hid h6
  have H4 := Lib.hid h4
  have hlen : (R.length : Int) ≤ 900000000 := by omega
  have HAT := Lib.hid (Var.at_calls W A R c h2 HR.out h7 (by omega) 1 (by decide) (by decide))
  obtain ⟨⟨n, k, er⟩, hTe⟩ : ∃ T, Hid (T = tell 4 true R 1 0 1) := ⟨_, rfl⟩
  have HST : Hid (stepS most R IsP = (if er = 4 then .inr 100 else if er ≠ 0 then .inr 0 else if most < k + n then .inr 101 else if (R.length : Int) < k + n then .inr 0 else if IsP (R.take (k + n).toNat) then .inl (k + n).toNat else .inr 100)) := by
    rw [Hid, stepS, ← hTe.out]
  rw [← hTe.out] at HAT
  have HINV : Hid ((er = 0 ∧ 0 ≤ n ∧ n < 268435456 ∧ 2 ≤ k ∧ k ≤ 5) ∨ er = 4 ∨ er = 7) := by
    rcases Var.tell_inv 3 true R 1 0 1 h7 with ⟨m, h0, hm', _, ht, _, _⟩ | ⟨e, he, ht⟩
    · have h8 := hTe.out
      have ht' : tell 4 true R 1 0 1 = (0 + 1 * m, ((1 : Nat) : Int) + (digs 3 m).length, 0) := ht
      rw [ht'] at h8
      injection h8 with e0 h8
      injection h8 with e1 e2
      have h9 := digs_length 3 m
      have h10 : (128 : Int) ^ (3 + 1) = 268435456 := by decide
      rw [h10] at hm'
      exact .inl ⟨e2, by omega, by omega, by omega, by omega⟩
    · have h8 := hTe.out
      have ht' : tell 4 true R 1 0 1 = (0, 0, e) := ht
      rw [ht'] at h8
      injection h8 with e0 h8
      injection h8 with e1 e2
      rw [e2]
      exact .inr he
  have HT1 : Hid (Lib.Utf8Tabs 0 1 W) := Utf.tabs_keep hT HB.out
  have HT0 : Hid (Turn (fun k => k = s) w W) := Turn.of_below HB.out
  clear h1 h4 h5 h6 h7 g1 hT
  have GO : Hid (∀ {id : Nat}, True) := fun {_} => trivial
  clear GO
  have finF : Hid (∀ (W' Wf : World) (c : Int), c ≠ 0 → W'.heap[s]? = some (.cells (stCells most c none 0 0) ST (0, 0)) → Turn (fun k => k = s) w W' → Turn (fun k => k = v) W' Wf → stepS most R IsP = .inr c → NextPost w s B E most R (.returned (.tuple #[.agg zeroP.cells, .bool false])) Wf) := by
    intro W' Wf c hc hS ht tf hst
    refine ⟨ht.then tf (fun i hi e => by have := hv.out; omega), .inr ⟨c, hst, rfl, ?_⟩⟩
    rw [if_neg hc]
    exact st_nil ((tf.block s (heap_lt hS) (fun e => hsv.out e)).trans hS)
  have fin0 : Hid (∀ (W' Wf : World), Turn (fun _ => False) w W' → Turn (fun k => k = v) W' Wf → stepS most R IsP = .inr 0 → NextPost w s B E most R (.returned (.tuple #[.agg zeroP.cells, .bool false])) Wf) := by
    intro W' Wf ht tf hst
    have t2 : Turn (fun k => k = v) w Wf := (ht.mono (fun _ _ h => False.elim h)).trans tf
    refine ⟨(ht.mono (fun _ _ h => False.elim h)).then tf (fun i hi e => by have := hv.out; omega), .inr ⟨0, hst, rfl, ?_⟩⟩
    rw [if_pos rfl]
    exact H.out.turn t2 (fun e => hsv.out e) (fun k _ hk e => by have := hv.out; omega)
  go_enter Tryd.func58, Tryd.ntmps58
  go_upto_region 1 with (fail)
  rw [← hW.out, ← hv.out]
  go_wp2_with (fail)
  refine HAT.out.mono ?_
  rintro e w' ⟨rfl, rfl⟩
  rcases HINV.out with ⟨rfl, hn0, hn1, hk2, hk5⟩ | rfl | rfl
  · by_cases hbig : most < k + n
    · have hd := decide_eq_true hbig
      have HS101 : Hid (stepS most R IsP = .inr 101) := by rw [Hid, HST.out, if_neg (by decide), if_neg (by decide), if_pos hbig]
      clear hbig
      go_wp2_with (fail)
      refine (fail_calls W s B E most 0 101 R HW.out).mono ?_
      rintro e w2 ⟨rfl, ht2, hs2⟩
      have HT2 := Lib.hid ht2
      have HS2 := Lib.hid hs2
      have HV2 := Lib.hid (HV.out.keep ht2 (fun e => hsv.out e.symm))
      clear ht2 hs2
      go_upto_region 10 with (fail)
      rename_i hKont
      refine wp_region_lit (st_val (.agg zeroP.cells) (wanted_free rfl) (by exact rBuild0 rfl kBuildZ) ?_)
      refine wp_store_pkt (g := v) zeroP zeroP rfl rfl (by rfl) (by rfl) HV2.out rfl rfl ?_
      intro Wf HPf tf
      refine st_val (.bool false) (wanted_free rfl) (by exact rAssign (x := .const (.bool false)) rfl) ?_
      refine wpList_nil (hKont _ _ (wp_ret ?_))
      exact ⟨rfl, _, next_results Wf v zeroP false _ rfl rfl HPf.out, finF.out w2 Wf 101 (by decide) HS2.out (HT0.out.trans HT2.out) tf HS101.out⟩
    have hd := decide_eq_false hbig
    by_cases hmore : (R.length : Int) < k + n
    · have hd2 := decide_eq_true hmore
      have HS0 : Hid (stepS most R IsP = .inr 0) := by rw [Hid, HST.out, if_neg (by decide), if_neg (by decide), if_neg hbig, if_pos hmore]
      clear hbig hmore
      go_upto_region 12 with (fail)
      rename_i hKont
      refine wp_region_lit (st_val (.agg zeroP.cells) (wanted_free rfl) (by exact rBuild0 rfl kBuildZ) ?_)
      refine wp_store_pkt (g := v) zeroP zeroP rfl rfl (by rfl) (by rfl) HV.out rfl rfl ?_
      intro Wf HPf tf
      refine st_val (.bool false) (wanted_free rfl) (by exact rAssign (x := .const (.bool false)) rfl) ?_
      refine wpList_nil (hKont _ _ (wp_ret ?_))
      exact ⟨rfl, _, next_results Wf v zeroP false _ rfl rfl HPf.out, fin0.out W Wf (Turn.of_below HB.out) tf HS0.out⟩
    have hd2 := decide_eq_false hmore
    have HS1 : Hid (stepS most R IsP = if IsP (R.take (k + n).toNat) then .inl (k + n).toNat else .inr 100) := by rw [Hid, HST.out, if_neg (by decide), if_neg (by decide), if_neg hbig, if_neg hmore]
    obtain ⟨m, hm1⟩ : ∃ m : Nat, k + n = (m : Int) := ⟨(k + n).toNat, by omega⟩
    have hmR : m ≤ R.length := by omega
    have hmb : (m : Int) ≤ 268435460 := by omega
    rw [hm1, Int.toNat_natCast] at HS1
    rw [hm1] at hd hd2
    clear hbig hmore HST
    have hlt : (R.take m).length = m := by simp; omega
    have hm2 : 2 ≤ m := by omega
    have hmc : m ≤ c := by omega
    have HPC0 := parse_calls W HT1.out A (R.take m) c (reads_take m HR.out) (by rw [hlt]; exact hmc) h3 (fun x hx => H7.out x (List.mem_of_mem_take hx)) (by rw [hlt]; omega)
    rw [hlt] at HPC0
    have HPC := Lib.hid HPC0
    clear HPC0 hlt
    go_wp2_with (fail)
    refine HPC.out.mono ?_
    rintro e w5 ⟨hb5, (⟨p, C, D, hI, rfl, hoc, hos⟩ | ⟨hnI, rfl⟩)⟩
    · have HB5 := Lib.hid hb5
      have HI := Lib.hid hI
      have HOC := Lib.hid hoc
      have HOS := Lib.hid hos
      have hpc : Hid (p.codes.oneCell' = true) := by obtain ⟨A', c', hv, _⟩ := hoc.form; rw [hv]; exact rfl
      have hps : Hid (p.subs.oneCell' = true) := by obtain ⟨A', c', hv, _⟩ := own_form hos; rw [hv]; exact rfl
      have HSN : Hid (stepS most R IsP = .inl m) := by rw [Hid, HS1.out, if_pos ⟨p, C, D, hI⟩]
      clear hb5 hI hoc hos
      rename_i hK
      refine hK _ _ ?_
      refine st_val (.tuple #[.agg p.cells, .int .i64 0]) (wanted_free rfl) (by exact rMove (x := .tmp 62) rfl) ?_
      refine st_val (.agg p.cells) (wanted_free rfl) (by exact rExtract (x := .tmp 53) rfl (kExt0 _ _)) ?_
      refine st_val (.int .i64 0) (wanted_free rfl) (by exact rExtract (x := .tmp 53) rfl (kExt1 _ _)) ?_
      refine st_alloc (wanted_free rfl) rfl (by exact kAllocP _) ?_
      refine wp_store_pkt (g := w5.heap.size) p zeroP rfl rfl rfl rfl (by exact heap_new _ _) hpc.out hps.out ?_
      intro w6 HP6 t
      refine st_val (.int .i64 0) (wanted_free rfl) (by exact rAssign (x := .tmp 64) rfl) ?_
      refine wpList_nil ?_
      simp only [Exit.then, Act.put, List.setIfInBounds_toArray, List.set_cons_zero, List.set_cons_succ]
      have HW6 : Hid (Below w5.heap.size w5 w6) := (Below.alloc (Below.refl _ _) (Nat.le_refl _) _).trans (t.toBelow (by simp) (fun k hk e => by omega))
      have HB6 : Hid (Below W.heap.size W w6) := HB5.out.trans (HW6.out.mono HB5.out.size)
      have HPK6 := Lib.hid HP6
      have hvW : Hid (v < W.heap.size) := HV.out.lt
      have HV6 := Lib.hid (HV.out.keep (Turn.of_below (S := fun _ => False) HB6.out) (fun h => h))
      have HOC6 : Hid (OwnInts w6 w.heap.size 3 .i64 p.codes C) := oi_mono (HOC.out.turn (Turn.of_below (S := fun _ => False) HW6.out) (fun _ _ h => h)) HB.out.size rfl
      have HOC6W : Hid (OwnInts w6 W.heap.size 3 .i64 p.codes C) := HOC.out.turn (Turn.of_below (S := fun _ => False) HW6.out) (fun _ _ h => h)
      have HOS6W : Hid (w6.ownsRow W.heap.size 76 2 p.subs D.length (subCells D)) := own_turn HOS.out (Turn.of_below (S := fun _ => False) HW6.out) (fun _ _ h => h)
      obtain ⟨b8, hb8⟩ : ∃ b8, Hid (b8 = w5.heap.size) := ⟨_, rfl⟩
      have hb8W : Hid (W.heap.size ≤ b8) := by rw [hb8.out]; exact HB5.out.size
      rw [← hb8.out] at HPK6 ⊢
      have hslW : s < W.heap.size := heap_lt G1.out
      have G6 : Hid (w6.heap[s]? = some (.cells (stCells most 0 A R.length c) ST (0, 0))) := by rw [Hid, HB6.out.block _ hslW]; exact G1.out
      have q0 : w6.cell? ⟨s, 0, none⟩ = some (.int .i64 most) := cell_heap G6.out
      have q1 : w6.cell? ⟨s, 1, none⟩ = some (.slice A R.length c) := cell_heap G6.out
      have f61 : w6.frozen? ⟨s, 1, none⟩ = false := frozen_heap G6.out
      have HR6 : Hid (Reads .u8 w6 A R) := HR.out.keep HB6.out
      clear t hK HP6 k0 k1 f1
      obtain ⟨x, rfl⟩ : ∃ x, A = some x := by
        cases A with
        | none => exact absurd (H4.out rfl) (by omega)
        | some x => exact ⟨x, rfl⟩
      have hfinal : Hid (∀ (A' : Option Addr) (c' n' : Nat) (W7 Wf : World), n' = (R.drop m).length → (R.drop m).length ≤ c' → c' ≤ 9223372036854775807 → (A' = none → c' = 0) → Reads .u8 w6 A' (R.drop m) → (∀ y, A' = some y → y.block = x.block) → W7 = w6.setCell ⟨s, 1, none⟩ (.slice A' n' c') → Turn (fun k => k = v) W7 Wf → NextPost w s B E most R (.returned (.tuple #[.agg p.cells, .bool true])) Wf) := by
        intro A' c' n' W7 Wf hn' h1 h2 h3 h4 h5 hW7 tf
        subst hn' hW7
        obtain ⟨hxs, hxB, hxw⟩ := H6.out x rfl
        have e1 := heap_set_same w6 s 1 (.slice A' (R.drop m).length c') G6.out
        have t6 : Turn (fun k => k = s) w6 (w6.setCell ⟨s, 1, none⟩ (.slice A' (R.drop m).length c')) := Turn.setCell (S := fun k => k = s) w6 (p := ⟨s, 1, none⟩) _ rfl
        have hvw := hv.out
        have T07 : Turn (fun k => k = s) w (w6.setCell ⟨s, 1, none⟩ (.slice A' (R.drop m).length c')) := (HT0.out.trans (Turn.of_below HB6.out)).trans t6
        refine ⟨T07.then tf (fun i hi e => by omega), .inl ⟨m, p, C, D, HSN.out, hmR, HI.out, rfl, ⟨A', c', ?_, h1, h2, h3, ?_, ?_, drop_bytes m H7.out⟩, ?_, ?_⟩⟩
        · rw [tf.block s (heap_lt e1) (fun e => hsv.out e), e1]; rfl
        · exact reads_turn (reads_turn h4 t6 (fun y hy => by rw [h5 y hy]; exact hxs)) tf (fun y hy => by rw [h5 y hy]; omega)
        · intro y hy
          rw [h5 y hy]
          exact ⟨hxs, hxB, hxw⟩
        · exact oi_mono ((HOC6W.out.turn t6 (fun j hj e => by have := (own_block_ge HOC6W.out j hj).1; omega)).turn tf (fun j hj e => by have := (own_block_ge HOC6W.out j hj).1; have := hvW.out; omega)) HB.out.size rfl
        · exact own_mono (own_turn (own_turn HOS6W.out t6 (fun j hj e => by have := (own_block_ge HOS6W.out j hj).1; omega)) tf (fun j hj e => by have := (own_block_ge HOS6W.out j hj).1; have := hvW.out; omega)) HB.out.size
      have hln : (R.drop m).length = R.length - m := List.length_drop
      by_cases hcn : c = m
      · subst hcn
        have hRm : R.length = c := by omega
        go_upto_region 18 with (fail)
        rename_i hKont
        have e1 := heap_set_same w6 s 1 (.slice (some x) 0 0) G6.out
        have t6 : Turn (fun k => k = s) w6 (w6.setCell ⟨s, 1, none⟩ (.slice (some x) 0 0)) := Turn.setCell (S := fun k => k = s) w6 (p := ⟨s, 1, none⟩) _ rfl
        have HPK7 := HPK6.out.keep t6 (fun e => by have := hb8W.out; omega)
        have HV7 := HV6.out.keep t6 (fun e => hsv.out e.symm)
        refine wp_region_lit (wp_load_pkt (p := p) rfl rfl (by rfl) HPK7 ?_)
        refine wp_store_pkt (g := v) p zeroP rfl rfl (by rfl) (by rfl) HV7 hpc.out hps.out ?_
        intro Wf HPf tf
        refine st_val (.bool true) (wanted_free rfl) (by exact rAssign (x := .const (.bool true)) rfl) ?_
        refine wpList_nil (hKont _ _ (wp_ret ?_))
        exact ⟨rfl, _, next_results Wf v p true _ rfl rfl HPf.out, hfinal.out (some x) 0 0 _ Wf (by omega) (by omega) (by decide) (fun h => by cases h) (fun h0 => absurd h0 (by omega)) (fun y hy => by cases hy; rfl) rfl tf⟩
      · go_upto_region 18 with (fail)
        rename_i hKont
        have e1 := heap_set_same w6 s 1 (.slice (some (x.add m)) (R.length - m) (c - m)) G6.out
        have t6 : Turn (fun k => k = s) w6 (w6.setCell ⟨s, 1, none⟩ (.slice (some (x.add m)) (R.length - m) (c - m))) := Turn.setCell (S := fun k => k = s) w6 (p := ⟨s, 1, none⟩) _ rfl
        have HPK7 := HPK6.out.keep t6 (fun e => by have := hb8W.out; omega)
        have HV7 := HV6.out.keep t6 (fun e => hsv.out e.symm)
        refine wp_region_lit (wp_load_pkt (p := p) rfl rfl (by rfl) HPK7 ?_)
        refine wp_store_pkt (g := v) p zeroP rfl rfl (by rfl) (by rfl) HV7 hpc.out hps.out ?_
        intro Wf HPf tf
        refine st_val (.bool true) (wanted_free rfl) (by exact rAssign (x := .const (.bool true)) rfl) ?_
        refine wpList_nil (hKont _ _ (wp_ret ?_))
        exact ⟨rfl, _, next_results Wf v p true _ rfl rfl HPf.out, hfinal.out (some (x.add m)) (c - m) (R.length - m) _ Wf hln.symm (by omega) (by omega) (fun h => by cases h) (reads_drop m HR6.out) (fun y hy => by cases hy; exact add_block _ _) rfl tf⟩
    · have HB5 := Lib.hid hb5
      have HN := Lib.hid hnI
      have HS100 : Hid (stepS most R IsP = .inr 100) := by rw [Hid, HS1.out, if_neg (fun ⟨p, C, D, h⟩ => hnI p C D h)]
      clear hb5 hnI
      rename_i hK
      refine hK _ _ ?_
      refine st_val (.tuple #[.agg zeroP.cells, .int .i64 100]) (wanted_free rfl) (by exact rMove (x := .tmp 62) rfl) ?_
      refine st_val (.agg zeroP.cells) (wanted_free rfl) (by exact rExtract (x := .tmp 53) rfl (kExt0 _ _)) ?_
      refine st_val (.int .i64 100) (wanted_free rfl) (by exact rExtract (x := .tmp 53) rfl (kExt1 _ _)) ?_
      refine st_alloc (wanted_free rfl) rfl (by exact kAllocP _) ?_
      refine wp_store_pkt (g := w5.heap.size) zeroP zeroP rfl rfl rfl rfl (by exact heap_new _ _) rfl rfl ?_
      intro w6 HP6 t
      refine st_val (.int .i64 100) (wanted_free rfl) (by exact rAssign (x := .tmp 64) rfl) ?_
      refine wpList_nil ?_
      simp only [Exit.then, Act.put, List.setIfInBounds_toArray, List.set_cons_zero, List.set_cons_succ]
      have HW6 : Hid (Below w5.heap.size w5 w6) := (Below.alloc (Below.refl _ _) (Nat.le_refl _) _).trans (t.toBelow (by simp) (fun k hk e => by omega))
      have HB6 : Hid (Below W.heap.size W w6) := HB5.out.trans (HW6.out.mono HB5.out.size)
      have HV6 := Lib.hid (HV.out.keep (Turn.of_below (S := fun _ => False) HB6.out) (fun h => h))
      have HSt6 := Lib.hid (HW.out.keep HB6.out)
      clear t hK HP6 k0 k1 f1
      go_wp2_with (fail)
      refine (fail_calls w6 s B E most 0 100 R HSt6.out).mono ?_
      rintro e w7 ⟨rfl, ht2, hs2⟩
      have HT2 := Lib.hid ht2
      have HS2 := Lib.hid hs2
      have HV2 := Lib.hid (HV6.out.keep ht2 (fun e => hsv.out e.symm))
      clear ht2 hs2
      go_upto_region 16 with (fail)
      rename_i hKont
      refine wp_region_lit (st_val (.agg zeroP.cells) (wanted_free rfl) (by exact rBuild0 rfl kBuildZ) ?_)
      refine wp_store_pkt (g := v) zeroP zeroP rfl rfl (by rfl) (by rfl) HV2.out rfl rfl ?_
      intro Wf HPf tf
      refine st_val (.bool false) (wanted_free rfl) (by exact rAssign (x := .const (.bool false)) rfl) ?_
      refine wpList_nil (hKont _ _ (wp_ret ?_))
      exact ⟨rfl, _, next_results Wf v zeroP false _ rfl rfl HPf.out, finF.out w7 Wf 100 (by decide) HS2.out ((HT0.out.trans (Turn.of_below HB6.out)).trans HT2.out) tf HS100.out⟩
  · have HS100 : Hid (stepS most R IsP = .inr 100) := by rw [Hid, HST.out, if_pos rfl]
    go_wp2_with (fail)
    refine (fail_calls W s B E most 0 100 R HW.out).mono ?_
    rintro e w2 ⟨rfl, ht2, hs2⟩
    have HT2 := Lib.hid ht2
    have HS2 := Lib.hid hs2
    have HV2 := Lib.hid (HV.out.keep ht2 (fun e => hsv.out e.symm))
    clear ht2 hs2
    go_upto_region 5 with (fail)
    rename_i hKont
    refine wp_region_lit (st_val (.agg zeroP.cells) (wanted_free rfl) (by exact rBuild0 rfl kBuildZ) ?_)
    refine wp_store_pkt (g := v) zeroP zeroP rfl rfl (by rfl) (by rfl) HV2.out rfl rfl ?_
    intro Wf HPf tf
    refine st_val (.bool false) (wanted_free rfl) (by exact rAssign (x := .const (.bool false)) rfl) ?_
    refine wpList_nil (hKont _ _ (wp_ret ?_))
    exact ⟨rfl, _, next_results Wf v zeroP false _ rfl rfl HPf.out, finF.out w2 Wf 100 (by decide) HS2.out (HT0.out.trans HT2.out) tf HS100.out⟩
  · have HS0 : Hid (stepS most R IsP = .inr 0) := by rw [Hid, HST.out, if_neg (by decide), if_pos (by decide)]
    go_upto_region 7 with (fail)
    rename_i hKont
    refine wp_region_lit (st_val (.agg zeroP.cells) (wanted_free rfl) (by exact rBuild0 rfl kBuildZ) ?_)
    refine wp_store_pkt (g := v) zeroP zeroP rfl rfl (by rfl) (by rfl) HV.out rfl rfl ?_
    intro Wf HPf tf
    refine st_val (.bool false) (wanted_free rfl) (by exact rAssign (x := .const (.bool false)) rfl) ?_
    refine wpList_nil (hKont _ _ (wp_ret ?_))
    exact ⟨rfl, _, next_results Wf v zeroP false _ rfl rfl HPf.out, fin0.out W Wf (Turn.of_below HB.out) tf HS0.out⟩
end Str
end Go.Proofs.YteigakkghkjakaaDoor

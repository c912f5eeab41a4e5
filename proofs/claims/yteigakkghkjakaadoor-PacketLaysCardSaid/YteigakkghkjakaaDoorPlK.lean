/- Parse's closure: the walk. packet.Parse. -/
import Derived.Test.YteigakkghkjakaaDoorPlJ
namespace Go.Proofs.YteigakkghkjakaaDoor
open Go.RowKit
set_option linter.unusedVariables false
set_option linter.unusedSimpArgs false
namespace Pk
open Utf (nums nums_length nums_bytes IsStr nums_str)
open Var (BT)

/-- What Parse's closure finds: the bytes in block tb, the place in block ta, its packet in block pb. -/
structure ParIn (w : World) (tb ta pb : Nat) (A : Option Addr) (c : Nat) (L : List Int) (at_ : Nat) : Prop where
  hb : w.cell? ⟨tb, 0, none⟩ = some (.slice A L.length c)
  ha : w.cell? ⟨ta, 0, none⟩ = some (.int .i64 at_)
  pk : PkAt w pb zeroP
  nb : tb ≠ pb
  na : ta ≠ pb
  reads : Reads .u8 w A L
  pos : 0 < L.length
  cap : L.length ≤ c
  capb : c ≤ 9223372036854775807
  bytes : ∀ x ∈ L, 0 ≤ x ∧ x < 256
  long : L.length ≤ 900000000
  le : at_ ≤ L.length
  blk : ∀ x, A = some x → x.block ≠ pb
  tabs : Lib.Utf8Tabs 0 1 w
  p2 : 2 ≤ pb

def ParOut (w : World) (pb : Nat) (L : List Int) (at_ : Nat) (e : Ending) (w' : World) : Prop :=
  Turn (fun k => k = pb) w w' ∧ ((∃ p C D vc vs, rdPkt (lat L 0) (L.drop at_) = some (p, C, D) ∧ May (p.rows vc vs) C D ∧ bytesB (p.rows vc vs) C D = L ∧ e = .returned (.tuple #[]) ∧ PkAt w' pb (p.rows vc vs) ∧ OwnInts w' w.heap.size 3 .i64 vc C ∧ w'.ownsRow w.heap.size 76 2 vs D.length (subCells D)) ∨
    ((∀ p C D, IsPkt L p C D → L.drop at_ ≠ bodyB p C D) ∧ e = badP))

theorem subs_reads {w : World} {base n c : Nat} {A : Option Addr} {D : List (ByteArray × Int)} (h : w.ownsRow base 76 2 (.slice A n c) D.length (subCells D)) : ReadsSub w A D := by
  intro h0
  obtain ⟨A', c', hv, _, _, hh⟩ := own_form h
  injection hv with e1 e2 e3
  subst e1
  rcases h.2 with ⟨hv, hn⟩ | ⟨g, cap, cur, hv, hg, hheap, hc, hm, hs, ht⟩
  · omega
  · injection hv with e1 _ _
    refine ⟨_, e1, fun i hi => ?_⟩
    have key : ∀ j, (subCells D)[j]? = some ((subCells D).getD j undef) → w.cell? ⟨g, j, none⟩ = (subCells D)[j]? := by
      intro j hj
      rw [cell_heap hheap]
      have : (cur.toList.take (D.length * 2))[j]? = (subCells D)[j]? := by rw [ht]
      rw [List.getElem?_take] at this
      split at this
      · rw [← this]; simp
      · rw [hj] at this; cases this
    have hget : ∀ (E : List (ByteArray × Int)) (k : Nat) (hk : k < E.length), (subCells E)[2 * k]? = some (.string E[k].1) ∧ (subCells E)[2 * k + 1]? = some (.int .i64 E[k].2) := by
      intro E
      induction E with
      | nil => intro k hk; exact absurd hk (by simp)
      | cons x E ih =>
        intro k hk
        have hcons : subCells (x :: E) = .string x.1 :: .int .i64 x.2 :: subCells E := rfl
        rw [hcons]
        cases k with
        | zero => exact ⟨rfl, rfl⟩
        | succ k =>
          have := ih k (by simpa using hk)
          rw [show 2 * (k + 1) = 2 * k + 1 + 1 by omega]
          exact this
    obtain ⟨g1, g2⟩ := hget D i hi
    rw [add_plain0, add_plain0]
    constructor
    · rw [key (2 * i) (by rw [g1, List.getD_eq_getElem?_getD, g1]; rfl)]; exact g1
    · rw [key (2 * i + 1) (by rw [g2, List.getD_eq_getElem?_getD, g2]; rfl)]; exact g2

set_option maxRecDepth 100000 in
set_option maxHeartbeats 2000000 in
theorem par_calls (w : World) (tb ta pb : Nat) (A : Option Addr) (c : Nat) (L : List Int) (at_ : Nat) (h : ParIn w tb ta pb A c L at_) : Calls Tryd.prog 33 #[.pointer (some ⟨tb, 0, none⟩), .pointer (some ⟨ta, 0, none⟩), .pointer (some ⟨pb, 0, none⟩)] w fun e w' => ParOut w pb L at_ e w' := by
  obtain ⟨x, hAx, hcx⟩ := h.reads h.pos
  subst hAx
  obtain ⟨f, hf⟩ : ∃ f, Hid (f = lat L 0) := ⟨_, rfl⟩
  have hx0 : w.cell? x = some (.int .u8 f) := by
    have := hcx 0 h.pos
    have h1 : x.add 0 = x := by simp [Addr.add]
    rw [h1] at this
    rw [hf.out]; exact this
  obtain ⟨hf0, hf1⟩ : 0 ≤ f ∧ f < 256 := by rw [hf.out]; exact h.bytes _ (lat_mem L 0 h.pos)
  have hb := h.hb
  have ha := h.ha
  have hle := h.le
  have hcap := h.cap
  have hpos := h.pos
  have hlen : (L.length : Int) ≤ 900000000 := by have := h.long; omega
  have H := Lib.hid h
  have hwf : IntKind.i64.wrap f = f := by rw [IntKind.wrap_i64]; omega
  obtain ⟨M, hM⟩ : ∃ M, Hid (M = L.drop at_) := ⟨_, rfl⟩
  have hMl : Hid (M.length = L.length - at_) := by rw [hM.out, Hid, List.length_drop]
  have HK : Hid (∀ W', Turn (fun k => k = pb) w W' → W'.cell? ⟨tb, 0, none⟩ = some (.slice (some x) L.length c) ∧ W'.cell? ⟨ta, 0, none⟩ = some (.int .i64 at_) ∧ W'.cell? x = some (.int .u8 f)) := by
    intro W' t
    exact ⟨t.cell hb H.out.nb, t.cell ha H.out.na, t.cell hx0 (H.out.blk x rfl)⟩
  have HT0 : Turn (fun k => k = pb) w w.drew := Turn.drew (Turn.refl _ _)
  -- what the reader's read does, where the reader is the next new block
  have HRD : Hid (∀ (A' : Option Addr) (m c' : Nat) (R : Ending → World → Prop), m = M.length → (Reads .u8 w A' M) → (∀ y, A' = some y → y.block < w.heap.size) → M.length ≤ c' → c' ≤ 9223372036854775807 → (A' = none → c' = 0) →
      (∀ w5 w6 X p C D vc vs, Hid (rdPkt f M = some (p, C, D)) → Hid (X = (p.rows vc vs).cells) → X.size = 18 → (storeCells ⟨pb, 0, none⟩ X.toList 0).run Tryd.prog w5 = .ok () w6 → Turn (fun k => k = pb) w w5 → Turn (fun k => k = pb) w w6 → Hid (PkAt w6 pb (p.rows vc vs) ∧ OwnInts w6 w.heap.size 3 .i64 vc C ∧ w6.ownsRow w.heap.size 76 2 vs D.length (subCells D)) → R (.returned (.agg X)) w5) →
      (∀ w5, Turn (fun k => k = pb) w w5 → rdPkt f M = none → R badP w5) →
      Calls Tryd.prog 34 #[.pointer (some ⟨w.heap.size, 0, none⟩), .int .i64 f] (w.alloc (.cells #[.slice A' m c'] RT)).drew R) := by
    intro A' m c' R hm hr hbk hmc hcb hn hok hno
    subst hm
    have hh : RdAt (w.alloc (.cells #[.slice A' M.length c'] RT)).drew w.heap.size w.heap.size M :=
      ⟨A', c', heap_new w _, hmc, ⟨hcb, by have := H.out.long; have := hMl.out; omega⟩, reads_drew (hr.keep (Below.alloc (Below.refl _ _) (Nat.le_refl _) _)), hn, ⟨Nat.le_refl _, hbk⟩, by rw [hM.out]; exact drop_bytes _ H.out.bytes⟩
    refine (read_calls _ w.heap.size w.heap.size f M ⟨hf0, by omega⟩ hh (by have := hMl.out; have := H.out.long; omega)).mono ?_
    rintro e w5 ⟨t, hp⟩
    have t5 : Turn (fun k => k = pb) w w5 := by
      have b : Below w.heap.size w (w.alloc (.cells #[.slice A' M.length c'] RT)).drew := (Below.alloc (Below.refl _ _) (Nat.le_refl _) _).drew
      exact (Turn.of_below b).then t (fun i hi e => by omega)
    rcases hp with ⟨p, C, D, vc, vs, hs, rfl, hoc, hos⟩ | ⟨hs, rfl⟩
    · have hpk5 : PkAt w5 pb zeroP := by
        have h1 : PkAt (w.alloc (.cells #[.slice A' M.length c'] RT)).drew pb zeroP := by
          unfold PkAt
          exact (heap_old w _ _ H.out.pk.lt).trans H.out.pk
        exact h1.keep t (fun e => by have := H.out.pk.lt; omega)
      have hvc : vc.oneCell' = true := by obtain ⟨A2, c2, hv, _⟩ := hoc.form; rw [hv]; rfl
      have hvs : vs.oneCell' = true := by obtain ⟨A2, c2, hv, _⟩ := own_form hos; rw [hv]; rfl
      have hst := run_storeCells_from (P := Tryd.prog) pb PT (p.rows vc vs).cells.toList 0 zeroP.cells w5 hpk5 (by simp [Pkt.cells]) (cells_one _ hvc hvs)
      rw [List.take_zero, List.nil_append, Array.toArray_toList] at hst
      have tset : Turn (fun k => k = pb) w5 (w5.setRow pb (p.rows vc vs).cells) := ⟨rfl, rfl, rfl, by simp [World.setRow], fun k hk hn => setRow_other w5 pb k _ hn⟩
      have hb5 : w.heap.size ≤ (w.alloc (.cells #[.slice A' M.length c'] RT)).drew.heap.size := by
        show w.heap.size ≤ (w.alloc (.cells #[.slice A' M.length c'] RT)).heap.size
        simp
      have hplt := H.out.pk.lt
      have hoc6 : OwnInts (w5.setRow pb (p.rows vc vs).cells) w.heap.size 3 .i64 vc C := oi_mono (hoc.turn tset (fun j hj e => by have := (own_block_ge hoc j hj).1; omega)) hb5 rfl
      have hos6 : (w5.setRow pb (p.rows vc vs).cells).ownsRow w.heap.size 76 2 vs D.length (subCells D) := own_mono (own_turn hos tset (fun j hj e => by have := (own_block_ge hos j hj).1; omega)) hb5
      exact hok w5 _ _ p C D vc vs hs rfl rfl hst t5 (t5.trans tset) ⟨setRow_heap w5 pb zeroP.cells _ PT (0, 0) hpk5, hoc6, hos6⟩
    · exact hno w5 t5 hs
  have hfail : Hid (rdPkt f M = none → ∀ p C D, IsPkt L p C D → L.drop at_ ≠ bodyB p C D) := by
    intro hn p C D hI hE
    exact read_some hI hf.out.symm (hM.out.trans hE) hn
  have HXr : Hid (Reads .u8 w (some x) L) := h.reads
  clear h hcx
  have hxb : Hid (x.block < w.heap.size) := World.block_lt_of_cell? w _ hx0
  have hstrs : Hid (∀ p C D, rdPkt f M = some (p, C, D) → (p.client.size + p.user.size + p.pass.size ≤ 9223372036854775807)) := fun p C D hr => by have h1 := rdPkt_strs hr; have h2 := hMl.out; have h3 := H.out.long; omega
  by_cases hca : c = at_
  · subst hca
    have hd0 : Hid (L.drop c = []) := by apply List.drop_eq_nil_of_le; omega
    go_enter Tryd.func33, Tryd.ntmps33
    go_upto_region 0 with (fail)
    go_region_held_law (fun W' => W'.cell? ⟨tb, 0, none⟩ = some (.slice (some x) L.length c) ∧ W'.cell? ⟨ta, 0, none⟩ = some (.int .i64 c) ∧ W'.cell? x = some (.int .u8 f))
      (first | exact HK.out _ T6 | exact HK.out _ T5 | exact HK.out _ (HT0.trans (Turn.alloc _ _)) | exact HK.out _ ((Turn.alloc (S := fun k => k = pb) w _).trans (Turn.drew (Turn.refl _ _))) | exact HK.out _ HT0)
      (first | (go_simp; go_at_call 34; refine HRD.out _ _ _ _ (by rw [hM.out, hd0.out]; rfl) (by rw [hM.out, hd0.out]; exact fun h => absurd h (by simp)) (fun y hy => by cases hy; exact hxb.out) (by have := hMl.out; omega) (by omega) (fun h => by cases h) ?_ (fun w5 t5 hn => ⟨rfl, t5, .inr ⟨hfail.out hn, rfl⟩⟩); intro w5 w6 X p C D vc vs hrd hX hXs hst T5 T6 HP))
    all_goals
      clear hst hx0 hb ha
      have HT6 := Lib.hid T6
      clear T6 T5 HK
      have hq6 : w6.cell? ⟨tb, 0, none⟩ = some (.slice (some x) L.length c) := HT6.out.cell H.out.hb H.out.nb
      have HRL : Hid (Reads .u8 w6 (some x) L) := reads_turn H.out.reads HT6.out H.out.blk
      have hby : Hid (∀ x ∈ M, 0 ≤ x ∧ x < 256) := by rw [hM.out]; exact drop_bytes _ H.out.bytes
      have hfit := rdPkt_fit hrd.out hby.out
      obtain ⟨Ac, cc, hvc, _, _, _⟩ := HP.out.2.1.form
      obtain ⟨As, cs, hvs, _, _, _⟩ := own_form HP.out.2.2
      subst hvc hvs
      have HLI : Hid (Lies w6 (p.rows (.slice Ac C.length cc) (.slice As D.length cs)) C D) := by
        have h1 := hMl.out
        have h2 := H.out.long
        refine ⟨⟨Ac, cc, rfl, (own_reads HP.out.2.1).2.2.1⟩, ⟨As, cs, rfl, subs_reads HP.out.2.2⟩, ?_, by omega, by omega⟩
        exact hstrs.out p C D hrd.out
      have HBY := Lib.hid (bytes_calls w6 (tabs_turn H.out.tabs HT6.out (by have := H.out.p2; omega) (by have := H.out.p2; omega)) (p.rows (.slice Ac C.length cc) (.slice As D.length cs)) C D HLI.out (fun hG => good_len HLI.out hG (by have h1 := hMl.out; have h2 := H.out.long; omega) (by have h1 := hMl.out; have h2 := H.out.long; omega) (fun h3 => by have := hfit.2.2 h3; have h1 := hMl.out; have h2 := H.out.long; show p.payload.size ≤ _; omega)))
      clear hfit
      go_wp2_with (with_reducible refine wp_load_pkt (o := ⟨some 16, _, _, _, _, _⟩) rfl rfl rfl HP.out.1 ?_)
      refine HBY.out.mono ?_
      rintro e w7 ⟨hb7, (⟨hm, A7, c7, rfl, ho7⟩ | ⟨hm, rfl⟩)⟩
      · have HT7 : Hid (Turn (fun k => k = pb) w w7) := HT6.out.trans (Turn.of_below hb7)
        have hq7 : w7.cell? ⟨tb, 0, none⟩ = some (.slice (some x) L.length c) := HT7.out.cell H.out.hb H.out.nb
        have hR7 : Reads .u8 w7 (some x) L := reads_turn H.out.reads HT7.out H.out.blk
        have hcv2 := conv_reads (P := Tryd.prog) (W := w7) (src := 22) (dst := 9) (e := 5) (A := some x) (n := L.length) (c := c) (L := L) Tryd.underlying22 Tryd.underlying5 Tryd.underlying9 rfl hR7
        obtain ⟨N, hN⟩ : ∃ N, Hid (N = bytesB (p.rows (.slice Ac C.length cc) (.slice As D.length cs)) C D) := ⟨_, rfl⟩
        rw [← hN.out] at ho7 ⊢
        have hcv1 := conv_reads (P := Tryd.prog) (W := w7) (src := 22) (dst := 9) (e := 5) (A := A7) (n := N.length) (c := c7) (L := N) Tryd.underlying22 Tryd.underlying5 Tryd.underlying9 rfl (own_reads ho7).2.2.1
        have hNb : Hid (∀ x ∈ N, 0 ≤ x ∧ x < 256) := by rw [hN.out]; exact bytesB_bytes HLI.out hm
        have HEQ := Lib.hid (Tryd.bytes_Equal_strs (.slice A7 N.length c7) (.slice (some x) L.length c) _ _ w7 hcv1 hcv2)
        have HP7 : Hid (PkAt w7 pb (p.rows (.slice Ac C.length cc) (.slice As D.length cs)) ∧ OwnInts w7 w.heap.size 3 .i64 (.slice Ac C.length cc) C ∧ w7.ownsRow w.heap.size 76 2 (.slice As D.length cs) D.length (subCells D)) :=
          ⟨HP.out.1.keep (Turn.of_below (S := fun _ => False) hb7) (fun h => h), HP.out.2.1.turn (Turn.of_below (S := fun _ => False) hb7) (fun _ _ h => h), own_turn HP.out.2.2 (Turn.of_below (S := fun _ => False) hb7) (fun _ _ h => h)⟩
        have HMay := Lib.hid hm
        clear hcv1 hcv2 hR7 ho7 hb7 hm hq6
        rw [eqb N L hNb.out H.out.bytes] at HEQ
        by_cases hNL : N = L
        · rw [decide_eq_true hNL] at HEQ
          have HNL := Lib.hid hNL
          clear hNL
          go_wp2_with (fail)
          refine HEQ.out.mono ?_
          rintro e w8 ⟨rfl, rfl⟩
          go_wp2_with (fail)
          refine (need_yes _).mono ?_
          rintro e w' ⟨rfl, rfl⟩
          go_wp2_with (fail)
          go_end0
          exact ⟨HT7.out, .inl ⟨p, C, D, _, _, by rw [← hM.out, ← hf.out]; exact hrd.out, HMay.out, by rw [← hN.out]; exact HNL.out, rfl, HP7.out.1, HP7.out.2.1, HP7.out.2.2⟩⟩
        · rw [decide_eq_false hNL] at HEQ
          have HNL := Lib.hid hNL
          clear hNL
          go_wp2_with (fail)
          refine HEQ.out.mono ?_
          rintro e w8 ⟨rfl, rfl⟩
          go_wp2_with (fail)
          refine (need_no _).mono ?_
          rintro e w' ⟨rfl, rfl⟩
          go_wp2_with (fail)
          exact ⟨rfl, HT7.out, .inr ⟨fun p' C' D' hI hE => HNL.out (by rw [hN.out]; exact (read_is hI hf.out.symm (hM.out.trans hE) hrd.out _ _ rfl rfl).2), rfl⟩⟩
      · have HT7 : Hid (Turn (fun k => k = pb) w w7) := HT6.out.trans (Turn.of_below hb7)
        have HM := Lib.hid hm
        clear hb7 hm
        go_wp2_with (fail)
        refine (need_no _).mono ?_
        rintro e w' ⟨rfl, rfl⟩
        go_wp2_with (fail)
        exact ⟨rfl, HT7.out, .inr ⟨fun p' C' D' hI hE => HM.out (read_is hI hf.out.symm (hM.out.trans hE) hrd.out _ _ rfl rfl).1, rfl⟩⟩
  · have hlt : at_ < c := by omega
    go_enter Tryd.func33, Tryd.ntmps33
    go_upto_region 0 with (fail)
    go_region_held_law (fun W' => W'.cell? ⟨tb, 0, none⟩ = some (.slice (some x) L.length c) ∧ W'.cell? ⟨ta, 0, none⟩ = some (.int .i64 at_) ∧ W'.cell? x = some (.int .u8 f))
      (first | exact HK.out _ T6 | exact HK.out _ T5 | exact HK.out _ (HT0.trans (Turn.alloc _ _)) | exact HK.out _ ((Turn.alloc (S := fun k => k = pb) w _).trans (Turn.drew (Turn.refl _ _))) | exact HK.out _ HT0)
      (first | (go_simp; go_at_call 34; refine HRD.out _ _ _ _ hMl.out.symm (by rw [hM.out]; exact reads_drop at_ HXr.out) (fun y hy => by cases hy; rw [add_block]; exact hxb.out) (by have := hMl.out; omega) (by have := H.out.capb; omega) (fun h => by cases h) ?_ (fun w5 t5 hn => ⟨rfl, t5, .inr ⟨hfail.out hn, rfl⟩⟩); intro w5 w6 X p C D vc vs hrd hX hXs hst T5 T6 HP))
    all_goals
      clear hst hx0 hb ha
      have HT6 := Lib.hid T6
      clear T6 T5 HK
      have hq6 : w6.cell? ⟨tb, 0, none⟩ = some (.slice (some x) L.length c) := HT6.out.cell H.out.hb H.out.nb
      have HRL : Hid (Reads .u8 w6 (some x) L) := reads_turn H.out.reads HT6.out H.out.blk
      have hby : Hid (∀ x ∈ M, 0 ≤ x ∧ x < 256) := by rw [hM.out]; exact drop_bytes _ H.out.bytes
      have hfit := rdPkt_fit hrd.out hby.out
      obtain ⟨Ac, cc, hvc, _, _, _⟩ := HP.out.2.1.form
      obtain ⟨As, cs, hvs, _, _, _⟩ := own_form HP.out.2.2
      subst hvc hvs
      have HLI : Hid (Lies w6 (p.rows (.slice Ac C.length cc) (.slice As D.length cs)) C D) := by
        have h1 := hMl.out
        have h2 := H.out.long
        refine ⟨⟨Ac, cc, rfl, (own_reads HP.out.2.1).2.2.1⟩, ⟨As, cs, rfl, subs_reads HP.out.2.2⟩, ?_, by omega, by omega⟩
        exact hstrs.out p C D hrd.out
      have HBY := Lib.hid (bytes_calls w6 (tabs_turn H.out.tabs HT6.out (by have := H.out.p2; omega) (by have := H.out.p2; omega)) (p.rows (.slice Ac C.length cc) (.slice As D.length cs)) C D HLI.out (fun hG => good_len HLI.out hG (by have h1 := hMl.out; have h2 := H.out.long; omega) (by have h1 := hMl.out; have h2 := H.out.long; omega) (fun h3 => by have := hfit.2.2 h3; have h1 := hMl.out; have h2 := H.out.long; show p.payload.size ≤ _; omega)))
      clear hfit
      go_wp2_with (with_reducible refine wp_load_pkt (o := ⟨some 16, _, _, _, _, _⟩) rfl rfl rfl HP.out.1 ?_)
      refine HBY.out.mono ?_
      rintro e w7 ⟨hb7, (⟨hm, A7, c7, rfl, ho7⟩ | ⟨hm, rfl⟩)⟩
      · have HT7 : Hid (Turn (fun k => k = pb) w w7) := HT6.out.trans (Turn.of_below hb7)
        have hq7 : w7.cell? ⟨tb, 0, none⟩ = some (.slice (some x) L.length c) := HT7.out.cell H.out.hb H.out.nb
        have hR7 : Reads .u8 w7 (some x) L := reads_turn H.out.reads HT7.out H.out.blk
        have hcv2 := conv_reads (P := Tryd.prog) (W := w7) (src := 22) (dst := 9) (e := 5) (A := some x) (n := L.length) (c := c) (L := L) Tryd.underlying22 Tryd.underlying5 Tryd.underlying9 rfl hR7
        obtain ⟨N, hN⟩ : ∃ N, Hid (N = bytesB (p.rows (.slice Ac C.length cc) (.slice As D.length cs)) C D) := ⟨_, rfl⟩
        rw [← hN.out] at ho7 ⊢
        have hcv1 := conv_reads (P := Tryd.prog) (W := w7) (src := 22) (dst := 9) (e := 5) (A := A7) (n := N.length) (c := c7) (L := N) Tryd.underlying22 Tryd.underlying5 Tryd.underlying9 rfl (own_reads ho7).2.2.1
        have hNb : Hid (∀ x ∈ N, 0 ≤ x ∧ x < 256) := by rw [hN.out]; exact bytesB_bytes HLI.out hm
        have HEQ := Lib.hid (Tryd.bytes_Equal_strs (.slice A7 N.length c7) (.slice (some x) L.length c) _ _ w7 hcv1 hcv2)
        have HP7 : Hid (PkAt w7 pb (p.rows (.slice Ac C.length cc) (.slice As D.length cs)) ∧ OwnInts w7 w.heap.size 3 .i64 (.slice Ac C.length cc) C ∧ w7.ownsRow w.heap.size 76 2 (.slice As D.length cs) D.length (subCells D)) :=
          ⟨HP.out.1.keep (Turn.of_below (S := fun _ => False) hb7) (fun h => h), HP.out.2.1.turn (Turn.of_below (S := fun _ => False) hb7) (fun _ _ h => h), own_turn HP.out.2.2 (Turn.of_below (S := fun _ => False) hb7) (fun _ _ h => h)⟩
        have HMay := Lib.hid hm
        clear hcv1 hcv2 hR7 ho7 hb7 hm hq6
        rw [eqb N L hNb.out H.out.bytes] at HEQ
        by_cases hNL : N = L
        · rw [decide_eq_true hNL] at HEQ
          have HNL := Lib.hid hNL
          clear hNL
          go_wp2_with (fail)
          refine HEQ.out.mono ?_
          rintro e w8 ⟨rfl, rfl⟩
          go_wp2_with (fail)
          refine (need_yes _).mono ?_
          rintro e w' ⟨rfl, rfl⟩
          go_wp2_with (fail)
          go_end0
          exact ⟨HT7.out, .inl ⟨p, C, D, _, _, by rw [← hM.out, ← hf.out]; exact hrd.out, HMay.out, by rw [← hN.out]; exact HNL.out, rfl, HP7.out.1, HP7.out.2.1, HP7.out.2.2⟩⟩
        · rw [decide_eq_false hNL] at HEQ
          have HNL := Lib.hid hNL
          clear hNL
          go_wp2_with (fail)
          refine HEQ.out.mono ?_
          rintro e w8 ⟨rfl, rfl⟩
          go_wp2_with (fail)
          refine (need_no _).mono ?_
          rintro e w' ⟨rfl, rfl⟩
          go_wp2_with (fail)
          exact ⟨rfl, HT7.out, .inr ⟨fun p' C' D' hI hE => HNL.out (by rw [hN.out]; exact (read_is hI hf.out.symm (hM.out.trans hE) hrd.out _ _ rfl rfl).2), rfl⟩⟩
      · have HT7 : Hid (Turn (fun k => k = pb) w w7) := HT6.out.trans (Turn.of_below hb7)
        have HM := Lib.hid hm
        clear hb7 hm
        go_wp2_with (fail)
        refine (need_no _).mono ?_
        rintro e w' ⟨rfl, rfl⟩
        go_wp2_with (fail)
        exact ⟨rfl, HT7.out, .inr ⟨fun p' C' D' hI hE => HM.out (read_is hI hf.out.symm (hM.out.trans hE) hrd.out _ _ rfl rfl).1, rfl⟩⟩
end Pk
end Go.Proofs.YteigakkghkjakaaDoor

namespace Go.Proofs.YteigakkghkjakaaDoor
open Go.RowKit
set_option linter.unusedVariables false
set_option linter.unusedSimpArgs false
namespace Pk
open Utf (nums nums_length nums_bytes IsStr nums_str)
open Var (BT digs digs_length tell tell_digs)

theorem tell_of {L B : List Int} (hd : L.drop 1 = digs 3 (B.length : Int) ++ B) (hB : B.length ≤ 268435455) : tell 4 true L 1 0 1 = ((B.length : Int), 1 + ((digs 3 (B.length : Int)).length : Int), 0) := by
  have h1 : ((B.length : Nat) : Int) < 128 ^ (3 + 1) := by
    have e : (128 : Int) ^ (3 + 1) = 268435456 := by decide
    rw [e]; omega
  have ht := tell_digs 3 true L 1 0 1 (B.length : Int) B (Int.natCast_nonneg _) h1 (.inl rfl) hd
  have e : (0 : Int) + 1 * (B.length : Int) = (B.length : Int) := by omega
  rw [e] at ht
  exact ht
/-- The length's bytes tell where the body begins. -/
theorem pkt_tell {L : List Int} {p : Pkt} {C : List Int} {D : List (ByteArray × Int)} (hI : IsPkt L p C D) : tell 4 true L 1 0 1 = (((bodyB p C D).length : Int), 1 + ((digs 3 ((bodyB p C D).length : Int)).length : Int), 0) ∧ L.drop (1 + (digs 3 ((bodyB p C D).length : Int)).length) = bodyB p C D ∧ 2 ≤ L.length := by
  obtain ⟨hl, hm, hb⟩ := hI
  have hd : L.drop 1 = digs 3 ((bodyB p C D).length : Int) ++ bodyB p C D := by
    rw [← hb, bytesB]
    simp only [List.cons_append, List.nil_append, List.drop_succ_cons, List.drop_zero]
  have hm2 := hm.2
  generalize bodyB p C D = B at hd hm2 ⊢
  have hdl := digs_length 3 (B.length : Int)
  refine ⟨tell_of hd hm2, ?_, ?_⟩
  · rw [← List.drop_drop, hd, List.drop_left]
  · have := congrArg List.length hd
    rw [List.length_drop, List.length_append] at this
    omega

/-- What Parse answers: the packet whose bytes they are; or none. -/
def ParsePost (w : World) (L : List Int) (e : Ending) (w' : World) : Prop :=
  Below w.heap.size w w' ∧ ((∃ p C D, IsPkt L p C D ∧ e = .returned (.tuple #[.agg p.cells, .int .i64 0]) ∧ OwnInts w' w.heap.size 3 .i64 p.codes C ∧ w'.ownsRow w.heap.size 76 2 p.subs D.length (subCells D)) ∨
    ((∀ p C D, ¬ IsPkt L p C D) ∧ e = .returned (.tuple #[.agg zeroP.cells, .int .i64 100])))

theorem parse_results (W : World) (v : Nat) (p : Pkt) (n : Int) (tmps : Array Value) (hv : tmps.getD 2 undef = .pointer (some ⟨v, 0, none⟩)) (hn : tmps.getD 3 undef = .int .i64 n) (h : PkAt W v p) : (results Tryd.f15 tmps).run Tryd.prog W = .ok (.tuple #[.agg p.cells, .int .i64 n]) W := by
  have hl := load_pkt W v p h
  unfold Instr.loadAt at hl
  simp only [Instr.sureAddr, Sem.run_bind, Sem.run_pure, Result.andThen_ok] at hl
  simp only [results, Tryd.results15]
  have hv' : tmps[2]?.getD undef = .pointer (some ⟨v, 0, none⟩) := by rw [← hv]; simp
  have hn' : tmps[3]?.getD undef = .int .i64 n := by rw [← hn]; simp
  simp [hv', hn', asAddr, hl]
theorem kBuildZ {W : World} : (Instr.build PT #[]).run Tryd.prog W = .ok (.agg zeroP.cells) W := by kernel_rfl
theorem rBuild0 {P : Program} {ev : Operand → Value} {o : Oper} {W : World} {v : Value} {t : TypeId} (ho : o.op = .build t #[]) (hk : (Instr.build t #[]).run P W = .ok v W) : (execOp ev o).run P W = .ok (.value v) W :=
  rBuild ho (by rw [Array.map_empty]; exact hk)
theorem rAssign {P : Program} {ev : Operand → Value} {o : Oper} {W : World} {x : Operand} (ho : o.op = .assign x) : (execOp ev o).run P W = .ok (.value (ev x)) W := by
  unfold execOp
  rw [ho]
  rfl

set_option maxRecDepth 100000 in
set_option maxHeartbeats 2000000 in
theorem parse_calls (w : World) (hT : Lib.Utf8Tabs 0 1 w) (A : Option Addr) (L : List Int) (c : Nat) (hR : Reads .u8 w A L) (hc : L.length ≤ c) (hcb : c ≤ 9223372036854775807) (hby : ∀ x ∈ L, 0 ≤ x ∧ x < 256) (hl : L.length ≤ 900000000) : Calls Tryd.prog 15 #[.slice A L.length c] w fun e w' => ParsePost w L e w' := by
  have HT := Lib.hid hT
  have HR := Lib.hid hR
  have HBY := Lib.hid hby
  have hlen : (L.length : Int) ≤ 900000000 := by omega
  clear hT hR hby
  obtain ⟨W1, hW1⟩ : ∃ W1, Hid (W1 = (w.alloc (.cells #[.slice A L.length c] 22)).alloc (.cells zeroC PT)) := ⟨_, rfl⟩
  have HB1 : Hid (Below w.heap.size w W1) := by rw [hW1.out]; exact Below.alloc (Below.alloc (Below.refl _ _) (Nat.le_refl _) _) (by simp) _
  have hs1 : Hid (W1.heap.size = w.heap.size + 2) := by rw [hW1.out, Hid]; simp
  have ht1 : Hid (W1.heap[w.heap.size]? = some (.cells #[.slice A L.length c] 22 (0, 0))) := by
    rw [hW1.out, Hid, heap_old _ _ _ (by simp)]; exact heap_new _ _
  have hr1 : Hid (PkAt W1 (w.heap.size + 1) zeroP) := by
    rw [hW1.out]
    have : (w.alloc (.cells #[.slice A L.length c] 22)).heap.size = w.heap.size + 1 := by simp
    unfold PkAt
    rw [Hid, ← this]; exact heap_new _ _
  have k0 : W1.cell? ⟨w.heap.size, 0, none⟩ = some (.slice A L.length c) := by rw [cell_heap ht1.out]; rfl
  have HR1 : Hid (Reads .u8 W1 A L) := HR.out.keep HB1.out
  have HAT := Lib.hid (Var.at_calls W1 A L c hc HR1.out HBY.out (by omega) 1 (by decide) (by decide))
  obtain ⟨⟨n, at_, er⟩, hTe⟩ : ∃ T, Hid (T = tell 4 true L 1 0 1) := ⟨_, rfl⟩
  rw [← hTe.out] at HAT
  go_enter Tryd.func15, Tryd.ntmps15
  go_upto_region 1 with (fail)
  rw [show (w.alloc (.cells #[.slice A L.length c] 22)).alloc (.cells zeroC PT) = W1 from hW1.out.symm]
  have HSOME : Hid (er = 0 → ∃ k : Nat, at_ = (k : Int) ∧ k ≤ L.length ∧ 0 < L.length) := by
    intro h0
    rcases Var.tell_inv 3 true L 1 0 1 HBY.out with ⟨m, _, _, _, ht, hk, _⟩ | ⟨e, he, ht⟩
    · have := hTe.out
      have ht' : tell 4 true L 1 0 1 = (0 + 1 * m, ((1 : Nat) : Int) + (digs 3 m).length, 0) := ht
      rw [ht'] at this
      injection this with _ this
      injection this with e1 _
      have := digs_length 3 m
      exact ⟨1 + (digs 3 m).length, by rw [e1]; omega, hk, by omega⟩
    · have := hTe.out
      have ht' : tell 4 true L 1 0 1 = (0, 0, e) := ht
      rw [ht'] at this
      injection this with _ this
      injection this with _ e2
      omega
  have HNONE : Hid (er ≠ 0 → ∀ p C D, ¬ IsPkt L p C D) := by
    intro h0 p C D hI
    have := (pkt_tell hI).1
    rw [← hTe.out] at this
    injection this with _ this
    injection this with _ e2
    exact h0 e2
  have HAT2 : Hid (∀ p C D, IsPkt L p C D → at_ = 1 + ((digs 3 ((bodyB p C D).length : Int)).length : Int) ∧ L.drop (1 + (digs 3 ((bodyB p C D).length : Int)).length) = bodyB p C D) := by
    intro p C D hI
    obtain ⟨h1, h2, _⟩ := pkt_tell hI
    rw [← hTe.out] at h1
    injection h1 with _ h1
    injection h1 with e1 _
    exact ⟨e1, h2⟩
  by_cases her : er = 0
  · subst her
    obtain ⟨k, rfl, hkl, hLp⟩ := HSOME.out rfl
    go_wp2_with (fail)
    refine HAT.out.mono ?_
    rintro e w' ⟨rfl, rfl⟩
    -- the closure's own blocks
    obtain ⟨W3, hW3⟩ : ∃ W3, Hid (W3 = (W1.alloc (.cells #[.int .i64 (k : Int)] 3)).alloc (.cells zeroC PT)) := ⟨_, rfl⟩
    have hB3 : Hid (Below W1.heap.size W1 W3) := by rw [hW3.out]; exact Below.alloc (Below.alloc (Below.refl _ _) (Nat.le_refl _) _) (by simp) _
    have hs3 : Hid (W3.heap.size = w.heap.size + 4) := by rw [hW3.out, Hid]; have := hs1.out; simp; omega
    have hz3 : (W1.alloc (.cells #[.int .i64 (k : Int)] 3)).heap.size = w.heap.size + 3 := by have := hs1.out; simp; omega
    have HPI : Hid (ParIn W3 w.heap.size (w.heap.size + 2) (w.heap.size + 3) A c L k) := by
      have hbel : Below w.heap.size w W3 := HB1.out.trans (hB3.out.mono (by have := hs1.out; omega))
      refine ⟨?_, ?_, ?_, by omega, by omega, HR.out.keep hbel, hLp, hc, hcb, HBY.out, hl, hkl, fun x hx => by (obtain ⟨y, hy, hc⟩ := HR.out hLp; rw [hx] at hy; cases hy; have hb := World.block_lt_of_cell? _ _ (hc 0 hLp); rw [add_block] at hb; omega), Utf.tabs_keep HT.out hbel, by have := tabs_lt HT.out; omega⟩
      · rw [hB3.out.cell (by have := hs1.out; show w.heap.size < _; omega)]; exact k0
      · rw [hW3.out]
        have h2 : (W1.alloc (.cells #[.int .i64 (k : Int)] 3)).heap[w.heap.size + 2]? = some (.cells #[.int .i64 (k : Int)] 3 (0, 0)) := by
          have := heap_new W1 (.cells #[.int .i64 (k : Int)] 3)
          rw [hs1.out] at this; exact this
        have h3 := (heap_old (W1.alloc (.cells #[.int .i64 (k : Int)] 3)) (.cells zeroC PT) (w.heap.size + 2) (by omega)).trans h2
        rw [cell_heap h3]; rfl
      · unfold PkAt
        rw [hW3.out]
        have := heap_new (W1.alloc (.cells #[.int .i64 (k : Int)] 3)) (.cells zeroC PT)
        rw [hz3] at this; exact this
    have HTH : Hid (Calls Tryd.prog 32 #[.func (.func 33) #[] #[.pointer (some ⟨w.heap.size, 0, none⟩), .pointer (some ⟨w.heap.size + 2, 0, none⟩), .pointer (some ⟨w.heap.size + 3, 0, none⟩)]] W3 fun e w' =>
        Turn (fun j => j = w.heap.size + 3) W3 w' ∧ ((∃ p C D, IsPkt L p C D ∧ e = .returned (.bool true) ∧ PkAt w' (w.heap.size + 3) p ∧ OwnInts w' W3.heap.size 3 .i64 p.codes C ∧ w'.ownsRow W3.heap.size 76 2 p.subs D.length (subCells D)) ∨ ((∀ p C D, ¬ IsPkt L p C D) ∧ e = .returned (.bool false)))) := by
      have hpin : ParIn (W3.alloc (.cells #[.bool false] 4)) w.heap.size (w.heap.size + 2) (w.heap.size + 3) A c L k := by
        have b : Below W3.heap.size W3 (W3.alloc (.cells #[.bool false] 4)) := Below.alloc (Below.refl _ _) (Nat.le_refl _) _
        have h := HPI.out
        exact ⟨by rw [b.cell (World.block_lt_of_cell? _ _ h.hb)]; exact h.hb, by rw [b.cell (World.block_lt_of_cell? _ _ h.ha)]; exact h.ha, h.pk.keep (Turn.of_below (S := fun _ => False) b) (fun h => h), h.nb, h.na, h.reads.keep b, h.pos, h.cap, h.capb, h.bytes, h.long, h.le, h.blk, Utf.tabs_keep h.tabs b, h.p2⟩
      refine (through_calls 33 #[.pointer (some ⟨w.heap.size, 0, none⟩), .pointer (some ⟨w.heap.size + 2, 0, none⟩), .pointer (some ⟨w.heap.size + 3, 0, none⟩)] W3 (fun j => j = w.heap.size + 3) (by have := hs3.out; show ¬ (W3.heap.size = w.heap.size + 3); omega)
        (fun w1 => ∃ p C D, IsPkt L p C D ∧ PkAt w1 (w.heap.size + 3) p ∧ OwnInts w1 (W3.heap.size + 1) 3 .i64 p.codes C ∧ w1.ownsRow (W3.heap.size + 1) 76 2 p.subs D.length (subCells D)) (fun _ => ∀ p C D, ¬ IsPkt L p C D) (Go.Proofs.enters_of Tryd.func33 (by kernel_rfl) rfl) ?_).mono ?_
      · refine (par_calls _ w.heap.size (w.heap.size + 2) (w.heap.size + 3) A c L k hpin).mono ?_
        rintro e w1 ⟨t, (⟨p, C, D, vc, vs, hr, hm, hb, rfl, hp, hoc, hos⟩ | ⟨hn, rfl⟩)⟩
        · have hsz : (W3.alloc (.cells #[.bool false] 4)).heap.size = W3.heap.size + 1 := by simp
          rw [hsz] at hoc hos
          refine ⟨t, .inl ⟨rfl, p.rows vc vs, C, D, ⟨⟨?_, ?_⟩, hm, hb⟩, hp, hoc, hos⟩⟩
          · obtain ⟨A', c', hv, _⟩ := hoc.form
            show rowLen vc = _
            rw [hv]; rfl
          · obtain ⟨A', c', hv, _⟩ := own_form hos
            show rowLen vs = _
            rw [hv]; rfl
        · refine ⟨t, .inr ⟨rfl, fun p C D hI => ?_⟩⟩
          obtain ⟨h1, h2⟩ := HAT2.out p C D hI
          refine hn p C D hI ?_
          have : k = 1 + (digs 3 ((bodyB p C D).length : Int)).length := by omega
          rw [this]; exact h2
      · rintro e w' ⟨w1, t1, t2, h⟩
        have tt : Turn (fun j => j = w.heap.size + 3) W3 w' := ((Turn.alloc (S := fun j => j = w.heap.size + 3) W3 _).trans t1).then t2 (fun i hi e => by omega)
        refine ⟨tt, ?_⟩
        have hs1' : W3.heap.size + 1 ≤ w1.heap.size := by have := t1.size; simpa using this
        rcases h with ⟨rfl, p, C, D, hI, hp, hoc, hos⟩ | ⟨rfl, hn⟩
        · refine .inl ⟨p, C, D, hI, rfl, hp.keep t2 (fun e => by have := hs3.out; omega), oi_mono (hoc.turn t2 (fun j hj e => by have := (own_block_ge hoc j hj).1; omega)) (by omega) rfl, own_mono (own_turn hos t2 (fun j hj e => by have := (own_block_ge hos j hj).1; omega)) (by omega)⟩
        · exact .inr ⟨hn, rfl⟩
    have hmf : ∀ (fn : Fn) (first cap : Array Value) (w : World), (Instr.makeFunc fn first cap).run Tryd.prog w = .ok (.func fn first cap) w := fun _ _ _ _ => rfl
    go_upto_region 5 with (fail)
    rw [hs1.out]
    rw [show (W1.alloc (.cells #[.int .i64 (k : Int)] 3)).alloc (.cells zeroC PT) = W3 from hW3.out.symm]
    go_wp2_with (fail)
    refine HTH.out.mono ?_
    rintro e w5 ⟨t5, (⟨p, C, D, hI, rfl, hp, hoc, hos⟩ | ⟨hn, rfl⟩)⟩
    · have HRB : Hid (PkAt w5 (w.heap.size + 1) zeroP) := (hr1.out.keep (Turn.of_below (S := fun _ => False) hB3.out) (fun h => h)).keep t5 (fun e => by omega)
      have HBel : Hid (Below w.heap.size w w5) := Turn.belowTrans (HB1.out.trans (hB3.out.mono (by have := hs1.out; omega))) t5 (by have := hs3.out; omega) (fun j hj e => by omega)
      have HP := Lib.hid hp
      have HOC := Lib.hid hoc
      have HOS := Lib.hid hos
      have HI := Lib.hid hI
      have hpc : Hid (p.codes.oneCell' = true) := by obtain ⟨A', c', hv, _⟩ := hoc.form; rw [hv]; exact rfl
      have hps : Hid (p.subs.oneCell' = true) := by obtain ⟨A', c', hv, _⟩ := own_form hos; rw [hv]; exact rfl
      have hsz5 : Hid (w.heap.size + 4 ≤ w5.heap.size) := by have := t5.size; have := hs3.out; rw [Hid]; omega
      clear t5 hp hoc hos hI
      go_upto_region 8 with (fail)
      rename_i hKont
      refine wp_region_lit (wp_load_pkt (p := p) rfl rfl rfl HP.out ?_)
      refine wp_store_pkt (g := w.heap.size + 1) p zeroP rfl rfl rfl rfl HRB.out hpc.out hps.out ?_
      intro Wf HPf tf
      refine st_val (.int .i64 0) (wanted_free rfl) (by exact rAssign (x := .const (.int .i64 0)) rfl) ?_
      refine wpList_nil (hKont _ _ (wp_ret ?_))
      exact ⟨rfl, _, parse_results Wf (w.heap.size + 1) p 0 _ rfl rfl HPf.out, Turn.belowTrans HBel.out tf (by have := hsz5.out; omega) (fun j hj e => by omega),
        .inl ⟨p, C, D, HI.out, rfl, oi_mono (HOC.out.turn tf (fun j hj e => by have := (own_block_ge HOC.out j hj).1; have := hs3.out; omega)) (by have := hs3.out; omega) rfl, own_mono (own_turn HOS.out tf (fun j hj e => by have := (own_block_ge HOS.out j hj).1; have := hs3.out; omega)) (by have := hs3.out; omega)⟩⟩
    · have HRB : Hid (PkAt w5 (w.heap.size + 1) zeroP) := (hr1.out.keep (Turn.of_below (S := fun _ => False) hB3.out) (fun h => h)).keep t5 (fun e => by omega)
      have HBel : Hid (Below w.heap.size w w5) := Turn.belowTrans (HB1.out.trans (hB3.out.mono (by have := hs1.out; omega))) t5 (by have := hs3.out; omega) (fun j hj e => by omega)
      have HN := Lib.hid hn
      have hsz5 : Hid (w.heap.size + 4 ≤ w5.heap.size) := by have := t5.size; have := hs3.out; rw [Hid]; omega
      clear t5 hn
      go_upto_region 7 with (fail)
      rename_i hKont
      refine wp_region_lit ?_
      refine st_val (.agg zeroP.cells) (wanted_free rfl) (by exact rBuild0 rfl kBuildZ) ?_
      refine wp_store_pkt (g := w.heap.size + 1) zeroP zeroP rfl rfl rfl rfl HRB.out rfl rfl ?_
      intro Wf HPf tf
      refine st_val (.int .i64 100) (wanted_free rfl) (by exact rAssign (x := .const (.int .i64 100)) rfl) ?_
      refine wpList_nil (hKont _ _ (wp_ret ?_))
      exact ⟨rfl, _, parse_results Wf (w.heap.size + 1) zeroP 100 _ rfl rfl HPf.out, Turn.belowTrans HBel.out tf (by have := hsz5.out; omega) (fun j hj e => by omega), .inr ⟨HN.out, rfl⟩⟩
  · have her1 : (er == 0) = false := by simpa using her
    have her2 : (er != 0) = true := by simpa using her
    have HN := Lib.hid (HNONE.out her)
    clear her
    go_wp2_with (fail)
    refine HAT.out.mono ?_
    rintro e w' ⟨rfl, rfl⟩
    have HRB : Hid (PkAt (W1.alloc (.cells #[.int .i64 at_] 3)) (w.heap.size + 1) zeroP) := hr1.out.keep (Turn.alloc (S := fun _ => False) W1 _) (fun h => h)
    have HBel : Hid (Below w.heap.size w (W1.alloc (.cells #[.int .i64 at_] 3))) := HB1.out.alloc (by have := hs1.out; omega) _
    go_upto_region 3 with (fail)
    rename_i hKont
    refine wp_region_lit ?_
    refine st_val (.agg zeroP.cells) (wanted_free rfl) (by exact rBuild0 rfl kBuildZ) ?_
    refine wp_store_pkt (g := w.heap.size + 1) zeroP zeroP rfl rfl rfl rfl HRB.out rfl rfl ?_
    intro Wf HPf tf
    refine st_val (.int .i64 100) (wanted_free rfl) (by exact rAssign (x := .const (.int .i64 100)) rfl) ?_
    refine wpList_nil (hKont _ _ (wp_ret ?_))
    exact ⟨rfl, _, parse_results Wf (w.heap.size + 1) zeroP 100 _ rfl rfl HPf.out, Turn.belowTrans HBel.out tf (by have := hs1.out; simp; omega) (fun j hj e => by omega), .inr ⟨HN.out, rfl⟩⟩
end Pk
end Go.Proofs.YteigakkghkjakaaDoor

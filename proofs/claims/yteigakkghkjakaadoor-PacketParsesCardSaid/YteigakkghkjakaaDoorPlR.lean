/- PacketAgain: what is read is laid down as the same bytes. -/
import Derived.Test.YteigakkghkjakaaDoorPlO
import Derived.OpenShut
namespace Go.Proofs.YteigakkghkjakaaDoor
open Go.RowKit Go.ChangeShapes
set_option linter.unusedVariables false
set_option linter.unusedSimpArgs false
namespace Pk
open Utf (nums nums_length nums_bytes IsStr nums_str)
open Var (BT)

theorem u8_range {x : Int} (h : (Lit.int .u8 x).wf = true) : 0 ≤ x ∧ x < 256 := by have := bounds_u8 h; omega
theorem row_reads8 {w : World} {a : Option Addr} {len cap : Nat} {zs : List Int} (h : IsRow .u8 w a len cap zs) :
    (zs.take len).length = len ∧ Reads .u8 w a (zs.take len) ∧ (∀ x ∈ zs.take len, 0 ≤ x ∧ x < 256) ∧ len ≤ cap := by
  rcases h with ⟨rfl, rfl, rfl, rfl⟩ | ⟨x, rfl, h1, h2, h3, h4, h5⟩
  · exact ⟨rfl, fun h => absurd h (by simp), by simp, Nat.le_refl _⟩
  · have hl : (zs.take len).length = len := by simp; omega
    refine ⟨hl, fun _ => ⟨x, rfl, fun i hi => ?_⟩, fun y hy => u8_range (h5 y (List.mem_of_mem_take hy)), h1⟩
    rw [hl] at hi
    rw [lat_take _ _ _ hi]
    exact h4 i (by omega)

set_option maxRecDepth 100000 in
set_option maxHeartbeats 1000000 in
theorem again_walk (a0 : Option Addr) (len0 cap0 : Nat) (z0 : List Int) (w : World) (w0 : IsRow .u8 w a0 len0 cap0 z0) (y0 : cap0 * 1 ≤ 140737488351232) (hT : Lib.Utf8Tabs 0 1 w) :
    Calls Tryd.prog 8 #[.slice a0 len0 cap0] w fun e w' => e = .returned (.bool true) ∧ Below w.heap.size w w' := by
  obtain ⟨hl, hR, hb, hcap⟩ := row_reads8 w0
  obtain ⟨L, hLd⟩ : ∃ L, L = z0.take len0 := ⟨_, rfl⟩
  rw [← hLd] at hl hR hb
  subst hl
  clear hLd w0
  have hlen : Hid (((L.length : Nat) : Int) ≤ 140737488355328) := by rw [Hid]; omega
  have HC := Lib.hid (And.intro hcap (show cap0 ≤ 140737488355328 by omega))
  have HR := Lib.hid hR
  have HT := Lib.hid hT
  have Hb := Lib.hid hb
  clear hR hb y0 hcap hT
  by_cases hbig : (3000 : Int) < (L.length : Int)
  · have hd := decide_eq_true hbig
    go_enter Tryd.func8, Tryd.ntmps8
    go_wp2_with (fail)
    go_ret
    exact ⟨rfl, Below.refl _ _⟩
  have hd := decide_eq_false hbig
  have Hbig : Hid (L.length ≤ 3000) := by rw [Hid]; omega
  clear hbig
  go_enter Tryd.func8, Tryd.ntmps8
  go_wp2_with (fail)
  refine (parse_calls w HT.out a0 L cap0 HR.out HC.out.1 (by have := HC.out.2; omega) Hb.out (by have := Hbig.out; omega)).mono ?_
  rintro e w1 ⟨hb1, (⟨p, C, D, hI, rfl, hoc, hos⟩ | ⟨hnI, rfl⟩)⟩
  · have HB1 := Lib.hid hb1
    have HI := Lib.hid hI
    have HL1 := Lib.hid (own_lies hI Hb.out (by have := Hbig.out; omega) hoc hos)
    have hpc : Hid (p.codes.oneCell' = true) := by obtain ⟨A', c', hv, _⟩ := hoc.form; rw [hv]; exact rfl
    have hps : Hid (p.subs.oneCell' = true) := by obtain ⟨A', c', hv, _⟩ := own_form hos; rw [hv]; exact rfl
    have HLEN : Hid (Good p C D → (bodyB p C D).length ≤ 70368744177664) := Lib.hid fun _ => by have := (is_bounds hI Hb.out).2.2.2; have := Hbig.out; omega
    clear hb1 hI hoc hos
    rename_i hK
    refine hK _ _ ?_
    refine st_val (.tuple #[.agg p.cells, .int .i64 0]) (wanted_free rfl) (by exact rMove (x := .tmp 12) rfl) ?_
    refine st_val (.agg p.cells) (wanted_free rfl) (by exact rExtract (x := .tmp 10) rfl (kExt0 _ _)) ?_
    refine st_val (.int .i64 0) (wanted_free rfl) (by exact rExtract (x := .tmp 10) rfl (kExt1 _ _)) ?_
    refine st_alloc (wanted_free rfl) rfl (by exact kAllocP _) ?_
    refine wp_store_pkt (g := w1.heap.size) p zeroP rfl rfl rfl rfl (by exact heap_new _ _) hpc.out hps.out ?_
    intro w2 HP2 t
    refine st_val (.int .i64 0) (wanted_free rfl) (by exact rAssign (x := .tmp 14) rfl) ?_
    refine wpList_nil ?_
    simp only [Exit.then, Act.put, List.setIfInBounds_toArray, List.set_cons_zero, List.set_cons_succ]
    have HW2 : Hid (Below w1.heap.size w1 w2) := (Below.alloc (Below.refl _ _) (Nat.le_refl _) _).trans (t.toBelow (by simp) (fun k hk e => by omega))
    have HB2 : Hid (Below w.heap.size w w2) := HB1.out.trans (HW2.out.mono HB1.out.size)
    have HL2 := Lib.hid (HL1.out.keep HW2.out)
    clear t hK
    go_wp2_with (with_reducible refine wp_load_pkt (o := ⟨some 19, _, _, _, _, _⟩) rfl rfl rfl HP2.out ?_)
    refine (bytes_calls w2 (Utf.tabs_keep HT.out HB2.out) p C D HL2.out HLEN.out).mono ?_
    rintro e w3 ⟨hb3, (⟨_, A3, c3, rfl, ho3⟩ | ⟨hnm, _⟩)⟩
    · have HB3 := Lib.hid (HB2.out.trans (hb3.mono HB2.out.size))
      have HP3 := Lib.hid (HP2.out.keep (Turn.of_below (S := fun _ => False) hb3) (fun h => h))
      have HL3 := Lib.hid (HL2.out.keep hb3)
      rw [HI.out.2.2] at ho3 ⊢
      have HO3 := Lib.hid ho3
      clear hb3 ho3
      go_wp2_with (fail)
      refine (awake_calls w3 (Utf.tabs_keep HT.out HB3.out)).mono ?_
      rintro e w4 ⟨rfl, hb4⟩
      have HB4 := Lib.hid (HB3.out.trans (hb4.mono HB3.out.size))
      have HP4 := Lib.hid (HP3.out.keep (Turn.of_below (S := fun _ => False) hb4) (fun h => h))
      have HL4 := Lib.hid (HL3.out.keep hb4)
      have HO4 := Lib.hid (HO3.out.turn (Turn.of_below (S := fun _ => False) hb4) (fun _ _ h => h))
      clear hb4
      go_wp2_with (with_reducible refine wp_load_pktG (o := ⟨some 29, _, _, _, _, _⟩) rfl rfl HP4.out ?_ (by with_unfolding_all rfl))
      refine (pcheck_calls w4 (Utf.tabs_keep HT.out HB4.out) p C D HL4.out HLEN.out).mono ?_
      rintro e w5 ⟨hb5, (⟨_, rfl⟩ | ⟨hnm, _⟩)⟩
      · have HB5 := Lib.hid (HB4.out.trans (hb5.mono HB4.out.size))
        have HO5 := HO4.out.turn (Turn.of_below (S := fun _ => False) hb5) (fun _ _ h => h)
        have hcv := conv_own (P := Tryd.prog) (W := w5) (src := 22) (dst := 9) Tryd.underlying22 Tryd.underlying5 Tryd.underlying9 HO5
        have hcv0 := conv_reads (P := Tryd.prog) (W := w5) (src := 22) (dst := 9) (c := cap0) Tryd.underlying22 Tryd.underlying5 Tryd.underlying9 rfl (HR.out.keep HB5.out)
        clear hb5 HO5
        go_wp2_with (fail)
        go_ret
        exact ⟨rfl, HB5.out⟩
      · exact absurd HI.out.2.1 hnm
    · exact absurd HI.out.2.1 hnm
  · have HB1 := Lib.hid hb1
    clear hb1 hnI
    rename_i hK
    refine hK _ _ ?_
    refine st_val (.tuple #[.agg zeroP.cells, .int .i64 100]) (wanted_free rfl) (by exact rMove (x := .tmp 12) rfl) ?_
    refine st_val (.agg zeroP.cells) (wanted_free rfl) (by exact rExtract (x := .tmp 10) rfl (kExt0 _ _)) ?_
    refine st_val (.int .i64 100) (wanted_free rfl) (by exact rExtract (x := .tmp 10) rfl (kExt1 _ _)) ?_
    refine st_alloc (wanted_free rfl) rfl (by exact kAllocP _) ?_
    refine wp_store_pkt (g := w1.heap.size) zeroP zeroP rfl rfl rfl rfl (by exact heap_new _ _) rfl rfl ?_
    intro w2 HP2 t
    refine st_val (.int .i64 100) (wanted_free rfl) (by exact rAssign (x := .tmp 14) rfl) ?_
    refine wpList_nil ?_
    simp only [Exit.then, Act.put, List.setIfInBounds_toArray, List.set_cons_zero, List.set_cons_succ]
    have HW2 : Hid (Below w1.heap.size w1 w2) := (Below.alloc (Below.refl _ _) (Nat.le_refl _) _).trans (t.toBelow (by simp) (fun k hk e => by omega))
    have HB2 : Hid (Below w.heap.size w w2) := HB1.out.trans (HW2.out.mono HB1.out.size)
    clear t hK
    go_wp2_with (fail)
    refine (awake_calls w2 (Utf.tabs_keep HT.out HB2.out)).mono ?_
    rintro e w4 ⟨rfl, hb4⟩
    have HB4 := Lib.hid (HB2.out.trans (hb4.mono HB2.out.size))
    clear hb4
    go_wp2_with (fail)
    go_ret
    exact ⟨rfl, HB4.out⟩
end Pk
end Go.Proofs.YteigakkghkjakaaDoor

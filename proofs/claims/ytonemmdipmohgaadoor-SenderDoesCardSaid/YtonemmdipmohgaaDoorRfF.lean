/- The reference: full, codes, subs. -/
import Derived.Test.YtonemmdipmohgaaDoorRfE
namespace Go.Proofs.YtonemmdipmohgaaDoor
open Go.RowKit Go.ChangeShapes
set_option linter.unusedVariables false
set_option linter.unusedSimpArgs false
namespace Ref
open Utf (nums nums_length nums_bytes IsStr nums_str)
open Var (BT info_byte GivesBytes digs digs_length)
open Pk

set_option maxHeartbeats 1000000 in
theorem full_calls (w : World) (s : ByteArray) : Calls Tryd.prog 40 #[.string s] w fun e w' => e = .returned (.bool (decide (Full s))) ∧ Below w.heap.size w w' := by
  by_cases h0 : s.size = 0
  · have hE : (s.toList == []) = true := by rw [size_iff]; exact decide_eq_true h0
    have hF : ¬ Full s := fun h => h.1 h0
    have hE2 : s.toList = [] := by simpa using hE
    go_enter Tryd.func40, Tryd.ntmps40
    go_wp2_with (fail)
    go_ret
    exact ⟨by rw [decide_eq_false hF]; simp [hE2], Below.refl _ _⟩
  · have hE : (s.toList == []) = false := by rw [size_iff]; exact decide_eq_false h0
    have hE2 : ¬ s.toList = [] := by simpa using hE
    have hF : Full s ↔ Str s := ⟨fun h => h.2, fun h => ⟨h0, h⟩⟩
    have hdd : decide (Full s) = decide (Str s) := by rw [decide_eq_decide]; exact hF
    rw [hdd]
    go_enter Tryd.func40, Tryd.ntmps40
    go_wp2_with (fail)
    refine (is09_calls w s).mono ?_
    rintro e w1 ⟨rfl, hb⟩
    have HB := Lib.hid hb
    clear hb
    go_wp2_with (fail)
    go_ret
    exact ⟨by simp [hE2], HB.out⟩

noncomputable instance (c : Int) : Decidable (CodeOk c) := Classical.propDecidable _
noncomputable instance (t : Int) (s : ByteArray × Int) : Decidable (SubOk t s) := Classical.propDecidable _
/-- A packet in its box. -/
structure Box (w W : World) (g : Nat) (p : Pkt) (C : List Int) (D : List (ByteArray × Int)) : Prop where
  at_ : At w W g p
  lies : Lies W p C D

set_option maxRecDepth 100000 in
set_option maxHeartbeats 1000000 in
theorem codes_calls (w : World) (p : Pkt) (C : List Int) (D : List (ByteArray × Int)) (hF : Lies w p C D) : Calls Tryd.prog 42 #[.agg p.cells] w fun e w' => e = .returned (.bool (decide (0 < C.length ∧ ∀ c ∈ C, CodeOk c))) ∧ Below w.heap.size w w' := by
  have hA := at_box w p
  obtain ⟨W, hW⟩ : ∃ W, Hid (W = w.alloc (.cells p.cells PT)) := ⟨_, rfl⟩
  obtain ⟨g, hg⟩ : ∃ g, Hid (g = w.heap.size) := ⟨_, rfl⟩
  rw [← hW.out, ← hg.out] at hA
  have HA := Lib.hid hA
  obtain ⟨Ac, cc, hcs, hCr⟩ := hF.codes
  have HC := Lib.hid (hCr.keep hA.below)
  have k16 : W.cell? ⟨g, 16, none⟩ = some (.slice Ac C.length cc) := by rw [← hcs]; exact hA.at_.cell 16
  have hlC : (C.length : Int) ≤ 1000000000000000000 := hF.lenC
  obtain ⟨r, hr⟩ : ∃ r, Hid (decide (0 < C.length ∧ ∀ c ∈ C, CodeOk c) = r) := ⟨decide (0 < C.length ∧ ∀ c ∈ C, CodeOk c), by rw [Hid]⟩
  rw [hr.out]
  clear hA hCr hcs hF
  go_enter Tryd.func42, Tryd.ntmps42
  go_upto_region 1 with (fail)
  rw [← hW.out, ← hg.out]
  obtain ⟨kk, hkk⟩ : ∃ kk : Nat, Hid (kk = C.length) := ⟨C.length, by rw [Hid]⟩
  go_wp2_with (fail)
  go_loopw [3, 4] (fun x y wr => ∃ k : Nat, k ≤ C.length ∧ x = .int .i64 k ∧ Hid (∀ c ∈ C.take k, CodeOk c) ∧ Hid (wr = W)) (fun x _ _ => C.length - (intOf x).toNat)
  case atStart => exact ⟨0, Nat.zero_le _, rfl, by rw [List.take_zero, Hid]; simp, rfl⟩
  case round =>
    obtain ⟨k, hk, rfl, hok, hwr⟩ := hrel
    have hwr' := hwr.out
    clear hwr
    subst hwr'
    have hkb : (k : Int) ≤ 1000000000000000000 := by omega
    by_cases hkl : k < C.length
    · obtain ⟨x, rfl, hcx⟩ := HC.out (by omega)
      have hx0 := hcx k hkl
      obtain ⟨q, hse⟩ : ∃ q, Hid (q = C[k]) := ⟨C[k], by rw [Hid]⟩
      rw [lat_get _ _ hkl, ← hse.out] at hx0
      have hmem : Hid (q ∈ C) := by rw [hse.out]; exact List.getElem_mem hkl
      clear hcx
      by_cases hc : CodeOk q
      · have hnext : Hid (∀ c ∈ C.take (k + 1), CodeOk c) := by
          rw [List.take_succ_eq_append_getElem hkl]
          intro c hcm
          rcases List.mem_append.1 hcm with h | h
          · exact hok.out c h
          · rw [List.mem_singleton.1 h, ← hse.out]; exact hc
        rcases hc with ⟨h0, h2⟩ | h128
        · have d0 : decide (q < 0) = false := decide_eq_false (by omega)
          have d2 : decide (2 < q) = false := decide_eq_false (by omega)
          go_wp2_with (fail)
          go_roundw
          case rel => exact ⟨k + 1, by omega, by go_num, hnext.out, trivial⟩
          case measure => simp [intOf]; omega
        · subst h128
          go_wp2_with (fail)
          go_roundw
          case rel => exact ⟨k + 1, by omega, by go_num, hnext.out, trivial⟩
          case measure => simp [intOf]; omega
      · have hrf : r = false := by rw [← hr.out]; exact decide_eq_false (fun h => hc (h.2 q hmem.out))
        subst hrf
        by_cases h0 : q < 0
        · have d0 : decide (q < 0) = true := decide_eq_true h0
          go_wp2_with (fail)
          go_ret
          exact ⟨rfl, HA.out.below⟩
        · have d0 : decide (q < 0) = false := decide_eq_false h0
          have d2 : decide (2 < q) = true := decide_eq_true (by unfold CodeOk at hc; omega)
          have d3 : (q != 128) = true := bne_iff_ne.2 (by unfold CodeOk at hc; omega)
          go_wp2_with (fail)
          go_ret
          exact ⟨rfl, HA.out.below⟩
    · have ht : C.take k = C := List.take_of_length_le (by omega)
      rw [ht] at hok
      have hre : Hid (decide ((0 : Int) < C.length) = r) := by
        rw [Hid, ← hr.out, decide_eq_decide]
        exact ⟨fun h => ⟨by omega, hok.out⟩, fun h => by omega⟩
      go_wp2_with (fail)
      go_ret
      refine ⟨?_, HA.out.below⟩
      rw [← hre.out]; simp
end Ref
end Go.Proofs.YtonemmdipmohgaaDoor

/- receiver: Held. -/
import Derived.Test.YtonemmdipmohgaaDoorRcA
import Derived.Test.YtonemmdipmohgaaDoorIter
import Derived.Test.YtonemmdipmohgaaDoorUtfD
namespace Go.Proofs.YtonemmdipmohgaaDoor
open Go.RowKit Go.ChangeShapes Go.Maps Go.Sort Go.Shelf
set_option linter.unusedVariables false
set_option linter.unusedSimpArgs false
namespace Rcv
open Pk Str

theorem keys_perm {w : World} {b n : Nat} {L : List Int} {D : DataW Unit} (hn : L.Nodup) (hr : ∀ x ∈ L, 1 ≤ x ∧ x ≤ 65535) (hown : w.ownsMap Tryd.prog Ids.KT (plainElem Tryd.prog Ids.ET) b n D)
    (hat : ∀ i, (Lit.int .i64 i).wf = true → Maps.has D (.int .i64 i) = decide (i ∈ L)) : L.Perm (intKeys D) := by
  refine CollectedI.perm (left := fun _ => false) ⟨hn, fun x => ?_⟩ hown Ids.law Tryd.underlying3 (fun _ => rfl)
  constructor
  · intro hx
    have := hr x hx
    rw [hat x (Ids.wf_i64 (by omega) (by omega)), decide_eq_true hx]
    exact ⟨rfl, rfl⟩
  · rintro ⟨hh, _⟩
    have hw : (Lit.int .i64 x).wf = true := by
      refine intKeys_wf hown Tryd.underlying3 x ?_
      obtain ⟨es, hD, hko⟩ := hown.keysOf
      subst hD
      rw [has_eq, List.any_eq_true] at hh
      obtain ⟨p, hp, hs⟩ := hh
      obtain ⟨v, hv⟩ := hko p hp
      obtain ⟨y, _, hy, _⟩ := Maps.keyOf_i64 Tryd.underlying3 hv
      rw [hy] at hs
      have e : y = x := by simpa [Lit.sameKey] using hs
      unfold intKeys
      exact List.mem_map.2 ⟨p, hp, by rw [hy, ← e]; rfl⟩
    rw [hat x hw] at hh
    exact of_decide_eq_true hh

theorem sortsA (m : Nat) : AnyZI.SortsIn Tryd.prog Tryd.sortedA_ren Fence.wide m :=
  ⟨fun blk off cap ss W hH hblk hsz => callsIn_wide.2 (Tryd.slices_Sort_int blk off cap ss W hH hblk hsz),
   fun p cap W => callsIn_wide.2 (Tryd.slices_Sort_int_none p cap W)⟩

def HeldPost (w : World) (L : List Int) (e : Ending) (w' : World) : Prop :=
  ∃ A n c, e = .returned (.slice A n c) ∧ ∃ S : List Int, n = S.length ∧ OwnInts w' w.heap.size 3 .i64 (.slice A n c) S ∧ S.Perm L ∧ S.Pairwise (· ≤ ·) ∧ Below w.heap.size w w'
set_option maxHeartbeats 1000000 in
theorem held_calls (w : World) (R b : Nat) (L : List Int) (h : RcAt w R b L) : Calls Tryd.prog 18 #[.pointer (some ⟨R, 0, none⟩)] w fun e w' => HeldPost w L e w' := by
  have r0 : w.cell? ⟨R, 0, none⟩ = some (.map (some b)) := cell_heap h.obj
  obtain ⟨hnd, hrg, D, hown, hs, hat⟩ := h.set
  have HPM := Lib.hid (keys_perm hnd hrg hown (fun i hi => (hat i hi).1))
  have hle : L.length ≤ 65535 := Ids.nodup_le 65535 L hnd hrg
  have hmax : Maps.size D ≤ maxLen := by rw [hs]; simp only [maxLen]; omega
  have hbytes : Maps.size D * 8 ≤ 140737488355328 := by rw [hs]; omega
  have hbl := hown.lt
  clear h hat hs hle
  refine (callsIn_wide (n := 6)).1 ?_
  have hseq : SeqGives Fence.wide 2 Tryd.prog 69 #[.pointer (some ⟨w.heap.size, 0, none⟩)] encZ (fun ss => ss.Perm (intKeys D)) (Maps.size D) (w.alloc (.cells #[.map (some b)] 74)) :=
    AnyZI.keys_gives (ρ := Tryd.keysA_ren) { Tryd.keysA with } Fence.wide _ trivial rfl (by omega) w.heap.size b _ D _ (by simp) (by simp) (by
      obtain ⟨es, clock, hb, Ft, hs, hD⟩ := hown
      exact ⟨es, clock, (Below.heap_alloc _ _ b hbl).trans hb, Ft, hs, hD⟩)
  have cK : ∀ mb W, CallsIn Fence.wide 5 Tryd.prog 47 #[.map mb] W fun e w' => e = .returned (.func (.func 69) #[] #[.pointer (some ⟨W.heap.size, 0, none⟩)]) ∧ w' = W.alloc (.cells #[.map mb] 74) := fun mb W => AnyZI.keys_in Tryd.keysA Fence.wide 5 trivial rfl mb W
  have cS := AnyZI.sorted_in Tryd.sortedA Fence.wide 5 trivial trivial trivial trivial rfl (by omega) (sortsA _) (enters_of Tryd.func68 (by kernel_rfl) rfl) 69 #[.pointer (some ⟨w.heap.size, 0, none⟩)] trivial (enters_of Tryd.func69 (by kernel_rfl) rfl) _ _ hmax hbytes _ hseq
  change CallsIn _ _ Tryd.prog 46 _ _ _ at cS
  have hfK : Fence.wide.fn 47 := trivial
  have hfS : Fence.wide.fn 46 := trivial
  clear hseq hown hmax hbytes
  refine callsIn_of_wp Tryd.func18 rfl trivial ?_ rfl
  simp only [Tryd.ntmps18, List.size_toArray, List.length_cons, List.length_nil, Nat.reduceAdd, Nat.reduceSub, Array.replicate_succ, Array.replicate_zero, List.push_toArray, List.append_toArray, List.nil_append, List.cons_append]
  gi_wp2_with (first
    | (gi_at_call 47; refine (cK _ _).mono ?_; rintro e w' ⟨rfl, rfl⟩)
    | (gi_at_call 46; refine cS.mono ?_; rintro e w' ⟨v, ss, rfl, hS, hrow, hnil, hb⟩))
  have hB : Below w.heap.size w w' := ((Below.refl _ w).alloc (Nat.le_refl _) _).trans (hb.mono (by simp))
  have hrow' := own_mono hrow (base' := w.heap.size) (by simp)
  obtain ⟨A, c, hv, _⟩ := own_form hrow'
  subst hv
  go_ret
  refine ⟨A, _, c, rfl, ss.mergeSort (fun x y => decide (x ≤ y)), ?_, ?_, ?_, ?_, hB⟩
  · rw [List.length_mergeSort]
  · show w'.ownsRow w.heap.size 3 1 _ (ss.mergeSort _).length _
    rw [List.length_mergeSort]
    exact hrow'
  · exact (List.mergeSort_perm _ _).trans (hS.trans HPM.out.symm)
  · have := List.pairwise_mergeSort (le := fun x y : Int => decide (x ≤ y)) (fun a b c h1 h2 => by simp only [decide_eq_true_eq] at *; omega) (fun a b => by simp only [Bool.or_eq_true, decide_eq_true_eq]; omega) ss
    exact this.imp (fun h => by simpa using h)
end Rcv
end Go.Proofs.YtonemmdipmohgaaDoor

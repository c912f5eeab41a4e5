/- The set of numbers in a map, and what the functions of package ids do with it. -/
import Derived.Test.YtknkdapiflhifaaProg
import Derived.Test.YtknkdapiflhifaaBase
namespace Go.Proofs.Ytknkdapiflhifaa
open Go.RowKit Go.Maps
open Go.WideElems (Fit rd rg pl rd_val elemAt)
set_option linter.unusedVariables false
set_option linter.unusedSimpArgs false

namespace Ids
abbrev MT : Nat := 39
abbrev KT : Nat := 3
abbrev ET : Nat := 4
theorem law : Keyed Try.prog KT := int_keyed Try.underlying3
theorem zeroE (w : World) : (zeroValue ET).run Try.prog w = .ok (.bool false) w := by kernel_rfl

theorem wf_i64 {i : Int} (h1 : -9223372036854775808 ≤ i) (h2 : i ≤ 9223372036854775807) : (Lit.int .i64 i).wf = true := WalkArith.wf_i64 ⟨h1, h2⟩

/-- Unlike numbers from 1 to n are at most n. -/
theorem nodup_le (n : Nat) : ∀ L : List Int, L.Nodup → (∀ x ∈ L, 1 ≤ x ∧ x ≤ n) → L.length ≤ n := by
  induction n with
  | zero =>
    intro L _ h
    cases L with
    | nil => simp
    | cons x r => have := h x (by simp); omega
  | succ n ih =>
    intro L hn h
    have h1 := ih (L.erase ((n : Int) + 1)) (hn.erase _) (fun x hx => by
      have := (hn.mem_erase_iff).1 hx
      have := h x this.2
      omega)
    have := List.length_erase (a := (n : Int) + 1) (l := L)
    split at this <;> omega
/-- .. and all of them, where they are n. -/
theorem nodup_full (n : Nat) (L : List Int) (hn : L.Nodup) (h : ∀ x ∈ L, 1 ≤ x ∧ x ≤ n) (hl : n ≤ L.length) (x : Int) (h1 : 1 ≤ x) (h2 : x ≤ n) : x ∈ L := by
  by_cases hx : x ∈ L
  · exact hx
  · have := nodup_le n (x :: L) (List.nodup_cons.2 ⟨hx, hn⟩) (fun y hy => by
      rcases List.mem_cons.1 hy with rfl | hy
      · exact ⟨h1, h2⟩
      · exact h y hy)
    simp at this
    omega

/-- Block b is a map whose keys are the numbers of L, each true. -/
structure SetAt (w : World) (b : Nat) (L : List Int) : Prop where
  nodup : L.Nodup
  range : ∀ x ∈ L, 1 ≤ x ∧ x ≤ 65535
  map : ∃ D : DataW Unit, w.ownsMap Try.prog KT (plainElem Try.prog ET) b (Maps.size D) D ∧ Maps.size D = L.length ∧
    ∀ i, (Lit.int .i64 i).wf = true → Maps.has D (.int .i64 i) = decide (i ∈ L) ∧ D.atKey (.int .i64 i) (.lit (.bool false)) = .lit (.bool (decide (i ∈ L)))

theorem ownsMap_tight {w : World} {b n : Nat} {D : DataW Unit} (h : w.ownsMap Try.prog KT (plainElem Try.prog ET) b n D) : w.ownsMap Try.prog KT (plainElem Try.prog ET) b (Maps.size D) D := by
  obtain ⟨es, clock, hb, F, hs, hD⟩ := h
  refine ⟨es, clock, hb, F, ?_, hD⟩
  rw [hD]
  simp [Maps.size, length_sorted]

theorem SetAt.of_heap {w w' : World} {b : Nat} {L : List Int} (h : SetAt w b L) (hb : w'.heap[b]? = w.heap[b]?) : SetAt w' b L := by
  obtain ⟨h1, h2, D, ⟨es, clock, hh, r⟩, h4⟩ := h
  exact ⟨h1, h2, D, ⟨es, clock, hb.trans hh, r⟩, h4⟩
theorem SetAt.lt {w : World} {b : Nat} {L : List Int} (h : SetAt w b L) : b < w.heap.size := by
  obtain ⟨_, _, D, h, _⟩ := h
  exact h.lt
theorem SetAt.turn {w w' : World} {b : Nat} {L : List Int} {S : Nat → Prop} (h : SetAt w b L) (t : Turn S w w') (hn : ¬ S b) : SetAt w' b L := h.of_heap (t.block b h.lt hn)

theorem SetAt.made (w : World) : SetAt (w.alloc (.map #[] 0)) w.heap.size [] := by
  refine ⟨by simp, by simp, .map [], ownsMap_tight (World.ownsMap_made w _ _ _), rfl, fun i _ => ⟨rfl, rfl⟩⟩



theorem SetAt.look {w : World} {b : Nat} {L : List Int} (h : SetAt w b L) {i : Int} (hi : (Lit.int .i64 i).wf = true) :
    (Instr.lookup MT (.map (some b)) (.int .i64 i) false).run Try.prog w = .ok (.bool (decide (i ∈ L))) w := by
  obtain ⟨_, _, D, hown, _, hat⟩ := h
  obtain ⟨v, ps, hrun, hv⟩ := hown.lookup (t := MT) law Try.underlying39 (zeroE _) (plainElem_bool Try.underlying4 false) (keyOf_int_mk Try.underlying3 hi)
  rw [(hat i hi).2] at hv
  have : v = .bool (decide (i ∈ L)) := by
    unfold plainElem at hv
    rw [Try.underlying4] at hv
    cases v <;> simp at hv
    rw [hv.1]
  rw [← this]; exact hrun

theorem SetAt.len {w : World} {b : Nat} {L : List Int} (h : SetAt w b L) (ty : TypeId) : (Builtin.len_ #[MT] ty #[.map (some b)]).run Try.prog w = .ok (.int .i64 (L.length : Int)) w := by
  obtain ⟨_, _, D, hown, hs, _⟩ := h
  rw [hown.len Try.underlying39 ty, hs]

theorem SetAt.add_core {w w' : World} {b n : Nat} {L : List Int} {D : DataW Unit} (h : SetAt w b L) {i : Int} (h1 : 1 ≤ i) (h2 : i ≤ 65535) (hi : i ∉ L)
    (hD : w.ownsMap Try.prog KT (plainElem Try.prog ET) b n D) (hs : Maps.size D = L.length)
    (hat : ∀ i, (Lit.int .i64 i).wf = true → Maps.has D (.int .i64 i) = decide (i ∈ L) ∧ D.atKey (.int .i64 i) (.lit (.bool false)) = .lit (.bool (decide (i ∈ L))))
    (hD' : w'.ownsMap Try.prog KT (plainElem Try.prog ET) b (n + 1) (D.put (.int .i64 i) (.lit (.bool true)))) : SetAt w' b (L ++ [i]) := by
  have hw : (Lit.int .i64 i).wf = true := wf_i64 (by omega) (by omega)
  have hkl : WideAt.IsKeyLit (.int .i64 i) := law.key (keyOf_int_mk Try.underlying3 hw)
  refine ⟨?_, ?_, _, ownsMap_tight hD', ?_, ?_⟩
  · rw [List.nodup_append]
    exact ⟨h.nodup, by simp, fun a ha c hc e => by simp at hc; subst hc; subst e; exact hi ha⟩
  · intro x hx
    rcases List.mem_append.1 hx with hx | hx
    · exact h.range x hx
    · simp at hx; subst hx; exact ⟨h1, h2⟩
  · rw [Maps.size_put (hD.tidy law), (hat i hw).1]
    simp [hi, hs]
  · intro j hj
    by_cases e : j = i
    · subst e
      rw [Maps.has_put_same hD.isMap hkl, Maps.atKey_put_same hD.isMap hkl]
      simp
    · have hne : Lit.int .i64 j ≠ Lit.int .i64 i := fun e' => e (by injection e')
      rw [Maps.has_put_other hne, Maps.atKey_put_other hne, (hat j hj).1, (hat j hj).2]
      simp [e]

/-- 'm[i] = true' as the statement of several values has it: the entry first, then the store. -/
theorem SetAt.entry {w : World} {b : Nat} {L : List Int} (h : SetAt w b L) {i : Int} (h1 : 1 ≤ i) (h2 : i ≤ 65535) (hi : i ∉ L) :
    ∃ (c : Nat) (w1 : World), (Instr.mapEntry MT (.map (some b)) (.int .i64 i)).run Try.prog w = .ok (.tuple #[.bool false, .int .i64 c]) w1 ∧ Turn (· = b) w w1 ∧ w1.heap.size = w.heap.size ∧
      ∃ w2, (Instr.entryStore MT (.map (some b)) (.int .i64 c) (.bool true)).run Try.prog w1 = .ok () w2 ∧ SetAt w2 b (L ++ [i]) ∧ Turn (· = b) w1 w2 := by
  have hw : (Lit.int .i64 i).wf = true := wf_i64 (by omega) (by omega)
  have hkey := keyOf_int_mk Try.underlying3 hw
  have hset := h
  obtain ⟨_, _, D, hown, hs, hat⟩ := h
  have hown0 := hown
  have hhas : Maps.has D (.int .i64 i) = false := by rw [(hat i hw).1]; simp [hi]
  have hn : Maps.size D < maxLen := by
    have := nodup_le 65535 L hset.nodup hset.range
    unfold maxLen
    omega
  obtain ⟨w3, hrun3, hown3, _⟩ := hown0.store law Try.underlying39 hn hkey (plainElem_bool Try.underlying4 true)
  have hset3 := hset.add_core h1 h2 hi hown0 hs hat hown3
  obtain ⟨es, clock, hb, F, hsz, hDe⟩ := hown
  have hF := F
  rcases law.find w hkey es.toList F.keys with ⟨f1, f2⟩ | ⟨j, e0, f1, f2, f3⟩
  · refine ⟨clock, Go.ChangeMaps.setBlock w b (.map (es.push ⟨.int .i64 i, .bool false, clock⟩) (clock + 1)), ?_, ?_, by simp [Go.ChangeMaps.setBlock], ?_⟩
    · simp [Instr.mapEntry, run_underlying Try.underlying39, MapKept.run_getObj_map hb, law.check w false hkey, f1, zeroE, MapKept.run_setObj_map _ hb, Result.andThen, Go.ChangeMaps.setBlock, goInt]
    · exact ⟨rfl, rfl, rfl, by simp [Go.ChangeMaps.setBlock], fun k _ hk => Go.ChangeMaps.heap_setBlock_other hb _ hk⟩
    · have hb2 := Go.ChangeMaps.heap_setBlock_same hb (.map (es.push ⟨.int .i64 i, .bool false, clock⟩) (clock + 1))
      have hidx : (es.push ⟨.int .i64 i, .bool false, clock⟩).findIdx? (fun e => ((e.born : Nat) : Int) == ((clock : Nat) : Int)) = some es.size := by
        rw [Array.findIdx?_push]
        have : es.findIdx? (fun e => ((e.born : Nat) : Int) == ((clock : Nat) : Int)) = none := by
          rw [Array.findIdx?_eq_none_iff]
          intro x hx
          have := F.stamped.1 x (by simpa using hx)
          simp
          omega
        rw [this]
        simp
      refine ⟨Go.ChangeMaps.setBlock (Go.ChangeMaps.setBlock w b (.map (es.push ⟨.int .i64 i, .bool false, clock⟩) (clock + 1))) b (.map (es.push ⟨.int .i64 i, .bool true, clock⟩) (clock + 1)), ?_, ?_, ?_⟩
      · have hmod : (es.push ⟨.int .i64 i, .bool false, clock⟩).modify es.size (fun e => { e with val := .bool true }) = es.push ⟨.int .i64 i, .bool true, clock⟩ := by
          apply Array.ext_getElem?
          intro k
          simp only [Array.getElem?_modify, Array.getElem?_push]
          by_cases e : es.size = k
          · subst e; simp
          · rw [if_neg e]
            simp [Ne.symm e]
        generalize Go.ChangeMaps.setBlock w b (.map (es.push ⟨.int .i64 i, .bool false, clock⟩) (clock + 1)) = W1 at hb2 ⊢
        simp [Instr.entryStore, MapKept.run_getObj_map hb2, asInt, asIntOf, Result.andThen, hidx, hmod, MapKept.run_setObj_map _ hb2, Go.ChangeMaps.setBlock]
      · have hu : (Instr.mapUpdate MT (.map (some b)) (.int .i64 i) (.bool true)).run Try.prog w = .ok () (Go.ChangeMaps.setBlock w b (.map (es.push ⟨.int .i64 i, .bool true, clock⟩) (clock + 1))) := by
          simp [Instr.mapUpdate, run_underlying Try.underlying39, MapKept.run_getObj_map hb, law.check w false hkey, f1, MapKept.run_setObj_map _ hb, Result.andThen, Go.ChangeMaps.setBlock]
        rw [hu] at hrun3
        injection hrun3 with _ hw3
        rw [← hw3] at hset3
        refine hset3.of_heap ?_
        rw [Go.ChangeMaps.heap_setBlock_same hb2, Go.ChangeMaps.heap_setBlock_same hb]
      · exact ⟨rfl, rfl, rfl, by simp [Go.ChangeMaps.setBlock], fun k _ hk => Go.ChangeMaps.heap_setBlock_other hb2 _ hk⟩
  · exfalso
    have hin := List.mem_of_getElem? f2
    obtain ⟨y, hy⟩ := F.reads e0 hin
    have hk0 := Go.WideElems.rd_key hy
    rw [f3, hkey] at hk0
    have hy1 : y.1 = .int .i64 i := (Option.some.inj hk0).symm
    rw [hDe] at hhas
    have : y ∈ (es.toList.map (rg Try.prog KT (plainElem (H := Unit) Try.prog ET))).foldr DataW.insert [] := by
      exact ((Go.WideShapes.sorted_perm _).mem_iff).2 (List.mem_map.2 ⟨e0, hin, Go.WideElems.rg_of hy⟩)
    have := (List.any_eq_false.1 hhas) y this
    rw [hy1] at this
    exact this (WideAt.sameKey_self (law.key hkey))

theorem strike_len (i : Int) : ∀ L : List Int, L.Nodup → (L.filter (· ≠ i)).length + (if i ∈ L then 1 else 0) = L.length := by
  intro L
  induction L with
  | nil => intro _; simp
  | cons x r ih =>
    intro h
    obtain ⟨hx, hr⟩ := List.nodup_cons.1 h
    have ih := ih hr
    by_cases e : x = i
    · subst e
      have : r.filter (· ≠ x) = r := List.filter_eq_self.2 fun y hy => by simpa using fun e => hx (by rw [← e]; exact hy)
      rw [if_pos (by simp), List.filter_cons, if_neg (by simp), this]
      simp
    · have e' : ¬ i = x := fun h => e h.symm
      rw [List.filter_cons, if_pos (by simpa using e), List.length_cons, List.length_cons]
      by_cases hm : i ∈ r
      · rw [if_pos hm] at ih
        rw [if_pos (by simp [hm])]
        omega
      · rw [if_neg hm] at ih
        rw [if_neg (by simp [hm, e'])]
        omega

/-- 'delete(m, i)'. -/
theorem SetAt.del {w : World} {b : Nat} {L : List Int} (h : SetAt w b L) {i : Int} (hi : (Lit.int .i64 i).wf = true) (ty : TypeId) :
    ∃ w1, (Builtin.delete_ #[MT, KT] ty #[.map (some b), .int .i64 i]).run Try.prog w = .ok (.tuple #[]) w1 ∧ SetAt w1 b (L.filter (· ≠ i)) ∧ Turn (· = b) w w1 := by
  have hset := h
  obtain ⟨_, _, D, hown, hs, hat⟩ := h
  have hkey := keyOf_int_mk Try.underlying3 hi
  obtain ⟨w1, hrun, hown1, hturn⟩ := hown.drop law Try.underlying39 hkey ty
  refine ⟨w1, hrun, ⟨hset.nodup.filter _, fun x hx => hset.range x (List.mem_filter.1 hx).1, _, ownsMap_tight hown1, ?_, ?_⟩, .of_grownBy hturn.grown (fun k e => (Option.some.inj e).symm)⟩
  · have h1 := Maps.size_del (k := .int .i64 i) (hown.tidy law)
    rw [(hat i hi).1, hs] at h1
    have h2 := strike_len i L hset.nodup
    by_cases hm : i ∈ L
    · simp only [hm, decide_true, if_true] at h1 h2; omega
    · simp only [hm, decide_false, if_false] at h1 h2; simp at h1; omega
  · intro j hj
    by_cases e : j = i
    · subst e
      rw [Maps.has_del_same, Maps.atKey_del_same]
      simp
    · have hne : Lit.int .i64 j ≠ Lit.int .i64 i := fun e' => e (by injection e')
      rw [Maps.has_del_other hne, Maps.atKey_del_other hne, (hat j hj).1, (hat j hj).2]
      simp [e]

end Ids
end Go.Proofs.Ytknkdapiflhifaa

/- The set of numbers in a map, and what the functions of package ids do with it. What the methods of ids.Ids do, each at the object's block and its set. The document's example of ids; what Take does where the next number is free. IdsFull, IdsRound: the numbers go round. IdsRound. The reference of ids: a list in a field behind a pointer. IdsDoes: the program against the reference, call by call. -/
import Derived.Test.YtonemmdipmohgaaDoorProg
import Derived.Test.YtonemmdipmohgaaDoorBase
import Derived.Deep.LoopGhost
import Derived.WalkSmall
namespace Go.Proofs.YtonemmdipmohgaaDoor
open Go.RowKit Go.Maps
open Go.WideElems (Fit rd rg pl rd_val elemAt)
set_option linter.unusedVariables false
set_option linter.unusedSimpArgs false

namespace Ids
abbrev MT : Nat := 74
abbrev KT : Nat := 3
abbrev ET : Nat := 4
theorem law : Keyed Tryd.prog KT := int_keyed Tryd.underlying3
theorem zeroE (w : World) : (zeroValue ET).run Tryd.prog w = .ok (.bool false) w := by kernel_rfl

theorem wf_i64 {i : Int} (h1 : -9223372036854775808 ≤ i) (h2 : i ≤ 9223372036854775807) : (Lit.int .i64 i).wf = true := WalkArith.wf_i64 ⟨h1, h2⟩

/-- Unlike numbers from 1 to n are at most n. -/
theorem nodup_le (n : Nat) : ∀ L : List Int, L.Nodup → (∀ x ∈ L, 1 ≤ x ∧ x ≤ n) → L.length ≤ n := by
  induction n with
  | zero =>
    intro L _ h
    cases L with
    | nil => simp
    | cons x r => have := h x (by simp); omega
  | succ n ih =>
    intro L hn h
    have h1 := ih (L.erase ((n : Int) + 1)) (hn.erase _) (fun x hx => by
      have := (hn.mem_erase_iff).1 hx
      have := h x this.2
      omega)
    have := List.length_erase (a := (n : Int) + 1) (l := L)
    split at this <;> omega
/-- .. and all of them, where they are n. -/
theorem nodup_full (n : Nat) (L : List Int) (hn : L.Nodup) (h : ∀ x ∈ L, 1 ≤ x ∧ x ≤ n) (hl : n ≤ L.length) (x : Int) (h1 : 1 ≤ x) (h2 : x ≤ n) : x ∈ L := by
  by_cases hx : x ∈ L
  · exact hx
  · have := nodup_le n (x :: L) (List.nodup_cons.2 ⟨hx, hn⟩) (fun y hy => by
      rcases List.mem_cons.1 hy with rfl | hy
      · exact ⟨h1, h2⟩
      · exact h y hy)
    simp at this
    omega

/-- Block b is a map whose keys are the numbers of L, each true. -/
structure SetAt (w : World) (b : Nat) (L : List Int) : Prop where
  nodup : L.Nodup
  range : ∀ x ∈ L, 1 ≤ x ∧ x ≤ 65535
  map : ∃ D : DataW Unit, w.ownsMap Tryd.prog KT (plainElem Tryd.prog ET) b (Maps.size D) D ∧ Maps.size D = L.length ∧
    ∀ i, (Lit.int .i64 i).wf = true → Maps.has D (.int .i64 i) = decide (i ∈ L) ∧ D.atKey (.int .i64 i) (.lit (.bool false)) = .lit (.bool (decide (i ∈ L)))

theorem ownsMap_tight {w : World} {b n : Nat} {D : DataW Unit} (h : w.ownsMap Tryd.prog KT (plainElem Tryd.prog ET) b n D) : w.ownsMap Tryd.prog KT (plainElem Tryd.prog ET) b (Maps.size D) D := by
  obtain ⟨es, clock, hb, F, hs, hD⟩ := h
  refine ⟨es, clock, hb, F, ?_, hD⟩
  rw [hD]
  simp [Maps.size, length_sorted]

theorem SetAt.of_heap {w w' : World} {b : Nat} {L : List Int} (h : SetAt w b L) (hb : w'.heap[b]? = w.heap[b]?) : SetAt w' b L := by
  obtain ⟨h1, h2, D, ⟨es, clock, hh, r⟩, h4⟩ := h
  exact ⟨h1, h2, D, ⟨es, clock, hb.trans hh, r⟩, h4⟩
theorem SetAt.lt {w : World} {b : Nat} {L : List Int} (h : SetAt w b L) : b < w.heap.size := by
  obtain ⟨_, _, D, h, _⟩ := h
  exact h.lt
theorem SetAt.turn {w w' : World} {b : Nat} {L : List Int} {S : Nat → Prop} (h : SetAt w b L) (t : Turn S w w') (hn : ¬ S b) : SetAt w' b L := h.of_heap (t.block b h.lt hn)

theorem SetAt.made (w : World) : SetAt (w.alloc (.map #[] 0)) w.heap.size [] := by
  refine ⟨by simp, by simp, .map [], ownsMap_tight (World.ownsMap_made w _ _ _), rfl, fun i _ => ⟨rfl, rfl⟩⟩



set_option maxRecDepth 100000 in
theorem SetAt.look {w : World} {b : Nat} {L : List Int} (h : SetAt w b L) {i : Int} (hi : (Lit.int .i64 i).wf = true) :
    (Instr.lookup MT (.map (some b)) (.int .i64 i) false).run Tryd.prog w = .ok (.bool (decide (i ∈ L))) w := by
  obtain ⟨_, _, D, hown, _, hat⟩ := h
  obtain ⟨v, ps, hrun, hv⟩ := hown.lookup (t := MT) law Tryd.underlying74 (zeroE _) (plainElem_bool Tryd.underlying4 false) (keyOf_int_mk Tryd.underlying3 hi)
  rw [(hat i hi).2] at hv
  have : v = .bool (decide (i ∈ L)) := by
    unfold plainElem at hv
    rw [Tryd.underlying4] at hv
    cases v <;> simp at hv
    rw [hv.1]
  rw [← this]; exact hrun

theorem SetAt.len {w : World} {b : Nat} {L : List Int} (h : SetAt w b L) (ty : TypeId) : (Builtin.len_ #[MT] ty #[.map (some b)]).run Tryd.prog w = .ok (.int .i64 (L.length : Int)) w := by
  obtain ⟨_, _, D, hown, hs, _⟩ := h
  rw [hown.len Tryd.underlying74 ty, hs]

theorem SetAt.add_core {w w' : World} {b n : Nat} {L : List Int} {D : DataW Unit} (h : SetAt w b L) {i : Int} (h1 : 1 ≤ i) (h2 : i ≤ 65535) (hi : i ∉ L)
    (hD : w.ownsMap Tryd.prog KT (plainElem Tryd.prog ET) b n D) (hs : Maps.size D = L.length)
    (hat : ∀ i, (Lit.int .i64 i).wf = true → Maps.has D (.int .i64 i) = decide (i ∈ L) ∧ D.atKey (.int .i64 i) (.lit (.bool false)) = .lit (.bool (decide (i ∈ L))))
    (hD' : w'.ownsMap Tryd.prog KT (plainElem Tryd.prog ET) b (n + 1) (D.put (.int .i64 i) (.lit (.bool true)))) : SetAt w' b (L ++ [i]) := by
  have hw : (Lit.int .i64 i).wf = true := wf_i64 (by omega) (by omega)
  have hkl : WideAt.IsKeyLit (.int .i64 i) := law.key (keyOf_int_mk Tryd.underlying3 hw)
  refine ⟨?_, ?_, _, ownsMap_tight hD', ?_, ?_⟩
  · rw [List.nodup_append]
    exact ⟨h.nodup, by simp, fun a ha c hc e => by simp at hc; subst hc; subst e; exact hi ha⟩
  · intro x hx
    rcases List.mem_append.1 hx with hx | hx
    · exact h.range x hx
    · simp at hx; subst hx; exact ⟨h1, h2⟩
  · rw [Maps.size_put (hD.tidy law), (hat i hw).1]
    simp [hi, hs]
  · intro j hj
    by_cases e : j = i
    · subst e
      rw [Maps.has_put_same hD.isMap hkl, Maps.atKey_put_same hD.isMap hkl]
      simp
    · have hne : Lit.int .i64 j ≠ Lit.int .i64 i := fun e' => e (by injection e')
      rw [Maps.has_put_other hne, Maps.atKey_put_other hne, (hat j hj).1, (hat j hj).2]
      simp [e]

/-- 'm[i] = true' as the statement of several values has it: the entry first, then the store. -/
theorem SetAt.entry {w : World} {b : Nat} {L : List Int} (h : SetAt w b L) {i : Int} (h1 : 1 ≤ i) (h2 : i ≤ 65535) (hi : i ∉ L) :
    ∃ (c : Nat) (w1 : World), (Instr.mapEntry MT (.map (some b)) (.int .i64 i)).run Tryd.prog w = .ok (.tuple #[.bool false, .int .i64 c]) w1 ∧ Turn (· = b) w w1 ∧ w1.heap.size = w.heap.size ∧
      ∃ w2, (Instr.entryStore MT (.map (some b)) (.int .i64 c) (.bool true)).run Tryd.prog w1 = .ok () w2 ∧ SetAt w2 b (L ++ [i]) ∧ Turn (· = b) w1 w2 := by
  have hw : (Lit.int .i64 i).wf = true := wf_i64 (by omega) (by omega)
  have hkey := keyOf_int_mk Tryd.underlying3 hw
  have hset := h
  obtain ⟨_, _, D, hown, hs, hat⟩ := h
  have hown0 := hown
  have hhas : Maps.has D (.int .i64 i) = false := by rw [(hat i hw).1]; simp [hi]
  have hn : Maps.size D < maxLen := by
    have := nodup_le 65535 L hset.nodup hset.range
    unfold maxLen
    omega
  obtain ⟨w3, hrun3, hown3, _⟩ := hown0.store law Tryd.underlying74 hn hkey (plainElem_bool Tryd.underlying4 true)
  have hset3 := hset.add_core h1 h2 hi hown0 hs hat hown3
  obtain ⟨es, clock, hb, F, hsz, hDe⟩ := hown
  have hF := F
  rcases law.find w hkey es.toList F.keys with ⟨f1, f2⟩ | ⟨j, e0, f1, f2, f3⟩
  · refine ⟨clock, Go.ChangeMaps.setBlock w b (.map (es.push ⟨.int .i64 i, .bool false, clock⟩) (clock + 1)), ?_, ?_, by simp [Go.ChangeMaps.setBlock], ?_⟩
    · simp [Instr.mapEntry, run_underlying Tryd.underlying74, MapKept.run_getObj_map hb, law.check w false hkey, f1, zeroE, MapKept.run_setObj_map _ hb, Result.andThen, Go.ChangeMaps.setBlock, goInt]
    · exact ⟨rfl, rfl, rfl, by simp [Go.ChangeMaps.setBlock], fun k _ hk => Go.ChangeMaps.heap_setBlock_other hb _ hk⟩
    · have hb2 := Go.ChangeMaps.heap_setBlock_same hb (.map (es.push ⟨.int .i64 i, .bool false, clock⟩) (clock + 1))
      have hidx : (es.push ⟨.int .i64 i, .bool false, clock⟩).findIdx? (fun e => ((e.born : Nat) : Int) == ((clock : Nat) : Int)) = some es.size := by
        rw [Array.findIdx?_push]
        have : es.findIdx? (fun e => ((e.born : Nat) : Int) == ((clock : Nat) : Int)) = none := by
          rw [Array.findIdx?_eq_none_iff]
          intro x hx
          have := F.stamped.1 x (by simpa using hx)
          simp
          omega
        rw [this]
        simp
      refine ⟨Go.ChangeMaps.setBlock (Go.ChangeMaps.setBlock w b (.map (es.push ⟨.int .i64 i, .bool false, clock⟩) (clock + 1))) b (.map (es.push ⟨.int .i64 i, .bool true, clock⟩) (clock + 1)), ?_, ?_, ?_⟩
      · have hmod : (es.push ⟨.int .i64 i, .bool false, clock⟩).modify es.size (fun e => { e with val := .bool true }) = es.push ⟨.int .i64 i, .bool true, clock⟩ := by
          apply Array.ext_getElem?
          intro k
          simp only [Array.getElem?_modify, Array.getElem?_push]
          by_cases e : es.size = k
          · subst e; simp
          · rw [if_neg e]
            simp [Ne.symm e]
        generalize Go.ChangeMaps.setBlock w b (.map (es.push ⟨.int .i64 i, .bool false, clock⟩) (clock + 1)) = W1 at hb2 ⊢
        simp [Instr.entryStore, MapKept.run_getObj_map hb2, asInt, asIntOf, Result.andThen, hidx, hmod, MapKept.run_setObj_map _ hb2, Go.ChangeMaps.setBlock]
      · have hu : (Instr.mapUpdate MT (.map (some b)) (.int .i64 i) (.bool true)).run Tryd.prog w = .ok () (Go.ChangeMaps.setBlock w b (.map (es.push ⟨.int .i64 i, .bool true, clock⟩) (clock + 1))) := by
          simp [Instr.mapUpdate, run_underlying Tryd.underlying74, MapKept.run_getObj_map hb, law.check w false hkey, f1, MapKept.run_setObj_map _ hb, Result.andThen, Go.ChangeMaps.setBlock]
        rw [hu] at hrun3
        injection hrun3 with _ hw3
        rw [← hw3] at hset3
        refine hset3.of_heap ?_
        rw [Go.ChangeMaps.heap_setBlock_same hb2, Go.ChangeMaps.heap_setBlock_same hb]
      · exact ⟨rfl, rfl, rfl, by simp [Go.ChangeMaps.setBlock], fun k _ hk => Go.ChangeMaps.heap_setBlock_other hb2 _ hk⟩
  · exfalso
    have hin := List.mem_of_getElem? f2
    obtain ⟨y, hy⟩ := F.reads e0 hin
    have hk0 := Go.WideElems.rd_key hy
    rw [f3, hkey] at hk0
    have hy1 : y.1 = .int .i64 i := (Option.some.inj hk0).symm
    rw [hDe] at hhas
    have : y ∈ (es.toList.map (rg Tryd.prog KT (plainElem (H := Unit) Tryd.prog ET))).foldr DataW.insert [] := by
      exact ((Go.WideShapes.sorted_perm _).mem_iff).2 (List.mem_map.2 ⟨e0, hin, Go.WideElems.rg_of hy⟩)
    have := (List.any_eq_false.1 hhas) y this
    rw [hy1] at this
    exact this (WideAt.sameKey_self (law.key hkey))

theorem strike_len (i : Int) : ∀ L : List Int, L.Nodup → (L.filter (· ≠ i)).length + (if i ∈ L then 1 else 0) = L.length := by
  intro L
  induction L with
  | nil => intro _; simp
  | cons x r ih =>
    intro h
    obtain ⟨hx, hr⟩ := List.nodup_cons.1 h
    have ih := ih hr
    by_cases e : x = i
    · subst e
      have : r.filter (· ≠ x) = r := List.filter_eq_self.2 fun y hy => by simpa using fun e => hx (by rw [← e]; exact hy)
      rw [if_pos (by simp), List.filter_cons, if_neg (by simp), this]
      simp
    · have e' : ¬ i = x := fun h => e h.symm
      rw [List.filter_cons, if_pos (by simpa using e), List.length_cons, List.length_cons]
      by_cases hm : i ∈ r
      · rw [if_pos hm] at ih
        rw [if_pos (by simp [hm])]
        omega
      · rw [if_neg hm] at ih
        rw [if_neg (by simp [hm, e'])]
        omega

/-- 'delete(m, i)'. -/
theorem SetAt.del {w : World} {b : Nat} {L : List Int} (h : SetAt w b L) {i : Int} (hi : (Lit.int .i64 i).wf = true) (ty : TypeId) :
    ∃ w1, (Builtin.delete_ #[MT, KT] ty #[.map (some b), .int .i64 i]).run Tryd.prog w = .ok (.tuple #[]) w1 ∧ SetAt w1 b (L.filter (· ≠ i)) ∧ Turn (· = b) w w1 := by
  have hset := h
  obtain ⟨_, _, D, hown, hs, hat⟩ := h
  have hkey := keyOf_int_mk Tryd.underlying3 hi
  obtain ⟨w1, hrun, hown1, hturn⟩ := hown.drop law Tryd.underlying74 hkey ty
  refine ⟨w1, hrun, ⟨hset.nodup.filter _, fun x hx => hset.range x (List.mem_filter.1 hx).1, _, ownsMap_tight hown1, ?_, ?_⟩, .of_grownBy hturn.grown (fun k e => (Option.some.inj e).symm)⟩
  · have h1 := Maps.size_del (k := .int .i64 i) (hown.tidy law)
    rw [(hat i hi).1, hs] at h1
    have h2 := strike_len i L hset.nodup
    by_cases hm : i ∈ L
    · simp only [hm, decide_true, if_true] at h1 h2; omega
    · simp only [hm, decide_false, if_false] at h1 h2; simp at h1; omega
  · intro j hj
    by_cases e : j = i
    · subst e
      rw [Maps.has_del_same, Maps.atKey_del_same]
      simp
    · have hne : Lit.int .i64 j ≠ Lit.int .i64 i := fun e' => e (by injection e')
      rw [Maps.has_del_other hne, Maps.atKey_del_other hne, (hat j hj).1, (hat j hj).2]
      simp [e]

end Ids
end Go.Proofs.YtonemmdipmohgaaDoor

namespace Go.Proofs.YtonemmdipmohgaaDoor
open Go.RowKit Go.Maps
set_option linter.unusedVariables false
set_option linter.unusedSimpArgs false
namespace Ids

/-- The object at block B: its set in block b holds L; 'last' was taken last. -/
structure At (w : World) (B b : Nat) (L : List Int) (last : Int) : Prop where
  obj : w.heap[B]? = some (.cells #[.map (some b), .int .i64 last] 119)
  set : SetAt w b L
  lo : 0 ≤ last
  hi : last ≤ 65535
theorem At.ne {w : World} {B b : Nat} {L : List Int} {last : Int} (h : At w B b L last) : b ≠ B := by
  intro e
  subst e
  obtain ⟨_, _, D, ⟨es, clock, hb, _⟩, _⟩ := h.set
  rw [h.obj] at hb
  cases hb
theorem At.turn {w w' : World} {B b : Nat} {L : List Int} {last : Int} {S : Nat → Prop} (h : At w B b L last) (t : Turn S w w') (h1 : ¬ S B) (h2 : ¬ S b) : At w' B b L last :=
  ⟨(t.block B (heap_lt h.obj) h1).trans h.obj, h.set.turn t h2, h.lo, h.hi⟩
theorem At.c0 {w : World} {B b : Nat} {L : List Int} {last : Int} (h : At w B b L last) : w.cell? ⟨B, 0, none⟩ = some (.map (some b)) := cell_heap h.obj
theorem At.c1 {w : World} {B b : Nat} {L : List Int} {last : Int} (h : At w B b L last) : w.cell? ⟨B, 1, none⟩ = some (.int .i64 last) := cell_heap h.obj
theorem At.f1 {w : World} {B b : Nat} {L : List Int} {last : Int} (h : At w B b L last) : w.frozen? ⟨B, 1, none⟩ = false := frozen_heap h.obj

/-- The number that is tried as the i-th behind the last. -/
def cand (last : Int) (i : Int) : Int := (last + i) % 65535 + 1
theorem cand_range (last i : Int) : 1 ≤ cand last i ∧ cand last i ≤ 65535 := by unfold cand; omega

def P2 (B b : Nat) (k : Nat) : Prop := k = B ∨ k = b

theorem new_calls (w : World) : Calls Tryd.prog 48 #[] w fun e w' => e = .returned (.pointer (some ⟨w.heap.size + 1, 0, none⟩)) ∧ At w' (w.heap.size + 1) w.heap.size [] 0 ∧ Below w.heap.size w w' := by
  have hmm := @run_makeMap Tryd.prog
  go_enter Tryd.func48, Tryd.ntmps48
  go_wp2
  go_ret
  refine ⟨rfl, ⟨?_, ?_, by omega, by omega⟩, ((Below.refl _ _).alloc (Nat.le_refl _) _).alloc (by simp) _⟩
  · have := heap_new (w.alloc (.map #[] 0)) (.cells #[.map (some w.heap.size), .int .i64 0] 119)
    simpa using this
  · exact (SetAt.made w).turn (Turn.alloc (S := fun _ => False) _ _) (fun h => h)

theorem take_nil (w : World) : Calls Tryd.prog 50 #[.pointer none] w fun e w' => e = .returned (.tuple #[.int .i64 0, .int .i64 3]) ∧ w = w' := by
  go_enter Tryd.func50, Tryd.ntmps50
  go_wp2
  go_ret2
  exact ⟨rfl, rfl⟩

def TakePost (w : World) (B b : Nat) (L : List Int) (last : Int) (e : Ending) (w' : World) : Prop :=
  (∃ j : Nat, j < 65535 ∧ (∀ i : Nat, i < j → cand last i ∈ L) ∧ cand last j ∉ L ∧ e = .returned (.tuple #[.int .i64 (cand last j), .int .i64 0]) ∧
    At w' B b (L ++ [cand last j]) (cand last j) ∧ Turn (P2 B b) w w') ∨
  ((∀ i : Nat, i < 65535 → cand last i ∈ L) ∧ e = .returned (.tuple #[.int .i64 0, .int .i64 6]) ∧ At w' B b L last ∧ Turn (P2 B b) w w')

set_option maxHeartbeats 1000000 in
set_option maxRecDepth 100000 in
theorem take_calls (w : World) (B b : Nat) (L : List Int) (last : Int) (h : At w B b L last) :
    Calls Tryd.prog 50 #[.pointer (some ⟨B, 0, none⟩)] w fun e w' => TakePost w B b L last e w' := by
  have c0 := h.c0
  have c1 := h.c1
  have f1 := h.f1
  have hlo := h.lo
  have hhi := h.hi
  have HA := Lib.hid h
  clear h
  go_enter Tryd.func50, Tryd.ntmps50
  go_wp2
  go_loop [8] (fun i => ∃ k : Nat, (k : Int) ≤ 65535 ∧ i = .int .i64 k ∧ Hid (∀ j : Nat, j < k → cand last j ∈ L)) (fun i => 65535 - (intOf i).toNat)
  case atStart => exact ⟨0, by omega, rfl, fun j hj => absurd hj (by omega)⟩
  case round =>
    obtain ⟨k, hk, rfl, hall⟩ := hrel
    by_cases hlt : (k : Int) < 65535
    · have hr := cand_range last k
      have hlook := HA.out.set.look (wf_i64 (i := cand last k) (by omega) (by omega))
      have hce : cand last k = (last + (k : Int)) % 65535 + 1 := rfl
      by_cases hin : cand last k ∈ L
      · rw [decide_eq_true hin] at hlook
        rw [hce] at hlook
        clear hce hr
        have HIN := Lib.hid hin
        clear hin
        go_wp2
        go_round
        case rel =>
          refine ⟨k + 1, by omega, by go_num, fun j hj => ?_⟩
          rcases Nat.lt_succ_iff_lt_or_eq.1 hj with h1 | h1
          · exact hall.out j h1
          · subst h1; exact HIN.out
        case measure => simp [intOf]; omega
      · rw [decide_eq_false hin] at hlook
        obtain ⟨c, w1, he1, ht1, hs1, w2, he2, hset2, ht2⟩ := HA.out.set.entry hr.1 hr.2 hin
        have hne := HA.out.ne
        have ht := ht1.trans ht2
        have c1' : w2.cell? ⟨B, 1, none⟩ = some (.int .i64 last) := ht.cell c1 (fun e => hne e.symm)
        have f1' : w2.frozen? ⟨B, 1, none⟩ = false := (ht.frozen (heap_lt HA.out.obj) (fun e => hne e.symm)).trans f1
        have HF : Hid (TakePost w B b L last (.returned (.tuple #[.int .i64 (cand last k), .int .i64 0])) (w2.setCell ⟨B, 1, none⟩ (.int .i64 (cand last k)))) := by
          refine .inl ⟨k, by omega, hall.out, hin, rfl, ⟨?_, ?_, by omega, hr.2⟩, ?_⟩
          · have ho : w2.heap[B]? = some (.cells #[.map (some b), .int .i64 last] 119) := (ht.block B (heap_lt HA.out.obj) (fun e => hne e.symm)).trans HA.out.obj
            exact heap_set_same w2 B 1 _ ho
          · exact hset2.turn (S := (· = B)) (Turn.setCell w2 _ rfl) hne
          · exact (ht.mono (fun k _ e => .inr e)).trans (Turn.setCell w2 _ (.inl rfl))
        rw [hce] at hlook he1 HF
        clear hce hr ht ht1 ht2 hset2 hs1
        have HIN := Lib.hid hin
        clear hin
        go_wp2
        go_ret2
        exact HF.out
    · have hk' : k = 65535 := by omega
      have HF : Hid (TakePost w B b L last (.returned (.tuple #[.int .i64 0, .int .i64 6])) w) :=
        .inr ⟨fun i hi => hall.out i (by omega), rfl, HA.out, Turn.refl _ _⟩
      clear hk'
      go_wp2
      go_ret2
      exact HF.out

theorem free_nil (w : World) (i : Int) : Calls Tryd.prog 54 #[.pointer none, .int .i64 i] w fun e w' => e = .returned (.tuple #[.bool false, .int .i64 3]) ∧ w = w' := by
  go_enter Tryd.func54, Tryd.ntmps54
  go_wp2
  go_ret2
  exact ⟨rfl, rfl⟩

def FreePost (w : World) (B b : Nat) (L : List Int) (last : Int) (i : Int) (e : Ending) (w' : World) : Prop :=
  e = .returned (.tuple #[.bool (decide (i ∈ L)), .int .i64 0]) ∧ At w' B b (L.filter (· ≠ i)) last ∧ Turn (P2 B b) w w'

set_option maxHeartbeats 1000000 in
theorem free_calls (w : World) (B b : Nat) (L : List Int) (last : Int) (h : At w B b L last) (i : Int) (hi : (Lit.int .i64 i).wf = true) :
    Calls Tryd.prog 54 #[.pointer (some ⟨B, 0, none⟩), .int .i64 i] w fun e w' => FreePost w B b L last i e w' := by
  have c0 := h.c0
  have hlook := h.set.look hi
  obtain ⟨w1, hd, hset, ht⟩ := h.set.del hi 0
  have HF : Hid (FreePost w B b L last i (.returned (.tuple #[.bool (decide (i ∈ L)), .int .i64 0])) w1) :=
    ⟨rfl, ⟨(ht.block B (heap_lt h.obj) (fun e => h.ne e.symm)).trans h.obj, hset, h.lo, h.hi⟩, ht.mono (fun k _ e => .inr e)⟩
  have hd' : (Builtin.delete_ #[74, 3] 0 #[.map (some b), .int .i64 i]).run Tryd.prog w = .ok (.tuple #[]) w1 := hd
  clear h ht hset hd hi
  generalize decide (i ∈ L) = x at *
  go_enter Tryd.func54, Tryd.ntmps54
  go_wp2
  go_ret2
  exact HF.out

end Ids
end Go.Proofs.YtonemmdipmohgaaDoor

namespace Go.Proofs.YtonemmdipmohgaaDoor
open Go.RowKit Go.Maps
set_option linter.unusedVariables false
set_option linter.unusedSimpArgs false
namespace Ids

/-- The j-th that is tried is the first that is free. -/
theorem take_is (w : World) (B b : Nat) (L : List Int) (last : Int) (h : At w B b L last) (j : Nat) (id : Int) (hj : j < 65535) (hc : cand last j = id) (hn : id ∉ L) (hb : ∀ i : Nat, i < j → cand last i ∈ L) :
    Calls Tryd.prog 50 #[.pointer (some ⟨B, 0, none⟩)] w fun e w' => e = .returned (.tuple #[.int .i64 id, .int .i64 0]) ∧ At w' B b (L ++ [id]) id ∧ Turn (P2 B b) w w' := by
  refine (take_calls w B b L last h).mono ?_
  rintro e w' (⟨j', h1, h2, h3, rfl, h5, h6⟩ | ⟨h1, _⟩)
  · have : j' = j := by
      rcases Nat.lt_trichotomy j' j with h | h | h
      · exact absurd (hb j' h) h3
      · exact h
      · exact absurd (hc ▸ h2 j h) hn
    subst this
    rw [hc] at h5 ⊢
    exact ⟨rfl, h5, h6⟩
  · exact absurd (hc ▸ h1 j hj) hn

theorem cand0 (last : Int) (h0 : 0 ≤ last) (h1 : last < 65535) : cand last (0 : Nat) = last + 1 := by
  simp only [cand]
  omega

end Ids
end Go.Proofs.YtonemmdipmohgaaDoor

namespace Go.Proofs.YtonemmdipmohgaaDoor
open Go.RowKit Go.Maps
set_option linter.unusedVariables false
set_option linter.unusedSimpArgs false
namespace Ids

/-- 1, 2, .., k. -/
def upTo (k : Nat) : List Int := (List.range k).map fun i : Nat => (i : Int) + 1
theorem upTo_succ (k : Nat) : upTo (k + 1) = upTo k ++ [(k : Int) + 1] := by simp [upTo, List.range_succ]
theorem mem_upTo (k : Nat) (x : Int) : x ∈ upTo k ↔ 1 ≤ x ∧ x ≤ k := by
  simp only [upTo, List.mem_map, List.mem_range]
  constructor
  · rintro ⟨i, hi, rfl⟩; omega
  · intro h; exact ⟨(x - 1).toNat, by omega, by omega⟩
theorem length_upTo (k : Nat) : (upTo k).length = k := by simp [upTo]

/-- Full: nothing is taken. -/
theorem take_full (w : World) (B b : Nat) (L : List Int) (last : Int) (h : At w B b L last) (hf : ∀ x : Int, 1 ≤ x → x ≤ 65535 → x ∈ L) :
    Calls Tryd.prog 50 #[.pointer (some ⟨B, 0, none⟩)] w fun e w' => e = .returned (.tuple #[.int .i64 0, .int .i64 6]) ∧ At w' B b L last ∧ Turn (P2 B b) w w' := by
  refine (take_calls w B b L last h).mono ?_
  rintro e w' (⟨j', h1, h2, h3, rfl, h5, h6⟩ | ⟨h1, rfl, h3, h4⟩)
  · have := cand_range last j'
    exact absurd (hf _ this.1 this.2) h3
  · exact ⟨rfl, h3, h4⟩
theorem free_is (w : World) (B b : Nat) (L : List Int) (last : Int) (h : At w B b L last) (i : Int) (v : Bool) (hi : (Lit.int .i64 i).wf = true) (hv : decide (i ∈ L) = v) :
    Calls Tryd.prog 54 #[.pointer (some ⟨B, 0, none⟩), .int .i64 i] w fun e w' => e = .returned (.tuple #[.bool v, .int .i64 0]) ∧ At w' B b (L.filter (· ≠ i)) last ∧ Turn (P2 B b) w w' := by
  subst hv
  exact free_calls w B b L last h i hi

theorem below_p2 {w0 w w' : World} (h : Below w0.heap.size w0 w) (t : Turn (P2 (w0.heap.size + 1) w0.heap.size) w w') : Below w0.heap.size w0 w' :=
  t.belowTrans h h.size (fun k hk => by rintro (rfl | rfl) <;> omega)

end Ids
end Go.Proofs.YtonemmdipmohgaaDoor

namespace Go.Proofs.YtonemmdipmohgaaDoor
open Go.RowKit Go.Maps
set_option linter.unusedVariables false
set_option linter.unusedSimpArgs false
namespace Ids

theorem filter_back (n : Nat) (y : Int) (h : (n : Int) < y) : (upTo n ++ [y]).filter (· ≠ y) = upTo n := by
  rw [List.filter_append]
  have h1 : (upTo n).filter (· ≠ y) = upTo n := List.filter_eq_self.2 fun z hz => by
    have := (mem_upTo n z).1 hz
    simp; omega
  rw [h1]; simp

end Ids
end Go.Proofs.YtonemmdipmohgaaDoor

namespace Go.Proofs.YtonemmdipmohgaaDoor
open Go.RowKit Go.Maps
set_option linter.unusedVariables false
set_option linter.unusedSimpArgs false
namespace Ids

theorem info_int : (Tryd.prog.info? 3).map (fun i => (i.zero, i.size, i.bytes)) = some (some (.int .i64 0), 1, 8) := by kernel_rfl

theorem subset_len : ∀ (A B : List Int), A.Nodup → (∀ x ∈ A, x ∈ B) → A.length ≤ B.length := by
  intro A
  induction A with
  | nil => intro B _ _; simp
  | cons a A ih =>
    intro B hn hs
    obtain ⟨ha, hn⟩ := List.nodup_cons.1 hn
    have h1 := ih (B.erase a) hn (fun x hx => (List.mem_erase_of_ne (fun e => ha (by rw [← e]; exact hx))).2 (hs x (by simp [hx])))
    have h2 := List.length_erase_of_mem (hs a (by simp))
    have h3 : 0 < B.length := List.length_pos_of_mem (hs a (by simp))
    simp only [List.length_cons]
    omega
theorem nodup_upTo (n : Nat) : (upTo n).Nodup := by
  induction n with
  | zero => simp [upTo]
  | succ n ih =>
    rw [upTo_succ, List.nodup_append]
    refine ⟨ih, by simp, fun a ha b hb e => ?_⟩
    have := (mem_upTo n a).1 ha
    simp at hb
    omega
/-- Who tries all finds one that is free, as long as not all are used. -/
theorem some_free (L : List Int) (last : Int) (h0 : 0 ≤ last) (h1 : last ≤ 65535) (hl : L.length < 65535) (hall : ∀ i : Nat, i < 65535 → cand last i ∈ L) : False := by
  have := subset_len (upTo 65535) L (nodup_upTo _) (fun x hx => by
    have hx := (mem_upTo _ x).1 hx
    have := hall ((x - 1 - last) % 65535).toNat (by omega)
    have e : cand last (((x - 1 - last) % 65535).toNat : Nat) = x := by unfold cand; omega
    rwa [e] at this)
  rw [length_upTo] at this
  omega
theorem cand_succ (last : Int) (j : Nat) : cand last j % 65535 + 1 = cand last (j + 1 : Nat) := by unfold cand; omega

/-- What is not one of these stays. -/
theorem filter_snoc (i : Int) (L : List Int) (x : Int) : (L ++ [x]).filter (· ≠ i) = L.filter (· ≠ i) ++ (if x = i then [] else [x]) := by
  rw [List.filter_append]
  by_cases h : x = i
  · simp [h]
  · simp [h]

end Ids
end Go.Proofs.YtonemmdipmohgaaDoor

namespace Go.Proofs.YtonemmdipmohgaaDoor
open Go.RowKit Go.Maps
set_option linter.unusedVariables false
set_option linter.unusedSimpArgs false
namespace Ids

theorem first_free (L : List Int) (last : Int) (h0 : 0 ≤ last) (h1 : last ≤ 65535) (hl : L.length < 65535) : ∃ j : Nat, j < 65535 ∧ cand last j ∉ L ∧ ∀ i : Nat, i < j → cand last i ∈ L := by
  by_cases h : ∃ j : Nat, j < 65535 ∧ cand last j ∉ L
  · obtain ⟨j, hj⟩ := h
    induction j using Nat.strongRecOn with
    | _ j ih =>
      by_cases h : ∀ i : Nat, i < j → cand last i ∈ L
      · exact ⟨j, hj.1, hj.2, h⟩
      · simp only [Classical.not_forall] at h
        obtain ⟨i, hi, hn⟩ := h
        exact ih i hi ⟨by omega, hn⟩
  · exact (some_free L last h0 h1 hl (fun i hi => Classical.byContradiction fun hn => h ⟨i, hi, hn⟩)).elim

theorem At.drewN {w : World} {B b : Nat} {L : List Int} {last : Int} (h : At w B b L last) (n : Nat) : At (w.drewN n) B b L last := h.turn (Turn.drewN (Turn.refl (fun _ => False) _) n) (fun h => h) (fun h => h)
theorem below_two {w0 w w' : World} {base : Nat} (h : Below w0.heap.size w0 w) (t : Turn (base ≤ ·) w w') (hb : w0.heap.size ≤ base) : Below w0.heap.size w0 w' :=
  t.belowTrans h h.size (fun k hk h => by omega)

end Ids
end Go.Proofs.YtonemmdipmohgaaDoor

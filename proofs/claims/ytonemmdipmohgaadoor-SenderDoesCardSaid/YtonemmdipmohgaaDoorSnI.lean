/- sender: what Take does (plain); a row one of whose elements is struck. sender: which packets may be (plain). sender: IndexFunc and Delete at a row of ways. -/
import Derived.Test.YtonemmdipmohgaaDoorSnG
import Derived.Lib.SliceRun
import Derived.Test.YtonemmdipmohgaaDoorSnF
import Derived.Deep.RegionLaw
namespace Go.Proofs.YtonemmdipmohgaaDoor
open Go.RowKit Go.ChangeShapes
set_option linter.unusedVariables false
set_option linter.unusedSimpArgs false
namespace Snd
open Pk Str

theorem ycells_erase : ∀ (l : List Way) (i : Nat), i < l.length → ycells (l.eraseIdx i) = (ycells l).take (i * 6) ++ (ycells l).drop ((i + 1) * 6)
  | [], i, h => absurd h (by simp)
  | y :: l, 0, _ => by
    have e : ycells (y :: l) = y.vals ++ ycells l := by simp [ycells]
    rw [e]
    simp only [List.eraseIdx_cons_zero, Nat.zero_mul, List.take_zero, List.nil_append]
    rw [List.drop_append_of_le_length (by simp [Way.vals])]
    simp [Way.vals]
  | y :: l, i + 1, h => by
    have e : ∀ l', ycells (y :: l') = y.vals ++ ycells l' := fun l' => by simp [ycells]
    have hl : y.vals.length = 6 := rfl
    rw [List.eraseIdx_cons_succ, e, e, ycells_erase l i (by simpa using h)]
    rw [List.take_append, List.drop_append, hl, List.take_of_length_le (by omega : y.vals.length ≤ (i + 1) * 6), List.drop_eq_nil_of_le (by omega : y.vals.length ≤ (i + 1 + 1) * 6)]
    rw [show (i + 1) * 6 - 6 = i * 6 by omega, show (i + 1 + 1) * 6 - 6 = (i + 1) * 6 by omega]
    simp
theorem ycells_length (l : List Way) : (ycells l).length = l.length * 6 := by
  induction l with
  | nil => rfl
  | cons y l ih =>
    have e : ycells (y :: l) = y.vals ++ ycells l := by simp [ycells]
    rw [e, List.length_append, ih]; simp [Way.vals]; omega
theorem ycells_set (l : List Way) (i : Nat) (h : i < l.length) (y : Way) (j : Nat) (hj : j < 6) (u : Value) (hu : y.vals = l[i].vals.set j u) : ycells (l.set i y) = (ycells l).set (i * 6 + j) u := by
  induction l generalizing i with
  | nil => simp at h
  | cons z l ih =>
    have e : ∀ z l', ycells (z :: l') = z.vals ++ ycells l' := fun z l' => by simp [ycells]
    have hl : z.vals.length = 6 := rfl
    cases i with
    | zero =>
      rw [List.set_cons_zero, e, e, List.set_append_left _ _ (by rw [hl]; omega)]
      simp only [List.getElem_cons_zero] at hu
      rw [hu, Nat.zero_mul, Nat.zero_add]
    | succ i =>
      rw [List.set_cons_succ, e, e, List.set_append_right _ _ (by rw [hl]; omega), hl, show (i + 1) * 6 + j - 6 = i * 6 + j by omega, ih i (by simpa using h)]
      simpa using hu

/-- The cells behind the i-th go one to the front; the last is cleared. -/
theorem Mid.erase {w : World} {base : Nat} {e : TypeId} {size n : Nat} {g off cap i : Nat} {xs zs : List Value} (h : Mid w base e size (.slice (some ⟨g, off, none⟩) n cap) n xs) (hi : i < n) (hz : zs.length = size) :
    Mid ((w.setCells g (off + i * size) (xs.drop ((i + 1) * size))).setCells g (off + (n - 1) * size) zs) base e size (.slice (some ⟨g, off, none⟩) (n - 1) cap) (n - 1) (xs.take (i * size) ++ xs.drop ((i + 1) * size)) ∧
      Turn (fun k => k = g) w ((w.setCells g (off + i * size) (xs.drop ((i + 1) * size))).setCells g (off + (n - 1) * size) zs) := by
  have h1 := h.1
  rcases h.2 with ⟨h2, _⟩ | ⟨g', off', cap', hv, hh⟩
  · cases h2
  injection hv with e1 e2 e3
  injection e1 with e1
  injection e1 with e1 e4 _
  subst e1 e3 e4
  obtain ⟨cur, hb, hs⟩ := hh.blk
  have hle := hh.le
  have hin : i * size ≤ n * size := Nat.mul_le_mul_right _ (by omega)
  have hin1 : (i + 1) * size ≤ n * size := Nat.mul_le_mul_right _ (by omega)
  have hi1 : (i + 1) * size = i * size + size := Nat.succ_mul _ _
  have hn1 : (n - 1) * size + size = n * size := by rw [← Nat.succ_mul]; congr 1; omega
  have hnc : n * size ≤ cap * size := Nat.mul_le_mul_right _ hle
  obtain ⟨c1, hb1, hs1⟩ := heap_setCells g (xs.drop ((i + 1) * size)) (off + i * size) w cur hb
  obtain ⟨c2, hb2, hs2⟩ := heap_setCells g zs (off + (n - 1) * size) _ c1 hb1
  have hlt : (xs.take (i * size)).length = i * size := by rw [List.length_take]; omega
  have hld : (xs.drop ((i + 1) * size)).length = n * size - (i + 1) * size := by rw [List.length_drop, h1]
  refine ⟨⟨by rw [List.length_append, hlt, hld]; omega, .inr ⟨_, _, _, rfl, hh.ge, ⟨c2, hb2, by omega⟩, by omega, hh.cm, fun j u hu => ?_⟩⟩, (Turn.setCells (S := fun k => k = g) g rfl _ _ w).trans (Turn.setCells (S := fun k => k = g) g rfl _ _ _)⟩
  have hj : j < i * size + (n * size - (i + 1) * size) := by
    have := (List.getElem?_eq_some_iff.1 hu).1
    rwa [List.length_append, hlt, hld] at this
  rw [World.cell?_setCells_out g zs _ _ _ (fun _ _ => .inl (by show off + j < off + (n - 1) * size; omega))]
  by_cases hjl : j < i * size
  · rw [List.getElem?_append_left (by omega), List.getElem?_take, if_pos hjl] at hu
    rw [World.cell?_setCells_out g _ _ w _ (fun _ _ => .inl (by show off + j < off + i * size; omega))]
    exact hh.cell j u hu
  · rw [List.getElem?_append_right (by omega), hlt] at hu
    obtain ⟨hj1, hj2⟩ := List.getElem?_eq_some_iff.1 hu
    have := World.cell?_setCells_in g (xs.drop ((i + 1) * size)) (off + i * size) w (fun j hj => by rw [cell_heap hb, Array.getElem?_eq_getElem (by omega)]; rfl) (j - i * size) hj1
    rw [show off + i * size + (j - i * size) = off + j by omega] at this
    rw [this, hj2]

theorem run_clear_one {P : Program} (w : World) (t e ty : TypeId) (z : Value) (zs : List Value) (ht : P.underlying t = some (.slice e)) (hv : ∀ w, (zeroValue e).run P w = .ok z w) (hz : z.cells = zs.toArray) (h1 : ∀ u ∈ zs, u.oneCell' = true) (b o c : Nat)
    (hc : ∀ j, j < zs.length → (w.cell? ⟨b, o + j, none⟩).isSome = true) (hf : ∀ j, j < zs.length → w.frozen? ⟨b, o + j, none⟩ = false) :
    (Builtin.clear_ #[t] ty #[.slice (some ⟨b, o, none⟩) 1 c]).run P w = .ok (.tuple #[]) (w.setCells b o zs) := by
  have hzc : (Builtin.zeroCells z.cells 1).toList = zs := by
    rw [hz]
    simp only [Builtin.zeroCells]
    apply List.ext_getElem
    · simp
    · intro i h1 h2
      simp [Nat.mod_eq_of_lt h2, h2]
  have hst := run_storeCells_cells (P := P) b o zs 0 w (by simpa using hc) (by simpa using hf) h1
  simp only [Nat.add_zero] at hst
  simp [Builtin.clear_, run_underlying ht, hv, hzc, hst]

/-! What Take does. -/
def St.at (x : St) (id : Int) : Nat := x.ways.findIdx (fun y => y.id == id)
def St.done (x : St) (id : Int) : St := { x with ways := x.ways.eraseIdx (x.at id), ids := x.ids.filter (· ≠ id) }
def St.got (x : St) (id : Int) (y : Way) : St := { x with ways := x.ways.set (x.at id) { y with got := true } }
def Ends (ty : Int) (y : Way) : Prop := (ty = 4 ∧ y.msg.qos = 1 ∧ y.got = false) ∨ (ty = 7 ∧ y.msg.qos = 2 ∧ y.got = true)
def Goes (ty : Int) (y : Way) : Prop := ty = 5 ∧ y.msg.qos = 2
open Classical in
noncomputable def St.take (x : St) (ty id : Int) : St × List Pkt × Int :=
  match x.ways[x.at id]? with
  | none => (x, [], 5)
  | some y => if Ends ty y then (x.done id, [], 0) else if Goes ty y then (x.got id y, [ackP 6 id], 0) else (x, [], 5)
theorem at_some {x : St} {id : Int} {y : Way} (h : x.ways[x.at id]? = some y) : x.at id < x.ways.length ∧ y.id = id := by
  obtain ⟨h1, h2⟩ := List.getElem?_eq_some_iff.1 h
  refine ⟨h1, ?_⟩
  have := List.findIdx_getElem (p := fun y : Way => y.id == id) (xs := x.ways) (w := h1)
  have h3 : (x.ways[x.at id].id == id) = true := this
  rw [h2] at h3
  simpa using h3
theorem at_none {x : St} {id : Int} (h : x.ways[x.at id]? = none) : ∀ y ∈ x.ways, y.id ≠ id := by
  have h1 := List.getElem?_eq_none_iff.1 h
  intro y hy e
  have := List.findIdx_lt_length_of_exists (p := fun y : Way => y.id == id) (xs := x.ways) ⟨y, hy, by simpa using e⟩
  have h2 : x.at id = List.findIdx (fun y : Way => y.id == id) x.ways := rfl
  omega
theorem map_erase (l : List Way) (id : Int) (hn : (l.map Way.id).Nodup) : ((l.eraseIdx (l.findIdx (fun y => y.id == id))).map Way.id) = (l.map Way.id).filter (· ≠ id) := by
  induction l with
  | nil => rfl
  | cons y l ih =>
    have hn' := hn
    rw [List.map_cons, List.nodup_cons] at hn'
    by_cases e : y.id = id
    · subst e
      rw [List.findIdx_cons]
      simp only [beq_self_eq_true, cond_true, List.eraseIdx_cons_zero, List.map_cons]
      rw [List.filter_cons_of_neg (by simp), List.filter_eq_self.2]
      intro a ha
      simp only [decide_eq_true_eq]
      rintro rfl
      exact hn'.1 ha
    · have hb : (y.id == id) = false := by simpa using e
      rw [List.findIdx_cons, hb]
      simp only [cond_false, List.eraseIdx_cons_succ, List.map_cons]
      rw [List.filter_cons_of_pos (by simpa using e), ih hn'.2]
theorem Inv.done {x : St} (h : Inv x) (id : Int) (hn : x.ids.Nodup) : Inv (x.done id) := by
  have h1 : (x.ways.eraseIdx (x.at id)).length ≤ x.ways.length := List.length_eraseIdx_le _ _
  refine ⟨h.win, h.que, h.wait, by have := h.ways; show ((x.ways.eraseIdx (x.at id)).length : Int) ≤ x.win; omega, ?_, h.wok, fun y hy => h.yok y (List.mem_of_mem_eraseIdx hy)⟩
  show x.ids.filter (· ≠ id) = (x.ways.eraseIdx (x.at id)).map Way.id
  rw [show x.at id = x.ways.findIdx (fun y => y.id == id) from rfl, map_erase _ _ (by rw [← h.ids]; exact hn), h.ids]
theorem Inv.got {x : St} (h : Inv x) (id : Int) {y : Way} (hy : x.ways[x.at id]? = some y) (hq : y.msg.qos = 2) : Inv (x.got id y) := by
  obtain ⟨h1, h2⟩ := List.getElem?_eq_some_iff.1 hy
  refine ⟨h.win, h.que, h.wait, by have := h.ways; show ((x.ways.set _ _).length : Int) ≤ x.win; simpa using this, ?_, h.wok, fun z hz => ?_⟩
  · show x.ids = (x.ways.set (x.at id) _).map Way.id
    rw [List.map_set, h.ids]
    show _ = (x.ways.map Way.id).set (x.at id) y.id
    apply List.ext_getElem?
    intro j
    by_cases e : x.at id = j
    · subst e
      rw [List.getElem?_set_self (by simpa using h1), List.getElem?_map, hy]; rfl
    · rw [List.getElem?_set_ne e]
  · rcases List.mem_or_eq_of_mem_set hz with hz | rfl
    · exact h.yok z hz
    · have := h.yok y (List.mem_of_getElem? hy)
      exact ⟨this.1, this.2.1, fun _ => hq⟩
theorem Inv.take {x : St} (h : Inv x) (ty id : Int) (hn : x.ids.Nodup) : Inv (x.take ty id).1 := by
  unfold St.take
  split
  · exact h
  · rename_i y hy
    split
    · exact h.done id hn
    · split
      · rename_i hg
        exact h.got id hy hg.2
      · exact h
theorem take_none {x : St} {ty id : Int} (h : x.ways[x.at id]? = none) : x.take ty id = (x, [], 5) := by unfold St.take; rw [h]
theorem take_ends {x : St} {ty id : Int} {y : Way} (h : x.ways[x.at id]? = some y) (he : Ends ty y) : x.take ty id = (x.done id, [], 0) := by unfold St.take; rw [h]; simp only; rw [if_pos he]
theorem take_goes {x : St} {ty id : Int} {y : Way} (h : x.ways[x.at id]? = some y) (he : ¬ Ends ty y) (hg : Goes ty y) : x.take ty id = (x.got id y, [ackP 6 id], 0) := by unfold St.take; rw [h]; simp only; rw [if_neg he, if_pos hg]
theorem take_not {x : St} {ty id : Int} {y : Way} (h : x.ways[x.at id]? = some y) (he : ¬ Ends ty y) (hg : ¬ Goes ty y) : x.take ty id = (x, [], 5) := by unfold St.take; rw [h]; simp only; rw [if_neg he, if_neg hg]
def TakePost (w : World) (T : Nat → Prop) (s : Nat) (x : St) (ty id : Int) (e : Ending) (w' : World) : Prop :=
  ∃ v T', e = .returned (.tuple #[v, .int .i64 (x.take ty id).2.2]) ∧ PRow w' v (x.take ty id).2.1 ∧ (∀ k, v.ownBlock = some k → w.heap.size ≤ k) ∧ SObj w' T' s (x.take ty id).1 ∧ Moved T T' w w'
theorem SObj.nodup {w : World} {T : Nat → Prop} {s : Nat} {x : St} (h : SObj w T s x) : x.ids.Nodup ∧ ∀ i ∈ x.ids, 1 ≤ i ∧ i ≤ 65535 := by
  obtain ⟨B, b, vw, vy, h⟩ := h
  exact ⟨h.ids.set.nodup, h.ids.set.range⟩
theorem Inv.push {x : St} (h : Inv x) (m : Msg) : Inv (x.push m).2.2 := by
  unfold St.push
  split
  · exact h
  · rename_i h1
    split
    · exact h
    · rename_i h2
      have hm : 1 ≤ m.qos ∧ m.May := by
        refine ⟨?_, ?_⟩
        · have := fun e => h1 (.inl e); omega
        · exact Classical.byContradiction fun e => h1 (.inr e)
      refine ⟨h.win, h.que, ?_, h.ways, h.ids, fun m' hm' => ?_, h.yok⟩
      · show (((x.wait ++ [m]).length : Nat) : Int) ≤ x.que
        rw [List.length_append, List.length_singleton]; omega
      · rcases List.mem_append.1 hm' with h3 | h3
        · exact h.wok m' h3
        · rw [List.mem_singleton.1 h3]; exact hm
theorem Inv.nextN {n : Nat} : ∀ {x : St}, Inv x → Inv (x.nextN n).1 := by
  induction n with
  | zero => intro x h; exact h
  | succ n ih =>
    intro x h
    unfold St.nextN
    split
    · exact h
    · rename_i m r hw
      split
      · rename_i hl
        exact ih (h.take1 hw hl)
      · exact h
theorem Inv.next {x : St} (h : Inv x) : Inv x.next.1 := h.nextN
theorem Inv.new {win que : Int} (h : 1 ≤ win ∧ win ≤ 16 ∧ 0 ≤ que ∧ que ≤ 64) : Inv ⟨win, que, [], [], [], 0⟩ := ⟨⟨h.1, h.2.1⟩, ⟨h.2.2.1, h.2.2.2⟩, by simpa using h.2.2.1, by simp; omega, rfl, by simp, by simp⟩
end Snd
end Go.Proofs.YtonemmdipmohgaaDoor

namespace Go.Proofs.YtonemmdipmohgaaDoor
open Go.RowKit
set_option linter.unusedVariables false
set_option linter.unusedSimpArgs false
namespace Snd
open Utf (nums nums_length nums_bytes IsStr)
open Pk Str

theorem full_a : Full ⟨#[97]⟩ := ⟨by decide, _, isA⟩
theorem may_iff (id : Int) (m : Msg) (dup : Bool) (h1 : 1 ≤ id) (h2 : id ≤ 65535) (hq : 1 ≤ m.qos) : Pk.May (pubP id m dup) [] [] ↔ Full m.topic ∧ m.qos ≤ 2 ∧ m.topic.size + m.pay.size + 4 ≤ 268435455 := by
  have hb : (bodyB (pubP id m dup) [] []).length = m.topic.size + m.pay.size + 4 := by
    have e : bodyB (pubP id m dup) [] [] = textB m.topic ++ (wordB id ++ nums m.pay) := by
      unfold bodyB
      rw [if_neg (by show ¬ (3 : Int) = 1; decide), if_neg (by show ¬ (3 : Int) = 2; decide), if_pos (by show (3 : Int) = 3; rfl), if_neg (by show ¬ m.qos = 0; omega)]
      rfl
    rw [e, List.length_append, List.length_append, textB_length, wordB_length, nums_length]; omega
  unfold Pk.May
  rw [hb]
  constructor
  · rintro ⟨⟨_, _, hOk, _⟩, hl⟩
    have h3 := (hOk.2.2.1 rfl).2
    exact ⟨h3.1, h3.2.2, by omega⟩
  · rintro ⟨hf, hq2, hl⟩
    refine ⟨⟨by show (1 : Int) ≤ 3; decide, by show (3 : Int) ≤ 14; decide, ⟨fun h => ?_, fun h => ?_, fun _ => ⟨fun _ => ⟨h1, h2⟩, hf, by show 0 ≤ m.qos; omega, hq2⟩, fun h => ?_, fun h => ?_, fun h => ?_⟩, ?_⟩, by omega⟩
    · exact absurd (show (3 : Int) = 1 from h) (by decide)
    · exact absurd (show (3 : Int) = 2 from h) (by decide)
    · exact absurd (show (4 : Int) ≤ 3 from h) (by decide)
    · exact absurd (show (3 : Int) = 8 ∨ (3 : Int) = 10 from h) (by decide)
    · exact absurd (show (3 : Int) = 9 from h) (by decide)
    · have e : (pubP id m dup).after = typeP 3 := by
        unfold Pkt.after
        rw [if_neg (by show ¬ (3 : Int) = 1; decide), if_neg (by show ¬ (3 : Int) = 2; decide), if_pos (by show (3 : Int) = 3; rfl), if_neg (by show ¬ m.qos = 0; omega)]
        rfl
      rw [e]
      exact (zero_iff _ _ _).2 ⟨⟨rfl, rfl, rfl, rfl⟩, rfl, rfl, rfl, rfl, ⟨rfl, rfl, rfl⟩, rfl, rfl, rfl, rfl, rfl, rfl⟩
theorem msg_may (m : Msg) (hq : 1 ≤ m.qos) : m.May ↔ Full m.topic ∧ m.qos ≤ 2 ∧ m.topic.size + m.pay.size + 4 ≤ 268435455 := may_iff 1 m false (by decide) (by decide) hq
theorem may_pub {id : Int} {m : Msg} {dup : Bool} (h1 : 1 ≤ id) (h2 : id ≤ 65535) (hq : 1 ≤ m.qos) (h : m.May) : Pk.May (pubP id m dup) [] [] := (may_iff id m dup h1 h2 hq).2 ((msg_may m hq).1 h)
theorem msg_qos {m : Msg} (hq : 1 ≤ m.qos) (h : m.May) : m.qos = 1 ∨ m.qos = 2 := by
  have := ((msg_may m hq).1 h).2.1
  omega
theorem may_ack {t id : Int} (ht : t = 4 ∨ t = 5 ∨ t = 6 ∨ t = 7) (h1 : 1 ≤ id) (h2 : id ≤ 65535) : Pk.May (ackP t id) [] [] := by
  have ht' : (ackP t id).ty = t := rfl
  refine ⟨⟨by rw [ht']; omega, by rw [ht']; omega, ⟨fun h => ?_, fun h => ?_, fun h => ?_, fun _ _ => ⟨h1, h2⟩, fun h => ?_, fun h => ?_⟩, ?_⟩, ?_⟩
  · rw [ht'] at h; omega
  · rw [ht'] at h; omega
  · rw [ht'] at h; omega
  · rw [ht'] at h; omega
  · rw [ht'] at h; omega
  · have e : (ackP t id).after = typeP t := by
      unfold Pkt.after
      rw [if_neg (by rw [ht']; omega), if_neg (by rw [ht']; omega), if_neg (by rw [ht']; omega), if_pos (by rw [ht']; omega)]
      rfl
    rw [e]
    exact (zero_iff _ _ _).2 ⟨⟨rfl, rfl, rfl, rfl⟩, rfl, rfl, rfl, rfl, ⟨rfl, rfl, rfl⟩, rfl, rfl, rfl, rfl, rfl, rfl⟩
  · have e : bodyB (ackP t id) [] [] = wordB id := by
      unfold bodyB
      rw [if_neg (by rw [ht']; omega), if_neg (by rw [ht']; omega), if_neg (by rw [ht']; omega), if_neg (by rw [ht']; omega)]
      show wordB id ++ (subsB t [] ++ []) = _
      have : subsB t [] = [] := rfl
      rw [this]; simp
    rw [e, wordB_length]; decide
end Snd
end Go.Proofs.YtonemmdipmohgaaDoor

namespace Go.Proofs.YtonemmdipmohgaaDoor
open Go.RowKit Go.ChangeShapes
set_option linter.unusedVariables false
set_option linter.unusedSimpArgs false
namespace Snd
open Pk Str

set_option maxRecDepth 100000 in
theorem pred_calls (w : World) (id q gv : Int) (tp pl : ByteArray) (rt : Bool) (pb : Nat) (p : Pkt) (hp : w.heap[pb]? = some (.cells p.cells PT (0, 0))) (r : Bool) (hr : (id == p.id) = r) :
    Calls Tryd.prog 53 #[.agg #[.int .i64 id, .string tp, .string pl, .int .i64 q, .bool rt, .int .i64 gv], .pointer (some ⟨pb, 0, none⟩)] w fun e w' => e = .returned (.bool r) ∧ Below w.heap.size w w' := by
  have hlt := heap_lt hp
  have hc : ∀ o, (w.alloc o).cell? ⟨pb, 2, none⟩ = some (.int .i64 p.id) := fun o => by
    have : (w.alloc o).heap[pb]? = some (.cells p.cells PT (0, 0)) := by rw [heap_old _ _ _ hlt]; exact hp
    exact cell_heap this
  clear hp
  go_enter Tryd.func53, Tryd.ntmps53
  go_wp2
  go_ret
  exact ⟨rfl, (Below.refl _ _).alloc (Nat.le_refl _) _⟩

def idx (l : List Way) (id : Int) : Int := if l.findIdx (fun y => y.id == id) < l.length then ((l.findIdx (fun y => y.id == id) : Nat) : Int) else -1
theorem idx_hit {l : List Way} {id : Int} {k : Nat} (hk : k < l.length) (h1 : l[k].id = id) (h2 : ∀ j (hj : j < l.length), j < k → l[j].id ≠ id) : idx l id = (k : Int) := by
  have : l.findIdx (fun y => y.id == id) = k := by
    rw [List.findIdx_eq hk]
    exact ⟨by simpa using h1, fun j hj => by simpa using h2 j (by omega) hj⟩
  unfold idx
  rw [this, if_pos hk]
theorem idx_miss {l : List Way} {id : Int} (h2 : ∀ j (hj : j < l.length), l[j].id ≠ id) : idx l id = -1 := by
  unfold idx
  rw [if_neg]
  intro h
  have := List.findIdx_getElem (p := fun y : Way => y.id == id) (xs := l) (w := h)
  exact h2 _ h (by simpa using this)

set_option maxRecDepth 100000 in
set_option maxHeartbeats 2000000 in
theorem index_calls (w : World) (l : List Way) (hl : l.length ≤ 16) (A : Option Addr) (c : Nat) (hA : 0 < l.length → ∃ g off, A = some ⟨g, off, none⟩ ∧ 0 ≤ g ∧ g < w.heap.size ∧ ∀ i u, (ycells l)[i]? = some u → w.cell? ⟨g, off + i, none⟩ = some u) (hc0 : l.length ≤ c)
    (pb : Nat) (p : Pkt) (hp : w.heap[pb]? = some (.cells p.cells PT (0, 0))) :
    Calls Tryd.prog 52 #[.slice A l.length c, .func (.func 53) #[] #[.pointer (some ⟨pb, 0, none⟩)]] w fun e w' => e = .returned (.int .i64 (idx l p.id)) ∧ Below w.heap.size w w' := by
  have HA := Lib.hid hA
  have HP := Lib.hid hp
  have HL := Lib.hid hl
  clear hA hp hl
  go_enter Tryd.func52, Tryd.ntmps52
  go_wp2_with (fail)
  go_loopw [5, 8] (fun _ iv wr => ∃ k : Nat, k ≤ l.length ∧ iv = .int .i64 k ∧ Hid (Below w.heap.size w wr ∧ ∀ j (hj : j < l.length), j < k → l[j].id ≠ p.id)) (fun _ iv _ => l.length - (intOf iv).toNat)
  case atStart => exact ⟨0, Nat.zero_le _, rfl, Below.refl _ _, fun j _ hj => absurd hj (Nat.not_lt_zero _)⟩
  case round =>
    obtain ⟨k, hk, rfl, hR⟩ := hrel
    have hk16 : (k : Int) ≤ 16 := by have := HL.out; omega
    by_cases hlt : k < l.length
    · obtain ⟨g, off, rfl, _, hgl, hcc⟩ := HA.out (by omega)
      obtain ⟨y, hy⟩ : ∃ y, Hid (y = l[k]'hlt) := ⟨l[k]'hlt, rfl⟩
      have hcy : ∀ j u, j < 6 → y.vals[j]? = some u → wr.cell? ⟨g, off + k * 6 + j, none⟩ = some u := by
        intro j u hj hu
        have h1 := hcc (6 * k + j) u (by rw [way_at hlt j hj, ← hy.out]; exact hu)
        rw [show off + k * 6 + j = off + (6 * k + j) by omega]
        exact (hR.out.1.cell (p := ⟨g, off + (6 * k + j), none⟩) hgl).trans h1
      have y0 : wr.cell? ⟨g, off + k * 6, none⟩ = some (.int .i64 y.id) := hcy 0 _ (by decide) rfl
      have y1 := hcy 1 _ (by decide) rfl
      have y2 := hcy 2 _ (by decide) rfl
      have y3 := hcy 3 _ (by decide) rfl
      have y4 := hcy 4 _ (by decide) rfl
      have y5 := hcy 5 _ (by decide) rfl
      generalize (if y.got = true then (1 : Int) else 0) = gv at y5
      have hpr : wr.heap[pb]? = some (.cells p.cells PT (0, 0)) := (hR.out.1.block pb (heap_lt HP.out)).trans HP.out
      have HPR := Lib.hid hpr
      clear hcc hcy hpr
      have HK : Hid (k < l.length) := hlt
      by_cases e : y.id = p.id
      · have hr : (y.id == p.id) = true := by simpa using e
        have hcall := pred_calls wr y.id y.msg.qos gv y.msg.topic y.msg.pay y.msg.retain pb p HPR.out true hr
        have HF : Hid (idx l p.id = (k : Int)) := idx_hit hlt (by rw [← hy.out]; exact e) hR.out.2
        clear e hr hy
        go_wp2_with (fail)
        refine hcall.mono ?_
        rintro e w' ⟨rfl, hb'⟩
        go_wp2_with (fail)
        go_ret
        exact ⟨by rw [HF.out]; rfl, hR.out.1.trans (hb'.mono hR.out.1.size)⟩
      · have hr : (y.id == p.id) = false := by simpa using e
        have hcall := pred_calls wr y.id y.msg.qos gv y.msg.topic y.msg.pay y.msg.retain pb p HPR.out false hr
        have HE : Hid (∀ j (hj : j < l.length), j < k + 1 → l[j].id ≠ p.id) := fun j hj h => by
          rcases Nat.lt_succ_iff_lt_or_eq.1 h with h | h
          · exact hR.out.2 j hj h
          · subst h; rw [← hy.out]; exact e
        clear e hr hy
        go_wp2_with (fail)
        refine hcall.mono ?_
        rintro e w' ⟨rfl, hb'⟩
        go_wp2_with (fail)
        go_roundw
        case rel => exact ⟨k + 1, HK.out, by go_num, hR.out.1.trans (hb'.mono hR.out.1.size), HE.out⟩
        case measure => have := HK.out; simp [intOf]; omega
    · have HF : Hid (idx l p.id = -1) := idx_miss fun j hj => hR.out.2 j hj (by omega)
      go_wp2_with (fail)
      go_ret
      exact ⟨by rw [HF.out]; rfl, hR.out.1⟩

def zway : List Value := [.int .i64 0, .string ⟨#[]⟩, .string ⟨#[]⟩, .int .i64 0, .bool false, .int .i64 0]
theorem zero_way (w : World) : (zeroValue WT).run Tryd.prog w = .ok (.agg zway.toArray) w := by kernel_rfl
def DelPost (w : World) (l : List Way) (g off c i : Nat) (e : Ending) (w' : World) : Prop :=
  e = .returned (.slice (some ⟨g, off, none⟩) (l.length - 1) c) ∧ Mid w' 0 WT 6 (.slice (some ⟨g, off, none⟩) (l.length - 1) c) (l.length - 1) (ycells (l.eraseIdx i)) ∧ Turn (fun k => k = g) w w'
theorem yvals_one (l : List Way) : ∀ u ∈ ycells l, u.oneCell' = true := by
  intro u hu
  simp only [ycells, List.mem_flatten, List.mem_map] at hu
  obtain ⟨c, ⟨m, _, rfl⟩, hu⟩ := hu
  simp [Way.vals] at hu
  rcases hu with rfl | rfl | rfl | rfl | rfl | rfl <;> rfl
set_option maxRecDepth 100000 in
set_option maxHeartbeats 2000000 in
theorem delete_calls (w : World) (l : List Way) (hl : l.length ≤ 16) (g off c i : Nat) (hM : Mid w 0 WT 6 (.slice (some ⟨g, off, none⟩) l.length c) l.length (ycells l)) (hi : i < l.length) :
    Calls Tryd.prog 55 #[.slice (some ⟨g, off, none⟩) l.length c, .int .i64 i, .int .i64 ((i : Int) + 1)] w fun e w' => DelPost w l g off c i e w' := by
  obtain ⟨n, hn⟩ : ∃ n, Hid (n = l.length) := ⟨_, rfl⟩
  have hMd : Mid w.drew 0 WT 6 (.slice (some ⟨g, off, none⟩) l.length c) l.length (ycells l) := hM.turn (Turn.drew (Turn.refl (fun _ => False) _)) (fun _ _ h => h)
  have hE := hMd.erase (zs := zway) hi rfl
  rw [← ycells_erase l i hi] at hE
  obtain ⟨cur, hcur, hsz⟩ := hMd.typ g rfl |>.imp fun cur h => (⟨h, trivial⟩ : _ ∧ True)
  have hcm : l.length ≤ c ∧ c ≤ maxLen ∧ off + c * 6 ≤ cur.size ∧ ∀ j u, (ycells l)[j]? = some u → w.drew.cell? ⟨g, off + j, none⟩ = some u := by
    rcases hMd.2 with ⟨h2, _⟩ | ⟨g', off', cap', hv, hh⟩
    · cases h2
    · injection hv with e1 e2 e3
      injection e1 with e1
      injection e1 with e1 e4 _
      subst e1 e3 e4
      obtain ⟨cur', hb, hs⟩ := hh.blk
      rw [hcur] at hb
      injection hb with hb
      injection hb with hb
      subst hb
      exact ⟨hh.le, hh.cm, hs, hh.cell⟩
  obtain ⟨hc1, hc2, hc3, hc4⟩ := hcm
  obtain ⟨news, hnews⟩ : ∃ news, Hid (news = (ycells l).drop ((i + 1) * 6)) := ⟨_, rfl⟩
  rw [← hnews.out] at hE
  have s1 : Hid (news.length = (l.length - (i + 1)) * 6) := by rw [hnews.out, Hid, List.length_drop, ycells_length]; omega
  have s2 : Hid (∀ u ∈ news, u.oneCell' = true) := fun u hu => yvals_one l u (by rw [hnews.out] at hu; exact List.mem_of_mem_drop hu)
  obtain ⟨W1, hW1⟩ : ∃ W1, Hid (W1 = w.drew.setCells g (off + i * 6) news) := ⟨_, rfl⟩
  rw [← hW1.out] at hE
  have s3 : Hid (∀ t, t < news.length → (w.drew.cell? ⟨g, off + i * 6 + t, none⟩).isSome = true ∧ w.drew.frozen? ⟨g, off + i * 6 + t, none⟩ = false) := fun t ht => by
    rw [s1.out] at ht
    exact ⟨by rw [cell_heap hcur, Array.getElem?_eq_getElem (by omega)]; rfl, frozen_heap hcur⟩
  obtain ⟨A, hA, hsrc⟩ : ∃ A : Addr, (if c = i + 1 then some (⟨g, off, none⟩ : Addr) else some ⟨g, off + (i + 1) * 6, none⟩) = some A ∧ Hid (∀ t u, news[t]? = some u → w.drew.cell? (A.add t) = some u) := by
    by_cases h : c = i + 1
    · refine ⟨⟨g, off, none⟩, by simp [h], fun t u hu => ?_⟩
      have h0 : news.length = 0 := by rw [s1.out]; omega
      rw [List.length_eq_zero_iff.1 h0] at hu
      simp at hu
    · refine ⟨⟨g, off + (i + 1) * 6, none⟩, by simp [h], fun t u hu => ?_⟩
      rw [hnews.out, List.getElem?_drop] at hu
      have := hc4 _ u hu
      rw [Addr.add_mid]
      rwa [← Nat.add_assoc] at this
  obtain ⟨cur1, hb1, hs1⟩ := heap_setCells g news (off + i * 6) w.drew cur hcur
  rw [← hW1.out] at hb1
  have hcl : ∀ ty, (Builtin.clear_ #[91] ty #[.slice (some ⟨g, off + (l.length - 1) * 6, none⟩) (l.length - (l.length - 1)) (c - (l.length - 1))]).run Tryd.prog W1 = .ok (.tuple #[]) (W1.setCells g (off + (l.length - 1) * 6) zway) :=
    fun ty => by
     rw [show l.length - (l.length - 1) = 1 by omega]
     exact run_clear_one W1 _ _ ty _ zway Tryd.underlying91 zero_way rfl (by simp [zway, Value.oneCell']) _ _ _ (fun j hj => by
      have : j < 6 := hj
      rw [cell_heap hb1, Array.getElem?_eq_getElem (by omega)]; rfl) (fun j hj => frozen_heap hb1)
  have HE := Lib.hid hE
  have hl1 : i + (l.length - (i + 1)) = l.length - 1 := by omega
  have HL1 := Lib.hid hl1
  have HI := Lib.hid hi
  have hi16 : (i : Int) ≤ 16 := by omega
  have hn16 : (l.length : Int) ≤ 16 := by omega
  have hil : (i : Int) + 1 ≤ (l.length : Int) := by omega
  have hi0p : 0 ≤ (i : Int) + 1 := by omega
  have mixed : Tryd.prog.follows Departure.mixedOrders = true := by kernel_rfl
  have hHD : Hid (Turn (fun _ => False) w w.drew) := Turn.drew (Turn.refl _ _)
  have hic : i ≤ c := by omega
  have hjc : i + 1 ≤ c := by omega
  obtain ⟨i0, hi0, hzz⟩ := Option.map_eq_some_iff.1 info_way
  simp only [Prod.mk.injEq] at hzz
  have Hi0 := Lib.hid hi0
  have Hzz := Lib.hid hzz
  clear hM hMd hcur hc3 hc4 hb1 hs1 hE hi0 hzz
  go_enter Tryd.func55, Tryd.ntmps55
  go_wp2_with fail
  go_region_law_o (refine step_append_room rfl (.tmp 22) (.tmp 25) 91 rfl WT i0 6 Tryd.underlying91 Hi0.out Hzz.out.2.1 g off i c (by simp [Act.eval, Act.put]) A (l.length - (i + 1)) (c - (i + 1)) news (by simp [Act.eval, Act.put]) s1.out hsrc.out s2.out (by omega) s3.out ?_; rw [← hW1.out])
  go_wp2_with fail
  go_ret
  exact ⟨rfl, HE.out.1, (hHD.out.mono (fun _ _ h => h.elim)).trans HE.out.2⟩
end Snd
end Go.Proofs.YtonemmdipmohgaaDoor

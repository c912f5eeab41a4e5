/- SenderArrives, the plain law: what is on its way is what is under way. -/
import Derived.Test.YtonemmdipmohgaaDoorSnQ
namespace Go.Proofs.YtonemmdipmohgaaDoor
open Go.RowKit Go.ChangeShapes
set_option linter.unusedVariables false
set_option linter.unusedSimpArgs false
namespace Snd
open Pk Str

def base (p : Pkt) : Pkt := { p with dup := false }
def wbase (y : Way) : Pkt := base y.pkt
def Line (x : St) (l : List Pkt) : Prop := (l.map base).Perm (x.ways.map wbase)
def wmu (y : Way) : Nat := if y.got then 1 else y.msg.qos.toNat
def mu (x : St) : Nat := (x.ways.map wmu).sum + (x.wait.map fun m => m.qos.toNat).sum
theorem sum_perm {l l' : List Nat} (h : l.Perm l') : l.sum = l'.sum := by
  induction h with
  | nil => rfl
  | cons x _ ih => simp [ih]
  | swap x y l => simp; omega
  | trans _ _ h1 h2 => exact h1.trans h2
theorem perm_erase {α : Type} : ∀ (l : List α) (i : Nat) (h : i < l.length), (l[i] :: l.eraseIdx i).Perm l
  | [], i, h => absurd h (by simp)
  | a :: l, 0, _ => by simp
  | a :: l, i + 1, h => by
    simp only [List.getElem_cons_succ, List.eraseIdx_cons_succ]
    refine (List.Perm.swap _ _ _).trans ?_
    exact (perm_erase l i (by simpa using h)).cons a
theorem perm_set {α : Type} (b : α) : ∀ (l : List α) (i : Nat), i < l.length → (l.set i b).Perm (b :: l.eraseIdx i)
  | [], i, h => absurd h (by simp)
  | a :: l, 0, _ => by simp
  | a :: l, i + 1, h => by
    simp only [List.set_cons_succ, List.eraseIdx_cons_succ]
    exact ((perm_set b l i (by simpa using h)).cons a).trans (List.Perm.swap _ _ _)
theorem Line.again (x : St) : Line x x.again := by
  unfold Line St.again
  rw [List.map_map]
  exact List.Perm.refl _
theorem Line.len {x : St} {l : List Pkt} (h : Line x l) : l.length = x.ways.length := by
  have := h.length_eq
  simpa using this
theorem Line.next {x : St} {l : List Pkt} (h : Line x l) : Line x.next.1 (l ++ x.next.2) := by
  obtain ⟨new, h1, h2, h3, _⟩ := nextN_ways (n := x.wait.length) (x := x)
  show ((l ++ (x.nextN x.wait.length).2).map base).Perm ((x.nextN x.wait.length).1.ways.map wbase)
  rw [h1, h2, List.map_append, List.map_append, List.map_map]
  refine h.append ?_
  have : new.map (base ∘ fun y => pubP y.id y.msg false) = new.map wbase := List.map_congr_left fun y hy => by
    show base (pubP y.id y.msg false) = base y.pkt
    unfold Way.pkt
    rw [h3 y hy]; rfl
  rw [this]
theorem mu_next (x : St) : mu x.next.1 = mu x := by
  obtain ⟨new, h1, h2, h3, _, _, h6⟩ := nextN_ways (n := x.wait.length) (x := x)
  show ((x.nextN x.wait.length).1.ways.map wmu).sum + ((x.nextN x.wait.length).1.wait.map fun m => m.qos.toNat).sum = (x.ways.map wmu).sum + (x.wait.map fun m => m.qos.toNat).sum
  have e : (x.wait.map fun m => m.qos.toNat).sum = (new.map wmu).sum + ((x.nextN x.wait.length).1.wait.map fun m => m.qos.toNat).sum := by
    conv => lhs; rw [h6]
    rw [List.map_append, List.sum_append, List.map_map]
    congr 2
    refine List.map_congr_left fun y hy => ?_
    show y.msg.qos.toNat = wmu y
    unfold wmu
    rw [h3 y hy]; rfl
  rw [h1, List.map_append, List.sum_append, e]; omega
theorem at_mem {x : St} {y : Way} (hn : (x.ways.map Way.id).Nodup) (hy : y ∈ x.ways) : x.ways[x.at y.id]? = some y := by
  have hlt : x.at y.id < x.ways.length := List.findIdx_lt_length_of_exists ⟨y, hy, by simp⟩
  obtain ⟨j, hj, hjy⟩ := List.getElem_of_mem hy
  have hid : (x.ways[x.at y.id]'hlt).id = y.id := (at_some (List.getElem?_eq_getElem hlt)).2
  have e : x.at y.id = j := by
    refine (List.getElem_inj (xs := x.ways.map Way.id) (i := x.at y.id) (j := j) (h₀ := by simpa using hlt) (h₁ := by simpa using hj) hn).1 ?_
    rw [List.getElem_map, List.getElem_map, hid, hjy]
  rw [List.getElem?_eq_getElem hlt]
  congr 1
  have : ∀ k (hk : k < x.ways.length), k = j → x.ways[k] = y := fun k hk e => by subst e; exact hjy
  exact this _ hlt e
/-- What the other side answers. -/
def ansP (p : Pkt) : Pkt := if p.ty = 6 then ackP 7 p.id else if p.ty = 3 ∧ p.qos = 1 then ackP 4 p.id else if p.ty = 3 ∧ p.qos = 2 then ackP 5 p.id else zeroP
def Step (x : St) (p : Pkt) (l : List Pkt) : Prop :=
  Pk.May p [] [] ∧ (x.take (ansP p).ty (ansP p).id).2.2 = 0 ∧ Line (x.take (ansP p).ty (ansP p).id).1 (l ++ (x.take (ansP p).ty (ansP p).id).2.1) ∧ mu (x.take (ansP p).ty (ansP p).id).1 + 1 = mu x ∧ (x.take (ansP p).ty (ansP p).id).1.wait = x.wait
/-- What lies on the line. -/
def Fine (p : Pkt) : Prop := (∃ id m d, p = pubP id m d) ∨ ∃ id, p = ackP 6 id
theorem Fine.bare {p : Pkt} (h : Fine p) : Bare p := by
  rcases h with ⟨id, m, d, rfl⟩ | ⟨id, rfl⟩
  · exact bare_pub _ _ _
  · exact bare_ack _ _
theorem fine_next (x : St) : ∀ p ∈ x.next.2, Fine p := fun p hp => by
  obtain ⟨_, id, m, rfl⟩ := bare_next p hp
  exact .inl ⟨_, _, _, rfl⟩
theorem fine_again (x : St) : ∀ p ∈ x.again, Fine p := fun p hp => by
  obtain ⟨y, _, rfl⟩ := List.mem_map.1 hp
  unfold Way.pkt
  split
  · exact .inr ⟨_, rfl⟩
  · exact .inl ⟨_, _, _, rfl⟩
theorem fine_take (x : St) (ty id : Int) : ∀ p ∈ (x.take ty id).2.1, Fine p := by
  unfold St.take
  split
  · simp
  · split
    · simp
    · split
      · intro p hp
        rw [List.mem_singleton.1 hp]
        exact .inr ⟨_, rfl⟩
      · simp
theorem fine_may {p : Pkt} (h : Fine p) {y : Way} (hb : wbase y = base p) (hy : 1 ≤ y.msg.qos ∧ y.msg.May) (hr : 1 ≤ y.id ∧ y.id ≤ 65535) : Pk.May p [] [] := by
  have hty : y.pkt.ty = p.ty := by have := congrArg Pkt.ty hb; exact this
  have hid : y.pkt.id = p.id := by have := congrArg Pkt.id hb; exact this
  have hqos : y.pkt.qos = p.qos := by have := congrArg Pkt.qos hb; exact this
  have htop : y.pkt.topic = p.topic := by have := congrArg Pkt.topic hb; exact this
  have hpay : y.pkt.payload = p.payload := by have := congrArg Pkt.payload hb; exact this
  have hpid : y.pkt.id = y.id := by unfold Way.pkt; split <;> rfl
  rcases h with ⟨id, m, d, rfl⟩ | ⟨id, rfl⟩
  · have hg : y.got = false := by
      cases hg : y.got with
      | false => rfl
      | true =>
        have e : y.pkt = ackP 6 y.id := by unfold Way.pkt; rw [hg]; rfl
        rw [e] at hty
        exact absurd hty (by show ¬ (6 : Int) = 3; decide)
    have e : y.pkt = pubP y.id y.msg true := by unfold Way.pkt; rw [hg]; rfl
    rw [e] at hqos htop hpay
    have h1 : y.msg.qos = m.qos := hqos
    have h2 : y.msg.topic = m.topic := htop
    have h3 : y.msg.pay = m.pay := hpay
    have h4 : id = y.id := hid.symm.trans hpid
    have hm := (msg_may y.msg hy.1).1 hy.2
    rw [h1, h2, h3] at hm
    exact (may_iff id m d (by omega) (by omega) (by omega)).2 hm
  · have h4 : id = y.id := hid.symm.trans hpid
    exact may_ack (.inr (.inr (.inl rfl))) (by omega) (by omega)
theorem Line.step {x : St} {p : Pkt} {l : List Pkt} (hI : Inv x) (hn : x.ids.Nodup) (hr : ∀ i ∈ x.ids, 1 ≤ i ∧ i ≤ 65535) (h : Line x (p :: l)) (hf : Fine p) : Step x p l := by
  have hn' : (x.ways.map Way.id).Nodup := by rw [← hI.ids]; exact hn
  obtain ⟨y, hy, hby⟩ : ∃ y ∈ x.ways, wbase y = base p := by
    have : base p ∈ x.ways.map wbase := h.mem_iff.1 (by simp)
    obtain ⟨y, h1, h2⟩ := List.mem_map.1 this
    exact ⟨y, h1, h2⟩
  have hat := at_mem hn' hy
  obtain ⟨hlt, hge⟩ := List.getElem?_eq_some_iff.1 hat
  have hyk := hI.yok y hy
  have hpe : (wbase y :: (x.ways.eraseIdx (x.at y.id)).map wbase).Perm (x.ways.map wbase) := by
    have := (perm_erase x.ways (x.at y.id) hlt).map wbase
    rw [hge] at this
    exact this
  have hle : (l.map base).Perm ((x.ways.eraseIdx (x.at y.id)).map wbase) := by
    have h1 : (base p :: l.map base).Perm (wbase y :: (x.ways.eraseIdx (x.at y.id)).map wbase) := h.trans hpe.symm
    rw [hby] at h1
    exact h1.cons_inv
  have hmu : wmu y + ((x.ways.eraseIdx (x.at y.id)).map wmu).sum = (x.ways.map wmu).sum := by
    have := sum_perm ((perm_erase x.ways (x.at y.id) hlt).map wmu)
    rw [hge] at this
    simpa using this
  have hty : p.ty = y.pkt.ty := by have := (congrArg Pkt.ty hby).symm; exact this
  have hid : p.id = y.pkt.id := by have := (congrArg Pkt.id hby).symm; exact this
  have hqos : p.qos = y.pkt.qos := by have := (congrArg Pkt.qos hby).symm; exact this
  have hyr := hr y.id (by rw [hI.ids]; exact List.mem_map.2 ⟨y, hy, rfl⟩)
  refine ⟨fine_may hf hby ⟨hyk.1, hyk.2.1⟩ hyr, ?_⟩
  cases hg : y.got with
  | true =>
    have e : y.pkt = ackP 6 y.id := by unfold Way.pkt; rw [hg]; rfl
    rw [e] at hty hid hqos
    have h6 : p.ty = 6 := hty
    have hi6 : p.id = y.id := hid
    have ea : ansP p = ackP 7 y.id := by unfold ansP; rw [if_pos h6, hi6]
    rw [ea]
    have he : Ends 7 y := .inr ⟨rfl, hyk.2.2 hg, hg⟩
    rw [show (ackP 7 y.id).ty = 7 from rfl, show (ackP 7 y.id).id = y.id from rfl, take_ends hat he]
    refine ⟨rfl, by show ((l ++ []).map base).Perm _; rw [List.append_nil]; exact hle, ?_, rfl⟩
    show ((x.ways.eraseIdx (x.at y.id)).map wmu).sum + _ + 1 = (x.ways.map wmu).sum + _
    have : wmu y = 1 := by unfold wmu; rw [hg]; rfl
    show ((x.ways.eraseIdx (x.at y.id)).map wmu).sum + (x.wait.map fun m => m.qos.toNat).sum + 1 = (x.ways.map wmu).sum + (x.wait.map fun m => m.qos.toNat).sum
    omega
  | false =>
    have e : y.pkt = pubP y.id y.msg true := by unfold Way.pkt; rw [hg]; rfl
    rw [e] at hty hid hqos
    have ht3 : p.ty = 3 := hty
    have hq' : p.qos = y.msg.qos := hqos
    have hi' : p.id = y.id := hid
    rcases msg_qos hyk.1 hyk.2.1 with hq | hq
    · have ea : ansP p = ackP 4 y.id := by unfold ansP; rw [if_neg (by omega), if_pos ⟨ht3, by omega⟩, hi']
      rw [ea]
      have he : Ends 4 y := .inl ⟨rfl, hq, hg⟩
      rw [show (ackP 4 y.id).ty = 4 from rfl, show (ackP 4 y.id).id = y.id from rfl, take_ends hat he]
      refine ⟨rfl, by show ((l ++ []).map base).Perm _; rw [List.append_nil]; exact hle, ?_, rfl⟩
      have : wmu y = 1 := by unfold wmu; rw [hg, hq]; rfl
      show ((x.ways.eraseIdx (x.at y.id)).map wmu).sum + (x.wait.map fun m => m.qos.toNat).sum + 1 = (x.ways.map wmu).sum + (x.wait.map fun m => m.qos.toNat).sum
      omega
    · have ea : ansP p = ackP 5 y.id := by unfold ansP; rw [if_neg (by omega), if_neg (by omega), if_pos ⟨ht3, by omega⟩, hi']
      rw [ea]
      have he : ¬ Ends 5 y := by unfold Ends; omega
      rw [show (ackP 5 y.id).ty = 5 from rfl, show (ackP 5 y.id).id = y.id from rfl, take_goes hat he ⟨rfl, hq⟩]
      have hps := perm_set { y with got := true } x.ways (x.at y.id) hlt
      refine ⟨rfl, ?_, ?_, rfl⟩
      · show ((l ++ [ackP 6 y.id]).map base).Perm ((x.ways.set (x.at y.id) { y with got := true }).map wbase)
        rw [List.map_append]
        refine (List.perm_append_comm.trans ?_).trans (hps.map wbase).symm
        exact List.Perm.cons _ hle
      · have h2 := sum_perm (hps.map wmu)
        have : wmu y = 2 := by unfold wmu; rw [hg, hq]; rfl
        have h3 : wmu { y with got := true } = 1 := rfl
        show ((x.ways.set (x.at y.id) { y with got := true }).map wmu).sum + (x.wait.map fun m => m.qos.toNat).sum + 1 = (x.ways.map wmu).sum + (x.wait.map fun m => m.qos.toNat).sum
        rw [h2]
        simp only [List.map_cons, List.sum_cons]
        omega
end Snd
end Go.Proofs.YtonemmdipmohgaaDoor

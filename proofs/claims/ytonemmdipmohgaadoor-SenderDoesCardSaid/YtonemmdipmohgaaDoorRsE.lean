/- The reference's sender: done. -/
import Derived.Test.YtonemmdipmohgaaDoorRsD
import Derived.Test.YtonemmdipmohgaaDoorSnT
import Derived.Deep.RegionHeld
namespace Go.Proofs.YtonemmdipmohgaaDoor
open Go.RowKit Go.ChangeShapes
set_option linter.unusedVariables false
set_option linter.unusedSimpArgs false
namespace Snd
open Pk Str

theorem rcells_app (a b : List Way) : rcells (a ++ b) = rcells a ++ rcells b := by simp [rcells]
theorem rcells_len (l : List Way) : (rcells l).length = l.length * 6 := by
  induction l with
  | nil => rfl
  | cons y l ih =>
    have e : rcells (y :: l) = y.rvals ++ rcells l := by simp [rcells]
    rw [e, List.length_append, ih, List.length_cons, show y.rvals.length = 6 from rfl]
    omega
theorem rcells_one (l : List Way) : ∀ u ∈ rcells l, u.oneCell' = true := by
  intro u hu
  simp only [rcells, List.mem_flatten, List.mem_map] at hu
  obtain ⟨c, ⟨m, _, rfl⟩, hu⟩ := hu
  simp [Way.rvals] at hu
  rcases hu with rfl | rfl | rfl | rfl | rfl | rfl <;> rfl
/-- 'append(l, ways...)'. -/
theorem wp_append_ways {ops : Array Oper} {rest : List Oper} {o : Oper} {a : Act} {Q : Exit → Act → World → Prop} {W : World} (hgd : o.guard = none) (s x : Operand)
    (ho : o.op = .call { callee := .builtin .append, args := #[s, x], argTypes := #[54, 54] })
    (A : Option Addr) (n m c d : Nat) (ad : Addr) (l ys : List Way) (hn : n = l.length) (hm : m = ys.length) (hs : a.eval s = .slice A n c) (HL : Mid W 0 RWT 6 (.slice A n c) n (rcells l)) (hx : a.eval x = .slice (some ad) m d) (HP : ∀ j u, (rcells ys)[j]? = some u → W.cell? (ad.add j) = some u) (hb : l.length + ys.length ≤ 100000)
    (K : ∀ A' c' w1, Hid (Mid w1 0 RWT 6 (.slice A' (l ++ ys).length c') (l ++ ys).length (rcells (l ++ ys))) → Hid (Turn (fun j => (Value.slice A n c).ownBlock = some j) W w1) → Hid (∀ g, (Value.slice A' (l ++ ys).length c').ownBlock = some g → (Value.slice A n c).ownBlock = some g ∨ W.heap.size ≤ g) → wpList Tryd.prog ops Q rest (a.put o.dst (.slice A' (l ++ ys).length c')) w1) :
    wpList Tryd.prog ops Q (o :: rest) a W := by
  subst hn hm
  by_cases hp : ys = []
  · subst hp
    refine wpList_plain hgd fun K' hK' => ?_
    obtain ⟨i0, hi, _⟩ := Option.map_eq_some_iff.1 info_rway
    have hcap : l.length ≤ c := by
      obtain ⟨A', c', hv, hc, _⟩ := HL.form
      injection hv with _ _ h3
      omega
    have hrun := run_append_none (P := Tryd.prog) W 54 o.type RWT i0 Tryd.underlying54 hi A (some ad) l.length c d hcap
    have hk := hK' _ _ (K A c W (by rw [List.append_nil]; exact HL) (Turn.refl _ _) (by rw [List.append_nil]; exact fun g hg => .inl hg))
    rw [List.append_nil] at hk
    unfold Oper.wp
    simp [execOp, ho, resolve, invoke, builtin, hs, hx, hrun, Result.andThen]
    exact hk
  · have hpos : 0 < ys.length := List.length_pos_iff.2 hp
    refine wp_append_mid 0 hgd s x 54 RWT _ 6 64 ho Tryd.underlying54 info_rway rfl (by decide) (.slice A l.length c) l.length (rcells l) hs HL ad ys.length d (rcells ys) hx hpos (rcells_len ys) HP (rcells_one ys) (Nat.zero_le _) (by simp only [maxLen]; omega) (by omega) ?_
    intro g2 off2 c2 w1 hM ht hl
    have h := K (some ⟨g2, off2, none⟩) c2 w1 (by rw [rcells_app, List.length_append]; exact hM) ht (by rw [List.length_append]; exact fun k hk => by cases hk; exact hl)
    rw [List.length_append] at h
    exact h
theorem rids_free2 (w : World) (R : Nat) (vw vi : Value) (g off c i : Nat) (x : St) (h : RSt w R vw (.slice (some ⟨g, off, none⟩) x.ways.length c) vi x) (hl : x.ids.length < 65535) (y : Way) (hi : i < x.ways.length) (hy : x.ways[i] = y) :
    Calls Tryd.prog 71 #[.pointer (some ⟨R, 4, none⟩), .int .i64 y.id] w fun e w' => (∃ q : Bool, e = .returned (.bool q)) ∧ ∃ vi', Hid (RSt w' R vw (.slice (some ⟨g, off, none⟩) x.ways.length c) vi' { x with ids := x.ids.filter (· ≠ y.id) }) ∧ Hid (Moved (TT R vw (.slice (some ⟨g, off, none⟩) x.ways.length c) vi) (TT R vw (.slice (some ⟨g, off, none⟩) x.ways.length c) vi') w w') ∧
      Hid (w'.cell? ⟨R, 3, none⟩ = some (.slice (some ⟨g, off, none⟩) x.ways.length c) ∧ w'.cell? ⟨g, off + i * 6, none⟩ = some (.int .i64 y.id)) := by
  refine (rids_free w R vw _ vi x h hl y.id).mono ?_
  rintro e w' ⟨hq, vi', h1, h2⟩
  refine ⟨hq, vi', h1, h2, cell_heap h1.obj, ?_⟩
  obtain ⟨A', c', hv, _, _, hc⟩ := h1.ways.form
  obtain ⟨g', off', hA, _, _, hcc⟩ := hc (by show 0 < x.ways.length; omega)
  injection hv with e1 _ _
  rw [hA] at e1
  injection e1 with e1
  injection e1 with e1 e2 _
  subst e1 e2
  have := hcc (6 * i + 0) (.int .i64 y.id) (by rw [rway_at hi 0 (by decide), hy]; rfl)
  rwa [show off + (6 * i + 0) = off + i * 6 by omega] at this

theorem RSt.setWays2 {w : World} {R : Nat} {vw vy vi v' : Value} {x : St} {l : List Way} (h : RSt w R vw vy vi x) (hM : Mid w 0 RWT 6 v' l.length (rcells l)) : RSt (w.setCell ⟨R, 3, none⟩ v') R vw v' vi { x with ways := l } ∧ Turn (· = R) w (w.setCell ⟨R, 3, none⟩ v') := by
  have tc : Turn (· = R) w (w.setCell ⟨R, 3, none⟩ v') := Turn.setCell w _ rfl
  have hv' : ∀ k, v'.ownBlock = some k → k ≠ R := fun k hk => by
    obtain ⟨cur, hc⟩ := hM.typ k hk
    exact obj_ne hc h.obj (cells_ne (by decide))
  exact ⟨⟨heap_set_same w R 3 v' h.obj, h.wait.turn tc (fun k hk => (h.w_ne k hk).1), hM.turn tc hv', h.ids.turn tc (fun k hk => (h.i_ne k hk).1), h.last⟩, tc⟩
def RDonePost (w : World) (T : Nat → Prop) (R : Nat) (vw : Value) (x : St) (i : Nat) (id : Int) (w' : World) : Prop :=
  ∃ vy vi, RSt w' R vw vy vi { x with ways := x.ways.eraseIdx i, ids := x.ids.filter (· ≠ id) } ∧ Moved T (TT R vw vy vi) w w'
set_option maxRecDepth 100000 in
set_option maxHeartbeats 4000000 in
theorem rdone_calls (w : World) (R : Nat) (vw vy vi : Value) (x : St) (h : RSt w R vw vy vi x) (hI : Inv x) (i : Nat) (hi : i < x.ways.length) :
    Calls Tryd.prog 58 #[.pointer (some ⟨R, 0, none⟩), .int .i64 i] w fun e w' => e = .returned (.tuple #[]) ∧ RDonePost w (TT R vw vy vi) R vw x i (x.ways[i]'hi).id w' := by
  obtain ⟨A2, c2, hvy, hc2, hcm2, hcell2⟩ := h.ways.form
  subst hvy
  obtain ⟨g, off, rfl, _, _, hcc⟩ := hcell2 (by omega)
  obtain ⟨y, hy⟩ : ∃ y, Hid (x.ways[i]'hi = y) := ⟨_, rfl⟩
  have hwl : Hid (x.ways.length ≤ 16) := by rw [Hid]; have h1 := hI.ways; have h2 := hI.win; omega
  have hil : Hid (x.ids.length < 65535) := by rw [Hid, hI.ids, List.length_map]; have := hwl.out; omega
  rw [hy.out]
  have k3 : w.cell? ⟨R, 3, none⟩ = some (.slice (some ⟨g, off, none⟩) x.ways.length c2) := cell_heap h.obj
  have i16 : (i : Int) ≤ 16 := by have := hwl.out; omega
  have HA := Lib.hid h
  have HK : Hid (i < x.ways.length) := hi
  have HC := Lib.hid hcc
  clear hI hcc h
  go_enter Tryd.func58, Tryd.ntmps58
  obtain ⟨l1, hl1⟩ : ∃ l1, Hid (l1 = x.ways.take i) := ⟨_, rfl⟩
  obtain ⟨l2, hl2⟩ : ∃ l2, Hid (l2 = x.ways.drop (i + 1)) := ⟨_, rfl⟩
  have hn1 : Hid (l1.length = i) := by rw [Hid, hl1.out, List.length_take]; omega
  have hn2 : Hid (l2.length = x.ways.length - (i + 1)) := by rw [Hid, hl2.out, List.length_drop]
  have hps : Hid (x.ways = l1 ++ y :: l2) := by
    rw [Hid, hl1.out, hl2.out, ← hy.out]
    rw [← List.drop_eq_getElem_cons hi, List.take_append_drop]
  have her : Hid (x.ways.eraseIdx i = l1 ++ l2) := by rw [Hid, List.eraseIdx_eq_take_drop_succ, hl1.out, hl2.out]
  have HR1 : Hid (∀ j u, (rcells l1)[j]? = some u → w.cell? ((⟨g, off, none⟩ : Addr).add j) = some u) := fun j u hu => by
    rw [Addr.add_mid]
    refine HC.out j u ?_
    rw [hps.out, rcells_app, List.getElem?_append_left (List.getElem?_eq_some_iff.1 hu).1]
    exact hu
  have HR2 : Hid (∀ j u, (rcells l2)[j]? = some u → w.cell? ((⟨g, off + (i + 1) * 6, none⟩ : Addr).add j) = some u) := fun j u hu => by
    rw [Addr.add_mid, Nat.add_assoc]
    refine HC.out _ u ?_
    have e : rcells (y :: l2) = y.rvals ++ rcells l2 := by simp [rcells]
    have hl : (rcells l1).length = i * 6 := by rw [rcells_len, hn1.out]
    rw [hps.out, rcells_app, e, List.getElem?_append_right (by omega), hl, List.getElem?_append_right (by rw [show y.rvals.length = 6 from rfl]; omega), show y.rvals.length = 6 from rfl, show (i + 1) * 6 + j - i * 6 - 6 = j by omega]
    exact hu
  have hb1 : Hid (([] : List Way).length + l1.length ≤ 100000) := by have h1 := hwl.out; have h2 := hn1.out; have h3 := HK.out; rw [Hid]; simp only [List.length_nil]; omega
  have hb2 : Hid (l1.length + l2.length ≤ 100000) := by have h1 := hwl.out; have h2 := hn1.out; have h3 := HK.out; have h4 := hn2.out; rw [Hid]; omega
  have HFR : Hid (∀ (W : World) (vi2 : Value) (x' : St), RSt W R vw (.slice (some ⟨g, off, none⟩) x.ways.length c2) vi2 x' → x'.ways = x.ways → W.cell? ⟨g, off + i * 6, none⟩ = some (.int .i64 y.id)) := by
    intro W vi2 x' h1 he
    obtain ⟨A', c', hv, _, _, hc⟩ := h1.ways.form
    rw [he] at hv hc
    obtain ⟨g', off', hA, _, _, hcc⟩ := hc (by omega)
    injection hv with e1 _ _
    rw [hA] at e1
    injection e1 with e1
    injection e1 with e1 e2 _
    subst e1 e2
    have := hcc (6 * i + 0) (.int .i64 y.id) (by rw [rway_at hi 0 (by decide), hy.out]; rfl)
    rwa [show off + (6 * i + 0) = off + i * 6 by omega] at this
  have HYI : Hid (∃ h : i < x.ways.length, x.ways[i] = y) := ⟨hi, hy.out⟩
  have HY := hy
  clear hy
  go_wp2_with (at_builtin; refine wp_append_ways (o := ⟨some 12, _, _, _, _, _⟩) rfl (.tmp 5) (.tmp 11) rfl none 0 i 0 c2 ⟨g, off, none⟩ [] l1 rfl hn1.out.symm rfl (Mid.nil _ _ _ _) rfl HR1.out hb1.out ?_)
  intro A4 c4 w4 hM4 ht4 hl4
  have T4 : Hid (Turn (fun _ => False) w w4) := ht4.out.mono (fun k _ e => by cases e)
  have HA4 := Lib.hid (HA.out.still T4.out)
  have HL4 : Hid (∀ k, (Value.slice A4 l1.length c4).ownBlock = some k → w.heap.size ≤ k) := fun k hk => by
    rcases hl4.out k hk with h | h
    · cases h
    · exact h
  have k4 : w4.cell? ⟨R, 3, none⟩ = some (.slice (some ⟨g, off, none⟩) x.ways.length c2) := cell_heap HA4.out.obj
  have HR24 : Hid (∀ j u, (rcells l2)[j]? = some u → w4.cell? ((⟨g, off + (i + 1) * 6, none⟩ : Addr).add j) = some u) := fun j u hu => T4.out.cell (HR2.out j u hu) (fun h => h)
  clear ht4 hl4 k3
  by_cases hc1 : c2 = i + 1
  · subst hc1
    have hl20 : l2 = [] := List.eq_nil_of_length_eq_zero (by have := hn2.out; omega)
    have hl0 : Hid (x.ways.length - (i + 1) = 0) := by rw [Hid]; omega
    subst hl20
    go_wp2_with (at_builtin; refine wp_append_ways (o := ⟨some 21, _, _, _, _, _⟩) rfl (.tmp 13) (.tmp 20) rfl A4 l1.length 0 c4 0 ⟨g, off, none⟩ l1 [] rfl rfl rfl hM4.out rfl (fun j u hu => by simp [rcells] at hu) hb2.out ?_)
    intro A5 c5 w5 hM5 ht5 hl5
    have T5 : Hid (Turn (fun _ => False) w w5) := T4.out.then ht5.out (fun k hk e => by have := HL4.out k e; omega)
    have HL5 : Hid (∀ k, (Value.slice A5 l1.length c5).ownBlock = some k → w.heap.size ≤ k) := fun k hk => by
      rcases hl5.out k hk with h | h
      · exact HL4.out k h
      · have := T4.out.size; omega
    have HA5 := Lib.hid (HA.out.still T5.out)
    have HT5 : Hid (∀ k, TT R vw (.slice (some ⟨g, off, none⟩) x.ways.length (i + 1)) vi k → k < w.heap.size) := HA.out.lt
    have k5 : w5.cell? ⟨R, 3, none⟩ = some (.slice (some ⟨g, off, none⟩) x.ways.length (i + 1)) := cell_heap HA5.out.obj
    have y5 : w5.cell? ⟨g, off + i * 6, none⟩ = some (.int .i64 y.id) := HFR.out w5 vi x HA5.out rfl
    have HK1 : Hid (w5.drew.cell? ⟨R, 3, none⟩ = some (.slice (some ⟨g, off, none⟩) x.ways.length (i + 1)) ∧ w5.drew.cell? ⟨g, off + i * 6, none⟩ = some (.int .i64 y.id)) := ⟨k5, y5⟩
    clear ht5 hl5 k4
    go_wp2_with (fail)
    go_region_held (fun W' => W'.cell? ⟨R, 3, none⟩ = some (.slice (some ⟨g, off, none⟩) x.ways.length (i + 1)) ∧ W'.cell? ⟨g, off + i * 6, none⟩ = some (.int .i64 y.id)) (first | exact HK1.out | exact HK8.out) ((go_at_call 71; refine (rids_free2 w5.drew R vw vi g off (i + 1) i x (HA5.out.still (Turn.drew (Turn.refl _ _))) hil.out y HK.out HY.out).mono ?_; rintro e w6 ⟨⟨q6, rfl⟩, vi6, HA6, HM6, HK8⟩))
    clear k5 y5
    have k6 : w6.cell? ⟨R, 3, none⟩ = some (.slice (some ⟨g, off, none⟩) x.ways.length (i + 1)) := cell_heap HA6.out.obj
    have f6 : w6.frozen? ⟨R, 3, none⟩ = false := frozen_heap HA6.out.obj
    have hM6 : Mid w6 0 RWT 6 (.slice A5 l1.length c5) l1.length (rcells l1) := by
      exact (hM5.out.turn (Turn.drew (Turn.refl (fun _ => False) _)) (fun _ _ h => h)).turn HM6.out.1 (fun k hk hT => by have := HL5.out k hk; have := HT5.out k hT; omega)
    have hs := HA6.out.setWays2 (l := l1) hM6
    have HF : Hid (RDonePost w (TT R vw (.slice (some ⟨g, off, none⟩) x.ways.length (i + 1)) vi) R vw x i y.id (w6.setCell ⟨R, 3, none⟩ (.slice A5 l1.length c5))) := by
      refine ⟨.slice A5 l1.length c5, vi6, ?_, ?_⟩
      · rw [her.out, List.append_nil]; exact hs.1
      · have t56 : Turn (TT R vw (.slice (some ⟨g, off, none⟩) x.ways.length (i + 1)) vi) w w6 := (((T5.out.trans (Turn.drew (Turn.refl _ _))).mono (fun _ _ h => h.elim)).trans HM6.out.1)
        refine moved_TT (t56.trans (hs.2.mono (fun k _ hk => .inl hk))) (fun k hk _ => hk) (fun k hk => .inl (.inr (.inl hk))) (fun k hk => .inr (HL5.out k hk)) (fun k hk => ?_)
        rcases HM6.out.2 k (.inr (.inr (.inr hk))) with h1 | h1
        · exact .inl h1
        · right
          have h2 := T5.out.size
          have h3 : w5.heap.size ≤ w5.drew.heap.size := Nat.le_refl _
          omega
    clear hs hM6
    go_wp2_with (fail)
    go_end0
    exact ⟨rfl, HF.out⟩
  · have hcb : (c2 == i + 1) = false := by simpa using hc1
    go_wp2_with (at_builtin; refine wp_append_ways (o := ⟨some 21, _, _, _, _, _⟩) rfl (.tmp 13) (.tmp 20) rfl A4 l1.length (x.ways.length - (i + 1)) c4 (c2 - (i + 1)) ⟨g, off + (i + 1) * 6, none⟩ l1 l2 rfl hn2.out.symm rfl hM4.out rfl HR24.out hb2.out ?_)
    intro A5 c5 w5 hM5 ht5 hl5
    have T5 : Hid (Turn (fun _ => False) w w5) := T4.out.then ht5.out (fun k hk e => by have := HL4.out k e; omega)
    have HL5 : Hid (∀ k, (Value.slice A5 (l1.length + l2.length) c5).ownBlock = some k → w.heap.size ≤ k) := fun k hk => by
      rcases hl5.out k hk with h | h
      · exact HL4.out k h
      · have := T4.out.size; omega
    have HA5 := Lib.hid (HA.out.still T5.out)
    have HT5 : Hid (∀ k, TT R vw (.slice (some ⟨g, off, none⟩) x.ways.length c2) vi k → k < w.heap.size) := HA.out.lt
    have k5 : w5.cell? ⟨R, 3, none⟩ = some (.slice (some ⟨g, off, none⟩) x.ways.length c2) := cell_heap HA5.out.obj
    have y5 : w5.cell? ⟨g, off + i * 6, none⟩ = some (.int .i64 y.id) := HFR.out w5 vi x HA5.out rfl
    have HK1 : Hid (w5.drew.cell? ⟨R, 3, none⟩ = some (.slice (some ⟨g, off, none⟩) x.ways.length c2) ∧ w5.drew.cell? ⟨g, off + i * 6, none⟩ = some (.int .i64 y.id)) := ⟨k5, y5⟩
    clear ht5 hl5 k4
    go_wp2_with (fail)
    go_region_held (fun W' => W'.cell? ⟨R, 3, none⟩ = some (.slice (some ⟨g, off, none⟩) x.ways.length c2) ∧ W'.cell? ⟨g, off + i * 6, none⟩ = some (.int .i64 y.id)) (first | exact HK1.out | exact HK8.out) ((go_at_call 71; refine (rids_free2 w5.drew R vw vi g off c2 i x (HA5.out.still (Turn.drew (Turn.refl _ _))) hil.out y HK.out HY.out).mono ?_; rintro e w6 ⟨⟨q6, rfl⟩, vi6, HA6, HM6, HK8⟩))
    clear k5 y5
    have k6 : w6.cell? ⟨R, 3, none⟩ = some (.slice (some ⟨g, off, none⟩) x.ways.length c2) := cell_heap HA6.out.obj
    have f6 : w6.frozen? ⟨R, 3, none⟩ = false := frozen_heap HA6.out.obj
    have hM6 : Mid w6 0 RWT 6 (.slice A5 (l1.length + l2.length) c5) (l1 ++ l2).length (rcells (l1 ++ l2)) := by
      rw [List.length_append]
      exact (hM5.out.turn (Turn.drew (Turn.refl (fun _ => False) _)) (fun _ _ h => h)).turn HM6.out.1 (fun k hk hT => by have := HL5.out k hk; have := HT5.out k hT; omega)
    have hs := HA6.out.setWays2 (l := l1 ++ l2) hM6
    have HF : Hid (RDonePost w (TT R vw (.slice (some ⟨g, off, none⟩) x.ways.length c2) vi) R vw x i y.id (w6.setCell ⟨R, 3, none⟩ (.slice A5 (l1.length + l2.length) c5))) := by
      refine ⟨.slice A5 (l1.length + l2.length) c5, vi6, ?_, ?_⟩
      · rw [her.out]; exact hs.1
      · have t56 : Turn (TT R vw (.slice (some ⟨g, off, none⟩) x.ways.length c2) vi) w w6 := (((T5.out.trans (Turn.drew (Turn.refl _ _))).mono (fun _ _ h => h.elim)).trans HM6.out.1)
        refine moved_TT (t56.trans (hs.2.mono (fun k _ hk => .inl hk))) (fun k hk _ => hk) (fun k hk => .inl (.inr (.inl hk))) (fun k hk => .inr (HL5.out k hk)) (fun k hk => ?_)
        rcases HM6.out.2 k (.inr (.inr (.inr hk))) with h1 | h1
        · exact .inl h1
        · right
          have h2 := T5.out.size
          have h3 : w5.heap.size ≤ w5.drew.heap.size := Nat.le_refl _
          omega
    clear hs hM6
    go_wp2_with (fail)
    go_end0
    exact ⟨rfl, HF.out⟩
end Snd
end Go.Proofs.YtonemmdipmohgaaDoor

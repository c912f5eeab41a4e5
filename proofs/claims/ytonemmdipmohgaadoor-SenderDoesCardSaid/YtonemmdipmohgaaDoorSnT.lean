/- SenderArrives: rows joined, the answers. -/
import Derived.Test.YtonemmdipmohgaaDoorSnS
import Derived.Test.YtonemmdipmohgaaDoorRfJ
import Derived.Test.YtonemmdipmohgaaDoorSnO
namespace Go.Proofs.YtonemmdipmohgaaDoor
open Go.RowKit Go.ChangeShapes
set_option linter.unusedVariables false
set_option linter.unusedSimpArgs false
namespace Snd
open Pk Str

theorem run_append_none {P : Program} (W : World) (t ty e : TypeId) (i0 : TypeInfo) (ht : P.underlying t = some (.slice e)) (hi : P.info? e = some i0) (A B : Option Addr) (n c d : Nat) (hn : n ≤ c) :
    (Builtin.append_ #[t, t] ty #[.slice A n c, .slice B 0 d]).run P W = .ok (.slice A n c) W := by
  have hf : (Builtin.firstCells i0.size 0 (.slice B 0 d)).run P W = .ok #[] W := by
    cases B with
    | none => exact run_firstCells_none (P := P) W _ _ _ _
    | some b => exact run_firstCells_some (P := P) W i0.size 0 b 0 d [] (by simp) (by simp)
  cases A with
  | none => simp [Builtin.append_, run_underlying ht, sizeOf, typeInfo, hi, Builtin.lenOf, hn, hf]
  | some a => simp [Builtin.append_, run_underlying ht, sizeOf, typeInfo, hi, Builtin.lenOf, hn, hf, storeCells]
theorem pcells_app (a b : List Pkt) : pcells (a ++ b) = pcells a ++ pcells b := by simp [pcells]
theorem pcells_one {ps : List Pkt} (h : ∀ p ∈ ps, p.codes = nilV ∧ p.subs = nilV) : ∀ u ∈ pcells ps, u.oneCell' = true := by
  intro u hu
  simp only [pcells, List.mem_flatten, List.mem_map] at hu
  obtain ⟨c, ⟨p, hp, rfl⟩, hu⟩ := hu
  exact cells_one p (by rw [(h p hp).1]; rfl) (by rw [(h p hp).2]; rfl) u hu
/-- 'append(line, l...)'. -/
theorem wp_append_rows {ops : Array Oper} {rest : List Oper} {o : Oper} {a : Act} {Q : Exit → Act → World → Prop} {W : World} (hgd : o.guard = none) (s x : Operand)
    (ho : o.op = .call { callee := .builtin .append, args := #[s, x], argTypes := #[22, 22] })
    (A B : Option Addr) (n m c d : Nat) (ln ps : List Pkt) (hs : a.eval s = .slice A n c) (HL : PRow W (.slice A n c) ln) (hx : a.eval x = .slice B m d) (HP : PRow W (.slice B m d) ps) (hb : ln.length + ps.length ≤ 100000)
    (K : ∀ A' c' w1, Hid (PRow w1 (.slice A' (ln.length + ps.length) c') (ln ++ ps)) → Hid (Turn (fun j => (Value.slice A n c).ownBlock = some j) W w1) → Hid (∀ g, (Value.slice A' (ln.length + ps.length) c').ownBlock = some g → (Value.slice A n c).ownBlock = some g ∨ W.heap.size ≤ g) → wpList Tryd.prog ops Q rest (a.put o.dst (.slice A' (ln.length + ps.length) c')) w1) :
    wpList Tryd.prog ops Q (o :: rest) a W := by
  obtain rfl := HL.len
  obtain rfl := HP.len
  by_cases hp : ps = []
  · subst hp
    refine wpList_plain hgd fun K' hK' => ?_
    obtain ⟨i0, hi, _⟩ := Option.map_eq_some_iff.1 info_pkt
    have hrun := run_append_none (P := Tryd.prog) W 22 o.type PT i0 Tryd.underlying22 hi A B ln.length c d HL.cap
    have hk := hK' _ _ (K A c W (by rw [List.append_nil]; exact HL) (Turn.refl _ _) (fun g hg => .inl hg))
    unfold Oper.wp
    simp [execOp, ho, resolve, invoke, builtin, hs, hx, hrun, Result.andThen]
    exact hk
  · have hpos : 0 < ps.length := List.length_pos_iff.2 hp
    obtain ⟨A', c', hv, _, _, hcell⟩ := HP.1.form
    injection hv with e1 _ _
    subst e1
    obtain ⟨g, off, rfl, _, _, hc⟩ := hcell hpos
    refine wp_append_mid 0 hgd s x 22 PT (.agg zeroP.cells) 18 200 ho Tryd.underlying22 info_pkt rfl (by decide) (.slice A ln.length c) ln.length (pcells ln) hs HL.1 ⟨g, off, none⟩ ps.length d (pcells ps) hx hpos (pcells_length ps) (fun j u hu => by rw [Addr.add_mid]; exact hc j u hu) (pcells_one HP.2) (Nat.zero_le _) (by simp only [maxLen]; omega) (by omega) ?_
    intro g2 off2 c2 w1 hM ht hl
    refine K (some ⟨g2, off2, none⟩) c2 w1 ⟨?_, fun p hp => ?_⟩ ht (fun k hk => by cases hk; exact hl)
    · rw [pcells_app, List.length_append]; exact hM
    · rcases List.mem_append.1 hp with h | h
      · exact HL.2 p h
      · exact HP.2 p h
theorem PRow.tail {w : World} {g off c : Nat} {p : Pkt} {l : List Pkt} (h : PRow w (.slice (some ⟨g, off, none⟩) (l.length + 1) c) (p :: l)) : PRow w (.slice (some ⟨g, off + 18, none⟩) l.length (c - 1)) l := by
  refine ⟨?_, fun q hq => h.2 q (List.mem_cons_of_mem _ hq)⟩
  have := Mid.drop (m := 1) h.1 (by simp)
  have e : (pcells (p :: l)).drop (1 * 18) = pcells l := by simp [pcells, Pkt.cells]
  rw [e] at this
  exact this
theorem PRow.tail1 {w : World} {g off : Nat} {p : Pkt} (h : PRow w (.slice (some ⟨g, off, none⟩) 1 1) [p]) : PRow w (.slice (some ⟨g, off, none⟩) 0 0) [] := ⟨Mid.empty h.1, by simp⟩

theorem ans_results (W : World) (v : Nat) (p : Pkt) (tmps : Array Value) (hv : tmps.getD 2 undef = .pointer (some ⟨v, 0, none⟩)) (h : PkAt W v p) : (results Tryd.f33 tmps).run Tryd.prog W = .ok (.agg p.cells) W := by
  have hl := load_pkt W v p h
  unfold Instr.loadAt at hl
  simp only [Instr.sureAddr, Sem.run_bind, Sem.run_pure, Result.andThen_ok] at hl
  simp only [results, Tryd.results33]
  have hv' : tmps[2]?.getD undef = .pointer (some ⟨v, 0, none⟩) := by rw [← hv]; simp
  simp [hv', asAddr, hl]
set_option maxRecDepth 100000 in
set_option maxHeartbeats 4000000 in
theorem answer_calls (w : World) (p : Pkt) : Calls Tryd.prog 33 #[.agg p.cells] w fun e w' => e = .returned (.agg (ansP p).cells) ∧ Below w.heap.size w w' := by
  obtain ⟨pb, hpb⟩ : ∃ pb, Hid (pb = w.heap.size) := ⟨_, rfl⟩
  obtain ⟨w1, hw1⟩ : ∃ w1, Hid (w1 = w.alloc (.cells p.cells PT)) := ⟨_, rfl⟩
  obtain ⟨w2, hw2⟩ : ∃ w2, Hid (w2 = w1.alloc (.cells zeroC PT)) := ⟨_, rfl⟩
  obtain ⟨v, hv⟩ : ∃ v, Hid (v = pb + 1) := ⟨_, rfl⟩
  have hvs : w1.heap.size = v := by rw [hv.out, hpb.out, hw1.out]; simp
  have HV : Hid (PkAt w2 v zeroP) := by rw [hw2.out, ← hvs]; exact heap_new _ _
  have HP : Hid (PkAt w2 pb p) := by
    have h1 : w1.heap[pb]? = some (.cells p.cells PT (0, 0)) := by rw [hw1.out, hpb.out]; exact heap_new _ _
    rw [hw2.out]
    exact (heap_old _ _ _ (heap_lt h1)).trans h1
  have hB : Hid (Below w.heap.size w w2 ∧ w.heap.size ≤ v) := by
    rw [Hid, hw2.out, hw1.out, hv.out, hpb.out]
    exact ⟨((Below.refl _ _).alloc (Nat.le_refl _) _).alloc (by simp) _, by omega⟩
  have e0 : w2.cell? ⟨pb, 0, none⟩ = some (.int .i64 p.ty) := cell_heap HP.out
  have e2 : w2.cell? ⟨pb, 2, none⟩ = some (.int .i64 p.id) := cell_heap HP.out
  have e5 : w2.cell? ⟨pb, 3 + 2, none⟩ = some (.int .i64 p.qos) := cell_heap HP.out
  have hz : w1.alloc (.cells #[Value.int IntKind.i64 0, Value.bool false, Value.int IntKind.i64 0, Value.string { data := #[] },
          Value.string { data := #[] }, Value.int IntKind.i64 0, Value.bool false, Value.string { data := #[] },
          Value.bool false, Value.int IntKind.i64 0, Value.bool false, Value.bool false, Value.bool false,
          Value.string { data := #[] }, Value.string { data := #[] }, Value.bool false, Value.slice none 0 0,
          Value.slice none 0 0] PT) = w2 := hw2.out.symm
  have HZ := Lib.hid hz
  clear hvs hz
  have HEND : Hid (∀ (q : Pkt) W' (tmps : Array Value), tmps.getD 2 undef = .pointer (some ⟨v, 0, none⟩) → PkAt W' v q → Turn (fun k => k = v) w2 W' → q = ansP p → bodyPost Tryd.prog Tryd.f33 (fun e w' => e = .returned (.agg (ansP p).cells) ∧ Below w.heap.size w w') Exit.ret ⟨tmps, []⟩ W') := by
    intro q W' tmps h1 h2 h3 h4
    subst h4
    exact bodyPost_ret (ans_results W' v _ tmps h1 h2) rfl ⟨rfl, h3.belowTrans hB.out.1 hB.out.1.size (fun k hk e => by have := hB.out.2; omega)⟩
  go_enter Tryd.func33, Tryd.ntmps33
  go_upto_region 1 with (fail)
  rw [← hw1.out, HZ.out, ← hpb.out, ← hv.out]
  by_cases h6 : p.ty = 6
  · have b6 : (p.ty == 6) = true := by simpa using h6
    have HA : Hid (ackP 7 p.id = ansP p) := by unfold Hid ansP; rw [if_pos h6]
    clear h6
    go_wp2_with (refine wp_store_pkt (o := ⟨none, _, _, _, _, _⟩) (ackP 7 p.id) zeroP rfl rfl (by rfl) (by rfl) HV.out rfl rfl ?_)
    intro W' hP ht
    refine wpList_nil ?_
    go_wp2_with (fail)
    exact HEND.out _ W' _ rfl hP.out ht HA.out
  have b6 : (p.ty == 6) = false := by simpa using h6
  by_cases h31 : p.ty = 3 ∧ p.qos = 1
  · have b3 : (p.ty == 3) = true := by simpa using h31.1
    have b1 : (p.qos == 1) = true := by simpa using h31.2
    have HA : Hid (ackP 4 p.id = ansP p) := by unfold Hid ansP; rw [if_neg h6, if_pos h31]
    clear h6 h31
    go_wp2_with (refine wp_store_pkt (o := ⟨none, _, _, _, _, _⟩) (ackP 4 p.id) zeroP rfl rfl (by rfl) (by rfl) HV.out rfl rfl ?_)
    intro W' hP ht
    refine wpList_nil ?_
    go_wp2_with (fail)
    exact HEND.out _ W' _ rfl hP.out ht HA.out
  by_cases h32 : p.ty = 3 ∧ p.qos = 2
  · have b3 : (p.ty == 3) = true := by simpa using h32.1
    have b1 : (p.qos == 1) = false := by rw [h32.2]; rfl
    have b2 : (p.qos == 2) = true := by simpa using h32.2
    have HA : Hid (ackP 5 p.id = ansP p) := by unfold Hid ansP; rw [if_neg h6, if_neg h31, if_pos h32]
    clear h6 h31 h32
    go_wp2_with (refine wp_store_pkt (o := ⟨none, _, _, _, _, _⟩) (ackP 5 p.id) zeroP rfl rfl (by rfl) (by rfl) HV.out rfl rfl ?_)
    intro W' hP ht
    refine wpList_nil ?_
    go_wp2_with (fail)
    exact HEND.out _ W' _ rfl hP.out ht HA.out
  have HA : Hid (zeroP = ansP p) := by unfold Hid ansP; rw [if_neg h6, if_neg h31, if_neg h32]
  have hcase : Hid ((p.ty == 3) = false ∨ ((p.ty == 3) = true ∧ (p.qos == 1) = false ∧ (p.qos == 2) = false)) := by
    by_cases h3 : p.ty = 3
    · exact .inr ⟨by simpa using h3, by simpa using fun h => h31 ⟨h3, h⟩, by simpa using fun h => h32 ⟨h3, h⟩⟩
    · exact .inl (by simpa using h3)
  clear h6 h31 h32
  rcases hcase.out with b3 | ⟨b3, b1, b2⟩
  all_goals
    go_wp2_with (refine wp_store_pkt (o := ⟨none, _, _, _, _, _⟩) zeroP zeroP rfl rfl (by rfl) (by rfl) HV.out rfl rfl ?_)
    intro W' hP ht
    refine wpList_nil ?_
    go_wp2_with (fail)
    exact HEND.out _ W' _ rfl hP.out ht HA.out
end Snd
end Go.Proofs.YtonemmdipmohgaaDoor

/- VarintBack. -/
import Derived.Test.YthigialbjbpkpaaVarG
import Derived.Laws.AppendOwnNone
namespace Go.Proofs.Ythigialbjbpkpaa
open Go.RowKit Go.ChangeShapes
set_option linter.unusedVariables false
set_option linter.unusedSimpArgs false
namespace Var

/-- 'append(v, src...)': v the call's own; src whatever reads as M, nil let in. -/
theorem wp_append_row {P : Program} {ops : Array Oper} {rest : List Oper} {o : Oper} {a : Act} {Q : Exit → Act → World → Prop} {W : World} (base : Nat) (hgd : o.guard = none) (s x : Operand) (t e : TypeId) (k : IntKind) (bytes : Nat)
    (ho : o.op = .call { callee := .builtin .append, args := #[s, x], argTypes := #[t, t] })
    (ht : P.underlying t = some (.slice e)) (hinfo : (P.info? e).map (fun i => (i.zero, i.size, i.bytes)) = some (some (.int k 0), 1, bytes))
    (v : Value) (L M : List Int) (A : Option Addr) (c : Nat) (hs : a.eval s = v) (hx : a.eval x = .slice A M.length c) (hN : A = none → c = 0) (hR : Reads k W A M)
    (HO : OwnInts W base e k v L) (hbase : base ≤ W.heap.size) (hn : L.length + M.length ≤ 140737488355328 ∧ (L.length + M.length) * bytes ≤ 140737488355328)
    (K : ∀ A1 c1 w1, OwnInts w1 base e k (.slice A1 (L ++ M).length c1) (L ++ M) → Turn (fun j => v.ownBlock = some j) W w1 → wpList P ops Q rest (a.put o.dst (.slice A1 (L ++ M).length c1)) w1) :
    wpList P ops Q (o :: rest) a W := by
  obtain ⟨i0, hi, hzz⟩ := Option.map_eq_some_iff.1 hinfo
  simp only [Prod.mk.injEq] at hzz
  obtain ⟨hz0, hz1, hz2⟩ := hzz
  cases A with
  | none =>
    have hM : M = [] := by
      cases M with
      | nil => rfl
      | cons a b => obtain ⟨x, hx, _⟩ := hR (by simp); cases hx
    subst hM
    obtain rfl := hN rfl
    obtain ⟨A', c', hv, _⟩ := HO.form
    subst hv
    refine wpList_append_own_none hgd s x t ho base e i0 1 ht hi _ L.length _ hs HO hx ?_
    have := K A' c' W (by simpa using HO) (Turn.refl _ _)
    simpa using this
  | some ad =>
    refine wpList_append_own W hgd s x t ho base e i0 (.int k 0) 1 bytes ht hi hz0 hz1 hz2 rfl (by omega) v L.length _ hs HO ad M.length c (M.map (Value.int k)) hx (by simp)
      (fun j u hu => ?_) (by simp [Value.oneCell']) (by simp only [maxLen]; omega) hn.2 hbase ?_
    · have hj : j < M.length := by simpa using (List.getElem?_eq_some_iff.1 hu).1
      obtain ⟨y, hy, hc⟩ := hR (by omega)
      cases hy
      rw [hc j hj, lat_get _ _ hj]
      simp [List.getElem?_eq_getElem hj] at hu
      rw [← hu]
    · intro v' w' h2 h3 _
      have h4 : OwnInts w' base e k v' (L ++ M) := by simpa [OwnInts] using h2
      obtain ⟨A1, c1, hv, _⟩ := h4.form
      subst hv
      exact K A1 c1 w' h4 (Turn.of_grownBy h3 (fun k e => e))

theorem own_reads {w : World} {base : Nat} {e : TypeId} {k : IntKind} {A : Option Addr} {n c : Nat} {L : List Int} (h : OwnInts w base e k (.slice A n c) L) : n = L.length ∧ L.length ≤ c ∧ Reads k w A L ∧ (A = none → c = 0) := by
  have hn : A = none → c = 0 := by
    intro hA
    rcases h.2 with ⟨hv, _⟩ | ⟨g, cap, cur, hv, _⟩
    · injection hv
    · injection hv with h4; rw [hA] at h4; cases h4
  obtain ⟨A', c', hv, h1, h2, h3⟩ := h.form
  injection hv with h4 h5 h6
  subst h4 h5 h6
  refine ⟨rfl, h1, fun h0 => ?_, hn⟩
  obtain ⟨g, hg, _, _, hc⟩ := h3 h0
  exact ⟨_, hg, fun i hi => by rw [add_plain0]; exact hc i hi⟩

/-- What Put of m gives, beside n (0 ≤ n ≤ 268435455). -/
theorem put_any (w : World) (n m : Int) : Calls Try.prog 8 #[.int .i64 m] w fun e w' => ∃ (A : Option Addr) (c : Nat) (C : List Int) (er : Int), e = .returned (.tuple #[.slice A C.length c, .int .i64 er]) ∧ Below w.heap.size w w' ∧
    (er = 1 ∨ (er = 0 ∧ decide (n ≤ m) = false) ∨ (er = 0 ∧ decide (n ≤ m) = true ∧ decide (C.length < (digs 3 n).length) = false)) := by
  by_cases hm : 0 ≤ m ∧ m ≤ 268435455
  · refine (put_calls w m hm.1 hm.2).mono ?_
    rintro e w' ⟨A, c, rfl, ho, hb⟩
    refine ⟨A, c, _, 0, rfl, hb, ?_⟩
    by_cases h : n ≤ m
    · refine .inr (.inr ⟨rfl, decide_eq_true h, decide_eq_false ?_⟩)
      have := digs_mono 3 n m h
      omega
    · exact .inr (.inl ⟨rfl, decide_eq_false h⟩)
  · refine (put_bad w m (by omega)).mono ?_
    rintro e w' ⟨rfl, rfl⟩
    exact ⟨none, 0, [], 1, rfl, Below.refl _ _, .inl rfl⟩

theorem own_lit (w : World) (base : Nat) (hb : base ≤ w.heap.size) : OwnInts (w.alloc (.cells #[] BT)) base BT .u8 (.slice (some ⟨w.heap.size, 0, none⟩) 0 0) [] :=
  ⟨rfl, .inr ⟨w.heap.size, 0, #[], rfl, hb, heap_new _ _, Nat.le_refl _, by simp [maxLen], rfl, rfl⟩⟩

theorem turn_above {w2 W w1 : World} {base : Nat} {e : TypeId} {k : IntKind} {v : Value} {L : List Int} (T : Turn (fun j => base ≤ j) w2 W) (HO : OwnInts W base e k v L) (t : Turn (fun j => v.ownBlock = some j) W w1) : Turn (fun j => base ≤ j) w2 w1 :=
  T.trans (t.mono fun k _ h => (own_block_ge HO k h).1)

set_option maxHeartbeats 2000000 in
set_option maxRecDepth 100000 in
theorem back_walk (a0 a1 : Int) (a2 : Option Addr) (len2 cap2 : Nat) (z2 : List Int) (a3 : Option Addr) (len3 cap3 : Nat) (z3 : List Int) (w : World) (w0 : (Lit.int .i64 a0).wf = true) (w1 : (Lit.int .i64 a1).wf = true)
    (w2 : IsRow .u8 w a2 len2 cap2 z2) (y2 : cap2 * 1 ≤ 140737488351232) (w3 : IsRow .u8 w a3 len3 cap3 z3) (y3 : cap3 * 1 ≤ 140737488351232) :
    Calls Try.prog 5 #[.int .i64 a0, .int .i64 a1, .slice a2 len2 cap2, .slice a3 len3 cap3] w fun e w' => e = .returned (.bool true) ∧ Below w.heap.size w w' := by
  have hn2 : a2 = none → cap2 = 0 := by rcases w2 with ⟨rfl, rfl, rfl, rfl⟩ | ⟨x, rfl, _⟩ <;> simp
  have hn3 : a3 = none → cap3 = 0 := by rcases w3 with ⟨rfl, rfl, rfl, rfl⟩ | ⟨x, rfl, _⟩ <;> simp
  obtain ⟨hl2, hR2, hb2, hcap2⟩ := row_reads w2
  obtain ⟨hl3, hR3, hb3, hcap3⟩ := row_reads w3
  obtain ⟨L2, hLd2⟩ : ∃ L, L = z2.take len2 := ⟨_, rfl⟩
  obtain ⟨L3, hLd3⟩ : ∃ L, L = z3.take len3 := ⟨_, rfl⟩
  rw [← hLd2] at hl2 hR2 hb2
  rw [← hLd3] at hl3 hR3 hb3
  subst hl2 hl3
  clear hLd2 hLd3 w2 w3 w0 w1 y2 y3
  have HN2 := Lib.hid hn2
  have HN3 := Lib.hid hn3
  have HR2 := Lib.hid hR2
  have HR3 := Lib.hid hR3
  have Hb2 := Lib.hid hb2
  have Hb3 := Lib.hid hb3
  clear hn2 hn3 hR2 hR3 hb2 hb3 hcap2 hcap3
  by_cases hbig2 : (500 : Int) < (L2.length : Int)
  · have hd := decide_eq_true hbig2
    go_enter Try.func5, Try.ntmps5
    go_wp2_with (fail)
    go_ret
    exact ⟨rfl, Below.refl _ _⟩
  have hd2 := decide_eq_false hbig2
  have Hbig2 := Lib.hid hbig2
  clear hbig2
  by_cases hbig3 : (500 : Int) < (L3.length : Int)
  · have hd := decide_eq_true hbig3
    go_enter Try.func5, Try.ntmps5
    go_wp2_with (fail)
    go_ret
    exact ⟨rfl, Below.refl _ _⟩
  have hd3 := decide_eq_false hbig3
  have Hbig3 := Lib.hid hbig3
  clear hbig3
  by_cases hok : 0 ≤ a0 ∧ a0 ≤ 268435455
  · obtain ⟨B, hB⟩ : ∃ B, Hid (B = digs 3 a0) := ⟨_, rfl⟩
    have HOK := Lib.hid hok
    clear hok
    go_enter Try.func5, Try.ntmps5
    go_wp2_with (fail)
    refine (put_calls _ a0 HOK.out.1 HOK.out.2).mono ?_
    rw [← hB.out]
    rintro e w1 ⟨A, c, rfl, ho, hb⟩
    have HO := Lib.hid ho
    have HB := Lib.hid hb
    clear ho hb
    go_wp2_with (fail)
    refine (put_any _ a0 a1).mono ?_
    rw [← hB.out]
    rintro e w2 ⟨A2, c2, C, er, rfl, hbb, hcc⟩
    have HCC := Lib.hid hcc
    have HB2 := Lib.hid (HB.out.trans (hbb.mono HB.out.size))
    have HO2 := Lib.hid (HO.out.turn (Turn.of_below (S := fun _ => False) hbb) (fun _ _ h => h))
    clear hcc hbb
    go_wp2_with (at_builtin; go_must (refine wp_append_row (W := w2.alloc (.cells #[] BT)) w2.heap.size rfl _ _ 22 5 .u8 1 rfl Try.underlying22 info_byte _ [] L2 a2 cap2 rfl rfl HN2.out (HR2.out.keep (HB2.out.alloc HB2.out.size _)) (own_lit _ _ (Nat.le_refl _)) (by simp) (by have := Hbig2.out; simp; omega) ?_))
    intro A3 c3 w3 ho3 ht3
    have HO3 := Lib.hid ho3
    have HT3 := Lib.hid (turn_above (Turn.alloc w2 (.cells #[] BT)) (own_lit w2 _ (Nat.le_refl _)) ht3)
    have HBR := Lib.hid (own_reads (HO2.out.turn HT3.out (fun j hj h => by have := (own_block_ge HO2.out j hj).2; omega)))
    have Hs3 := Lib.hid HT3.out.size
    clear ho3 ht3
    go_wp2_with (at_builtin; go_must (refine wp_append_row (W := w3) w2.heap.size rfl _ _ 22 5 .u8 1 rfl Try.underlying22 info_byte (.slice A3 L2.length c3) L2 B A c rfl rfl HBR.out.2.2.2 HBR.out.2.2.1 HO3.out Hs3.out (by have := Hbig2.out; have := (digs_length 3 a0).2; rw [← hB.out] at this; omega) ?_))
    intro A4 c4 w4 ho4 ht4
    have HO4 := Lib.hid ho4
    have HT4 := Lib.hid (turn_above HT3.out HO3.out ht4)
    have Hs4 := Lib.hid HT4.out.size
    have HR4 := Lib.hid (HR3.out.keep (HB2.out.trans (HT4.out.toBelow HB2.out.size (fun j hj h => by have := HB2.out.size; omega))))
    clear ho4 ht4
    go_wp2_with (at_builtin; go_must (refine wp_append_row (W := w4) w2.heap.size rfl _ _ 22 5 .u8 1 rfl Try.underlying22 info_byte (.slice A4 (L2.length + B.length) c4) (L2 ++ B) L3 a3 cap3 rfl rfl HN3.out HR4.out HO4.out Hs4.out (by have := Hbig2.out; have := Hbig3.out; have := (digs_length 3 a0).2; rw [← hB.out] at this; simp; omega) ?_))
    intro A5 c5 w5 ho5 ht5
    have HT5 := Lib.hid (turn_above HT4.out HO4.out ht5)
    obtain ⟨X, hX⟩ : ∃ X, Hid (X = L2 ++ (B ++ L3)) := ⟨_, rfl⟩
    have hXl : L2.length + (B.length + L3.length) = X.length := by rw [hX.out]; simp
    rw [hXl] at ho5 ⊢
    rw [← hX.out] at ho5
    obtain ⟨_, hc5, hR5, _⟩ := own_reads ho5
    have HR5 := Lib.hid hR5
    have HC5 := Lib.hid hc5
    have HXb : Hid (∀ x ∈ X, 0 ≤ x ∧ x < 256) := by
      rw [hX.out, Hid]
      intro x hx
      simp only [List.mem_append] at hx
      rcases hx with hx | hx | hx
      · exact Hb2.out x hx
      · rw [hB.out] at hx; exact digs_bytes 3 a0 HOK.out.1 (by have : (128 : Int) ^ (3 + 1) = 268435456 := by decide
                                                               have := HOK.out.2; omega) x hx
      · exact Hb3.out x hx
    have HXl : Hid (X.length ≤ 2000) := by
      have := Hbig2.out; have := Hbig3.out; have h4 := (digs_length 3 a0).2; rw [← hB.out] at h4
      rw [Hid, ← hXl]; omega
    have HXt : Hid (tell 4 true X ((L2.length : Nat) : Int) 0 1 = (a0, ((L2.length + B.length : Nat) : Int), 0)) := by
      have h1 := tell_digs 3 true X L2.length 0 1 a0 L3 HOK.out.1 (by have : (128 : Int) ^ (3 + 1) = 268435456 := by decide
                                                                      have := HOK.out.2; omega) (.inl rfl) (by rw [hX.out, List.drop_left, hB.out])
      rw [← hB.out] at h1
      rw [Hid, h1]; simp
    have hB1 := (digs_length 3 a0).1
    have hB4 := (digs_length 3 a0).2
    rw [← hB.out] at hB1 hB4
    obtain ⟨T, hT⟩ : ∃ T : Nat, T = L2.length + B.length - 1 := ⟨_, rfl⟩
    have hLB : wrap64 ((L2.length : Int) + (B.length : Int)) = (L2.length : Int) + (B.length : Int) := by
      have := Hbig2.out
      exact IntWalk.wrap64_in _ ⟨by omega, by omega⟩
    have hTw : wrap64 ((L2.length : Int) + (B.length : Int) - 1) = (T : Int) := by
      have := Hbig2.out
      rw [IntWalk.wrap64_in _ ⟨by omega, by omega⟩]
      omega
    have hT0 : (0 : Int) ≤ (T : Int) := by omega
    have hTc : (T : Int) ≤ (c5 : Int) := by omega
    have hB1' : (1 : Int) ≤ (B.length : Int) := by omega
    have hB1f : ¬ ((B.length : Int) < 1) := by omega
    have HTX : Hid (T ≤ X.length) := by rw [Hid]; omega
    have hTl : (X.take T).length = T := by have := HTX.out; rw [List.length_take]; omega
    have HTl := Lib.hid hTl
    have HTt : Hid (tell 4 true (X.take T) ((L2.length : Nat) : Int) 0 1 = (0, 0, 7)) := by
      refine tell_cut 3 true (X.take T) L2.length 0 1 a0 (by simp; omega) ?_
      rw [← hB.out, hX.out, hT]
      rw [List.take_append, List.take_of_length_le (by omega), List.drop_left, List.dropLast_eq_take, List.take_append]
      rw [show L2.length + B.length - 1 - L2.length = B.length - 1 from by omega, show B.length - 1 - B.length = 0 from by omega]
      simp
    have HB1 := Lib.hid hB1
    have HB4 := Lib.hid hB4
    clear ho5 ht5 hc5 hR5 hT hB1 hB4 hXl hTl
    go_wp2_with (fail)
    refine (at_is _ _ X _ _ rfl HC5.out HR5.out HXb.out (by have := HXl.out; omega) _ (by omega) (by have := Hbig2.out; omega) _ _ _ HXt.out).mono ?_
    rintro e w6 ⟨rfl, rfl⟩
    go_wp2_with (fail)
    refine (at_is _ _ (X.take T) _ _ HTl.out.symm (by have := HC5.out; have := HTX.out; rw [HTl.out]; omega) ?_ (fun x hx => HXb.out x (List.mem_of_mem_take hx)) (by have := HXl.out; have := HTX.out; rw [HTl.out]; omega) _ (by omega) (by have := Hbig2.out; omega) _ _ _ HTt.out).mono ?_
    · intro h0
      rw [HTl.out] at h0 ⊢
      obtain ⟨y, hy, hc⟩ := HR5.out (by have := HTX.out; omega)
      exact ⟨y, hy, fun i hi => by rw [lat_take _ _ _ hi]; exact hc i (by have := HTX.out; omega)⟩
    rintro e w7 ⟨rfl, rfl⟩
    rcases HCC.out with rfl | ⟨rfl, hc1⟩ | ⟨rfl, hc1, hc2⟩
    all_goals
      go_wp2_with (fail)
      refine (awake_calls _).mono ?_
      rintro e w8 ⟨rfl, hb8⟩
      have hge : decide (1 ≤ B.length) = true := decide_eq_true HB1.out
      have hle : decide (B.length ≤ 4) = true := decide_eq_true HB4.out
      have hge' : decide ((1 : Int) ≤ (B.length : Int)) = true := decide_eq_true hB1'
      have hle' : decide ((B.length : Int) ≤ 4) = true := decide_eq_true (by have := HB4.out; omega)
      go_wp2_with (fail)
      go_ret
      exact ⟨by simp, (HB2.out.trans (HT5.out.toBelow HB2.out.size (fun j hj h => by have := HB2.out.size; omega))).trans (hb8.mono (Nat.le_trans HB2.out.size HT5.out.size))⟩
  · go_enter Try.func5, Try.ntmps5
    go_wp2_with (fail)
    refine (put_bad _ a0 (by omega)).mono ?_
    rintro e w1 ⟨rfl, rfl⟩
    go_wp2_with (fail)
    refine (put_any _ a0 a1).mono ?_
    rintro e w2 ⟨A2, c2, C, er, rfl, hbb, hcc⟩
    go_wp2_with (fail)
    refine (awake_calls _).mono ?_
    rintro e w8 ⟨rfl, hb8⟩
    go_wp2_with (fail)
    go_ret
    exact ⟨rfl, hbb.trans (hb8.mono hbb.size)⟩

end Var
end Go.Proofs.Ythigialbjbpkpaa

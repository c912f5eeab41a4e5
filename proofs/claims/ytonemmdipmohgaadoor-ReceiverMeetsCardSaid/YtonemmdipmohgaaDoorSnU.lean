/- SenderArrives: when all is answered all are done, in order. -/
import Derived.Test.YtonemmdipmohgaaDoorSnT
namespace Go.Proofs.YtonemmdipmohgaaDoor
open Go.RowKit Go.ChangeShapes
set_option linter.unusedVariables false
set_option linter.unusedSimpArgs false
namespace Snd
open Pk Str
open Ref (MayIn may_calls)

def Want (w0 w : World) (T : Nat → Prop) (v : Value) (M : List Msg) : Prop := Mid w 0 MsT 4 v M.length (wcells M) ∧ ∀ k, v.ownBlock = some k → w0.heap.size ≤ k ∧ ¬ T k
theorem Want.move {w0 w w' : World} {T T' : Nat → Prop} {v : Value} {M : List Msg} (h : Want w0 w T v M) (m : Moved T T' w w') : Want w0 w' T' v M :=
  ⟨h.1.turn m.1 (fun k hk => (h.2 k hk).2), fun k hk => ⟨(h.2 k hk).1, fun hT => by
    rcases m.2 k hT with h1 | h1
    · exact (h.2 k hk).2 h1
    · have := (h.1.lt k hk).2; omega⟩⟩
theorem Want.put {w0 w w' : World} {T S : Nat → Prop} {v : Value} {M : List Msg} (h : Want w0 w T v M) (t : Turn S w w') (hS : ∀ k, v.ownBlock = some k → ¬ S k) : Want w0 w' T v M := ⟨h.1.turn t hS, h.2⟩
theorem Want.still {w0 w w' : World} {T : Nat → Prop} {v : Value} {M : List Msg} (h : Want w0 w T v M) (t : Turn (fun _ => False) w w') : Want w0 w' T v M := h.put t (fun _ _ h => h)
theorem Want.ne {w0 w : World} {T : Nat → Prop} {v u : Value} {M : List Msg} {ps : List Pkt} (h : Want w0 w T v M) (p : PRow w u ps) : ∀ k, v.ownBlock = some k → u.ownBlock ≠ some k := fun k hk hu => by
  obtain ⟨cur, h1⟩ := h.1.typ k hk
  obtain ⟨cur', h2⟩ := p.1.typ k hu
  exact obj_ne h1 h2 (cells_ne (by decide)) rfl
theorem push_cases (x : St) (m : Msg) : ((x.push m).1 = true ∧ (x.push m).2.2.wait = x.wait ++ [m]) ∨ ((x.push m).1 = false ∧ (x.push m).2.2 = x) := by
  unfold St.push
  split
  · exact .inr ⟨rfl, rfl⟩
  · split
    · exact .inr ⟨rfl, rfl⟩
    · exact .inl ⟨rfl, rfl⟩
theorem next_winU (x : St) : x.next.1.win = x.win := by
  obtain ⟨new, h1, h2, h3, h4, h5, h6⟩ := nextN_ways (n := x.wait.length) (x := x)
  exact h4
theorem take_winU (x : St) (ty id : Int) : (x.take ty id).1.win = x.win := by
  unfold St.take
  split
  · rfl
  · split
    · rfl
    · split <;> rfl
theorem pub_pay (id : Int) (m : Msg) (d : Bool) : m.pay.size ≤ (bodyB (pubP id m d) [] []).length := by
  unfold bodyB
  rw [if_neg (by show ¬ (3 : Int) = 1; decide), if_neg (by show ¬ (3 : Int) = 2; decide), if_pos (by show (3 : Int) = 3; rfl), List.length_append, List.length_append, Utf.nums_length]
  show m.pay.size ≤ _ + (_ + m.pay.size)
  omega
theorem fine_in (W : World) {p : Pkt} (h : Fine p) (hM : Pk.May p [] []) : MayIn W p [] [] := by
  have hp : p.payload.size ≤ 268435455 := by
    rcases h with ⟨id, m, d, rfl⟩ | ⟨id, rfl⟩
    · exact Nat.le_trans (pub_pay id m d) hM.2
    · show (0 : Nat) ≤ _; decide
  have hb := h.bare
  exact ⟨lies_ack W p hb, by simp, by simp, by rw [hb.2.2.2.2]; decide, by omega, fun _ => by have := hM.2; omega⟩
theorem sum_le2 : ∀ l : List Msg, (∀ m ∈ l, m.qos.toNat ≤ 2) → (l.map fun m => m.qos.toNat).sum ≤ 2 * l.length
  | [], _ => by simp
  | m :: l, h => by
    have h1 := h m (by simp)
    have h2 := sum_le2 l (fun m' hm => h m' (List.mem_cons_of_mem _ hm))
    simp only [List.map_cons, List.sum_cons, List.length_cons]
    omega
theorem mu_le {x : St} (hI : Inv x) (hy : x.ways = []) : mu x ≤ 128 := by
  have h1 := sum_le2 x.wait (fun m hm => by
    have h := hI.wok m hm
    rcases msg_qos h.1 h.2 with e | e <;> rw [e] <;> decide)
  have h2 := hI.wait
  have h3 := hI.que
  unfold mu
  rw [hy]
  simp only [List.map_nil, List.sum_nil]
  omega
theorem wcells_at : ∀ (M : List Msg) (i : Nat) (h : i < M.length) (j : Nat) (u : Value), M[i].vals[j]? = some u → (wcells M)[i * 4 + j]? = some u
  | [], i, h, _, _, _ => absurd h (by simp)
  | m :: M, 0, _, j, u, hu => by
    have e : wcells (m :: M) = m.vals ++ wcells M := by simp [wcells]
    rw [e, Nat.zero_mul, Nat.zero_add]
    have hj : j < m.vals.length := (List.getElem?_eq_some_iff.1 hu).1
    rw [List.getElem?_append_left hj]
    exact hu
  | m :: M, i + 1, h, j, u, hu => by
    have e : wcells (m :: M) = m.vals ++ wcells M := by simp [wcells]
    have hl : m.vals.length = 4 := rfl
    rw [e, List.getElem?_append_right (by omega), hl, show (i + 1) * 4 + j - 4 = i * 4 + j by omega]
    exact wcells_at M i (by simpa using h) j u hu
theorem Want.at {w0 w : World} {T : Nat → Prop} {A : Option Addr} {n c : Nat} {M : List Msg} (h : Want w0 w T (.slice A n c) M) {i : Nat} (hi : i < M.length) : ∃ g off, A = some ⟨g, off, none⟩ ∧ ∀ j u, (M[i]'hi).vals[j]? = some u → w.cell? ⟨g, off + i * 4 + j, none⟩ = some u := by
  obtain ⟨A', c', hv, _, _, hcell⟩ := h.1.form
  injection hv with e1 e2 e3
  subst e1
  obtain ⟨g, off, rfl, _, _, hc⟩ := hcell (by omega)
  exact ⟨g, off, rfl, fun j u hu => by
    have := hc (i * 4 + j) u (wcells_at M i hi j u hu)
    rwa [← Nat.add_assoc] at this⟩
/-- What Next does to what is wanted. -/
theorem next_want {x : St} {M : List Msg} {sent : Nat} (hs : sent ≤ M.length) (hd : M.drop sent = x.wait) :
    ∃ new : List Way, x.next.2 = new.map (fun y => pubP y.id y.msg false) ∧ sent + new.length ≤ M.length ∧ M.drop (sent + new.length) = x.next.1.wait ∧ (∀ i (h : i < new.length) (h' : sent + i < M.length), M[sent + i] = new[i].msg) := by
  obtain ⟨new, h1, h2, h3, h4, h5, h6⟩ := nextN_ways (n := x.wait.length) (x := x)
  have h6' : M.drop sent = new.map Way.msg ++ x.next.1.wait := hd.trans h6
  have hl : M.length - sent = new.length + x.next.1.wait.length := by
    have := congrArg List.length h6'
    rw [List.length_drop, List.length_append, List.length_map] at this
    exact this
  refine ⟨new, h2, by omega, ?_, fun i h h' => ?_⟩
  · rw [← List.drop_drop, h6', List.drop_append_of_le_length (by simp)]
    simp
  · have h7 : (M.drop sent)[i]? = some M[sent + i] := by rw [List.getElem?_drop]; exact List.getElem?_eq_getElem h'
    rw [h6', List.getElem?_append_left (by simpa using h), List.getElem?_map, List.getElem?_eq_getElem h] at h7
    simpa using h7.symm
theorem bare_in (W : World) {p : Pkt} (h : Bare p) (hp : p.payload.size ≤ 1000000) : MayIn W p [] [] :=
  ⟨lies_ack W p h, by simp, by simp, by rw [h.2.2.2.2]; decide, by omega, fun hG => good_len (lies_ack W p h) hG (by simp) (by simp) (fun _ => by omega)⟩
def Run (w wr : World) (s : Nat) (a0 : Int) (M : List Msg) (AW : Option Addr) (cW : Nat) (n sent : Nat) (lv : Value) (ln : List Pkt) : Prop :=
  ∃ T x, Own w wr T s x ∧ x.win = a0 ∧ Line x ln ∧ n + mu x ≤ 300 ∧ sent ≤ M.length ∧ M.drop sent = x.wait ∧ (∀ p ∈ ln, Fine p) ∧ PRow wr lv ln ∧ (∀ k, lv.ownBlock = some k → w.heap.size ≤ k) ∧ Want w wr T (.slice AW M.length cW) M

set_option maxRecDepth 100000 in
set_option maxHeartbeats 8000000 in
/-- SenderArrives. -/
theorem arrives_walk (a0 a1 : Int) (a2 : Option Addr) (len2 cap2 : Nat) (ms : List Msg) (a3 : Option Addr) (len3 cap3 : Nat) (z3 : List Int) (w : World) (w0 : (Lit.int .i64 a0).wf = true) (w1 : (Lit.int .i64 a1).wf = true) (h2 : len2 = ms.length ∧ ms.length ≤ cap2) (hP : MsReads w a2 ms) (hF : ∀ y ∈ ms, MsgFit y) (w3 : IsRow .i64 w a3 len3 cap3 z3) (y3 : cap3 * 8 ≤ 140737488351232) (hT : Lib.Utf8Tabs 0 1 w) :
    Calls Tryd.prog 6 #[.int .i64 a0, .int .i64 a1, .slice a2 len2 cap2, .slice a3 len3 cap3] w fun e w' => e = .returned (.bool true) ∧ Below w.heap.size w w' := by
  obtain ⟨rfl, hcap⟩ := h2
  have HT := Lib.hid hT
  have HP := Lib.hid hP
  have HF := Lib.hid hF
  have HZ := Lib.hid w3.form
  clear hT hP hF w0 w1 w3 y3
  by_cases hbig : (100 : Int) < (ms.length : Int)
  · have d1 : decide ((100 : Int) < (ms.length : Int)) = true := decide_eq_true hbig
    clear hbig
    go_enter Tryd.func6, Tryd.ntmps6
    go_wp2_with (fail)
    go_ret
    exact ⟨rfl, Below.refl _ _⟩
  have d1 : decide ((100 : Int) < (ms.length : Int)) = false := decide_eq_false hbig
  have HB := Lib.hid hbig
  clear hbig
  go_enter Tryd.func6, Tryd.ntmps6
  go_wp2_with (fail)
  refine (own_new w w (Below.refl _ _) a0 a1).mono ?_
  rintro e w1 (⟨_, _, _, _, s, T1, rfl, hO, _, _⟩ | ⟨_, rfl, rfl⟩)
  case inr =>
    go_wp2_with (fail)
    refine (awake_calls _ HT.out).mono ?_
    rintro e w2 ⟨rfl, hb⟩
    go_wp2_with (fail)
    go_ret
    exact ⟨rfl, hb⟩
  have H1 := Lib.hid hO
  clear hO
  go_wp2_with (fail)
  go_loopw [11, 12] (fun wv iv wr => ∃ (k : Nat) (M : List Msg) (AW : Option Addr) (cW : Nat), k ≤ ms.length ∧ iv = .int .i64 k ∧ wv = .slice AW M.length cW ∧ Hid (∃ T x, Own w wr T s x ∧ x.win = a0 ∧ x.ways = [] ∧ x.wait = M ∧ Want w wr T (.slice AW M.length cW) M)) (fun _ iv _ => ms.length - (intOf iv).toNat)
  case atStart => exact ⟨0, [], none, 0, Nat.zero_le _, rfl, rfl, T1, _, H1.out, rfl, rfl, rfl, Mid.nil _ _ _ _, fun k hk => by cases hk⟩
  case round =>
    obtain ⟨k, M, AW, cW, hk, rfl, rfl, hR⟩ := hrel
    have hk100 : (k : Int) ≤ 100 := by have := HB.out; omega
    obtain ⟨T, x, hO, hxw, hxy, hxm, hW⟩ := hR.out
    have HO := Lib.hid hO
    have HXW := Lib.hid hxw
    have HXY := Lib.hid hxy
    have HXM := Lib.hid hxm
    have HW := Lib.hid hW
    have HML : Hid (M.length ≤ 64) := by have h1 := hO.inv.wait; have h2 := hO.inv.que; rw [hxm] at h1; rw [Hid]; omega
    clear hO hxw hxy hxm hW hR
    by_cases hlt : k < ms.length
    · obtain ⟨x0, rfl, hc⟩ := (HP.out.keep HO.out.bel) k hlt
      obtain ⟨m, hm⟩ : ∃ m, Hid (m = ms[k]'hlt) := ⟨ms[k]'hlt, rfl⟩
      rw [← hm.out] at hc
      have HM : Hid (MsgFit m) := by rw [hm.out]; exact HF.out _ (List.getElem_mem hlt)
      have e1 : wr.cell? ⟨(x0.add (k * 4)).block, (x0.add (k * 4)).off + 1, none⟩ = some (.string m.pay) := hc 1 _ rfl
      have e2 : wr.cell? ⟨(x0.add (k * 4)).block, (x0.add (k * 4)).off + 2, none⟩ = some (.int .i64 m.qos) := hc 2 _ rfl
      have e3 : wr.cell? ⟨(x0.add (k * 4)).block, (x0.add (k * 4)).off + 3, none⟩ = some (.bool m.retain) := hc 3 _ rfl
      have e0' : wr.cell? (x0.add (k * 4)) = some (.string m.topic) := by
        have := hc 0 _ rfl
        simpa [Addr.add] using this
      have HK : Hid (k < ms.length) := hlt
      clear hc
      have s1 : (m.topic.size : Int) ≤ 140737488351232 := by have := HM.out.1; omega
      have s2 : (m.pay.size : Int) ≤ 140737488351232 := by have := HM.out.2; omega
      have s3 : ((m.topic.size : Int) + m.pay.size) ≤ 281474976702464 := by omega
      by_cases hsz : (300 : Int) < (m.topic.size : Int) + (m.pay.size : Int)
      · have d2 : decide ((300 : Int) < (m.topic.size : Int) + (m.pay.size : Int)) = true := decide_eq_true hsz
        clear hsz
        go_wp2_with (fail)
        go_quiet (fail)
        go_wp2_with (fail)
        go_ret
        exact ⟨rfl, (HO.out.still (Turn.drewN (Turn.refl _ _) _)).bel⟩
      · have d2 : decide ((300 : Int) < (m.topic.size : Int) + (m.pay.size : Int)) = false := decide_eq_false hsz
        have HS : Hid (m.topic.size + m.pay.size ≤ 300) := by rw [Hid]; omega
        clear hsz
        go_wp2_with (fail)
        go_quiet (fail)
        go_wp2_with (fail)
        have tdn : Turn (fun _ => False) wr (wr.drewN nq) := Turn.drewN (Turn.refl _ _) _
        have HWN := Lib.hid (HW.out.still tdn)
        refine (own_push w _ HT.out T s x (HO.out.still tdn) m HS.out).mono ?_
        rintro e w2 ⟨rfl, T2, hO2, hm2⟩
        have HO2 := Lib.hid hO2
        have HW2 := Lib.hid (HWN.out.move hm2)
        have HPC := Lib.hid (push_cases x m)
        obtain ⟨y0, ey, hc2⟩ := (HP.out.keep HO2.out.bel) k hlt
        injection ey with ey
        subst ey
        rw [← hm.out] at hc2
        have f1 : w2.cell? ⟨(x0.add (k * 4)).block, (x0.add (k * 4)).off + 1, none⟩ = some (.string m.pay) := hc2 1 _ rfl
        have f2 : w2.cell? ⟨(x0.add (k * 4)).block, (x0.add (k * 4)).off + 2, none⟩ = some (.int .i64 m.qos) := hc2 2 _ rfl
        have f3 : w2.cell? ⟨(x0.add (k * 4)).block, (x0.add (k * 4)).off + 3, none⟩ = some (.bool m.retain) := hc2 3 _ rfl
        have f0' : w2.cell? (x0.add (k * 4)) = some (.string m.topic) := by
          have := hc2 0 _ rfl
          simpa [Addr.add] using this
        have HSM := Lib.hid (push_same x m)
        generalize x.push m = r at *
        obtain ⟨ok, cd, x'⟩ := r
        simp only at HPC HO2 HSM
        clear hO2 hm2 tdn hc2 e1 e2 e3 e0'
        rcases HPC.out with ⟨hok, hwt⟩ | ⟨hok, hxx⟩
        · subst hok
          have HXM2 : Hid (x'.wait = M ++ [m]) := by rw [Hid, hwt, HXM.out]
          have hlen : Hid (M.length + 1 ≤ maxLen ∧ (M.length + 1) * 48 ≤ 140737488355328) := by rw [Hid]; have := HML.out; simp only [maxLen]; omega
          clear hwt
          go_wp2_with (at_builtin; refine wp_append_mid (W := w2.alloc (.cells m.vals.toArray MsT)) 0 rfl (.tmp 78) (.tmp 83) 40 MsT _ 4 48 rfl Tryd.underlying40 info_msg rfl (by decide) (.slice AW M.length cW) M.length (wcells M) rfl (HW2.out.1.turn (Turn.alloc (S := fun _ => False) _ _) (fun _ _ h => h)) ⟨w2.heap.size, 0, none⟩ 1 1 m.vals rfl (by decide) rfl (fun j u hu => lit_cells w2 MsT m.vals _ rfl j u hu) (by simp [Msg.vals, Value.oneCell']) (Nat.zero_le _) hlen.out.1 hlen.out.2 ?_)
          intro g9 o9 c9 w9 hM9 ht9 hl9
          have ta : Turn (fun _ => False) w2 (w2.alloc (.cells m.vals.toArray MsT)) := Turn.alloc _ _
          have HO9 : Hid (Own w w9 T2 s x') := (HO2.out.still ta).put ht9 (fun k hk e => (HW2.out.2 k e).2 hk) (fun k hk e => by have := (HW2.out.2 k e).1; omega)
          have HW9 : Hid (Want w w9 T2 (.slice (some ⟨g9, o9, none⟩) (M ++ [m]).length c9) (M ++ [m])) := by
            refine ⟨?_, fun k hk => ?_⟩
            · rw [List.length_append, List.length_singleton, wcells_snoc]; exact hM9
            · have hk' : g9 = k := Option.some.inj hk
              subst hk'
              rcases hl9 with h | h
              · exact HW2.out.2 _ h
              · have h1 := HO2.out.bel.size
                have h2 := ta.size
                refine ⟨by omega, fun hT2 => ?_⟩
                have := HO2.out.lt _ hT2
                omega
          clear hM9 ht9 hl9 ta
          go_wp2_with (fail)
          go_roundw
          case rel =>
            refine ⟨k + 1, M ++ [m], some ⟨g9, o9, none⟩, c9, HK.out, by go_num, ?_, T2, x', HO9.out, HSM.out.1.trans HXW.out, HSM.out.2.1.trans HXY.out, HXM2.out, HW9.out⟩
            rw [List.length_append, List.length_singleton]
          case measure => have := HK.out; simp [intOf]; omega
        · subst hok
          subst hxx
          go_wp2_with (fail)
          go_roundw
          case rel => exact ⟨k + 1, M, AW, cW, HK.out, by go_num, rfl, T2, x', HO2.out, HXW.out, HXY.out, HXM.out, HW2.out⟩
          case measure => have := HK.out; simp [intOf]; omega
    · go_wp2_with (fail)
      clear hlt hk hk100
      have HRUN : Hid (Run w wr s a0 M AW cW 0 0 (.slice none 0 0) []) := ⟨T, x, HO.out, HXW.out, by unfold Line; rw [HXY.out]; exact .refl _, by have := mu_le HO.out.inv HXY.out; omega, Nat.zero_le _, by rw [HXM.out]; rfl, by simp, PRow.nil _, fun k hk => (by cases hk), HW.out⟩
      go_loopw [15, 16, 17] (fun lv sv nv wz => ∃ (n sent : Nat) (ln : List Pkt) (AL : Option Addr) (cL : Nat), n ≤ 1000 ∧ nv = .int .i64 n ∧ sv = .int .i64 sent ∧ lv = .slice AL ln.length cL ∧ Hid (Run w wz s a0 M AW cW n sent (.slice AL ln.length cL) ln)) (fun _ _ nv _ => 1000 - (intOf nv).toNat)
      case atStart => exact ⟨0, 0, [], none, 0, by omega, rfl, rfl, rfl, HRUN.out⟩
      case round =>
        clear HO HXW HXY HXM HW HRUN
        obtain ⟨n, sent, ln, AL, cL, hn1000, rfl, rfl, rfl, hS⟩ := hrel
        obtain ⟨T3, x3, hO, hxw, hln, hmu, hsent, hdrop, hfine, hpr, hlo, hwant⟩ := hS.out
        have HO := Lib.hid hO
        have HXW := Lib.hid hxw
        have HMU := Lib.hid hmu
        have HFN := Lib.hid hfine
        have HPR := Lib.hid hpr
        have HLO := Lib.hid hlo
        have HWT := Lib.hid hwant
        have HLN := Lib.hid hln
        have HSE := Lib.hid hsent
        have HDR := Lib.hid hdrop
        have hn300 : (n : Int) ≤ 300 := by omega
        have hnl : (n : Int) < 1000 := by omega
        have HLL : Hid (ln.length ≤ 16) := by
          have h1 := hln.len
          have h2 := hO.inv.ways
          have h3 := hO.inv.win
          rw [Hid]; omega
        clear hO hxw hln hmu hsent hdrop hfine hpr hlo hwant hS hn1000
        go_wp2_with (fail)
        refine (own_next w wr T3 s x3 HO.out).mono ?_
        obtain ⟨new, hps, hse, hdr, hmsg⟩ := next_want HSE.out HDR.out
        have hl4 := HLN.out.next
        have hmu4 := mu_next x3
        have hwin4 := next_winU x3
        have hstop := nextN_stop (n := x3.wait.length) (x := x3) (Nat.le_refl _)
        have hfn4 := fine_next x3
        have hstop4 : ¬ ((x3.next.1.ways.length : Int) < x3.next.1.win ∧ 0 < x3.next.1.wait.length) := hstop
        clear hstop
        generalize x3.next.1 = x at *
        generalize x3.next.2 = ps at *
        rintro e w2 ⟨A2, n2, c2, T2, rfl, hP2, hb2, hO2, hm2⟩
        obtain rfl := hP2.len
        have HPS := Lib.hid hps
        have HSE2 := Lib.hid hse
        have HDR2 := Lib.hid hdr
        have HMSG := Lib.hid hmsg
        have HL4 := Lib.hid hl4
        have HMU2 := Lib.hid hmu4
        have HW2 := Lib.hid hwin4
        have HST := Lib.hid hstop4
        have HF4 := Lib.hid hfn4
        have O2 := Lib.hid hO2
        have P2 := Lib.hid hP2
        have B2 := Lib.hid hb2
        have PL2 := Lib.hid (HO.out.prow hm2 HPR.out)
        have WT2 := Lib.hid (HWT.out.move hm2)
        have HPL : Hid (ps.length = new.length) := by rw [hps, Hid, List.length_map]
        have hpl16 : (ps.length : Int) ≤ 16 := by
          have h1 := hl4.len
          have h2 := hO2.inv.ways
          have h3 := hO2.inv.win
          rw [List.length_append] at h1
          omega
        have hM64 : (M.length : Int) ≤ 64 := by have := HML.out; omega
        clear hps hse hdr hmsg hl4 hmu4 hwin4 hstop4 hfn4 hO2 hP2 hb2 hm2
        go_wp2_with (fail)
        go_loopw [16, 20] (fun sv iv wz => ∃ i s0 : Nat, i ≤ ps.length ∧ iv = .int .i64 i ∧ sv = .int .i64 s0 ∧ Hid (s0 = sent + i) ∧ Hid (Turn (fun _ => False) w2 wz)) (fun _ iv _ => ps.length - (intOf iv).toNat)
        case atStart => exact ⟨0, sent, Nat.zero_le _, rfl, rfl, rfl, Turn.refl _ _⟩
        case round =>
          obtain ⟨i, s0, hi, rfl, rfl, hs0, hz⟩ := hrel
          have hi16 : (i : Int) ≤ 16 := by omega
          have HS0 := hs0
          have hs64 : (s0 : Int) ≤ 64 := by have h1 := hs0.out; have h2 := HSE2.out; have h3 := HPL.out; omega
          by_cases hil : i < ps.length
          · have hin : i < new.length := by have := HPL.out; omega
            have hsM : s0 < M.length := by have h1 := hs0.out; have h2 := HSE2.out; omega
            obtain ⟨g3, o3, rfl, hc3⟩ := (P2.out.still hz.out).at hil
            obtain ⟨gw, ow, rfl, hcw⟩ := (WT2.out.still hz.out).at hsM
            obtain ⟨y, hy⟩ : ∃ y, Hid (y = new[i]'hin) := ⟨_, rfl⟩
            have ep : ps[i]'hil = pubP y.id y.msg false := by
              have : ∀ (l : List Pkt) (h : i < l.length), l = new.map (fun y => pubP y.id y.msg false) → l[i]'h = pubP y.id y.msg false := by
                intro l h e
                subst e
                rw [List.getElem_map, hy.out]
              exact this ps hil HPS.out
            have em : M[s0]'hsM = y.msg := by
              have h1 := HMSG.out i hin (by have := hs0.out; omega)
              rw [hy.out, ← h1]
              have : ∀ a b (ha : a < M.length) (hb : b < M.length), a = b → M[a] = M[b] := fun a b ha hb e => by subst e; rfl
              exact this _ _ _ _ hs0.out
            rw [ep] at hc3
            rw [em] at hcw
            have k0 : wr.cell? ⟨g3, o3 + i * 18, none⟩ = some (.int .i64 3) := hc3 0 _ rfl
            have k1 := hc3 1 (.bool false) rfl
            have k3 := hc3 3 (.string y.msg.topic) rfl
            have k4 : wr.cell? ⟨g3, o3 + i * 18 + 3 + 1, none⟩ = some (.string y.msg.pay) := hc3 4 _ rfl
            have k5 : wr.cell? ⟨g3, o3 + i * 18 + 3 + 2, none⟩ = some (.int .i64 y.msg.qos) := hc3 5 _ rfl
            have k6 : wr.cell? ⟨g3, o3 + i * 18 + 3 + 3, none⟩ = some (.bool y.msg.retain) := hc3 6 _ rfl
            have m0 : wr.cell? ⟨gw, ow + s0 * 4, none⟩ = some (.string y.msg.topic) := hcw 0 _ rfl
            have m1 := hcw 1 (.string y.msg.pay) rfl
            have m2 := hcw 2 (.int .i64 y.msg.qos) rfl
            have m3 := hcw 3 (.bool y.msg.retain) rfl
            have HI : Hid (i < ps.length) := hil
            have dg : decide (M.length ≤ s0) = false := decide_eq_false (by omega)
            clear hc3 hcw ep em hin hy
            go_wp2_with (fail)
            go_quiet (fail)
            go_wp2_with (fail)
            go_roundw
            case rel => exact ⟨i + 1, s0 + 1, HI.out, by go_num, by go_num, by have := HS0.out; rw [Hid]; omega, hz.out.drewN _⟩
            case measure => have := HI.out; simp [intOf]; omega
          · have hie : i = new.length := by have := HPL.out; omega
            have HS2 : Hid (s0 = sent + new.length) := by rw [Hid, hs0.out, hie]
            have O3 := Lib.hid (O2.out.still hz.out)
            have P3 := Lib.hid (P2.out.still hz.out)
            have PL3 := Lib.hid (PL2.out.still hz.out)
            have WT3 := Lib.hid (WT2.out.still hz.out)
            have hb3 : Hid (ln.length + ps.length ≤ 100000) := by have := HLL.out; rw [Hid]; omega
            have HL5 : Hid (Line x (ln ++ ps)) := HL4.out
            have HFA : Hid (∀ p ∈ ln ++ ps, Fine p) := fun p hp => (List.mem_append.1 hp).elim (HFN.out p) (HF4.out p)
            clear hie
            go_wp2_with (at_builtin; refine wp_append_rows (o := ⟨some 137, _, _, _, _, _⟩) rfl (.tmp 135) (.tmp 136) rfl AL A2 ln.length ps.length cL c2 ln ps rfl PL3.out rfl P3.out hb3.out ?_)
            intro A4 c4 w4 P4 ht4 hl4
            obtain ⟨l4, hl4e⟩ : ∃ l4, Hid (l4 = ln ++ ps) := ⟨_, rfl⟩
            have hll : ln.length + ps.length = l4.length := by rw [hl4e.out, List.length_append]
            rw [← hl4e.out] at P4 HL5 HFA
            rw [hll] at P4 hl4 ⊢
            have O4 : Hid (Own w w4 T2 s x) := O3.out.put ht4.out (fun k hk e => by
              obtain ⟨cur, hc⟩ := PL3.out.1.typ k e
              exact O3.out.other k hk cur hc) (fun k hk e => by have := HLO.out k e; omega)
            have WT4 : Hid (Want w w4 T2 (.slice AW M.length cW) M) := WT3.out.put ht4.out (fun k hk e => WT3.out.ne PL3.out k hk e)
            have HLO4 : Hid (∀ k, (Value.slice A4 l4.length c4).ownBlock = some k → w.heap.size ≤ k) := fun k hk => by
              rcases hl4.out k hk with h | h
              · exact HLO.out k h
              · have := O3.out.bel.size; omega
            have HL16 : Hid (l4.length ≤ 16) := by
              have h1 := HL5.out.len
              have h2 := O4.out.inv.ways
              have h3 := O4.out.inv.win
              rw [Hid]; omega
            clear hll hl4 ht4 hil hi hi16
            by_cases he : l4.length = 0
            · have hbe : ((l4.length : Int) == 0) = true := by rw [he]; rfl
              have HEMP : Hid (x.wait.length = 0 ∧ x.ways.length = 0) := by
                have h1 := HL5.out.len
                have h2 := HST.out
                have h3 := O4.out.inv.win
                have h4 : x.ways.length = 0 := by omega
                refine ⟨Nat.eq_zero_of_not_pos fun h => h2 ⟨by rw [h4]; omega, h⟩, h4⟩
              have HSM : Hid (s0 = M.length) := by
                have h1 := HDR2.out
                have h2 := List.length_eq_zero_iff.1 HEMP.out.1
                rw [h2] at h1
                have h3 := congrArg List.length h1
                rw [List.length_drop] at h3
                have h4 := HSE2.out
                have h5 := HS2.out
                simp only [List.length_nil] at h3
                rw [Hid]; omega
              clear he
              go_wp2_with (fail)
              refine (count_calls w4 T2 s x O4.out.obj).mono ?_
              rw [HEMP.out.1, HEMP.out.2]
              rintro e w5 ⟨rfl, ht5⟩
              have O5 := Lib.hid (O4.out.still ht5)
              clear ht5
              go_wp2_with (fail)
              refine (awake_calls w5 (O5.out.tabs HT.out)).mono ?_
              rintro e w6 ⟨rfl, hb6⟩
              have hse : (s0 : Int) = (M.length : Int) := by rw [HSM.out]
              have hsb : ((s0 : Int) == (M.length : Int)) = true := by rw [hse]; simp
              have hsm := HSM.out
              subst hsm
              go_wp2_with (fail)
              go_ret
              exact ⟨rfl, (O5.out.still (Turn.of_below hb6)).bel⟩
            · have hbe : ((l4.length : Int) == 0) = false := beq_eq_false_iff_ne.2 (by omega)
              have HNE : Hid (¬ l4.length = 0) := he
              clear he
              go_upto_region 31 with (fail)
              go_cut [152] from 141 to 152 (fun v wx => ∃ q : Bool, v = .bool q ∧ Hid (wx = w4))
              case first =>
                by_cases hnz : n < len3
                · obtain ⟨xz, rfl, hcz⟩ := HZ.out.2.2 (by omega)
                  have hcn := (hcz n hnz).1
                  have hcn4 : w4.cell? (xz.add n) = some (.int .i64 (lat z3 n)) := by
                    rw [O4.out.bel.cell (World.block_lt_of_cell? w _ hcn)]; exact hcn
                  clear hcz hcn
                  go_wp2_with (fail)
                  go_meet
                  case rel => exact ⟨_, rfl, rfl⟩
                · go_wp2_with (fail)
                  go_meet
                  case rel => exact ⟨_, rfl, rfl⟩
              case rest =>
                obtain ⟨q, rfl, hcut⟩ := hcut
                have hcw := hcut.out
                subst hcw
                go_upto_if 152 with (fail)
                go_cut [15, 21, 22] from 153 to 160 (fun v _ _ wx => ∃ (A5 : Option Addr) (c5 : Nat) (l5 : List Pkt), v = .slice A5 l5.length c5 ∧ Hid (∃ T5, Own w wx T5 s x ∧ Line x l5 ∧ (∀ p ∈ l5, Fine p) ∧ PRow wx (.slice A5 l5.length c5) l5 ∧ (∀ k, (Value.slice A5 l5.length c5).ownBlock = some k → w.heap.size ≤ k) ∧ Want w wx T5 (.slice AW M.length cW) M))
                case first =>
                  cases q with
                  | false =>
                    go_wp2_with (fail)
                    go_meet
                    case rel => exact ⟨A4, c4, l4, rfl, T2, O4.out, HL5.out, HFA.out, P4.out, HLO4.out, WT4.out⟩
                  | true =>
                    go_wp2_with (fail)
                    refine (own_again w wc T2 s x O4.out).mono ?_
                    rintro e w5 ⟨⟨A5, n5, c5, T5, rfl, hP5, hb5, hO5, hm5⟩, ht5⟩
                    obtain rfl := hP5.len
                    have O5 := Lib.hid hO5
                    have P5 := Lib.hid hP5
                    have WT5 := Lib.hid (WT4.out.move hm5)
                    have HLO5 : Hid (∀ k, (Value.slice A5 x.again.length c5).ownBlock = some k → w.heap.size ≤ k) := fun k hk => Nat.le_trans O4.out.bel.size (hb5 k hk)
                    clear hP5 hb5 hO5 hm5 ht5
                    go_wp2_with (fail)
                    go_meet
                    case rel => exact ⟨A5, c5, x.again, rfl, T5, O5.out, Line.again x, fine_again x, P5.out, HLO5.out, WT5.out⟩
                case rest =>
                  obtain ⟨A5, c5, l5, rfl, hcut⟩ := hcut
                  obtain ⟨T5, hO5, hL5, hF5, hP5, hlo5, hW5⟩ := hcut.out
                  have hlen5 : l5.length = l4.length := (Line.len hL5).trans (Line.len HL5.out).symm
                  obtain ⟨p, l6, rfl⟩ : ∃ p l6, l5 = p :: l6 := List.exists_cons_of_length_pos (by have h1 : ¬ l4.length = 0 := HNE.out; omega)
                  have O5 := Lib.hid hO5
                  have L5 := Lib.hid hL5
                  have F5 := Lib.hid hF5
                  have HLO5 := Lib.hid hlo5
                  have WT5 := Lib.hid hW5
                  have HP5 := Lib.hid hP5
                  have hcap5 : l6.length + 1 ≤ c5 := hP5.cap
                  have hl616 : (l6.length : Int) ≤ 16 := by have := HL16.out; simp only [List.length_cons] at hlen5; omega
                  obtain ⟨g5, o5, rfl, hc5⟩ := hP5.at (k := 0) (by simp)
                  have hc5' : ∀ j v, p.cells.toList[j]? = some v → wc.cell? ((⟨g5, o5, none⟩ : Addr).add j) = some v := fun j v hj => by
                    rw [Addr.add_mid]
                    have := hc5 j v (by simpa using hj)
                    simpa using this
                  have HC5 := Lib.hid hc5'
                  have HSTEP := Lib.hid (Line.step hO5.inv hO5.obj.nodup.1 hO5.obj.nodup.2 hL5 (hF5 p (by simp)))
                  have HBP : Hid (Bare p) := (hF5 p (by simp)).bare
                  have HF6 : Hid (∀ q ∈ l6, Fine q) := fun q hq => hF5 q (List.mem_cons_of_mem _ hq)
                  clear hO5 hL5 hF5 hP5 hlo5 hW5 hc5 hc5' hlen5 hcut
                  rw [show (p :: l6).length = l6.length + 1 from rfl] at HP5 HLO5 ⊢
                  go_wp2_with (refine wp_var (o1 := ⟨some 166, _, _, _, _, _⟩) PT 18 p.cells.toList zeroC rfl rfl rfl rfl rfl rfl rfl (by rfl) (by rfl) isAggP sizeP rfl rfl (cells_one p (by rw [HBP.out.1]; rfl) (by rw [HBP.out.2.1]; rfl)) (kAllocP _) HC5.out ?_)
                  intro wv hv2 hb2
                  obtain ⟨v, hv⟩ : ∃ v, Hid (v = wc.heap.size) := ⟨_, rfl⟩
                  rw [← hv.out] at hv2 ⊢
                  have tv : Turn (fun _ => False) wc wv := Turn.of_below hb2.out
                  have O6 := Lib.hid (O5.out.still tv)
                  have P6 : Hid (PRow wv (.slice (some ⟨g5, o5, none⟩) (l6.length + 1) c5) (p :: l6)) := HP5.out.still tv
                  have WT6 := Lib.hid (WT5.out.still tv)
                  have HPV : Hid (PkAt wv v p) := hv2.out
                  have HFP : Hid (Fine p) := F5.out p (by simp)
                  clear tv hb2 hv2
                  refine wpList_nil ?_
                  go_upto_region 38 with (fail)
                  go_cut [15] from 167 to 168 (fun vv wx => ∃ (A6 : Option Addr) (c6 : Nat), vv = .slice A6 l6.length c6 ∧ Hid (wx = wv ∧ PRow wv (.slice A6 l6.length c6) l6 ∧ ∀ k, (Value.slice A6 l6.length c6).ownBlock = some k → w.heap.size ≤ k))
                  case first =>
                    by_cases hc1 : c5 = 1
                    · have hl60 : l6 = [] := List.eq_nil_of_length_eq_zero (by omega)
                      subst hl60 hc1
                      go_wp2_with (fail)
                      go_meet
                      case rel => exact ⟨_, _, rfl, rfl, PRow.tail1 P6.out, fun k hk => HLO5.out k hk⟩
                    · have hcb : (c5 == 1) = false := by simpa using hc1
                      go_wp2_with (fail)
                      go_meet
                      case rel => exact ⟨_, _, rfl, rfl, PRow.tail P6.out, fun k hk => HLO5.out k hk⟩
                  case rest =>
                    obtain ⟨A6, c6, rfl, hcut⟩ := hcut
                    obtain ⟨hwx, hP6, hlo6⟩ := hcut.out
                    subst hwx
                    have PT6 := Lib.hid hP6
                    have HLO6 := Lib.hid hlo6
                    clear hcut hP6 hlo6 P6 HP5 HLO5
                    go_wp2_with (with_reducible refine wp_load_pkt (o := ⟨some 169, _, _, _, _, _⟩) rfl rfl rfl HPV.out ?_)
                    refine (may_calls _ p [] [] (fine_in _ HFP.out HSTEP.out.1)).mono ?_
                    rw [decide_eq_true HSTEP.out.1]
                    rintro e w7 ⟨rfl, hb7⟩
                    have t7 : Turn (fun _ => False) _ w7 := Turn.of_below hb7
                    have O7 := Lib.hid (O6.out.still t7)
                    have P7 := Lib.hid (PT6.out.still t7)
                    have WT7 := Lib.hid (WT6.out.still t7)
                    have HPV7 : Hid (PkAt w7 v p) := (t7.block v (heap_lt HPV.out) (fun h => h)).trans HPV.out
                    clear t7 hb7
                    go_wp2_with (with_reducible refine wp_load_pkt (o := ⟨some 174, _, _, _, _, _⟩) rfl rfl rfl HPV7.out ?_)
                    refine (answer_calls w7 p).mono ?_
                    rintro e w8 ⟨rfl, hb8⟩
                    have t8 : Turn (fun _ => False) w7 w8 := Turn.of_below hb8
                    have O8 := Lib.hid (O7.out.still t8)
                    have P8 := Lib.hid (P7.out.still t8)
                    have WT8 := Lib.hid (WT7.out.still t8)
                    clear t8 hb8
                    go_wp2_with (fail)
                    refine (own_take w w8 T5 s x O8.out (ansP p)).mono ?_
                    have HFT := Lib.hid (fine_take x (ansP p).ty (ansP p).id)
                    have HTW := Lib.hid (take_winU x (ansP p).ty (ansP p).id)
                    have HBT := Lib.hid (bare_take x (ansP p).ty (ansP p).id)
                    have hst := HSTEP.out
                    unfold Step at hst
                    clear HSTEP
                    generalize x.take (ansP p).ty (ansP p).id = r at *
                    obtain ⟨x9, ps9, cd⟩ := r
                    simp only at hst HFT HTW HBT
                    obtain ⟨_, rfl, hln9, hmu9, hwt9⟩ := hst
                    rintro e w9 ⟨A9, n9, c9, T9, rfl, hP9, hb9, hO9, hm9⟩
                    obtain rfl := hP9.len
                    simp only at hP9 hO9
                    have HLN9 := Lib.hid hln9
                    have HMU9 := Lib.hid hmu9
                    have HWT9 := Lib.hid hwt9
                    have O9 := Lib.hid hO9
                    have P9 := Lib.hid hP9
                    have PL9 := Lib.hid (O8.out.prow hm9 P8.out)
                    have WT9 := Lib.hid (WT8.out.move hm9)
                    have hb9' : Hid (l6.length + ps9.length ≤ 100000) := by have h1 := HBT.out.2; rw [Hid]; omega
                    clear hln9 hmu9 hwt9 hP9 hb9 hO9 hm9
                    go_wp2_with (at_builtin; refine wp_append_rows (o := ⟨some 183, _, _, _, _, _⟩) rfl (.tmp 181) (.tmp 182) rfl A6 A9 l6.length ps9.length c6 c9 l6 ps9 rfl PL9.out rfl P9.out hb9'.out ?_)
                    intro A10 c10 w10 P10 ht10 hl10
                    have O10 : Hid (Own w w10 T9 s x9) := O9.out.put ht10.out (fun k hk e => by
                      obtain ⟨cur, hc⟩ := PL9.out.1.typ k e
                      exact O9.out.other k hk cur hc) (fun k hk e => by have := HLO6.out k e; omega)
                    have WT10 : Hid (Want w w10 T9 (.slice AW M.length cW) M) := WT9.out.put ht10.out (fun k hk e => WT9.out.ne PL9.out k hk e)
                    have HLO10 : Hid (∀ k, (Value.slice A10 (l6.length + ps9.length) c10).ownBlock = some k → w.heap.size ≤ k) := fun k hk => by
                      rcases hl10.out k hk with h | h
                      · exact HLO6.out k h
                      · have := O9.out.bel.size; omega
                    have HR10 : Hid (Run w w10 s a0 M AW cW (n + 1) s0 (.slice A10 (l6 ++ ps9).length c10) (l6 ++ ps9)) := by
                      rw [show (l6 ++ ps9).length = l6.length + ps9.length from List.length_append]
                      refine ⟨T9, x9, O10.out, HTW.out.trans (HW2.out.trans HXW.out), HLN9.out, ?_, ?_, ?_, fun q hq => (List.mem_append.1 hq).elim (HF6.out q) (HFT.out q), P10.out, HLO10.out, WT10.out⟩
                      · have h1 := HMU.out; have h2 := HMU2.out; have h3 := HMU9.out; omega
                      · rw [HS2.out]; exact HSE2.out
                      · rw [HS2.out, HDR2.out]; exact HWT9.out.symm
                    have HML10 : Hid ((l6 ++ ps9).length = l6.length + ps9.length) := List.length_append
                    rw [← HML10.out]
                    clear P10 ht10 hl10
                    go_wp2_with (fail)
                    go_roundw
                    case rel => exact ⟨n + 1, s0, l6 ++ ps9, A10, c10, by omega, by go_num, rfl, rfl, HR10.out⟩
                    case measure => simp [intOf]; omega
end Snd
end Go.Proofs.YtonemmdipmohgaaDoor

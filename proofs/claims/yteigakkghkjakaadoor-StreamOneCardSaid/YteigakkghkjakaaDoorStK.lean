/- StreamOne: two streams that are fed the same bytes, parted unlike, tell the same. -/
import Derived.Test.YteigakkghkjakaaDoorStJ
namespace Go.Proofs.YteigakkghkjakaaDoor
open Go.RowKit Go.ChangeShapes
set_option linter.unusedVariables false
set_option linter.unusedSimpArgs false
namespace Str
open Utf (nums nums_length nums_bytes IsStr nums_str)
open Var (BT info_byte digs digs_length tell RetTell)
open Pk

theorem cuts_len {most : Int} {M : List Int} {Ls : List (List Int)} {cd : Int} {r : List Int} (h : (Ls, cd, r) = cuts most (M.length + 1) M) (hb : ∀ x ∈ M, 0 ≤ x ∧ x < 256) (hM : M.length ≤ 3000) {ps : List PkX} (ht : Told Ls ps) :
    ps.length ≤ 3000 ∧ (∀ x ∈ ps, (x.2.1.length : Int) ≤ 70000) ∧ (∀ x ∈ ps, (x.2.2.length : Int) ≤ 70000) ∧ (∀ L ∈ Ls, (∀ x ∈ L, 0 ≤ x ∧ x < 256) ∧ L.length ≤ 900000000) := by
  have hs := cuts_spec most (M.length + 1) M (by omega) hb
  rw [← h] at hs
  have hs : ((∀ L ∈ Ls, (L.length : Int) ≤ most ∧ L.length ≤ M.length) ∧ ((cd = 0 ∧ Ls.flatten ++ r = M) ∨ ((cd = 100 ∨ cd = 101) ∧ r = [] ∧ ∃ Y : List Int, 0 < Y.length ∧ Ls.flatten ++ Y = M))) := hs
  have hsub : ∃ Y, Ls.flatten ++ Y = M := by
    rcases hs.2 with ⟨_, h⟩ | ⟨_, _, Y, _, h⟩
    · exact ⟨_, h⟩
    · exact ⟨_, h⟩
  obtain ⟨Y, hY⟩ := hsub
  have hL : ∀ L ∈ Ls, (∀ x ∈ L, 0 ≤ x ∧ x < 256) ∧ L.length ≤ 900000000 := fun L hL => ⟨fun x hx => hb x (by rw [← hY]; exact List.mem_append_left _ (List.mem_flatten.2 ⟨L, hL, hx⟩)), by have := (hs.1 L hL).2; omega⟩
  have hpl := told_len ht
  have h2 : ∀ L ∈ Ls, 2 ≤ L.length := fun L hL => by
    obtain ⟨i, hi, rfl⟩ := List.getElem_of_mem hL
    exact (pkt_tell (told_get ht i (by rw [hpl]; exact hi) hi)).2.2
  have h3 := flat_two Ls h2
  have h4 := congrArg List.length hY
  rw [List.length_append] at h4
  have hx : ∀ x ∈ ps, x.2.1.length ≤ 3001 ∧ x.2.2.length ≤ 3000 := fun x hx => by
    obtain ⟨i, hi, rfl⟩ := List.getElem_of_mem hx
    have hi' : i < Ls.length := by rw [← hpl]; exact hi
    have hI := told_get ht i hi hi'
    obtain ⟨b1, b2, _⟩ := is_bounds hI (hL _ (List.getElem_mem hi')).1
    have := (hs.1 _ (List.getElem_mem hi')).2
    exact ⟨by omega, by omega⟩
  exact ⟨by omega, fun x h => by have := (hx x h).1; omega, fun x h => by have := (hx x h).2; omega, hL⟩

set_option maxRecDepth 100000 in
set_option maxHeartbeats 4000000 in
theorem one_walk (a0 : Int) (a1 : Option Addr) (len1 cap1 : Nat) (z1 : List Int) (a2 : Int) (w : World) (w0 : (Lit.int .i64 a0).wf = true) (w1 : IsRow .u8 w a1 len1 cap1 z1) (y1 : cap1 * 1 ≤ 140737488351232) (w2 : (Lit.int .i64 a2).wf = true) (hT : Lib.Utf8Tabs 0 1 w) :
    Calls Tryd.prog 12 #[.int .i64 a0, .slice a1 len1 cap1, .int .i64 a2] w fun e w' => e = .returned (.bool true) ∧ Below w.heap.size w w' := by
  obtain ⟨hl, hR, hMb, hcap⟩ := row_reads8 w1
  have hnil : a1 = none → cap1 = 0 := by
    intro h
    rcases w1 with ⟨_, _, rfl, _⟩ | ⟨x, rfl, _⟩
    · rfl
    · cases h
  obtain ⟨M, hM⟩ : ∃ M, M = z1.take len1 := ⟨_, rfl⟩
  rw [← hM] at hl hR hMb
  subst hl
  clear hM w1 w2 w0
  have h2w := tabs_lt hT
  have HT := Lib.hid hT
  have HR := Lib.hid hR
  have HMB := Lib.hid hMb
  have HNIL := Lib.hid hnil
  have hMlen : (M.length : Int) ≤ 140737488351232 := by omega
  clear hT hR hMb hnil
  by_cases hbig : (3000 : Int) < M.length
  · have hd := decide_eq_true hbig
    go_enter Tryd.func12, Tryd.ntmps12
    go_wp2_with (fail)
    go_ret
    exact ⟨rfl, Below.refl _ _⟩
  have hd := decide_eq_false hbig
  by_cases hneg : a2 < 0
  · have hd2 := decide_eq_true hneg
    go_enter Tryd.func12, Tryd.ntmps12
    go_wp2_with (fail)
    go_ret
    exact ⟨rfl, Below.refl _ _⟩
  have hd2 := decide_eq_false hneg
  by_cases hlong : (M.length : Int) < a2
  · have hd3 := decide_eq_true hlong
    go_enter Tryd.func12, Tryd.ntmps12
    go_wp2_with (fail)
    go_ret
    exact ⟨rfl, Below.refl _ _⟩
  have hd3 := decide_eq_false hlong
  obtain ⟨k, rfl⟩ : ∃ k : Nat, a2 = (k : Int) := ⟨a2.toNat, by omega⟩
  have hkM : k ≤ M.length := by omega
  have hM3 : (M.length : Int) ≤ 3000 := by omega
  have hM3n : Hid (M.length ≤ 3000) := by rw [Hid]; omega
  clear hbig hneg hlong
  have HN : Hid (∀ W : World, Calls Tryd.prog 25 #[.int .i64 a0] W fun e w' => NewPost W a0 e w') := fun W => new_calls W a0
  go_enter Tryd.func12, Tryd.ntmps12
  go_wp2_with (fail)
  refine (HN.out w).mono ?_
  rintro e w1 (⟨hm2, hmb, rfl, hb1, hs1⟩ | ⟨hno, rfl, rfl⟩)
  case inr =>
    go_wp2_with (fail)
    refine (HN.out _).mono ?_
    rintro e w2 (⟨hm2, hmb, _⟩ | ⟨_, rfl, rfl⟩)
    · exact absurd ⟨hm2, hmb⟩ hno
    go_wp2_with (fail)
    refine (awake_calls _ HT.out).mono ?_
    rintro e w2 ⟨rfl, hb2⟩
    have HB2 := Lib.hid hb2
    clear hb2
    go_wp2_with (fail)
    go_ret
    exact ⟨rfl, HB2.out⟩
  obtain ⟨s, hs⟩ : ∃ s, Hid (s = w.heap.size) := ⟨_, rfl⟩
  have HB1 := Lib.hid hb1
  have hs2 : 2 ≤ s := by rw [hs.out]; exact h2w
  rw [← hs.out] at hs1 ⊢
  have HS1 := Lib.hid hs1
  clear hb1 hs1
  go_wp2_with (fail)
  refine (HN.out w1).mono ?_
  rintro e w2 (⟨_, _, rfl, hb2, ht2⟩ | ⟨hno, _⟩)
  case inr => exact absurd ⟨hm2, hmb⟩ hno
  obtain ⟨t, htd⟩ : ∃ t, Hid (t = w1.heap.size) := ⟨_, rfl⟩
  have HB2 : Hid (Below w.heap.size w w2) := HB1.out.trans (hb2.mono HB1.out.size)
  have HS2 := Lib.hid (HS1.out.keep hb2)
  rw [← htd.out] at ht2 ⊢
  have HTT2 := Lib.hid ht2
  have hst : Hid (s < t) := by rw [htd.out]; exact HS1.out.lt
  have htw2 : Hid (t < w2.heap.size) := ht2.lt
  have htw : Hid (w.heap.size ≤ t) := by have := hst.out; have := hs.out; rw [Hid]; omega
  have ht2' : 2 ≤ t := by have := hst.out; omega
  clear hb2 ht2
  have HF1 := Lib.hid (feed_calls w2 (Utf.tabs_keep HT.out HB2.out) s _ _ a0 0 [] HS2.out hs2 hmb a1 M cap1 (HR.out.keep HB2.out) HNIL.out HMB.out (by have := hM3n.out; simp; omega))
  go_wp2_with (fail)
  refine HF1.out.mono ?_
  rintro e w3 (⟨h0, _⟩ | ⟨_, A3, n3, c3, ps3, rfl, tu3, hp3, hto3, hst3⟩)
  · exact absurd rfl h0
  rw [List.nil_append] at hto3 hst3 ⊢
  obtain ⟨⟨Ls, cd, r⟩, hcut⟩ : ∃ T, Hid (T = cuts a0 (M.length + 1) M) := ⟨_, rfl⟩
  rw [← hcut.out] at hto3 hst3 ⊢
  have HP3 := Lib.hid hp3
  have HTO3 : Hid (Told Ls ps3) := hto3
  have HS3 : Hid (StAt w3 s w2.heap.size w3.heap.size a0 cd r) := hst3
  have HB3 : Hid (Below w.heap.size w w3) := HB2.out.trans (tu3.toBelow HB2.out.size (fun k hk e => by have := hs.out; omega))
  have HTT3 := Lib.hid (HTT2.out.turn tu3 (fun e => by have := hst.out; omega) (fun k h1 h2 => by omega))
  have hz23 : Hid (w2.heap.size ≤ w3.heap.size) := tu3.size
  clear tu3 hp3 hto3 hst3
  have hkl : (M.take k).length = k := by simp; omega
  have hkcap : k ≤ cap1 := by omega
  have HF2 := feed_calls w3 (Utf.tabs_keep HT.out HB3.out) t _ _ a0 0 [] HTT3.out ht2' hmb a1 (M.take k) cap1 (reads_take k (HR.out.keep HB3.out)) HNIL.out (fun x hx => HMB.out x (List.mem_of_mem_take hx)) (by have := hM3n.out; simp; omega)
  rw [hkl] at HF2
  have HF2 := Lib.hid HF2
  go_wp2_with (fail)
  refine HF2.out.mono ?_
  rintro e w4 (⟨h0, _⟩ | ⟨_, A4, n4, c4, ps4, rfl, tu4, hp4, hto4, hst4⟩)
  · exact absurd rfl h0
  rw [List.nil_append] at hto4 hst4 ⊢
  obtain ⟨⟨Ls4, cd4, r4⟩, hcut4⟩ : ∃ T, Hid (T = cuts a0 ((M.take k).length + 1) (M.take k)) := ⟨_, rfl⟩
  rw [← hcut4.out] at hto4 hst4 ⊢
  have hn4 : n4 = ps4.length := own_len hp4.row
  subst hn4
  have HP4 := Lib.hid hp4
  have HTO4 : Hid (Told Ls4 ps4) := hto4
  have HTT4 : Hid (StAt w4 t w3.heap.size w4.heap.size a0 cd4 r4) := hst4
  have HB4 : Hid (Below w.heap.size w w4) := HB3.out.trans (tu4.toBelow HB3.out.size (fun k hk e => by have := htw.out; omega))
  have T34 : Hid (Turn (fun j => j = t ∨ w3.heap.size ≤ j) w3 w4) := tu4.mono (fun j _ e => .inl e)
  have hz34 : Hid (w3.heap.size ≤ w4.heap.size) := tu4.size
  have hl4 : Hid (r4.length ≤ 3000) := by
    have h := cuts_spec a0 ((M.take k).length + 1) (M.take k) (by omega) (fun x hx => HMB.out x (List.mem_of_mem_take hx))
    rw [← hcut4.out] at h
    have := hM3n.out
    rcases h.2 with ⟨_, h⟩ | ⟨_, h, _⟩
    · have h := congrArg List.length h
      rw [List.length_append, hkl] at h
      have h' : Ls4.flatten.length + r4.length = k := h
      rw [Hid]; omega
    · have h' : r4 = [] := h
      rw [h', Hid]; simp
  clear tu4 hp4 hto4 hst4
  have hr4k : Hid (r4.length ≤ k) := by
    have h := cuts_spec a0 ((M.take k).length + 1) (M.take k) (by omega) (fun x hx => HMB.out x (List.mem_of_mem_take hx))
    rw [← hcut4.out] at h
    rcases h.2 with ⟨_, h⟩ | ⟨_, h, _⟩
    · have h := congrArg List.length h
      rw [List.length_append, hkl] at h
      have h' : Ls4.flatten.length + r4.length = k := h
      rw [Hid]; omega
    · have h' : r4 = [] := h
      rw [h', Hid]; simp
  have hr4b : Hid (∀ x ∈ r4, 0 ≤ x ∧ x < 256) := by obtain ⟨_, _, _, _, _, _, _, _, h7⟩ := HTT4.out; exact h7
  have hdb : Hid (∀ x ∈ M.drop k, 0 ≤ x ∧ x < 256) := fun x hx => HMB.out x (List.mem_of_mem_drop hx)
  have HFU : Hid (cuts a0 (M.length + 1) (r4 ++ M.drop k) = cuts a0 ((r4 ++ M.drop k).length + 1) (r4 ++ M.drop k)) := by
    refine cuts_fuel a0 _ _ _ ?_ (by omega) (fun x hx => ?_)
    · have := hr4k.out; rw [List.length_append, List.length_drop]; omega
    · rcases List.mem_append.1 hx with h | h
      · exact hr4b.out x h
      · exact hdb.out x h
  have HPART0 := cuts_part a0 ((M.take k).length + 1) (M.length + 1) (M.length + 1) (M.take k) (M.drop k) (by omega) (by rw [List.take_append_drop]; omega) (by rw [List.take_append_drop]; omega) (fun x hx => HMB.out x (List.mem_of_mem_take hx)) hdb.out
  rw [List.take_append_drop, ← hcut4.out, ← hcut.out] at HPART0
  have HPART : Hid ((cd4 = 0 → (Ls, cd, r) = (Ls4 ++ (cuts a0 (M.length + 1) (r4 ++ M.drop k)).1, (cuts a0 (M.length + 1) (r4 ++ M.drop k)).2)) ∧ (cd4 ≠ 0 → (Ls, cd, r) = (Ls4, cd4, r4))) := HPART0
  rw [HFU.out] at HPART
  have hdl : (M.drop k).length = M.length - k := List.length_drop
  have HLEN3 := Lib.hid (cuts_len hcut.out HMB.out hM3n.out HTO3.out)
  have hp4l : Hid (ps4.length ≤ 3000) := (cuts_len hcut4.out (fun x hx => HMB.out x (List.mem_of_mem_take hx)) (by have := hM3n.out; omega) HTO4.out).1
  have HLEN4 := Lib.hid (cuts_len hcut4.out (fun x hx => HMB.out x (List.mem_of_mem_take hx)) (by have := hM3n.out; omega) HTO4.out).2.2.2
  clear HPART0 HF1 HFU HN HS1 HS2 HTT2 HTT3 HB1
  by_cases hck : cap1 = k
  · have hMk : M.length = k := by omega
    have HF30 := feed_calls w4 (Utf.tabs_keep HT.out HB4.out) t _ _ a0 cd4 r4 HTT4.out ht2' hmb a1 (M.drop k) 0 (fun h0 => absurd h0 (by omega)) (fun _ => rfl) hdb.out (by have := hM3n.out; have := hl4.out; omega)
    rw [show (M.drop k).length = 0 by omega] at HF30
    have HF3 := Lib.hid HF30
    clear HF30 hdl
    subst hck
    go_wp2_with (fail)
    refine HF3.out.mono ?_
    rintro e w5 (⟨hne, rfl, tu5⟩ | ⟨h0, A5, n5, c5, ps5, rfl, tu5, hp5, hto5, hst5⟩)
    · have e5 := HPART.out.2 hne
      injection e5 with e1 e5
      injection e5 with e2 e3
      subst e1 e2 e3
      have HNEC : Hid (cd ≠ 0) := hne
      obtain ⟨A5, n5, c5, ps5, hA5, hn5, hc5, hps5⟩ : ∃ (A5 : Option Addr) (n5 c5 : Nat) (ps5 : List PkX), A5 = none ∧ n5 = 0 ∧ c5 = 0 ∧ ps5 = [] := ⟨none, 0, 0, [], rfl, rfl, rfl, rfl⟩
      have HU5 : Hid (Turn (fun j => j = t) w4 w5) := tu5.mono (fun j _ h => False.elim h)
      have HP5 : Hid (PkRow w5 w3.heap.size (.slice A5 n5 c5) ps5) := by rw [hA5, hn5, hc5, hps5]; exact PkRow.nil _ _
      have HALL : Hid (Told Ls (ps4 ++ ps5)) := by rw [hps5, List.append_nil]; exact HTO4.out
      have HTT5 : Hid (StAt w5 t w3.heap.size w4.heap.size a0 cd r) := HTT4.out.turn tu5 (fun h => h) (fun _ _ _ h => h)
      have hEE : Hid (w4.heap.size ≤ w5.heap.size) := tu5.size
      rw [show (Value.slice none 0 0) = Value.slice A5 n5 c5 by rw [hA5, hn5, hc5]]
      clear hne tu5 hA5 hn5 hc5 hps5
      have HBw5 : Hid (Below w.heap.size w w5) := HB4.out.trans (HU5.out.toBelow HB4.out.size (fun k hk e => by have := htw.out; omega))
      have hz35 : Hid (w3.heap.size ≤ w5.heap.size) := by have h1 := hz34.out; have h2 := HU5.out.size; rw [Hid]; omega
      have HP4at5 : Hid (PkRow w5 w3.heap.size (.slice A4 ps4.length c4) ps4) := HP4.out.turn HU5.out (fun k hk _ e => by have := htw2.out; have := hz23.out; omega)
      have hp5l : Hid (ps5.length ≤ 3000) := by have h1 := told_len HALL.out; have h2 := told_len HTO3.out; have h3 := HLEN3.out.1; rw [List.length_append] at h1; rw [Hid]; omega
      go_wp2_with (at_builtin; go_must (refine wp_append_pkts (W := w5.alloc (.cells #[] PT)) w3.heap.size rfl _ _ rfl _ [] ps4 A4 ps4.length c4 rfl rfl (PkRow.lit w5 _ hz35.out) w5.heap.size (PkRow.lit w5 w5.heap.size (Nat.le_refl _)).row hz35.out (HP4at5.out.keep ((Below.refl _ _).alloc (Nat.le_refl _) _)) (by simp) (by have := hp4l.out; simp; omega) ?_))
      intro A6 n6 c6 w6 hp6 hr6 tu6
      have HP6 : Hid (PkRow w6 w3.heap.size (.slice A6 n6 c6) ps4) := by first | exact hp6 | (rw [List.nil_append] at hp6; exact hp6)
      have HR6 : Hid (w6.ownsRow w5.heap.size PT 18 (.slice A6 n6 c6) ps4.length (pkCells ps4)) := by first | exact hr6 | (rw [List.nil_append] at hr6; exact hr6)
      have T56 : Hid (Turn (fun j => w5.heap.size ≤ j) w5 w6) := (Turn.alloc w5 _).trans (tu6.mono (fun j _ e => by cases e; exact Nat.le_refl _))
      have HP5at6 : Hid (PkRow w6 w3.heap.size (.slice A5 n5 c5) ps5) := HP5.out.turn T56.out (fun k _ hk e => by omega)
      clear hp6 hr6 tu6
      go_wp2_with (at_builtin; go_must (refine wp_append_pkts (W := w6) w3.heap.size rfl _ _ rfl (.slice A6 n6 c6) ps4 ps5 A5 n5 c5 rfl rfl HP6.out w5.heap.size HR6.out hz35.out HP5at6.out T56.out.size (by have := hp4l.out; have := hp5l.out; omega) ?_))
      intro A7 n7 c7 w7 hp7 hr7 tu7
      have T57 : Hid (Turn (fun j => w5.heap.size ≤ j) w5 w7) := T56.out.trans (tu7.mono (fun j _ e => (own_block_ge HR6.out j e).1))
      have HP7 := Lib.hid hp7
      clear hp7 hr7 tu7
      have HBw7 : Hid (Below w.heap.size w w7) := HBw5.out.trans (T57.out.toBelow HBw5.out.size (fun k hk e => by have := HBw5.out.size; omega))
      have T37 : Hid (Turn (fun j => j = t ∨ w3.heap.size ≤ j) w3 w7) := (T34.out.trans (HU5.out.mono (fun j _ e => .inl e))).trans (T57.out.mono (fun j _ e => .inr (by have := hz35.out; omega)))
      have HX7 : Hid (PkRow w7 w2.heap.size (.slice A3 n3 c3) ps3) := HP3.out.turn T37.out (fun k hk hlt e => by have := htw2.out; rcases e with e | e <;> omega)
      have HS7 : Hid (StAt w7 s w2.heap.size w3.heap.size a0 cd r) := HS3.out.turn T37.out (fun e => by have := hst.out; have := htw2.out; have := hz23.out; rcases e with e | e <;> omega) (fun k hk hlt e => by have := htw2.out; rcases e with e | e <;> omega)
      have HTT7 : Hid (StAt w7 t w3.heap.size w4.heap.size a0 cd r) := HTT5.out.turn T57.out (fun e => by have := htw2.out; have := hz23.out; have := hz35.out; omega) (fun k _ hk e => by have := hEE.out; omega)
      go_wp2_with (fail)
      refine (awake_calls w7 (Utf.tabs_keep HT.out HBw7.out)).mono ?_
      rintro e w8 ⟨rfl, hb8⟩
      have HB8 : Hid (Below w.heap.size w w8) := HBw7.out.trans (hb8.mono HBw7.out.size)
      have HX8 := Lib.hid (HX7.out.keep hb8)
      have HP8 := Lib.hid (HP7.out.keep hb8)
      have HS8 := Lib.hid (HS7.out.keep hb8)
      have HTT8 := Lib.hid (HTT7.out.keep hb8)
      obtain ⟨hrx, hnx, hcx⟩ := HX8.out.reads HTO3.out HLEN3.out.2.2.2
      obtain ⟨hry, hny, hcy⟩ := HP8.out.reads HALL.out HLEN3.out.2.2.2
      obtain ⟨hsl1, hsl2⟩ := told_same HTO3.out HALL.out
      have HRC := Lib.hid (rows_calls w8 A3 A7 c3 c7 n3 n7 ps3 (ps4 ++ ps5) hnx hny hrx hry hcx hcy (by have := HLEN3.out.1; omega) ⟨hsl1, hsl2, HLEN3.out.2.1, HLEN3.out.2.2.1⟩)
      clear hb8 hrx hry hnx hcx hny hcy hsl1 hsl2
      have hne0 : (cd == 0) = false := beq_eq_false_iff_ne.2 HNEC.out
      go_wp2_with (fail)
      refine HRC.out.mono ?_
      rintro e w9 ⟨rfl, hb9⟩
      have HB9 := Lib.hid (HB8.out.trans (hb9.mono HB8.out.size))
      have HS9 := Lib.hid (HS8.out.keep hb9)
      have HTT9 := Lib.hid (HTT8.out.keep hb9)
      clear hb9
      go_wp2_with (fail)
      refine (left_calls w9 s _ _ _ _ _ HS9.out).mono ?_
      rintro e w' ⟨rfl, rfl⟩
      go_wp2_with (fail)
      refine (left_calls w9 t _ _ _ _ _ HTT9.out).mono ?_
      rintro e w' ⟨rfl, rfl⟩
      go_wp2_with (fail)
      go_ret
      exact ⟨by first | rfl | simp, HB9.out⟩
    · subst h0
      have e5 := HPART.out.1 rfl
      obtain ⟨⟨Ls5, cd5, r5⟩, hcut5⟩ : ∃ T, Hid (T = cuts a0 ((r4 ++ M.drop cap1).length + 1) (r4 ++ M.drop cap1)) := ⟨_, rfl⟩
      rw [← hcut5.out] at e5 hto5 hst5 ⊢
      injection e5 with e1 e5
      injection e5 with e2 e3
      have e1' : Ls = Ls4 ++ Ls5 := e1
      subst e1' e2 e3
      have HU5 : Hid (Turn (fun j => j = t) w4 w5) := tu5
      have HP5 : Hid (PkRow w5 w3.heap.size (.slice A5 n5 c5) ps5) := hp5.low hz34.out
      have HALL : Hid (Told (Ls4 ++ Ls5) (ps4 ++ ps5)) := told_append HTO4.out hto5
      have HTT5 : Hid (StAt w5 t w4.heap.size w5.heap.size a0 cd r) := hst5
      have hEE : Hid (w5.heap.size ≤ w5.heap.size) := Nat.le_refl _
      clear tu5 hp5 hto5 hst5 e1
      have HBw5 : Hid (Below w.heap.size w w5) := HB4.out.trans (HU5.out.toBelow HB4.out.size (fun k hk e => by have := htw.out; omega))
      have hz35 : Hid (w3.heap.size ≤ w5.heap.size) := by have h1 := hz34.out; have h2 := HU5.out.size; rw [Hid]; omega
      have HP4at5 : Hid (PkRow w5 w3.heap.size (.slice A4 ps4.length c4) ps4) := HP4.out.turn HU5.out (fun k hk _ e => by have := htw2.out; have := hz23.out; omega)
      have hp5l : Hid (ps5.length ≤ 3000) := by have h1 := told_len HALL.out; have h2 := told_len HTO3.out; have h3 := HLEN3.out.1; rw [List.length_append] at h1; rw [Hid]; omega
      go_wp2_with (at_builtin; go_must (refine wp_append_pkts (W := w5.alloc (.cells #[] PT)) w3.heap.size rfl _ _ rfl _ [] ps4 A4 ps4.length c4 rfl rfl (PkRow.lit w5 _ hz35.out) w5.heap.size (PkRow.lit w5 w5.heap.size (Nat.le_refl _)).row hz35.out (HP4at5.out.keep ((Below.refl _ _).alloc (Nat.le_refl _) _)) (by simp) (by have := hp4l.out; simp; omega) ?_))
      intro A6 n6 c6 w6 hp6 hr6 tu6
      have HP6 : Hid (PkRow w6 w3.heap.size (.slice A6 n6 c6) ps4) := by first | exact hp6 | (rw [List.nil_append] at hp6; exact hp6)
      have HR6 : Hid (w6.ownsRow w5.heap.size PT 18 (.slice A6 n6 c6) ps4.length (pkCells ps4)) := by first | exact hr6 | (rw [List.nil_append] at hr6; exact hr6)
      have T56 : Hid (Turn (fun j => w5.heap.size ≤ j) w5 w6) := (Turn.alloc w5 _).trans (tu6.mono (fun j _ e => by cases e; exact Nat.le_refl _))
      have HP5at6 : Hid (PkRow w6 w3.heap.size (.slice A5 n5 c5) ps5) := HP5.out.turn T56.out (fun k _ hk e => by omega)
      clear hp6 hr6 tu6
      go_wp2_with (at_builtin; go_must (refine wp_append_pkts (W := w6) w3.heap.size rfl _ _ rfl (.slice A6 n6 c6) ps4 ps5 A5 n5 c5 rfl rfl HP6.out w5.heap.size HR6.out hz35.out HP5at6.out T56.out.size (by have := hp4l.out; have := hp5l.out; omega) ?_))
      intro A7 n7 c7 w7 hp7 hr7 tu7
      have T57 : Hid (Turn (fun j => w5.heap.size ≤ j) w5 w7) := T56.out.trans (tu7.mono (fun j _ e => (own_block_ge HR6.out j e).1))
      have HP7 := Lib.hid hp7
      clear hp7 hr7 tu7
      have HBw7 : Hid (Below w.heap.size w w7) := HBw5.out.trans (T57.out.toBelow HBw5.out.size (fun k hk e => by have := HBw5.out.size; omega))
      have T37 : Hid (Turn (fun j => j = t ∨ w3.heap.size ≤ j) w3 w7) := (T34.out.trans (HU5.out.mono (fun j _ e => .inl e))).trans (T57.out.mono (fun j _ e => .inr (by have := hz35.out; omega)))
      have HX7 : Hid (PkRow w7 w2.heap.size (.slice A3 n3 c3) ps3) := HP3.out.turn T37.out (fun k hk hlt e => by have := htw2.out; rcases e with e | e <;> omega)
      have HS7 : Hid (StAt w7 s w2.heap.size w3.heap.size a0 cd r) := HS3.out.turn T37.out (fun e => by have := hst.out; have := htw2.out; have := hz23.out; rcases e with e | e <;> omega) (fun k hk hlt e => by have := htw2.out; rcases e with e | e <;> omega)
      have HTT7 : Hid (StAt w7 t w4.heap.size w5.heap.size a0 cd r) := HTT5.out.turn T57.out (fun e => by have := htw2.out; have := hz23.out; have := hz35.out; omega) (fun k _ hk e => by have := hEE.out; omega)
      go_wp2_with (fail)
      refine (awake_calls w7 (Utf.tabs_keep HT.out HBw7.out)).mono ?_
      rintro e w8 ⟨rfl, hb8⟩
      have HB8 : Hid (Below w.heap.size w w8) := HBw7.out.trans (hb8.mono HBw7.out.size)
      have HX8 := Lib.hid (HX7.out.keep hb8)
      have HP8 := Lib.hid (HP7.out.keep hb8)
      have HS8 := Lib.hid (HS7.out.keep hb8)
      have HTT8 := Lib.hid (HTT7.out.keep hb8)
      obtain ⟨hrx, hnx, hcx⟩ := HX8.out.reads HTO3.out HLEN3.out.2.2.2
      obtain ⟨hry, hny, hcy⟩ := HP8.out.reads HALL.out HLEN3.out.2.2.2
      obtain ⟨hsl1, hsl2⟩ := told_same HTO3.out HALL.out
      have HRC := Lib.hid (rows_calls w8 A3 A7 c3 c7 n3 n7 ps3 (ps4 ++ ps5) hnx hny hrx hry hcx hcy (by have := HLEN3.out.1; omega) ⟨hsl1, hsl2, HLEN3.out.2.1, HLEN3.out.2.2.1⟩)
      clear hb8 hrx hry hnx hcx hny hcy hsl1 hsl2
      go_wp2_with (fail)
      refine HRC.out.mono ?_
      rintro e w9 ⟨rfl, hb9⟩
      have HB9 := Lib.hid (HB8.out.trans (hb9.mono HB8.out.size))
      have HS9 := Lib.hid (HS8.out.keep hb9)
      have HTT9 := Lib.hid (HTT8.out.keep hb9)
      clear hb9
      go_wp2_with (fail)
      refine (left_calls w9 s _ _ _ _ _ HS9.out).mono ?_
      rintro e w' ⟨rfl, rfl⟩
      go_wp2_with (fail)
      refine (left_calls w9 t _ _ _ _ _ HTT9.out).mono ?_
      rintro e w' ⟨rfl, rfl⟩
      go_wp2_with (fail)
      go_ret
      exact ⟨by first | rfl | simp, HB9.out⟩
  · have hx1 : ∃ x, a1 = some x := by
      cases a1 with
      | none => exact absurd (HNIL.out rfl) (by omega)
      | some x => exact ⟨x, rfl⟩
    obtain ⟨x, rfl⟩ := hx1
    have HF30 := feed_calls w4 (Utf.tabs_keep HT.out HB4.out) t _ _ a0 cd4 r4 HTT4.out ht2' hmb (some (x.add k)) (M.drop k) (cap1 - k) (reads_drop k (HR.out.keep HB4.out)) (fun h => by cases h) hdb.out (by have := hM3n.out; have := hl4.out; omega)
    rw [hdl] at HF30
    have HF3 := Lib.hid HF30
    clear HF30 hdl
    go_wp2_with (fail)
    refine HF3.out.mono ?_
    rintro e w5 (⟨hne, rfl, tu5⟩ | ⟨h0, A5, n5, c5, ps5, rfl, tu5, hp5, hto5, hst5⟩)
    · have e5 := HPART.out.2 hne
      injection e5 with e1 e5
      injection e5 with e2 e3
      subst e1 e2 e3
      have HNEC : Hid (cd ≠ 0) := hne
      obtain ⟨A5, n5, c5, ps5, hA5, hn5, hc5, hps5⟩ : ∃ (A5 : Option Addr) (n5 c5 : Nat) (ps5 : List PkX), A5 = none ∧ n5 = 0 ∧ c5 = 0 ∧ ps5 = [] := ⟨none, 0, 0, [], rfl, rfl, rfl, rfl⟩
      have HU5 : Hid (Turn (fun j => j = t) w4 w5) := tu5.mono (fun j _ h => False.elim h)
      have HP5 : Hid (PkRow w5 w3.heap.size (.slice A5 n5 c5) ps5) := by rw [hA5, hn5, hc5, hps5]; exact PkRow.nil _ _
      have HALL : Hid (Told Ls (ps4 ++ ps5)) := by rw [hps5, List.append_nil]; exact HTO4.out
      have HTT5 : Hid (StAt w5 t w3.heap.size w4.heap.size a0 cd r) := HTT4.out.turn tu5 (fun h => h) (fun _ _ _ h => h)
      have hEE : Hid (w4.heap.size ≤ w5.heap.size) := tu5.size
      rw [show (Value.slice none 0 0) = Value.slice A5 n5 c5 by rw [hA5, hn5, hc5]]
      clear hne tu5 hA5 hn5 hc5 hps5
      have HBw5 : Hid (Below w.heap.size w w5) := HB4.out.trans (HU5.out.toBelow HB4.out.size (fun k hk e => by have := htw.out; omega))
      have hz35 : Hid (w3.heap.size ≤ w5.heap.size) := by have h1 := hz34.out; have h2 := HU5.out.size; rw [Hid]; omega
      have HP4at5 : Hid (PkRow w5 w3.heap.size (.slice A4 ps4.length c4) ps4) := HP4.out.turn HU5.out (fun k hk _ e => by have := htw2.out; have := hz23.out; omega)
      have hp5l : Hid (ps5.length ≤ 3000) := by have h1 := told_len HALL.out; have h2 := told_len HTO3.out; have h3 := HLEN3.out.1; rw [List.length_append] at h1; rw [Hid]; omega
      go_wp2_with (at_builtin; go_must (refine wp_append_pkts (W := w5.alloc (.cells #[] PT)) w3.heap.size rfl _ _ rfl _ [] ps4 A4 ps4.length c4 rfl rfl (PkRow.lit w5 _ hz35.out) w5.heap.size (PkRow.lit w5 w5.heap.size (Nat.le_refl _)).row hz35.out (HP4at5.out.keep ((Below.refl _ _).alloc (Nat.le_refl _) _)) (by simp) (by have := hp4l.out; simp; omega) ?_))
      intro A6 n6 c6 w6 hp6 hr6 tu6
      have HP6 : Hid (PkRow w6 w3.heap.size (.slice A6 n6 c6) ps4) := by first | exact hp6 | (rw [List.nil_append] at hp6; exact hp6)
      have HR6 : Hid (w6.ownsRow w5.heap.size PT 18 (.slice A6 n6 c6) ps4.length (pkCells ps4)) := by first | exact hr6 | (rw [List.nil_append] at hr6; exact hr6)
      have T56 : Hid (Turn (fun j => w5.heap.size ≤ j) w5 w6) := (Turn.alloc w5 _).trans (tu6.mono (fun j _ e => by cases e; exact Nat.le_refl _))
      have HP5at6 : Hid (PkRow w6 w3.heap.size (.slice A5 n5 c5) ps5) := HP5.out.turn T56.out (fun k _ hk e => by omega)
      clear hp6 hr6 tu6
      go_wp2_with (at_builtin; go_must (refine wp_append_pkts (W := w6) w3.heap.size rfl _ _ rfl (.slice A6 n6 c6) ps4 ps5 A5 n5 c5 rfl rfl HP6.out w5.heap.size HR6.out hz35.out HP5at6.out T56.out.size (by have := hp4l.out; have := hp5l.out; omega) ?_))
      intro A7 n7 c7 w7 hp7 hr7 tu7
      have T57 : Hid (Turn (fun j => w5.heap.size ≤ j) w5 w7) := T56.out.trans (tu7.mono (fun j _ e => (own_block_ge HR6.out j e).1))
      have HP7 := Lib.hid hp7
      clear hp7 hr7 tu7
      have HBw7 : Hid (Below w.heap.size w w7) := HBw5.out.trans (T57.out.toBelow HBw5.out.size (fun k hk e => by have := HBw5.out.size; omega))
      have T37 : Hid (Turn (fun j => j = t ∨ w3.heap.size ≤ j) w3 w7) := (T34.out.trans (HU5.out.mono (fun j _ e => .inl e))).trans (T57.out.mono (fun j _ e => .inr (by have := hz35.out; omega)))
      have HX7 : Hid (PkRow w7 w2.heap.size (.slice A3 n3 c3) ps3) := HP3.out.turn T37.out (fun k hk hlt e => by have := htw2.out; rcases e with e | e <;> omega)
      have HS7 : Hid (StAt w7 s w2.heap.size w3.heap.size a0 cd r) := HS3.out.turn T37.out (fun e => by have := hst.out; have := htw2.out; have := hz23.out; rcases e with e | e <;> omega) (fun k hk hlt e => by have := htw2.out; rcases e with e | e <;> omega)
      have HTT7 : Hid (StAt w7 t w3.heap.size w4.heap.size a0 cd r) := HTT5.out.turn T57.out (fun e => by have := htw2.out; have := hz23.out; have := hz35.out; omega) (fun k _ hk e => by have := hEE.out; omega)
      go_wp2_with (fail)
      refine (awake_calls w7 (Utf.tabs_keep HT.out HBw7.out)).mono ?_
      rintro e w8 ⟨rfl, hb8⟩
      have HB8 : Hid (Below w.heap.size w w8) := HBw7.out.trans (hb8.mono HBw7.out.size)
      have HX8 := Lib.hid (HX7.out.keep hb8)
      have HP8 := Lib.hid (HP7.out.keep hb8)
      have HS8 := Lib.hid (HS7.out.keep hb8)
      have HTT8 := Lib.hid (HTT7.out.keep hb8)
      obtain ⟨hrx, hnx, hcx⟩ := HX8.out.reads HTO3.out HLEN3.out.2.2.2
      obtain ⟨hry, hny, hcy⟩ := HP8.out.reads HALL.out HLEN3.out.2.2.2
      obtain ⟨hsl1, hsl2⟩ := told_same HTO3.out HALL.out
      have HRC := Lib.hid (rows_calls w8 A3 A7 c3 c7 n3 n7 ps3 (ps4 ++ ps5) hnx hny hrx hry hcx hcy (by have := HLEN3.out.1; omega) ⟨hsl1, hsl2, HLEN3.out.2.1, HLEN3.out.2.2.1⟩)
      clear hb8 hrx hry hnx hcx hny hcy hsl1 hsl2
      have hne0 : (cd == 0) = false := beq_eq_false_iff_ne.2 HNEC.out
      go_wp2_with (fail)
      refine HRC.out.mono ?_
      rintro e w9 ⟨rfl, hb9⟩
      have HB9 := Lib.hid (HB8.out.trans (hb9.mono HB8.out.size))
      have HS9 := Lib.hid (HS8.out.keep hb9)
      have HTT9 := Lib.hid (HTT8.out.keep hb9)
      clear hb9
      go_wp2_with (fail)
      refine (left_calls w9 s _ _ _ _ _ HS9.out).mono ?_
      rintro e w' ⟨rfl, rfl⟩
      go_wp2_with (fail)
      refine (left_calls w9 t _ _ _ _ _ HTT9.out).mono ?_
      rintro e w' ⟨rfl, rfl⟩
      go_wp2_with (fail)
      go_ret
      exact ⟨by first | rfl | simp, HB9.out⟩
    · subst h0
      have e5 := HPART.out.1 rfl
      obtain ⟨⟨Ls5, cd5, r5⟩, hcut5⟩ : ∃ T, Hid (T = cuts a0 ((r4 ++ M.drop k).length + 1) (r4 ++ M.drop k)) := ⟨_, rfl⟩
      rw [← hcut5.out] at e5 hto5 hst5 ⊢
      injection e5 with e1 e5
      injection e5 with e2 e3
      have e1' : Ls = Ls4 ++ Ls5 := e1
      subst e1' e2 e3
      have HU5 : Hid (Turn (fun j => j = t) w4 w5) := tu5
      have HP5 : Hid (PkRow w5 w3.heap.size (.slice A5 n5 c5) ps5) := hp5.low hz34.out
      have HALL : Hid (Told (Ls4 ++ Ls5) (ps4 ++ ps5)) := told_append HTO4.out hto5
      have HTT5 : Hid (StAt w5 t w4.heap.size w5.heap.size a0 cd r) := hst5
      have hEE : Hid (w5.heap.size ≤ w5.heap.size) := Nat.le_refl _
      clear tu5 hp5 hto5 hst5 e1
      have HBw5 : Hid (Below w.heap.size w w5) := HB4.out.trans (HU5.out.toBelow HB4.out.size (fun k hk e => by have := htw.out; omega))
      have hz35 : Hid (w3.heap.size ≤ w5.heap.size) := by have h1 := hz34.out; have h2 := HU5.out.size; rw [Hid]; omega
      have HP4at5 : Hid (PkRow w5 w3.heap.size (.slice A4 ps4.length c4) ps4) := HP4.out.turn HU5.out (fun k hk _ e => by have := htw2.out; have := hz23.out; omega)
      have hp5l : Hid (ps5.length ≤ 3000) := by have h1 := told_len HALL.out; have h2 := told_len HTO3.out; have h3 := HLEN3.out.1; rw [List.length_append] at h1; rw [Hid]; omega
      go_wp2_with (at_builtin; go_must (refine wp_append_pkts (W := w5.alloc (.cells #[] PT)) w3.heap.size rfl _ _ rfl _ [] ps4 A4 ps4.length c4 rfl rfl (PkRow.lit w5 _ hz35.out) w5.heap.size (PkRow.lit w5 w5.heap.size (Nat.le_refl _)).row hz35.out (HP4at5.out.keep ((Below.refl _ _).alloc (Nat.le_refl _) _)) (by simp) (by have := hp4l.out; simp; omega) ?_))
      intro A6 n6 c6 w6 hp6 hr6 tu6
      have HP6 : Hid (PkRow w6 w3.heap.size (.slice A6 n6 c6) ps4) := by first | exact hp6 | (rw [List.nil_append] at hp6; exact hp6)
      have HR6 : Hid (w6.ownsRow w5.heap.size PT 18 (.slice A6 n6 c6) ps4.length (pkCells ps4)) := by first | exact hr6 | (rw [List.nil_append] at hr6; exact hr6)
      have T56 : Hid (Turn (fun j => w5.heap.size ≤ j) w5 w6) := (Turn.alloc w5 _).trans (tu6.mono (fun j _ e => by cases e; exact Nat.le_refl _))
      have HP5at6 : Hid (PkRow w6 w3.heap.size (.slice A5 n5 c5) ps5) := HP5.out.turn T56.out (fun k _ hk e => by omega)
      clear hp6 hr6 tu6
      go_wp2_with (at_builtin; go_must (refine wp_append_pkts (W := w6) w3.heap.size rfl _ _ rfl (.slice A6 n6 c6) ps4 ps5 A5 n5 c5 rfl rfl HP6.out w5.heap.size HR6.out hz35.out HP5at6.out T56.out.size (by have := hp4l.out; have := hp5l.out; omega) ?_))
      intro A7 n7 c7 w7 hp7 hr7 tu7
      have T57 : Hid (Turn (fun j => w5.heap.size ≤ j) w5 w7) := T56.out.trans (tu7.mono (fun j _ e => (own_block_ge HR6.out j e).1))
      have HP7 := Lib.hid hp7
      clear hp7 hr7 tu7
      have HBw7 : Hid (Below w.heap.size w w7) := HBw5.out.trans (T57.out.toBelow HBw5.out.size (fun k hk e => by have := HBw5.out.size; omega))
      have T37 : Hid (Turn (fun j => j = t ∨ w3.heap.size ≤ j) w3 w7) := (T34.out.trans (HU5.out.mono (fun j _ e => .inl e))).trans (T57.out.mono (fun j _ e => .inr (by have := hz35.out; omega)))
      have HX7 : Hid (PkRow w7 w2.heap.size (.slice A3 n3 c3) ps3) := HP3.out.turn T37.out (fun k hk hlt e => by have := htw2.out; rcases e with e | e <;> omega)
      have HS7 : Hid (StAt w7 s w2.heap.size w3.heap.size a0 cd r) := HS3.out.turn T37.out (fun e => by have := hst.out; have := htw2.out; have := hz23.out; rcases e with e | e <;> omega) (fun k hk hlt e => by have := htw2.out; rcases e with e | e <;> omega)
      have HTT7 : Hid (StAt w7 t w4.heap.size w5.heap.size a0 cd r) := HTT5.out.turn T57.out (fun e => by have := htw2.out; have := hz23.out; have := hz35.out; omega) (fun k _ hk e => by have := hEE.out; omega)
      go_wp2_with (fail)
      refine (awake_calls w7 (Utf.tabs_keep HT.out HBw7.out)).mono ?_
      rintro e w8 ⟨rfl, hb8⟩
      have HB8 : Hid (Below w.heap.size w w8) := HBw7.out.trans (hb8.mono HBw7.out.size)
      have HX8 := Lib.hid (HX7.out.keep hb8)
      have HP8 := Lib.hid (HP7.out.keep hb8)
      have HS8 := Lib.hid (HS7.out.keep hb8)
      have HTT8 := Lib.hid (HTT7.out.keep hb8)
      obtain ⟨hrx, hnx, hcx⟩ := HX8.out.reads HTO3.out HLEN3.out.2.2.2
      obtain ⟨hry, hny, hcy⟩ := HP8.out.reads HALL.out HLEN3.out.2.2.2
      obtain ⟨hsl1, hsl2⟩ := told_same HTO3.out HALL.out
      have HRC := Lib.hid (rows_calls w8 A3 A7 c3 c7 n3 n7 ps3 (ps4 ++ ps5) hnx hny hrx hry hcx hcy (by have := HLEN3.out.1; omega) ⟨hsl1, hsl2, HLEN3.out.2.1, HLEN3.out.2.2.1⟩)
      clear hb8 hrx hry hnx hcx hny hcy hsl1 hsl2
      go_wp2_with (fail)
      refine HRC.out.mono ?_
      rintro e w9 ⟨rfl, hb9⟩
      have HB9 := Lib.hid (HB8.out.trans (hb9.mono HB8.out.size))
      have HS9 := Lib.hid (HS8.out.keep hb9)
      have HTT9 := Lib.hid (HTT8.out.keep hb9)
      clear hb9
      go_wp2_with (fail)
      refine (left_calls w9 s _ _ _ _ _ HS9.out).mono ?_
      rintro e w' ⟨rfl, rfl⟩
      go_wp2_with (fail)
      refine (left_calls w9 t _ _ _ _ _ HTT9.out).mono ?_
      rintro e w' ⟨rfl, rfl⟩
      go_wp2_with (fail)
      go_ret
      exact ⟨by first | rfl | simp, HB9.out⟩
end Str
end Go.Proofs.YteigakkghkjakaaDoor

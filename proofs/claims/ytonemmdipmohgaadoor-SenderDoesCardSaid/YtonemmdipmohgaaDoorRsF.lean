/- The reference's sender: Take. -/
import Derived.Test.YtonemmdipmohgaaDoorRsE
namespace Go.Proofs.YtonemmdipmohgaaDoor
open Go.RowKit Go.ChangeShapes
set_option linter.unusedVariables false
set_option linter.unusedSimpArgs false
namespace Snd
open Pk Str

theorem rcells_set (l : List Way) (i : Nat) (h : i < l.length) (y : Way) (j : Nat) (hj : j < 6) (u : Value) (hu : y.rvals = l[i].rvals.set j u) : rcells (l.set i y) = (rcells l).set (i * 6 + j) u := by
  induction l generalizing i with
  | nil => simp at h
  | cons z l ih =>
    have e : ∀ (a : Way) (m : List Way), rcells (a :: m) = a.rvals ++ rcells m := fun a m => by simp [rcells]
    have hz : z.rvals.length = 6 := rfl
    cases i with
    | zero =>
      rw [List.set_cons_zero, e, e, List.set_append_left _ _ (by omega)]
      rw [Nat.zero_mul, Nat.zero_add]
      rw [hu]
      rfl
    | succ i =>
      rw [List.set_cons_succ, e, e, List.set_append_right _ _ (by omega), hz]
      rw [ih i (by simpa using h) (by simpa using hu)]
      rw [show (i + 1) * 6 + j - 6 = i * 6 + j by omega]
theorem RSt.mark {w : World} {R g off c : Nat} {vw vi : Value} {x : St} {id : Int} {y : Way} (h : RSt w R vw (.slice (some ⟨g, off, none⟩) x.ways.length c) vi x) (hy : x.ways[x.at id]? = some y) :
    RSt (w.setCell ⟨g, off + (x.at id * 6 + 5), none⟩ (.bool true)) R vw (.slice (some ⟨g, off, none⟩) x.ways.length c) vi (x.got id y) ∧ Moved (TT R vw (.slice (some ⟨g, off, none⟩) x.ways.length c) vi) (TT R vw (.slice (some ⟨g, off, none⟩) x.ways.length c) vi) w (w.setCell ⟨g, off + (x.at id * 6 + 5), none⟩ (.bool true)) := by
  have hne := h.y_ne g rfl
  have t : Turn (· = g) w (w.setCell ⟨g, off + (x.at id * 6 + 5), none⟩ (.bool true)) := Turn.setCell w _ rfl
  obtain ⟨h1, h2⟩ := List.getElem?_eq_some_iff.1 hy
  have hl : x.at id * 6 + 5 < (rcells x.ways).length := by rw [rcells_len]; omega
  have hM := mid_set (u := .bool true) h.ways hl
  refine ⟨⟨(t.block R (heap_lt h.obj) (fun e => hne.1 e.symm)).trans h.obj, h.wait.turn t (fun k hk e => hne.2.1 (by rw [← e]; exact hk)), ?_, h.ids.turn t (fun k hk e => hne.2.2 (by rw [← e]; exact hk)), h.last⟩, ⟨t.mono (fun k _ e => by rw [e]; exact .inr (.inr (.inl rfl))), fun k hk => .inl hk⟩⟩
  show Mid _ 0 RWT 6 (.slice (some ⟨g, off, none⟩) x.ways.length c) (x.ways.set (x.at id) { y with got := true }).length (rcells (x.ways.set (x.at id) { y with got := true }))
  rw [List.length_set, rcells_set x.ways (x.at id) h1 { y with got := true } 5 (by decide) (.bool true) (by rw [h2]; rfl)]
  exact hM
def RTkPost (w : World) (T : Nat → Prop) (R : Nat) (vw : Value) (x : St) (ty id : Int) (e : Ending) (w' : World) : Prop :=
  ∃ v vy vi, e = .returned (.tuple #[v, .int .i64 (x.take ty id).2.2]) ∧ PRow w' v (x.take ty id).2.1 ∧ (∀ k, v.ownBlock = some k → w.heap.size ≤ k) ∧ RSt w' R vw vy vi (x.take ty id).1 ∧ Moved T (TT R vw vy vi) w w'
theorem at_of {x : St} (hn : (x.ways.map Way.id).Nodup) {i : Nat} (h : i < x.ways.length) {id : Int} (hid : (x.ways[i]'h).id = id) : x.at id = i ∧ x.ways[x.at id]? = some (x.ways[i]'h) := by
  have h1 := at_mem hn (List.getElem_mem h)
  rw [hid] at h1
  obtain ⟨h2, h3⟩ := List.getElem?_eq_some_iff.1 h1
  refine ⟨?_, h1⟩
  refine (List.getElem_inj (xs := x.ways.map Way.id) (h₀ := by simpa using h2) (h₁ := by simpa using h) hn).1 ?_
  rw [List.getElem_map, List.getElem_map, h3]
theorem take_nope {x : St} (hn : (x.ways.map Way.id).Nodup) {ty id : Int} (h : ∀ j (hj : j < x.ways.length), (x.ways[j]'hj).id = id → ¬ Snd.Ends ty (x.ways[j]'hj) ∧ ¬ Snd.Goes ty (x.ways[j]'hj)) : x.take ty id = (x, [], 5) := by
  cases hy : x.ways[x.at id]? with
  | none => unfold St.take; rw [hy]
  | some y =>
    obtain ⟨h1, h2⟩ := at_some hy
    obtain ⟨h3, h4⟩ := List.getElem?_eq_some_iff.1 hy
    have := h _ h1 (by rw [h4]; exact h2)
    rw [h4] at this
    exact take_not hy this.1 this.2
/-- As the reference asks. -/
def RE (ty : Int) (y : Way) : Prop := (ty = 4 ∧ y.msg.qos = 1) ∨ (ty = 7 ∧ y.got = true)
theorem re_iff {ty : Int} {y : Way} (h : y.got = true → y.msg.qos = 2) : RE ty y ↔ Snd.Ends ty y := by
  unfold RE Snd.Ends
  constructor
  · rintro (⟨h1, h2⟩ | ⟨h1, h2⟩)
    · refine .inl ⟨h1, h2, ?_⟩
      cases hg : y.got with
      | false => rfl
      | true => have := h hg; omega
    · exact .inr ⟨h1, h h2, h2⟩
  · rintro (⟨h1, h2, _⟩ | ⟨h1, _, h2⟩)
    · exact .inl ⟨h1, h2⟩
    · exact .inr ⟨h1, h2⟩
set_option maxRecDepth 100000 in
set_option maxHeartbeats 4000000 in
theorem rtk_calls (w : World) (R : Nat) (vw vy vi : Value) (x : St) (h : RSt w R vw vy vi x) (hI : Inv x) (hn : x.ids.Nodup) (p : Pkt) :
    Calls Tryd.prog 30 #[.pointer (some ⟨R, 0, none⟩), .agg p.cells] w fun e w' => RTkPost w (TT R vw vy vi) R vw x p.ty p.id e w' := by
  obtain ⟨A2, c2, hvy, hc2, hcm2, hcell2⟩ := h.ways.form
  subst hvy
  obtain ⟨pb, hpb⟩ : ∃ pb, Hid (pb = w.heap.size) := ⟨_, rfl⟩
  obtain ⟨W0, hW0⟩ : ∃ W0, Hid (W0 = w.alloc (.cells p.cells PT)) := ⟨_, rfl⟩
  have hT0 : Hid (Turn (fun _ => False) w W0) := by rw [hW0.out]; exact Turn.alloc _ _
  have HP0 : Hid (PkAt W0 pb p) := by rw [hW0.out, hpb.out]; exact heap_new _ _
  have HA := Lib.hid (h.still hT0.out)
  have HN : Hid ((x.ways.map Way.id).Nodup) := by rw [Hid, ← hI.ids]; exact hn
  have HI := Lib.hid hI
  have hwl : Hid (x.ways.length ≤ 16) := by rw [Hid]; have h1 := hI.ways; have h2 := hI.win; omega
  have HH := Lib.hid h
  clear hI hn h hcell2 hc2 hcm2
  go_enter Tryd.func30, Tryd.ntmps30
  go_upto_region 1 with (fail)
  rw [← hW0.out, ← hpb.out]
  go_wp2_with (fail)
  go_loopw [6] (fun iv wr => ∃ i : Nat, i ≤ x.ways.length ∧ iv = .int .i64 i ∧ Hid (Turn (fun _ => False) W0 wr ∧ ∀ j (hj : j < x.ways.length), j < i → (x.ways[j]'hj).id = p.id → ¬ Snd.Ends p.ty (x.ways[j]'hj) ∧ ¬ Snd.Goes p.ty (x.ways[j]'hj))) (fun iv _ => x.ways.length - (intOf iv).toNat)
  case atStart => exact ⟨0, Nat.zero_le _, rfl, Turn.refl _ _, fun j hj h => absurd h (by omega)⟩
  case round =>
    obtain ⟨i, hi, rfl, hR⟩ := hrel
    obtain ⟨ht, hall⟩ := hR.out
    have hi16 : (i : Int) ≤ 16 := by have := hwl.out; omega
    have HT := Lib.hid ht
    have HALL := Lib.hid hall
    have HA1 := Lib.hid (HA.out.still ht)
    have k3 : wr.cell? ⟨R, 3, none⟩ = some (.slice A2 x.ways.length c2) := cell_heap HA1.out.obj
    clear hR ht hall
    by_cases hlt : i < x.ways.length
    · obtain ⟨A', c', hv, _, _, hcc⟩ := HA1.out.ways.form
      injection hv with e1 _ _
      subst e1
      obtain ⟨g, off, rfl, _, _, hc⟩ := hcc (by omega)
      obtain ⟨y, hy⟩ : ∃ y, Hid (x.ways[i]'hlt = y) := ⟨_, rfl⟩
      have hcy : ∀ j u, j < 6 → y.rvals[j]? = some u → wr.cell? ⟨g, off + i * 6 + j, none⟩ = some u := by
        intro j u hj hu
        rw [show off + i * 6 + j = off + (6 * i + j) by omega]
        exact hc (6 * i + j) u (by rw [rway_at hlt j hj, hy.out]; exact hu)
      have y0 : wr.cell? ⟨g, off + i * 6, none⟩ = some (.int .i64 y.id) := hcy 0 _ (by decide) rfl
      have y1 := hcy 1 _ (by decide) rfl
      have y2 := hcy 2 _ (by decide) rfl
      have y3 := hcy 3 _ (by decide) rfl
      have y4 := hcy 4 _ (by decide) rfl
      have y5 := hcy 5 _ (by decide) rfl
      have HOK : Hid (1 ≤ y.msg.qos ∧ y.msg.May ∧ (y.got = true → y.msg.qos = 2)) := by rw [← hy.out]; exact HI.out.yok _ (List.getElem_mem hlt)
      have HK : Hid (i < x.ways.length) := hlt
      have HATE : Hid (y.id = p.id → x.at p.id = i ∧ x.ways[x.at p.id]? = some y) := fun e => by
        have := at_of HN.out hlt (id := p.id) (by rw [hy.out]; exact e)
        rw [hy.out] at this
        exact this
      have HYE : Hid (∀ h : i < x.ways.length, x.ways[i]'h = y) := fun _ => hy.out
      clear hc hcy hcc hy
      go_upto_region 5 with (fail)
      obtain ⟨W, hW⟩ : ∃ W, Hid (W = wr.alloc (.cells y.rvals.toArray RWT)) := ⟨_, rfl⟩
      obtain ⟨q, hq⟩ : ∃ q, Hid (q = wr.heap.size) := ⟨_, rfl⟩
      have hW' : wr.alloc (.cells #[.int .i64 y.id, .string y.msg.topic, .string y.msg.pay, .int .i64 y.msg.qos, .bool y.msg.retain, .bool y.got] RWT) = W := hW.out.symm
      rw [hW', ← hq.out]
      have hQ : W.heap[q]? = some (.cells y.rvals.toArray RWT) := by rw [hW.out, hq.out]; exact heap_new _ _
      have z0 : W.cell? ⟨q, 0, none⟩ = some (.int .i64 y.id) := cell_heap hQ
      have z3 : W.cell? ⟨q, 3, none⟩ = some (.int .i64 y.msg.qos) := cell_heap hQ
      have z5 : W.cell? ⟨q, 5, none⟩ = some (.bool y.got) := cell_heap hQ
      have tW : Turn (fun _ => False) wr W := by rw [hW.out]; exact Turn.alloc _ _
      have HTW : Hid (Turn (fun _ => False) W0 W) := HT.out.trans tW
      have HA2 := Lib.hid (HA1.out.still tW)
      have HPW : PkAt W pb p := PkAt.keep HP0.out HTW.out (fun h => h)
      have p0 : W.cell? ⟨pb, 0, none⟩ = some (.int .i64 p.ty) := cell_heap HPW
      have p2 : W.cell? ⟨pb, 2, none⟩ = some (.int .i64 p.id) := cell_heap HPW
      clear tW hW' hQ HPW y0 y1 y2 y3 y4 y5 k3
      by_cases hid : y.id = p.id
      case neg =>
        have bn : (y.id != p.id) = true := by simpa using hid
        have HID := Lib.hid hid
        clear hid
        go_wp2_with (fail)
        go_roundw
        case rel =>
          refine ⟨i + 1, HK.out, by go_num, HTW.out, fun j hj hji hje => ?_⟩
          rcases Nat.lt_succ_iff_lt_or_eq.1 hji with h1 | h1
          · exact HALL.out j hj h1 hje
          · subst h1
            exact absurd (by rw [← HYE.out hj]; exact hje) HID.out
        case measure => have := HK.out; simp [intOf]; omega
      have bn : (y.id != p.id) = false := by simpa using hid
      obtain ⟨hat, hget⟩ := HATE.out hid
      have HAT := Lib.hid hat
      have HGET := Lib.hid hget
      have HID := Lib.hid hid
      clear hid hat hget HATE
      go_upto_region 6 with (fail)
      go_cut [46] from 29 to 46 (fun v wx => ∃ b : Bool, v = .bool b ∧ Hid (b = true ↔ RE p.ty y) ∧ Hid (wx = W))
      case first =>
        by_cases h4 : p.ty = 4
        · have b4 : (p.ty == 4) = true := by simpa using h4
          have b7 : (p.ty == 7) = false := by rw [h4]; rfl
          by_cases h1 : y.msg.qos = 1
          · have b1 : (y.msg.qos == 1) = true := by simpa using h1
            have hd : Hid (RE p.ty y) := .inl ⟨h4, h1⟩
            clear h4 h1
            go_wp2_with (fail)
            go_meet
            case rel => exact ⟨_, rfl, ⟨fun _ => hd.out, fun _ => rfl⟩, rfl⟩
          · have b1 : (y.msg.qos == 1) = false := by simpa using h1
            have hd : Hid (false = true ↔ RE p.ty y) := ⟨fun h => (by cases h), fun h => by unfold RE at h; omega⟩
            clear h4 h1
            go_wp2_with (fail)
            go_meet
            case rel => exact ⟨_, rfl, hd.out, rfl⟩
        · have b4 : (p.ty == 4) = false := by simpa using h4
          by_cases h7 : p.ty = 7
          · have b7 : (p.ty == 7) = true := by simpa using h7
            have hd : Hid (y.got = true ↔ RE p.ty y) := ⟨fun h => .inr ⟨h7, h⟩, fun h => by
              rcases h with ⟨h, _⟩ | ⟨_, h⟩
              · exact absurd h h4
              · exact h⟩
            clear h4 h7
            go_wp2_with (fail)
            go_meet
            case rel => exact ⟨_, rfl, hd.out, rfl⟩
          · have b7 : (p.ty == 7) = false := by simpa using h7
            have hd : Hid (false = true ↔ RE p.ty y) := ⟨fun h => (by cases h), fun h => by unfold RE at h; omega⟩
            clear h4 h7
            go_wp2_with (fail)
            go_meet
            case rel => exact ⟨_, rfl, hd.out, rfl⟩
      case rest =>
        obtain ⟨b, rfl, hb, hcut⟩ := hcut
        have hcw := hcut.out
        subst hcw
        clear hcut z0
        have k3 : wc.cell? ⟨R, 3, none⟩ = some (.slice (some ⟨g, off, none⟩) x.ways.length c2) := cell_heap HA2.out.obj
        go_upto_if 46 with (fail)
        cases b with
        | true =>
          have HE : Hid (Snd.Ends p.ty y) := (re_iff HOK.out.2.2).1 (hb.out.1 rfl)
          clear hb
          go_wp2_with (fail)
          refine (rdone_calls wc R vw _ vi x HA2.out HI.out i HK.out).mono ?_
          rintro e w8 ⟨rfl, vy8, vi8, h8, m8⟩
          have HF : Hid (RTkPost w (TT R vw (.slice (some ⟨g, off, none⟩) x.ways.length c2) vi) R vw x p.ty p.id (.returned (.tuple #[.slice none 0 0, .int .i64 0])) w8) := by
            unfold Hid RTkPost
            rw [take_ends HGET.out HE.out]
            refine ⟨_, vy8, vi8, rfl, PRow.nil _, (fun k hk => by cases hk), ?_, (Moved.still (hT0.out.trans HTW.out)).trans m8⟩
            have h9 : RSt w8 R vw vy8 vi8 (x.done p.id) := by
              unfold St.done
              rw [HAT.out, ← HID.out]
              rw [HYE.out HK.out] at h8
              exact h8
            exact h9
          clear h8 m8
          go_wp2_with (fail)
          go_ret2
          exact HF.out
        | false =>
          have HNE : Hid (¬ Snd.Ends p.ty y) := fun h => by
            have := hb.out.2 ((re_iff HOK.out.2.2).2 h)
            cases this
          clear hb
          by_cases h5 : p.ty = 5
          · have b5 : (p.ty == 5) = true := by simpa using h5
            by_cases h2 : y.msg.qos = 2
            · have b2 : (y.msg.qos == 2) = true := by simpa using h2
              have HG : Hid (Snd.Goes p.ty y) := ⟨h5, h2⟩
              clear h5 h2
              have f5 : wc.frozen? ⟨g, off + i * 6 + 5, none⟩ = false := by
                obtain ⟨cur, hc⟩ := HA2.out.ways.typ g rfl
                exact frozen_heap hc
              have hc5 : ∃ u, wc.cell? ⟨g, off + i * 6 + 5, none⟩ = some u := by
                obtain ⟨A', c', hv, _, _, hcc⟩ := HA2.out.ways.form
                obtain ⟨g', off', hA, _, _, hc⟩ := hcc (by omega)
                injection hv with e1 _ _
                rw [hA] at e1
                injection e1 with e1
                injection e1 with e1 e2 _
                subst e1 e2
                have := hc (6 * i + 5) (.bool y.got) (by rw [rway_at HK.out 5 (by decide), HYE.out HK.out]; rfl)
                rw [show off + (6 * i + 5) = off + i * 6 + 5 by omega] at this
                exact ⟨_, this⟩
              obtain ⟨u5, hc5⟩ := hc5
              obtain ⟨W8, hW8⟩ : ∃ W8, Hid (W8 = wc.setCell ⟨g, off + i * 6 + 5, none⟩ (.bool true)) := ⟨_, rfl⟩
              have HM8 : Hid (RSt W8 R vw (.slice (some ⟨g, off, none⟩) x.ways.length c2) vi (x.got p.id y) ∧ Moved (TT R vw (.slice (some ⟨g, off, none⟩) x.ways.length c2) vi) (TT R vw (.slice (some ⟨g, off, none⟩) x.ways.length c2) vi) wc W8) := by
                have h1 := HA2.out.mark HGET.out
                rw [HAT.out, ← Nat.add_assoc] at h1
                rw [hW8.out]
                exact h1
              have q2 : W8.cell? ⟨pb, 2, none⟩ = some (.int .i64 p.id) := by
                have t8 : Turn (· = g) wc W8 := by rw [hW8.out]; exact Turn.setCell wc _ rfl
                refine t8.cell p2 (fun e => ?_)
                obtain ⟨cur, hc⟩ := HA2.out.ways.typ g rfl
                have hpb : wc.heap[pb]? = some (.cells p.cells PT (0, 0)) := PkAt.keep HP0.out HTW.out (fun h => h)
                exact obj_ne hpb hc (cells_ne (by decide)) e
              have HF : Hid (RTkPost w (TT R vw (.slice (some ⟨g, off, none⟩) x.ways.length c2) vi) R vw x p.ty p.id (.returned (.tuple #[.slice (some ⟨W8.heap.size, 0, none⟩) 1 1, .int .i64 0])) (W8.alloc (.cells (ackP 6 p.id).cells PT))) := by
                unfold Hid RTkPost
                rw [take_goes HGET.out HNE.out HG.out]
                have ta : Turn (fun _ => False) W8 (W8.alloc (.cells (ackP 6 p.id).cells PT)) := Turn.alloc _ _
                have m8 := (Moved.still (T := TT R vw (.slice (some ⟨g, off, none⟩) x.ways.length c2) vi) (hT0.out.trans HTW.out)).trans HM8.out.2
                exact ⟨_, _, _, rfl, prow_one W8 (ackP 6 p.id) ⟨rfl, rfl⟩, (fun k hk => by cases hk; exact m8.1.size), HM8.out.1.still ta, m8.trans (Moved.still ta)⟩
              go_upto_region 11 with (fail)
              rw [← hW8.out]
              go_wp2_with (fail)
              go_ret2
              exact HF.out
            · have b2 : (y.msg.qos == 2) = false := by simpa using h2
              have HG : Hid (¬ Snd.Goes p.ty y) := fun h => h2 h.2
              clear h5 h2
              go_wp2_with (fail)
              go_roundw
              case rel =>
                refine ⟨i + 1, HK.out, by go_num, HTW.out, fun j hj hji hje => ?_⟩
                rcases Nat.lt_succ_iff_lt_or_eq.1 hji with h1 | h1
                · exact HALL.out j hj h1 hje
                · subst h1
                  rw [HYE.out hj]
                  exact ⟨HNE.out, HG.out⟩
              case measure => have := HK.out; simp [intOf]; omega
          · have b5 : (p.ty == 5) = false := by simpa using h5
            have HG : Hid (¬ Snd.Goes p.ty y) := fun h => h5 h.1
            clear h5
            go_wp2_with (fail)
            go_roundw
            case rel =>
              refine ⟨i + 1, HK.out, by go_num, HTW.out, fun j hj hji hje => ?_⟩
              rcases Nat.lt_succ_iff_lt_or_eq.1 hji with h1 | h1
              · exact HALL.out j hj h1 hje
              · subst h1
                rw [HYE.out hj]
                exact ⟨HNE.out, HG.out⟩
            case measure => have := HK.out; simp [intOf]; omega
    · have HF : Hid (RTkPost w (TT R vw (.slice A2 x.ways.length c2) vi) R vw x p.ty p.id (.returned (.tuple #[.slice none 0 0, .int .i64 5])) wr) := by
        unfold Hid RTkPost
        rw [take_nope HN.out (fun j hj => HALL.out j hj (by omega))]
        exact ⟨_, _, _, rfl, PRow.nil _, (fun k hk => by cases hk), HA1.out, Moved.still (hT0.out.trans HT.out)⟩
      go_wp2_with (fail)
      go_ret2
      exact HF.out
end Snd
end Go.Proofs.YtonemmdipmohgaaDoor

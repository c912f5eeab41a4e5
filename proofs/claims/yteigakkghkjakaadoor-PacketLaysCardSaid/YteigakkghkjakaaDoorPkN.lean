/- packet.check: a Suback. packet.check: a Subscribe, an Unsubscribe. -/
import Derived.Test.YteigakkghkjakaaDoorPkL
namespace Go.Proofs.YteigakkghkjakaaDoor
open Go.RowKit
set_option linter.unusedVariables false
set_option linter.unusedSimpArgs false
namespace Pk

theorem codes_all {C : List Int} (h : ∀ i, i < C.length → CodeOk (lat C i)) : ∀ c ∈ C, CodeOk c := by
  intro c hc
  obtain ⟨i, hi, rfl⟩ := List.getElem_of_mem hc
  have := h i hi
  rwa [lat_get _ _ hi] at this

set_option maxRecDepth 100000 in
set_option maxHeartbeats 3000000 in
theorem check_suback (w : World) (p : Pkt) (C : List Int) (D : List (ByteArray × Int)) (hF : Lies w p C D) (h : p.ty = 9) : Calls Tryd.prog 45 #[.agg p.cells] w fun e w' => Checks w (Good p C D) e w' := by
  have hmf : ∀ (fn : Fn) (first cap : Array Value) (w : World), (Instr.makeFunc fn first cap).run Tryd.prog w = .ok (.func fn first cap) w := fun _ _ _ _ => rfl
  have ha : p.after = p.noId.noCodes := by
    unfold Pkt.after
    rw [h]; rfl
  have hG : Hid (Good p C D ↔ (IdOk p ∧ 0 < C.length ∧ ∀ c ∈ C, CodeOk c) ∧ Pkt.zero p.noId.noCodes 0 (rowLen p.subs) = true) := by
    unfold Good Ok
    rw [ha]
    exact ⟨fun x => ⟨⟨x.2.2.1.2.2.2.1 (by omega) (by omega), x.2.2.1.2.2.2.2.2 h⟩, x.2.2.2⟩, fun x => ⟨by omega, by omega, ⟨by omega, by omega, by omega, fun _ _ => x.1.1, by omega, fun _ => x.1.2⟩, x.2⟩⟩
  obtain ⟨Ac, cc, hc, hR⟩ := hF.codes
  have HF := Lib.hid hF
  have hA := at_box w p
  have hR' := hR.keep hA.below
  obtain ⟨W, hW⟩ : ∃ W, Hid (W = w.alloc (.cells p.cells PT)) := ⟨_, rfl⟩
  obtain ⟨g, hg⟩ : ∃ g, Hid (g = w.heap.size) := ⟨_, rfl⟩
  have h0 : (w.alloc (.cells p.cells PT)).cell? ⟨w.heap.size, 0, none⟩ = some (.int .i64 p.ty) := hA.at_.cell 0
  rw [← hW.out] at hR'
  rw [← hW.out, ← hg.out] at hA
  have HA := Lib.hid hA
  have HR := Lib.hid hR
  have hBC := hF.lenC
  clear hA hF hR ha hR'
  go_enter Tryd.func45, Tryd.ntmps45
  go_wp2_with (fail)
  refine (within_yes _ _ _ _ (by omega)).mono ?_
  rintro e w1 ⟨rfl, rfl⟩
  rw [← hW.out, ← hg.out] at h0 ⊢
  rw [h] at h0
  go_wp2_with (fail)
  refine (id_calls W g p HA.out.at_).mono ?_
  rintro e W1 ⟨ht, (⟨hi, rfl, hp⟩ | ⟨hi, rfl⟩)⟩
  · have H1 : Hid (At w W1 g p.noId) := HA.out.turn ht hp
    have HI := Lib.hid hi
    clear ht hp hi
    have k16 : W1.cell? ⟨g, 16, none⟩ = some (.slice Ac C.length cc) := by rw [← hc]; exact H1.out.at_.cell 16
    have f16 := H1.out.at_.frozen 16
    by_cases hl : 0 < C.length
    · have hl1 : decide (0 < C.length) = true := by simpa using hl
      have HRW : Hid (Reads .i64 W1 Ac C) := HR.out.keep H1.out.below
      obtain ⟨x, rfl, hx⟩ := HRW.out hl
      have HX := Lib.hid hx
      clear hx
      go_wp2_with (fail)
      refine (need_yes _).mono ?_
      rintro e w' ⟨rfl, rfl⟩
      go_wp2_with (fail)
      go_loop [169] (fun i => ∃ k : Nat, k ≤ C.length ∧ i = .int .i64 k ∧ Hid (∀ j, j < k → CodeOk (lat C j))) (fun i => C.length - (intOf i).toNat)
      case atStart => exact ⟨0, Nat.zero_le _, rfl, fun i h => absurd h (by omega)⟩
      case round =>
        obtain ⟨k, hk, rfl, hs⟩ := hrel
        have hkb : (k : Int) ≤ 1000000000000000000 := by omega
        by_cases hkl : k < C.length
        · have hcx := HX.out k hkl
          obtain ⟨c, hce⟩ : ∃ c, Hid (c = lat C k) := ⟨_, rfl⟩
          rw [← hce.out] at hcx
          by_cases hok : CodeOk c
          · have hn : Hid (∀ j, j < k + 1 → CodeOk (lat C j)) := by
              intro j hj
              rcases Nat.lt_or_ge j k with h | h
              · exact hs.out j h
              · have : j = k := by omega
                subst this
                rw [← hce.out]; exact hok
            rcases hok with ⟨h1, h2⟩ | h3
            · have d1 := decide_eq_true h1
              have d2 := decide_eq_true h2
              clear h1 h2
              go_wp2_with (fail)
              refine (need_yes _).mono ?_
              rintro e w' ⟨rfl, rfl⟩
              go_wp2_with (fail)
              go_round
              case rel => exact ⟨k + 1, by omega, by go_num, hn.out⟩
              case measure => simp [intOf]; omega
            · subst h3
              go_wp2_with (fail)
              refine (need_yes _).mono ?_
              rintro e w' ⟨rfl, rfl⟩
              go_wp2_with (fail)
              go_round
              case rel => exact ⟨k + 1, by omega, by go_num, hn.out⟩
              case measure => simp [intOf]; omega
          · have hbad : Hid (¬ ∀ c ∈ C, CodeOk c) := fun hx => hok (by rw [hce.out, lat_get _ _ hkl]; exact hx _ (List.getElem_mem hkl))
            have d3 : (c == 128) = false := by simp; intro h; exact hok (.inr h)
            by_cases h1 : 0 ≤ c
            · have d1 := decide_eq_true h1
              have d2 : decide (c ≤ 2) = false := decide_eq_false (fun h => hok (.inl ⟨h1, h⟩))
              clear hok h1
              go_wp2_with (fail)
              refine (need_no _).mono ?_
              rintro e w' ⟨rfl, rfl⟩
              go_wp2_with (fail)
              exact ⟨rfl, H1.out.below, .inr ⟨fun x => hbad.out (hG.out.1 x).1.2.2, rfl⟩⟩
            · have d1 := decide_eq_false h1
              clear hok h1
              go_wp2_with (fail)
              refine (need_no _).mono ?_
              rintro e w' ⟨rfl, rfl⟩
              go_wp2_with (fail)
              exact ⟨rfl, H1.out.below, .inr ⟨fun x => hbad.out (hG.out.1 x).1.2.2, rfl⟩⟩
        · have hall : Hid (∀ c ∈ C, CodeOk c) := codes_all (fun i hi => hs.out i (by omega))
          have H2 : Hid (At w (W1.setCell ⟨g, 16, none⟩ (.slice none 0 0)) g p.noId.noCodes) := H1.out.set 16 (.slice none 0 0) _ rfl
          have HL := Lib.hid hl
          go_upto_region 50 with (fail)
          exact zero_ends w _ g p p.noId.noCodes C D H2.out ⟨_, _, _, rfl⟩ HF.out.fit.subs HF.out.strs ⟨fun x => (hG.out.1 x).2, fun x => hG.out.2 ⟨⟨HI.out, HL.out, hall.out⟩, x⟩⟩ _ (by kernel_rfl) _ rfl rfl rfl
    · have hl1 : decide (0 < C.length) = false := decide_eq_false hl
      have HL := Lib.hid hl
      clear hl
      go_wp2_with (fail)
      refine (need_no _).mono ?_
      rintro e w' ⟨rfl, rfl⟩
      go_wp2_with (fail)
      exact ⟨rfl, H1.out.below, .inr ⟨fun x => HL.out (hG.out.1 x).1.2.1, rfl⟩⟩
  · have H1 : Hid (Below w.heap.size w W1) := HA.out.fail ht
    have HI := Lib.hid hi
    clear ht hi
    go_wp2_with (fail)
    exact ⟨rfl, H1.out, .inr ⟨fun x => HI.out (hG.out.1 x).1.1, rfl⟩⟩
end Pk
end Go.Proofs.YteigakkghkjakaaDoor

namespace Go.Proofs.YteigakkghkjakaaDoor
open Go.RowKit
set_option linter.unusedVariables false
set_option linter.unusedSimpArgs false
namespace Pk

theorem add_next (x : Addr) (k : Nat) : x.add (2 * k + 1) = ⟨(x.add (k * 2)).block, (x.add (k * 2)).off + 1, none⟩ := by
  unfold Addr.add
  by_cases hk : k = 0
  · subst hk; simp
  · rw [if_neg (by omega), if_neg (by omega)]
    simp; omega
theorem At.alloc {w W : World} {g : Nat} {p : Pkt} (h : At w W g p) (o : Obj) : At w (W.alloc o) g p := h.old (Below.alloc (Below.refl _ _) (Nat.le_refl _) _)
theorem subs_all {t : Int} {D : List (ByteArray × Int)} (h : ∀ j (h : j < D.length), SubOk t D[j]) : ∀ c ∈ D, SubOk t c := by
  intro c hc
  obtain ⟨i, hi, rfl⟩ := List.getElem_of_mem hc
  exact h i hi

set_option maxRecDepth 100000 in
set_option maxHeartbeats 3000000 in
theorem check_subs8 (w : World) (hT : Lib.Utf8Tabs 0 1 w) (p : Pkt) (C : List Int) (D : List (ByteArray × Int)) (hF : Lies w p C D) (h : p.ty = 8) : Calls Tryd.prog 45 #[.agg p.cells] w fun e w' => Checks w (Good p C D) e w' := by
  have hmf : ∀ (fn : Fn) (first cap : Array Value) (w : World), (Instr.makeFunc fn first cap).run Tryd.prog w = .ok (.func fn first cap) w := fun _ _ _ _ => rfl
  have ha : p.after = p.noId.noSubs := by
    unfold Pkt.after
    rw [h] ; rfl
  have hG : Hid (Good p C D ↔ (IdOk p ∧ 0 < D.length ∧ ∀ s ∈ D, SubOk p.ty s) ∧ Pkt.zero p.noId.noSubs (rowLen p.codes) 0 = true) := by
    unfold Good Ok
    rw [ha]
    exact ⟨fun x => ⟨⟨x.2.2.1.2.2.2.1 (by omega) (by omega), x.2.2.1.2.2.2.2.1 (by omega)⟩, x.2.2.2⟩, fun x => ⟨by omega, by omega, ⟨by omega, by omega, by omega, fun _ _ => x.1.1, fun _ => x.1.2, by omega⟩, x.2⟩⟩
  rw [h] at hG
  obtain ⟨Ac, cc, hc, hR⟩ := hF.subs
  have HF := Lib.hid hF
  have HT := Lib.hid hT
  have hA := at_box w p
  obtain ⟨W, hW⟩ : ∃ W, Hid (W = w.alloc (.cells p.cells PT)) := ⟨_, rfl⟩
  obtain ⟨g, hg⟩ : ∃ g, Hid (g = w.heap.size) := ⟨_, rfl⟩
  have h0 : (w.alloc (.cells p.cells PT)).cell? ⟨w.heap.size, 0, none⟩ = some (.int .i64 p.ty) := hA.at_.cell 0
  rw [← hW.out, ← hg.out] at hA
  have HA := Lib.hid hA
  have HR := Lib.hid hR
  have hBC := hF.lenD
  clear hA hF hR ha hT
  go_enter Tryd.func45, Tryd.ntmps45
  go_wp2_with (fail)
  refine (within_yes _ _ _ _ (by omega)).mono ?_
  rintro e w1 ⟨rfl, rfl⟩
  rw [← hW.out, ← hg.out] at h0 ⊢
  rw [h] at h0
  go_wp2_with (fail)
  refine (id_calls W g p HA.out.at_).mono ?_
  rintro e W1 ⟨ht, (⟨hi, rfl, hp⟩ | ⟨hi, rfl⟩)⟩
  · have H1 : Hid (At w W1 g p.noId) := HA.out.turn ht hp
    have HI := Lib.hid hi
    clear ht hp hi
    have k17 : W1.cell? ⟨g, 17, none⟩ = some (.slice Ac D.length cc) := by rw [← hc]; exact H1.out.at_.cell 17
    by_cases hl : 0 < D.length
    · have hl1 : decide (0 < D.length) = true := by simpa using hl
      go_wp2_with (fail)
      refine (need_yes _).mono ?_
      rintro e w' ⟨rfl, rfl⟩
      go_wp2_with (fail)
      go_loopw [136] (fun i wr => ∃ k : Nat, k ≤ D.length ∧ i = .int .i64 k ∧ Hid (∀ j (h : j < D.length), j < k → SubOk 8 D[j]) ∧ At w wr g p.noId) (fun i _ => D.length - (intOf i).toNat)
      case atStart => exact ⟨0, Nat.zero_le _, rfl, fun i _ h => absurd h (by omega), H1.out⟩
      case round =>
        obtain ⟨k, hk, rfl, hs, hB⟩ := hrel
        have HB := Lib.hid hB
        clear hB
        have hkb : (k : Int) ≤ 1000000000000000000 := by omega
        by_cases hkl : k < D.length
        · have HRR : Hid (ReadsSub wr Ac D) := HR.out.keep HB.out.below
          obtain ⟨x, rfl, hx⟩ := HRR.out (by omega)
          obtain ⟨hx1, hx2⟩ := hx k hkl
          obtain ⟨s, q, hce⟩ : ∃ s q, Hid (D[k]'hkl = (s, q)) := ⟨(D[k]'hkl).1, (D[k]'hkl).2, by rw [Hid]⟩
          rw [hce.out] at hx1 hx2
          have HS : Hid (SubOk 8 (D[k]'hkl) → SubOk 8 (s, q)) := by rw [hce.out]; exact id
          rw [Nat.mul_comm] at hx1
          rw [add_next] at hx2
          clear hx
          have HBA : Hid (At w (wr.alloc (.cells #[.string s, .int .i64 q] 76)) g p.noId) := HB.out.alloc _
          go_wp2_with (fail)
          by_cases hf : Full s
          · refine (full_yes _ (HBA.out.tabs HT.out) s hf).mono ?_
            rintro e W2 ⟨rfl, hb2⟩
            have hn2 : W2.heap[wr.heap.size]? = some (.cells #[.string s, .int .i64 q] 76 (0, 0)) := by
              rw [hb2.block _ (by simp)]; exact heap_new _ _
            have c1 : W2.cell? ⟨wr.heap.size, 1, none⟩ = some (.int .i64 q) := by rw [cell_heap hn2]; rfl
            have HB2 : Hid (At w W2 g p.noId) := HBA.out.old hb2
            have l0 : W2.cell? ⟨g, 0, none⟩ = some (.int .i64 p.ty) := HB2.out.at_.cell 0
            rw [h] at l0
            have HFl := Lib.hid hf
            clear hf hb2 hn2
            go_wp2_with (fail)
            by_cases hw : 0 ≤ q ∧ q ≤ 2
            · refine (within_yes _ _ _ _ hw).mono ?_
              rintro e w' ⟨rfl, rfl⟩
              have HW := Lib.hid hw
              clear hw
              have hn : Hid (∀ j (h : j < D.length), j < k + 1 → SubOk 8 D[j]) := by
                intro j h hj
                rcases Nat.lt_or_ge j k with h' | h'
                · exact hs.out j h h'
                · have : j = k := by omega
                  subst this
                  rw [hce.out]
                  exact ⟨HFl.out, HW.out.1, HW.out.2, .inl rfl⟩
              go_wp2_with (fail)
              refine (need_yes _).mono ?_
              rintro e w' ⟨rfl, rfl⟩
              go_wp2_with (fail)
              go_roundw
              case rel => exact ⟨k + 1, by omega, by go_num, hn.out, HB2.out⟩
              case measure => simp [intOf]; omega
            · refine (within_no _ _ _ _ hw).mono ?_
              rintro e w' ⟨rfl, rfl⟩
              have HW := Lib.hid hw
              clear hw
              go_wp2_with (fail)
              refine ⟨rfl, HB2.out.below, .inr ⟨fun x => ?_, rfl⟩⟩
              have hz := HS.out ((hG.out.1 x).1.2.2 _ (List.getElem_mem hkl))
              exact HW.out ⟨hz.2.1, hz.2.2.1⟩
          · refine (full_no _ (HBA.out.tabs HT.out) s hf).mono ?_
            rintro e W2 ⟨rfl, hb2⟩
            have HB2 : Hid (At w W2 g p.noId) := HBA.out.old hb2
            have HFl := Lib.hid hf
            clear hf hb2
            go_wp2_with (fail)
            refine ⟨rfl, HB2.out.below, .inr ⟨fun x => ?_, rfl⟩⟩
            have hz := HS.out ((hG.out.1 x).1.2.2 _ (List.getElem_mem hkl))
            exact HFl.out hz.1
        · have hall : Hid (∀ c ∈ D, SubOk 8 c) := subs_all (fun i hi => hs.out i hi (by omega))
          have H2 : Hid (At w (wr.setCell ⟨g, 17, none⟩ (.slice none 0 0)) g p.noId.noSubs) := HB.out.set 17 (.slice none 0 0) _ rfl
          have m17 : wr.cell? ⟨g, 17, none⟩ = some (.slice Ac D.length cc) := by rw [← hc]; exact HB.out.at_.cell 17
          have f17 := HB.out.at_.frozen 17
          have HL := Lib.hid hl
          go_upto_region 50 with (fail)
          exact zero_ends w _ g p p.noId.noSubs C D H2.out HF.out.fit.codes ⟨_, _, _, rfl⟩ HF.out.strs ⟨fun x => (hG.out.1 x).2, fun x => hG.out.2 ⟨⟨HI.out, HL.out, hall.out⟩, x⟩⟩ _ (by kernel_rfl) _ rfl rfl rfl
    · have hl1 : decide (0 < D.length) = false := decide_eq_false hl
      have HL := Lib.hid hl
      clear hl
      go_wp2_with (fail)
      refine (need_no _).mono ?_
      rintro e w' ⟨rfl, rfl⟩
      go_wp2_with (fail)
      exact ⟨rfl, H1.out.below, .inr ⟨fun x => HL.out (hG.out.1 x).1.2.1, rfl⟩⟩
  · have H1 : Hid (Below w.heap.size w W1) := HA.out.fail ht
    have HI := Lib.hid hi
    clear ht hi
    go_wp2_with (fail)
    exact ⟨rfl, H1.out, .inr ⟨fun x => HI.out (hG.out.1 x).1.1, rfl⟩⟩

set_option maxRecDepth 100000 in
set_option maxHeartbeats 3000000 in
theorem check_subs10 (w : World) (hT : Lib.Utf8Tabs 0 1 w) (p : Pkt) (C : List Int) (D : List (ByteArray × Int)) (hF : Lies w p C D) (h : p.ty = 10) : Calls Tryd.prog 45 #[.agg p.cells] w fun e w' => Checks w (Good p C D) e w' := by
  have hmf : ∀ (fn : Fn) (first cap : Array Value) (w : World), (Instr.makeFunc fn first cap).run Tryd.prog w = .ok (.func fn first cap) w := fun _ _ _ _ => rfl
  have ha : p.after = p.noId.noSubs := by
    unfold Pkt.after
    rw [h] ; rfl
  have hG : Hid (Good p C D ↔ (IdOk p ∧ 0 < D.length ∧ ∀ s ∈ D, SubOk p.ty s) ∧ Pkt.zero p.noId.noSubs (rowLen p.codes) 0 = true) := by
    unfold Good Ok
    rw [ha]
    exact ⟨fun x => ⟨⟨x.2.2.1.2.2.2.1 (by omega) (by omega), x.2.2.1.2.2.2.2.1 (by omega)⟩, x.2.2.2⟩, fun x => ⟨by omega, by omega, ⟨by omega, by omega, by omega, fun _ _ => x.1.1, fun _ => x.1.2, by omega⟩, x.2⟩⟩
  rw [h] at hG
  obtain ⟨Ac, cc, hc, hR⟩ := hF.subs
  have HF := Lib.hid hF
  have HT := Lib.hid hT
  have hA := at_box w p
  obtain ⟨W, hW⟩ : ∃ W, Hid (W = w.alloc (.cells p.cells PT)) := ⟨_, rfl⟩
  obtain ⟨g, hg⟩ : ∃ g, Hid (g = w.heap.size) := ⟨_, rfl⟩
  have h0 : (w.alloc (.cells p.cells PT)).cell? ⟨w.heap.size, 0, none⟩ = some (.int .i64 p.ty) := hA.at_.cell 0
  rw [← hW.out, ← hg.out] at hA
  have HA := Lib.hid hA
  have HR := Lib.hid hR
  have hBC := hF.lenD
  clear hA hF hR ha hT
  go_enter Tryd.func45, Tryd.ntmps45
  go_wp2_with (fail)
  refine (within_yes _ _ _ _ (by omega)).mono ?_
  rintro e w1 ⟨rfl, rfl⟩
  rw [← hW.out, ← hg.out] at h0 ⊢
  rw [h] at h0
  go_wp2_with (fail)
  refine (id_calls W g p HA.out.at_).mono ?_
  rintro e W1 ⟨ht, (⟨hi, rfl, hp⟩ | ⟨hi, rfl⟩)⟩
  · have H1 : Hid (At w W1 g p.noId) := HA.out.turn ht hp
    have HI := Lib.hid hi
    clear ht hp hi
    have k17 : W1.cell? ⟨g, 17, none⟩ = some (.slice Ac D.length cc) := by rw [← hc]; exact H1.out.at_.cell 17
    by_cases hl : 0 < D.length
    · have hl1 : decide (0 < D.length) = true := by simpa using hl
      go_wp2_with (fail)
      refine (need_yes _).mono ?_
      rintro e w' ⟨rfl, rfl⟩
      go_wp2_with (fail)
      go_loopw [136] (fun i wr => ∃ k : Nat, k ≤ D.length ∧ i = .int .i64 k ∧ Hid (∀ j (h : j < D.length), j < k → SubOk 10 D[j]) ∧ At w wr g p.noId) (fun i _ => D.length - (intOf i).toNat)
      case atStart => exact ⟨0, Nat.zero_le _, rfl, fun i _ h => absurd h (by omega), H1.out⟩
      case round =>
        obtain ⟨k, hk, rfl, hs, hB⟩ := hrel
        have HB := Lib.hid hB
        clear hB
        have hkb : (k : Int) ≤ 1000000000000000000 := by omega
        by_cases hkl : k < D.length
        · have HRR : Hid (ReadsSub wr Ac D) := HR.out.keep HB.out.below
          obtain ⟨x, rfl, hx⟩ := HRR.out (by omega)
          obtain ⟨hx1, hx2⟩ := hx k hkl
          obtain ⟨s, q, hce⟩ : ∃ s q, Hid (D[k]'hkl = (s, q)) := ⟨(D[k]'hkl).1, (D[k]'hkl).2, by rw [Hid]⟩
          rw [hce.out] at hx1 hx2
          have HS : Hid (SubOk 10 (D[k]'hkl) → SubOk 10 (s, q)) := by rw [hce.out]; exact id
          rw [Nat.mul_comm] at hx1
          rw [add_next] at hx2
          clear hx
          have HBA : Hid (At w (wr.alloc (.cells #[.string s, .int .i64 q] 76)) g p.noId) := HB.out.alloc _
          go_wp2_with (fail)
          by_cases hf : Full s
          · refine (full_yes _ (HBA.out.tabs HT.out) s hf).mono ?_
            rintro e W2 ⟨rfl, hb2⟩
            have hn2 : W2.heap[wr.heap.size]? = some (.cells #[.string s, .int .i64 q] 76 (0, 0)) := by
              rw [hb2.block _ (by simp)]; exact heap_new _ _
            have c1 : W2.cell? ⟨wr.heap.size, 1, none⟩ = some (.int .i64 q) := by rw [cell_heap hn2]; rfl
            have HB2 : Hid (At w W2 g p.noId) := HBA.out.old hb2
            have l0 : W2.cell? ⟨g, 0, none⟩ = some (.int .i64 p.ty) := HB2.out.at_.cell 0
            rw [h] at l0
            have HFl := Lib.hid hf
            clear hf hb2 hn2
            go_wp2_with (fail)
            by_cases hw : 0 ≤ q ∧ q ≤ 2
            · refine (within_yes _ _ _ _ hw).mono ?_
              rintro e w' ⟨rfl, rfl⟩
              have HW := Lib.hid hw
              clear hw
              by_cases hq0 : q = 0
              · have e0 : (q == 0) = true := by simpa using hq0
                have HQ0 := Lib.hid hq0
                clear hq0
                have hn : Hid (∀ j (h : j < D.length), j < k + 1 → SubOk 10 D[j]) := by
                  intro j h hj
                  rcases Nat.lt_or_ge j k with h' | h'
                  · exact hs.out j h h'
                  · have : j = k := by omega
                    subst this
                    rw [hce.out]
                    exact ⟨HFl.out, HW.out.1, HW.out.2, .inr HQ0.out⟩
                go_wp2_with (fail)
                refine (need_yes _).mono ?_
                rintro e w' ⟨rfl, rfl⟩
                go_wp2_with (fail)
                go_roundw
                case rel => exact ⟨k + 1, by omega, by go_num, hn.out, HB2.out⟩
                case measure => simp [intOf]; omega
              · have e0 : (q == 0) = false := by simpa using hq0
                have HQ0 := Lib.hid hq0
                clear hq0
                go_wp2_with (fail)
                refine (need_no _).mono ?_
                rintro e w' ⟨rfl, rfl⟩
                go_wp2_with (fail)
                refine ⟨rfl, HB2.out.below, .inr ⟨fun x => ?_, rfl⟩⟩
                have hz := HS.out ((hG.out.1 x).1.2.2 _ (List.getElem_mem hkl))
                rcases hz.2.2.2 with h | h
                · exact absurd h (by decide)
                · exact HQ0.out h
            · refine (within_no _ _ _ _ hw).mono ?_
              rintro e w' ⟨rfl, rfl⟩
              have HW := Lib.hid hw
              clear hw
              go_wp2_with (fail)
              refine ⟨rfl, HB2.out.below, .inr ⟨fun x => ?_, rfl⟩⟩
              have hz := HS.out ((hG.out.1 x).1.2.2 _ (List.getElem_mem hkl))
              exact HW.out ⟨hz.2.1, hz.2.2.1⟩
          · refine (full_no _ (HBA.out.tabs HT.out) s hf).mono ?_
            rintro e W2 ⟨rfl, hb2⟩
            have HB2 : Hid (At w W2 g p.noId) := HBA.out.old hb2
            have HFl := Lib.hid hf
            clear hf hb2
            go_wp2_with (fail)
            refine ⟨rfl, HB2.out.below, .inr ⟨fun x => ?_, rfl⟩⟩
            have hz := HS.out ((hG.out.1 x).1.2.2 _ (List.getElem_mem hkl))
            exact HFl.out hz.1
        · have hall : Hid (∀ c ∈ D, SubOk 10 c) := subs_all (fun i hi => hs.out i hi (by omega))
          have H2 : Hid (At w (wr.setCell ⟨g, 17, none⟩ (.slice none 0 0)) g p.noId.noSubs) := HB.out.set 17 (.slice none 0 0) _ rfl
          have m17 : wr.cell? ⟨g, 17, none⟩ = some (.slice Ac D.length cc) := by rw [← hc]; exact HB.out.at_.cell 17
          have f17 := HB.out.at_.frozen 17
          have HL := Lib.hid hl
          go_upto_region 50 with (fail)
          exact zero_ends w _ g p p.noId.noSubs C D H2.out HF.out.fit.codes ⟨_, _, _, rfl⟩ HF.out.strs ⟨fun x => (hG.out.1 x).2, fun x => hG.out.2 ⟨⟨HI.out, HL.out, hall.out⟩, x⟩⟩ _ (by kernel_rfl) _ rfl rfl rfl
    · have hl1 : decide (0 < D.length) = false := decide_eq_false hl
      have HL := Lib.hid hl
      clear hl
      go_wp2_with (fail)
      refine (need_no _).mono ?_
      rintro e w' ⟨rfl, rfl⟩
      go_wp2_with (fail)
      exact ⟨rfl, H1.out.below, .inr ⟨fun x => HL.out (hG.out.1 x).1.2.1, rfl⟩⟩
  · have H1 : Hid (Below w.heap.size w W1) := HA.out.fail ht
    have HI := Lib.hid hi
    clear ht hi
    go_wp2_with (fail)
    exact ⟨rfl, H1.out, .inr ⟨fun x => HI.out (hG.out.1 x).1.1, rfl⟩⟩
end Pk
end Go.Proofs.YteigakkghkjakaaDoor

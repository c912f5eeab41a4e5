/- packet.check: a Connect. -/
import Derived.Test.YteigakkghkjakaaDoorPkN
namespace Go.Proofs.YteigakkghkjakaaDoor
open Go.RowKit
set_option linter.unusedVariables false
set_option linter.unusedSimpArgs false
namespace Pk
open Utf (IsStr nums)

theorem str_yes (w : World) (hT : Lib.Utf8Tabs 0 1 w) (s : ByteArray) (h : Str s) : Calls Tryd.prog 69 #[.string s] w fun e w' => e = .returned (.bool true) ∧ Below w.heap.size w w' := by
  obtain ⟨l, h⟩ := h
  exact Utf.is_yes w hT s l h
theorem str_no (w : World) (hT : Lib.Utf8Tabs 0 1 w) (s : ByteArray) (h : ¬ Str s) : Calls Tryd.prog 69 #[.string s] w fun e w' => e = .returned (.bool false) ∧ Below w.heap.size w w' :=
  Utf.is_no w hT s (fun l hl => h ⟨l, hl⟩)
theorem empty_of {s : ByteArray} (h : s.size = 0) : s = ⟨#[]⟩ := by
  have : s.data = #[] := Array.eq_empty_of_size_eq_zero h
  cases s; cases this; rfl
theorem list_ne {s : ByteArray} (h : ¬ s.size = 0) : (s.toList == []) = false := by
  rw [ByteArray.toList_eq]
  cases he : s.data.toList with
  | nil => exact absurd (by show s.data.size = 0; rw [← Array.length_toList, he]; rfl) h
  | cons a b => rfl

theorem list_em {s : ByteArray} (h : s.size = 0) : (s.toList == []) = true := by
  rw [empty_of h, ByteArray.toList_eq]; rfl
theorem list_em2 {s : ByteArray} (h : s.size = 0) : s.toList.isEmpty = true := by
  rw [empty_of h, ByteArray.toList_eq]; rfl

abbrev conW (W : World) (g : Nat) : World := (((((((W.setCell ⟨g, 7, none⟩ (.string ⟨#[]⟩)).setCell ⟨g, 8, none⟩ (.bool false)).setCell ⟨g, 9, none⟩ (.int .i64 0)).setCell ⟨g, 10, none⟩ (.bool false)).setCell ⟨g, 11, none⟩ (.bool false)).setCell ⟨g, 12, none⟩ (.bool false)).setCell ⟨g, 13, none⟩ (.string ⟨#[]⟩)).setCell ⟨g, 14, none⟩ (.string ⟨#[]⟩)
theorem At.con {w W : World} {g : Nat} {p : Pkt} (h : At w W g p) : At w (conW W g) g p.noCon :=
  (((((((h.set 7 _ { p with client := ⟨#[]⟩ } rfl).set 8 _ { p with client := ⟨#[]⟩, clean := false } rfl).set 9 _ { p with client := ⟨#[]⟩, clean := false, alive := 0 } rfl).set 10 _ { p with client := ⟨#[]⟩, clean := false, alive := 0, will := false } rfl).set 11 _ { p with client := ⟨#[]⟩, clean := false, alive := 0, will := false, huser := false } rfl).set 12 _ { p with client := ⟨#[]⟩, clean := false, alive := 0, will := false, huser := false, hpass := false } rfl).set 13 _ { p with client := ⟨#[]⟩, clean := false, alive := 0, will := false, huser := false, hpass := false, user := ⟨#[]⟩ } rfl).set 14 _ p.noCon rfl


set_option maxRecDepth 100000 in
set_option maxHeartbeats 8000000 in
theorem check_connect_false (w : World) (hT : Lib.Utf8Tabs 0 1 w) (p : Pkt) (C : List Int) (D : List (ByteArray × Int)) (hF : Fit p) (h : p.ty = 1) (hw : p.will = false) : Calls Tryd.prog 45 #[.agg p.cells] w fun e w' => Checks w (Good p C D) e w' := by
  have hmf : ∀ (fn : Fn) (first cap : Array Value) (w : World), (Instr.makeFunc fn first cap).run Tryd.prog w = .ok (.func fn first cap) w := fun _ _ _ _ => rfl
  have ha : p.after = p.noCon := by
    unfold Pkt.after
    rw [h, hw]; rfl
  have hG : Hid (Good p C D ↔ ConOk p ∧ p.noCon.zero (rowLen p.codes) (rowLen p.subs) = true) := by
    unfold Good Ok
    rw [ha]
    exact ⟨fun x => ⟨x.2.2.1.1 h, x.2.2.2⟩, fun x => ⟨by omega, by omega, ⟨fun _ => x.1, by omega, by omega, by omega, by omega, by omega⟩, x.2⟩⟩
  have HF := Lib.hid hF
  have HT := Lib.hid hT
  have hA := at_box w p
  obtain ⟨W, hW⟩ : ∃ W, Hid (W = w.alloc (.cells p.cells PT)) := ⟨_, rfl⟩
  obtain ⟨g, hg⟩ : ∃ g, Hid (g = w.heap.size) := ⟨_, rfl⟩
  have h0 : (w.alloc (.cells p.cells PT)).cell? ⟨w.heap.size, 0, none⟩ = some (.int .i64 p.ty) := hA.at_.cell 0
  rw [← hW.out, ← hg.out] at hA
  have HA := Lib.hid hA
  have k7 : W.cell? ⟨g, 7, none⟩ = some (.string p.client) := hA.at_.cell 7
  clear hA hF ha hT
  go_enter Tryd.func45, Tryd.ntmps45
  go_wp2_with (fail)
  refine (within_yes _ _ _ _ (by omega)).mono ?_
  rintro e w1 ⟨rfl, rfl⟩
  rw [← hW.out, ← hg.out] at h0 ⊢
  rw [h] at h0
  go_wp2_with (fail)
  by_cases hcl : Str p.client
  · refine (str_yes W (HA.out.tabs HT.out) _ hcl).mono ?_
    rintro e W1 ⟨rfl, hb1⟩
    have H1 : Hid (At w W1 g p) := HA.out.old hb1
    have HCL := Lib.hid hcl
    have k13 : W1.cell? ⟨g, 13, none⟩ = some (.string p.user) := H1.out.at_.cell 13
    clear hb1 k7 h0 hcl
    go_wp2_with (fail)
    by_cases hus : Str p.user
    · refine (str_yes W1 (H1.out.tabs HT.out) _ hus).mono ?_
      rintro e W2 ⟨rfl, hb2⟩
      have H2 : Hid (At w W2 g p) := H1.out.old hb2
      have HUS := Lib.hid hus
      have m14 : W2.cell? ⟨g, 14, none⟩ = some (.string p.pass) := H2.out.at_.cell 14
      have m11 : W2.cell? ⟨g, 11, none⟩ = some (.bool p.huser) := H2.out.at_.cell 11
      have m12 : W2.cell? ⟨g, 12, none⟩ = some (.bool p.hpass) := H2.out.at_.cell 12
      have m9 : W2.cell? ⟨g, 9, none⟩ = some (.int .i64 p.alive) := H2.out.at_.cell 9
      have m10 : W2.cell? ⟨g, 10, none⟩ = some (.bool p.will) := H2.out.at_.cell 10
      rw [hw] at m10
      clear hb2 k13 hus
      by_cases hps : p.pass.size ≤ 65535
      · have d1 : decide ((p.pass.size : Int) ≤ 65535) = true := by simpa using (by omega : (p.pass.size : Int) ≤ 65535)
        have d2 : decide (p.pass.size ≤ 65535) = true := by simpa using hps
        have HPS := Lib.hid hps
        clear hps
        by_cases hhu : p.huser = true
        · rw [hhu] at m11
          by_cases hhp : p.hpass = true
          · rw [hhp] at m12
            go_wp2_with (fail)
            refine (need_yes _).mono ?_
            rintro e w' ⟨rfl, rfl⟩
            go_wp2_with (fail)
            by_cases hal : 0 ≤ p.alive ∧ p.alive ≤ 65535
            · refine (within_yes _ _ _ _ hal).mono ?_
              rintro e w' ⟨rfl, rfl⟩
              have HAL := Lib.hid hal
              clear hal
              have n7 : W2.cell? ⟨g, 7, none⟩ = some (.string p.client) := H2.out.at_.cell 7
              have f7 := H2.out.at_.frozen 7
              have n8 : W2.cell? ⟨g, 8, none⟩ = some (.bool p.clean) := H2.out.at_.cell 8
              have f8 := H2.out.at_.frozen 8
              have n9 : W2.cell? ⟨g, 9, none⟩ = some (.int .i64 p.alive) := H2.out.at_.cell 9
              have f9 := H2.out.at_.frozen 9
              have n10 : W2.cell? ⟨g, 10, none⟩ = some (.bool p.will) := H2.out.at_.cell 10
              have f10 := H2.out.at_.frozen 10
              have n11 : W2.cell? ⟨g, 11, none⟩ = some (.bool p.huser) := H2.out.at_.cell 11
              have f11 := H2.out.at_.frozen 11
              have n12 : W2.cell? ⟨g, 12, none⟩ = some (.bool p.hpass) := H2.out.at_.cell 12
              have f12 := H2.out.at_.frozen 12
              have n13 : W2.cell? ⟨g, 13, none⟩ = some (.string p.user) := H2.out.at_.cell 13
              have f13 := H2.out.at_.frozen 13
              have n14 : W2.cell? ⟨g, 14, none⟩ = some (.string p.pass) := H2.out.at_.cell 14
              have f14 := H2.out.at_.frozen 14
              rw [hhu] at n11
              rw [hhp] at n12
              rw [hw] at n10
              have HE : Hid (At w (conW W2 g) g p.noCon) := H2.out.con
              go_wp2_with (fail)
              refine (need_yes _).mono ?_
              rintro e w' ⟨rfl, rfl⟩
              go_upto_region 50 with (fail)
              exact zero_ends w _ g p _ C D HE.out HF.out.codes HF.out.subs (by show (0 : Nat) + 0 + 0 ≤ _; omega) ⟨fun x => (hG.out.1 x).2, fun x => hG.out.2 ⟨⟨HCL.out, HUS.out, HPS.out, .inl hhu, HAL.out.1, HAL.out.2, (fun y => by rw [hw] at y; cases y), .inl hhu, .inl hhp⟩, x⟩⟩ _ (by kernel_rfl) _ rfl rfl rfl
            · have HAL := Lib.hid hal
              refine (within_no _ _ _ _ hal).mono ?_
              rintro e w' ⟨rfl, rfl⟩
              go_wp2_with (fail)
              exact ⟨rfl, H2.out.below, .inr ⟨fun x => HAL.out ⟨(hG.out.1 x).1.2.2.2.2.1, (hG.out.1 x).1.2.2.2.2.2.1⟩, rfl⟩⟩
          · have hhp : p.hpass = false := by simpa using hhp
            rw [hhp] at m12
            go_wp2_with (fail)
            refine (need_yes _).mono ?_
            rintro e w' ⟨rfl, rfl⟩
            go_wp2_with (fail)
            by_cases hal : 0 ≤ p.alive ∧ p.alive ≤ 65535
            · refine (within_yes _ _ _ _ hal).mono ?_
              rintro e w' ⟨rfl, rfl⟩
              have HAL := Lib.hid hal
              clear hal
              have n7 : W2.cell? ⟨g, 7, none⟩ = some (.string p.client) := H2.out.at_.cell 7
              have f7 := H2.out.at_.frozen 7
              have n8 : W2.cell? ⟨g, 8, none⟩ = some (.bool p.clean) := H2.out.at_.cell 8
              have f8 := H2.out.at_.frozen 8
              have n9 : W2.cell? ⟨g, 9, none⟩ = some (.int .i64 p.alive) := H2.out.at_.cell 9
              have f9 := H2.out.at_.frozen 9
              have n10 : W2.cell? ⟨g, 10, none⟩ = some (.bool p.will) := H2.out.at_.cell 10
              have f10 := H2.out.at_.frozen 10
              have n11 : W2.cell? ⟨g, 11, none⟩ = some (.bool p.huser) := H2.out.at_.cell 11
              have f11 := H2.out.at_.frozen 11
              have n12 : W2.cell? ⟨g, 12, none⟩ = some (.bool p.hpass) := H2.out.at_.cell 12
              have f12 := H2.out.at_.frozen 12
              have n13 : W2.cell? ⟨g, 13, none⟩ = some (.string p.user) := H2.out.at_.cell 13
              have f13 := H2.out.at_.frozen 13
              have n14 : W2.cell? ⟨g, 14, none⟩ = some (.string p.pass) := H2.out.at_.cell 14
              have f14 := H2.out.at_.frozen 14
              rw [hhu] at n11
              rw [hhp] at n12
              rw [hw] at n10
              have HE : Hid (At w (conW W2 g) g p.noCon) := H2.out.con
              by_cases hp0 : p.pass.size = 0
              · have HP0 := Lib.hid hp0
                have ep := list_em hp0
                have ep2 := list_em2 hp0
                clear hp0
                go_wp2_with (fail)
                refine (need_yes _).mono ?_
                rintro e w' ⟨rfl, rfl⟩
                go_upto_region 50 with (fail)
                exact zero_ends w _ g p _ C D HE.out HF.out.codes HF.out.subs (by show (0 : Nat) + 0 + 0 ≤ _; omega) ⟨fun x => (hG.out.1 x).2, fun x => hG.out.2 ⟨⟨HCL.out, HUS.out, HPS.out, .inl hhu, HAL.out.1, HAL.out.2, (fun y => by rw [hw] at y; cases y), .inl hhu, .inr HP0.out⟩, x⟩⟩ _ (by kernel_rfl) _ rfl rfl rfl
              · have HP0 := Lib.hid hp0
                have e0 := list_ne hp0
                clear hp0
                go_wp2_with (fail)
                refine (need_no _).mono ?_
                rintro e w' ⟨rfl, rfl⟩
                go_wp2_with (fail)
                exact ⟨rfl, H2.out.below, .inr ⟨fun x => (by
                    rcases (hG.out.1 x).1.2.2.2.2.2.2.2.2 with y | y
                    · rw [hhp] at y; cases y
                    · exact HP0.out y), rfl⟩⟩
            · have HAL := Lib.hid hal
              refine (within_no _ _ _ _ hal).mono ?_
              rintro e w' ⟨rfl, rfl⟩
              go_wp2_with (fail)
              exact ⟨rfl, H2.out.below, .inr ⟨fun x => HAL.out ⟨(hG.out.1 x).1.2.2.2.2.1, (hG.out.1 x).1.2.2.2.2.2.1⟩, rfl⟩⟩
        · have hhu : p.huser = false := by simpa using hhu
          rw [hhu] at m11
          by_cases hhp : p.hpass = false
          · rw [hhp] at m12
            go_wp2_with (fail)
            refine (need_yes _).mono ?_
            rintro e w' ⟨rfl, rfl⟩
            go_wp2_with (fail)
            by_cases hal : 0 ≤ p.alive ∧ p.alive ≤ 65535
            · refine (within_yes _ _ _ _ hal).mono ?_
              rintro e w' ⟨rfl, rfl⟩
              have HAL := Lib.hid hal
              clear hal
              have n7 : W2.cell? ⟨g, 7, none⟩ = some (.string p.client) := H2.out.at_.cell 7
              have f7 := H2.out.at_.frozen 7
              have n8 : W2.cell? ⟨g, 8, none⟩ = some (.bool p.clean) := H2.out.at_.cell 8
              have f8 := H2.out.at_.frozen 8
              have n9 : W2.cell? ⟨g, 9, none⟩ = some (.int .i64 p.alive) := H2.out.at_.cell 9
              have f9 := H2.out.at_.frozen 9
              have n10 : W2.cell? ⟨g, 10, none⟩ = some (.bool p.will) := H2.out.at_.cell 10
              have f10 := H2.out.at_.frozen 10
              have n11 : W2.cell? ⟨g, 11, none⟩ = some (.bool p.huser) := H2.out.at_.cell 11
              have f11 := H2.out.at_.frozen 11
              have n12 : W2.cell? ⟨g, 12, none⟩ = some (.bool p.hpass) := H2.out.at_.cell 12
              have f12 := H2.out.at_.frozen 12
              have n13 : W2.cell? ⟨g, 13, none⟩ = some (.string p.user) := H2.out.at_.cell 13
              have f13 := H2.out.at_.frozen 13
              have n14 : W2.cell? ⟨g, 14, none⟩ = some (.string p.pass) := H2.out.at_.cell 14
              have f14 := H2.out.at_.frozen 14
              rw [hhu] at n11
              rw [hhp] at n12
              rw [hw] at n10
              have HE : Hid (At w (conW W2 g) g p.noCon) := H2.out.con
              by_cases hu0 : p.user.size = 0
              · have HU0 := Lib.hid hu0
                have eu := list_em hu0
                have eu2 := list_em2 hu0
                clear hu0
                by_cases hp0 : p.pass.size = 0
                · have HP0 := Lib.hid hp0
                  have ep := list_em hp0
                  have ep2 := list_em2 hp0
                  clear hp0
                  go_wp2_with (fail)
                  refine (need_yes _).mono ?_
                  rintro e w' ⟨rfl, rfl⟩
                  go_upto_region 50 with (fail)
                  exact zero_ends w _ g p _ C D HE.out HF.out.codes HF.out.subs (by show (0 : Nat) + 0 + 0 ≤ _; omega) ⟨fun x => (hG.out.1 x).2, fun x => hG.out.2 ⟨⟨HCL.out, HUS.out, HPS.out, .inr hhp, HAL.out.1, HAL.out.2, (fun y => by rw [hw] at y; cases y), .inr HU0.out, .inr HP0.out⟩, x⟩⟩ _ (by kernel_rfl) _ rfl rfl rfl
                · have HP0 := Lib.hid hp0
                  have e0 := list_ne hp0
                  clear hp0
                  go_wp2_with (fail)
                  refine (need_no _).mono ?_
                  rintro e w' ⟨rfl, rfl⟩
                  go_wp2_with (fail)
                  exact ⟨rfl, H2.out.below, .inr ⟨fun x => (by
                      rcases (hG.out.1 x).1.2.2.2.2.2.2.2.2 with y | y
                      · rw [hhp] at y; cases y
                      · exact HP0.out y), rfl⟩⟩
              · have HU0 := Lib.hid hu0
                have e0 := list_ne hu0
                clear hu0
                go_wp2_with (fail)
                refine (need_no _).mono ?_
                rintro e w' ⟨rfl, rfl⟩
                go_wp2_with (fail)
                exact ⟨rfl, H2.out.below, .inr ⟨fun x => (by
                    rcases (hG.out.1 x).1.2.2.2.2.2.2.2.1 with y | y
                    · rw [hhu] at y; cases y
                    · exact HU0.out y), rfl⟩⟩
            · have HAL := Lib.hid hal
              refine (within_no _ _ _ _ hal).mono ?_
              rintro e w' ⟨rfl, rfl⟩
              go_wp2_with (fail)
              exact ⟨rfl, H2.out.below, .inr ⟨fun x => HAL.out ⟨(hG.out.1 x).1.2.2.2.2.1, (hG.out.1 x).1.2.2.2.2.2.1⟩, rfl⟩⟩
          · have hhp : p.hpass = true := by simpa using hhp
            rw [hhp] at m12
            go_wp2_with (fail)
            refine (need_no _).mono ?_
            rintro e w' ⟨rfl, rfl⟩
            go_wp2_with (fail)
            exact ⟨rfl, H2.out.below, .inr ⟨fun x => (by
                rcases (hG.out.1 x).1.2.2.2.1 with y | y
                · rw [hhu] at y; cases y
                · rw [hhp] at y; cases y), rfl⟩⟩
      · have d1 : decide ((p.pass.size : Int) ≤ 65535) = false := by simpa using (by omega : ¬ (p.pass.size : Int) ≤ 65535)
        have d2 : decide (p.pass.size ≤ 65535) = false := by simpa using hps
        have HPS := Lib.hid hps
        clear hps
        go_wp2_with (fail)
        refine (need_no _).mono ?_
        rintro e w' ⟨rfl, rfl⟩
        go_wp2_with (fail)
        exact ⟨rfl, H2.out.below, .inr ⟨fun x => HPS.out ((hG.out.1 x).1.2.2.1), rfl⟩⟩
    · refine (str_no W1 (H1.out.tabs HT.out) _ hus).mono ?_
      rintro e W2 ⟨rfl, hb2⟩
      have H2 : Hid (At w W2 g p) := H1.out.old hb2
      have HUS := Lib.hid hus
      clear hb2 hus
      go_wp2_with (fail)
      refine (need_no _).mono ?_
      rintro e w' ⟨rfl, rfl⟩
      go_wp2_with (fail)
      exact ⟨rfl, H2.out.below, .inr ⟨fun x => HUS.out ((hG.out.1 x).1.2.1), rfl⟩⟩
  · refine (str_no W (HA.out.tabs HT.out) _ hcl).mono ?_
    rintro e W1 ⟨rfl, hb1⟩
    have H1 : Hid (At w W1 g p) := HA.out.old hb1
    have HCL := Lib.hid hcl
    clear hb1 hcl
    go_wp2_with (fail)
    refine (need_no _).mono ?_
    rintro e w' ⟨rfl, rfl⟩
    go_wp2_with (fail)
    exact ⟨rfl, H1.out.below, .inr ⟨fun x => HCL.out ((hG.out.1 x).1.1), rfl⟩⟩

set_option maxRecDepth 100000 in
set_option maxHeartbeats 8000000 in
theorem check_connect_true (w : World) (hT : Lib.Utf8Tabs 0 1 w) (p : Pkt) (C : List Int) (D : List (ByteArray × Int)) (hF : Fit p) (h : p.ty = 1) (hw : p.will = true) : Calls Tryd.prog 45 #[.agg p.cells] w fun e w' => Checks w (Good p C D) e w' := by
  have hmf : ∀ (fn : Fn) (first cap : Array Value) (w : World), (Instr.makeFunc fn first cap).run Tryd.prog w = .ok (.func fn first cap) w := fun _ _ _ _ => rfl
  have ha : p.after = p.noMsg.noCon := by
    unfold Pkt.after
    rw [h, hw]; rfl
  have hG : Hid (Good p C D ↔ ConOk p ∧ p.noMsg.noCon.zero (rowLen p.codes) (rowLen p.subs) = true) := by
    unfold Good Ok
    rw [ha]
    exact ⟨fun x => ⟨x.2.2.1.1 h, x.2.2.2⟩, fun x => ⟨by omega, by omega, ⟨fun _ => x.1, by omega, by omega, by omega, by omega, by omega⟩, x.2⟩⟩
  have HF := Lib.hid hF
  have HT := Lib.hid hT
  have hA := at_box w p
  obtain ⟨W, hW⟩ : ∃ W, Hid (W = w.alloc (.cells p.cells PT)) := ⟨_, rfl⟩
  obtain ⟨g, hg⟩ : ∃ g, Hid (g = w.heap.size) := ⟨_, rfl⟩
  have h0 : (w.alloc (.cells p.cells PT)).cell? ⟨w.heap.size, 0, none⟩ = some (.int .i64 p.ty) := hA.at_.cell 0
  rw [← hW.out, ← hg.out] at hA
  have HA := Lib.hid hA
  have k7 : W.cell? ⟨g, 7, none⟩ = some (.string p.client) := hA.at_.cell 7
  clear hA hF ha hT
  go_enter Tryd.func45, Tryd.ntmps45
  go_wp2_with (fail)
  refine (within_yes _ _ _ _ (by omega)).mono ?_
  rintro e w1 ⟨rfl, rfl⟩
  rw [← hW.out, ← hg.out] at h0 ⊢
  rw [h] at h0
  go_wp2_with (fail)
  by_cases hcl : Str p.client
  · refine (str_yes W (HA.out.tabs HT.out) _ hcl).mono ?_
    rintro e W1 ⟨rfl, hb1⟩
    have H1 : Hid (At w W1 g p) := HA.out.old hb1
    have HCL := Lib.hid hcl
    have k13 : W1.cell? ⟨g, 13, none⟩ = some (.string p.user) := H1.out.at_.cell 13
    clear hb1 k7 h0 hcl
    go_wp2_with (fail)
    by_cases hus : Str p.user
    · refine (str_yes W1 (H1.out.tabs HT.out) _ hus).mono ?_
      rintro e W2 ⟨rfl, hb2⟩
      have H2 : Hid (At w W2 g p) := H1.out.old hb2
      have HUS := Lib.hid hus
      have m14 : W2.cell? ⟨g, 14, none⟩ = some (.string p.pass) := H2.out.at_.cell 14
      have m11 : W2.cell? ⟨g, 11, none⟩ = some (.bool p.huser) := H2.out.at_.cell 11
      have m12 : W2.cell? ⟨g, 12, none⟩ = some (.bool p.hpass) := H2.out.at_.cell 12
      have m9 : W2.cell? ⟨g, 9, none⟩ = some (.int .i64 p.alive) := H2.out.at_.cell 9
      have m10 : W2.cell? ⟨g, 10, none⟩ = some (.bool p.will) := H2.out.at_.cell 10
      rw [hw] at m10
      clear hb2 k13 hus
      by_cases hps : p.pass.size ≤ 65535
      · have d1 : decide ((p.pass.size : Int) ≤ 65535) = true := by simpa using (by omega : (p.pass.size : Int) ≤ 65535)
        have d2 : decide (p.pass.size ≤ 65535) = true := by simpa using hps
        have HPS := Lib.hid hps
        clear hps
        by_cases hhu : p.huser = true
        · rw [hhu] at m11
          by_cases hhp : p.hpass = true
          · rw [hhp] at m12
            go_wp2_with (fail)
            refine (need_yes _).mono ?_
            rintro e w' ⟨rfl, rfl⟩
            go_wp2_with (fail)
            by_cases hal : 0 ≤ p.alive ∧ p.alive ≤ 65535
            · refine (within_yes _ _ _ _ hal).mono ?_
              rintro e w' ⟨rfl, rfl⟩
              have HAL := Lib.hid hal
              clear hal
              have m4 : W2.cell? ⟨g, 4, none⟩ = some (.string p.payload) := H2.out.at_.cell 4
              by_cases hpl : p.payload.size ≤ 65535
              · have d3 : decide ((p.payload.size : Int) ≤ 65535) = true := by simpa using (by omega : (p.payload.size : Int) ≤ 65535)
                have d4 : decide (p.payload.size ≤ 65535) = true := by simpa using hpl
                have HPL := Lib.hid hpl
                clear hpl
                go_wp2_with (fail)
                refine (need_yes _).mono ?_
                rintro e w' ⟨rfl, rfl⟩
                go_wp2_with (fail)
                refine (message_calls _ (H2.out.tabs HT.out) g _ H2.out.at_).mono ?_
                rintro e W3 ⟨ht, (⟨hi, rfl, hpk⟩ | ⟨hi, rfl⟩)⟩
                · have H3 : Hid (At w W3 g p.noMsg) := H2.out.turn ht hpk
                  have HM := Lib.hid hi
                  clear ht hpk hi m4 m9 m10 m11 m12 m14 d1 d2 d3 d4
                  have n7 : W3.cell? ⟨g, 7, none⟩ = some (.string p.client) := H3.out.at_.cell 7
                  have f7 := H3.out.at_.frozen 7
                  have n8 : W3.cell? ⟨g, 8, none⟩ = some (.bool p.clean) := H3.out.at_.cell 8
                  have f8 := H3.out.at_.frozen 8
                  have n9 : W3.cell? ⟨g, 9, none⟩ = some (.int .i64 p.alive) := H3.out.at_.cell 9
                  have f9 := H3.out.at_.frozen 9
                  have n10 : W3.cell? ⟨g, 10, none⟩ = some (.bool p.will) := H3.out.at_.cell 10
                  have f10 := H3.out.at_.frozen 10
                  have n11 : W3.cell? ⟨g, 11, none⟩ = some (.bool p.huser) := H3.out.at_.cell 11
                  have f11 := H3.out.at_.frozen 11
                  have n12 : W3.cell? ⟨g, 12, none⟩ = some (.bool p.hpass) := H3.out.at_.cell 12
                  have f12 := H3.out.at_.frozen 12
                  have n13 : W3.cell? ⟨g, 13, none⟩ = some (.string p.user) := H3.out.at_.cell 13
                  have f13 := H3.out.at_.frozen 13
                  have n14 : W3.cell? ⟨g, 14, none⟩ = some (.string p.pass) := H3.out.at_.cell 14
                  have f14 := H3.out.at_.frozen 14
                  rw [hhu] at n11
                  rw [hhp] at n12
                  rw [hw] at n10
                  have HE : Hid (At w (conW W3 g) g p.noMsg.noCon) := H3.out.con
                  go_wp2_with (fail)
                  refine (need_yes _).mono ?_
                  rintro e w' ⟨rfl, rfl⟩
                  go_upto_region 50 with (fail)
                  exact zero_ends w _ g p _ C D HE.out HF.out.codes HF.out.subs (by show (0 : Nat) + 0 + 0 ≤ _; omega) ⟨fun x => (hG.out.1 x).2, fun x => hG.out.2 ⟨⟨HCL.out, HUS.out, HPS.out, .inl hhu, HAL.out.1, HAL.out.2, (fun _ => ⟨HPL.out, HM.out⟩), .inl hhu, .inl hhp⟩, x⟩⟩ _ (by kernel_rfl) _ rfl rfl rfl
                · have H3 : Hid (Below w.heap.size w W3) := H2.out.fail ht
                  have HM := Lib.hid hi
                  clear ht hi
                  go_wp2_with (fail)
                  exact ⟨rfl, H3.out, .inr ⟨fun x => HM.out ((hG.out.1 x).1.2.2.2.2.2.2.1 hw).2, rfl⟩⟩
              · have d3 : decide ((p.payload.size : Int) ≤ 65535) = false := by simpa using (by omega : ¬ (p.payload.size : Int) ≤ 65535)
                have d4 : decide (p.payload.size ≤ 65535) = false := by simpa using hpl
                have HPL := Lib.hid hpl
                clear hpl
                go_wp2_with (fail)
                refine (need_no _).mono ?_
                rintro e w' ⟨rfl, rfl⟩
                go_wp2_with (fail)
                exact ⟨rfl, H2.out.below, .inr ⟨fun x => HPL.out ((hG.out.1 x).1.2.2.2.2.2.2.1 hw).1, rfl⟩⟩
            · have HAL := Lib.hid hal
              refine (within_no _ _ _ _ hal).mono ?_
              rintro e w' ⟨rfl, rfl⟩
              go_wp2_with (fail)
              exact ⟨rfl, H2.out.below, .inr ⟨fun x => HAL.out ⟨(hG.out.1 x).1.2.2.2.2.1, (hG.out.1 x).1.2.2.2.2.2.1⟩, rfl⟩⟩
          · have hhp : p.hpass = false := by simpa using hhp
            rw [hhp] at m12
            go_wp2_with (fail)
            refine (need_yes _).mono ?_
            rintro e w' ⟨rfl, rfl⟩
            go_wp2_with (fail)
            by_cases hal : 0 ≤ p.alive ∧ p.alive ≤ 65535
            · refine (within_yes _ _ _ _ hal).mono ?_
              rintro e w' ⟨rfl, rfl⟩
              have HAL := Lib.hid hal
              clear hal
              have m4 : W2.cell? ⟨g, 4, none⟩ = some (.string p.payload) := H2.out.at_.cell 4
              by_cases hpl : p.payload.size ≤ 65535
              · have d3 : decide ((p.payload.size : Int) ≤ 65535) = true := by simpa using (by omega : (p.payload.size : Int) ≤ 65535)
                have d4 : decide (p.payload.size ≤ 65535) = true := by simpa using hpl
                have HPL := Lib.hid hpl
                clear hpl
                go_wp2_with (fail)
                refine (need_yes _).mono ?_
                rintro e w' ⟨rfl, rfl⟩
                go_wp2_with (fail)
                refine (message_calls _ (H2.out.tabs HT.out) g _ H2.out.at_).mono ?_
                rintro e W3 ⟨ht, (⟨hi, rfl, hpk⟩ | ⟨hi, rfl⟩)⟩
                · have H3 : Hid (At w W3 g p.noMsg) := H2.out.turn ht hpk
                  have HM := Lib.hid hi
                  clear ht hpk hi m4 m9 m10 m11 m12 m14 d1 d2 d3 d4
                  have n7 : W3.cell? ⟨g, 7, none⟩ = some (.string p.client) := H3.out.at_.cell 7
                  have f7 := H3.out.at_.frozen 7
                  have n8 : W3.cell? ⟨g, 8, none⟩ = some (.bool p.clean) := H3.out.at_.cell 8
                  have f8 := H3.out.at_.frozen 8
                  have n9 : W3.cell? ⟨g, 9, none⟩ = some (.int .i64 p.alive) := H3.out.at_.cell 9
                  have f9 := H3.out.at_.frozen 9
                  have n10 : W3.cell? ⟨g, 10, none⟩ = some (.bool p.will) := H3.out.at_.cell 10
                  have f10 := H3.out.at_.frozen 10
                  have n11 : W3.cell? ⟨g, 11, none⟩ = some (.bool p.huser) := H3.out.at_.cell 11
                  have f11 := H3.out.at_.frozen 11
                  have n12 : W3.cell? ⟨g, 12, none⟩ = some (.bool p.hpass) := H3.out.at_.cell 12
                  have f12 := H3.out.at_.frozen 12
                  have n13 : W3.cell? ⟨g, 13, none⟩ = some (.string p.user) := H3.out.at_.cell 13
                  have f13 := H3.out.at_.frozen 13
                  have n14 : W3.cell? ⟨g, 14, none⟩ = some (.string p.pass) := H3.out.at_.cell 14
                  have f14 := H3.out.at_.frozen 14
                  rw [hhu] at n11
                  rw [hhp] at n12
                  rw [hw] at n10
                  have HE : Hid (At w (conW W3 g) g p.noMsg.noCon) := H3.out.con
                  by_cases hp0 : p.pass.size = 0
                  · have HP0 := Lib.hid hp0
                    have ep := list_em hp0
                    have ep2 := list_em2 hp0
                    clear hp0
                    go_wp2_with (fail)
                    refine (need_yes _).mono ?_
                    rintro e w' ⟨rfl, rfl⟩
                    go_upto_region 50 with (fail)
                    exact zero_ends w _ g p _ C D HE.out HF.out.codes HF.out.subs (by show (0 : Nat) + 0 + 0 ≤ _; omega) ⟨fun x => (hG.out.1 x).2, fun x => hG.out.2 ⟨⟨HCL.out, HUS.out, HPS.out, .inl hhu, HAL.out.1, HAL.out.2, (fun _ => ⟨HPL.out, HM.out⟩), .inl hhu, .inr HP0.out⟩, x⟩⟩ _ (by kernel_rfl) _ rfl rfl rfl
                  · have HP0 := Lib.hid hp0
                    have e0 := list_ne hp0
                    clear hp0
                    go_wp2_with (fail)
                    refine (need_no _).mono ?_
                    rintro e w' ⟨rfl, rfl⟩
                    go_wp2_with (fail)
                    exact ⟨rfl, H3.out.below, .inr ⟨fun x => (by
                        rcases (hG.out.1 x).1.2.2.2.2.2.2.2.2 with y | y
                        · rw [hhp] at y; cases y
                        · exact HP0.out y), rfl⟩⟩
                · have H3 : Hid (Below w.heap.size w W3) := H2.out.fail ht
                  have HM := Lib.hid hi
                  clear ht hi
                  go_wp2_with (fail)
                  exact ⟨rfl, H3.out, .inr ⟨fun x => HM.out ((hG.out.1 x).1.2.2.2.2.2.2.1 hw).2, rfl⟩⟩
              · have d3 : decide ((p.payload.size : Int) ≤ 65535) = false := by simpa using (by omega : ¬ (p.payload.size : Int) ≤ 65535)
                have d4 : decide (p.payload.size ≤ 65535) = false := by simpa using hpl
                have HPL := Lib.hid hpl
                clear hpl
                go_wp2_with (fail)
                refine (need_no _).mono ?_
                rintro e w' ⟨rfl, rfl⟩
                go_wp2_with (fail)
                exact ⟨rfl, H2.out.below, .inr ⟨fun x => HPL.out ((hG.out.1 x).1.2.2.2.2.2.2.1 hw).1, rfl⟩⟩
            · have HAL := Lib.hid hal
              refine (within_no _ _ _ _ hal).mono ?_
              rintro e w' ⟨rfl, rfl⟩
              go_wp2_with (fail)
              exact ⟨rfl, H2.out.below, .inr ⟨fun x => HAL.out ⟨(hG.out.1 x).1.2.2.2.2.1, (hG.out.1 x).1.2.2.2.2.2.1⟩, rfl⟩⟩
        · have hhu : p.huser = false := by simpa using hhu
          rw [hhu] at m11
          by_cases hhp : p.hpass = false
          · rw [hhp] at m12
            go_wp2_with (fail)
            refine (need_yes _).mono ?_
            rintro e w' ⟨rfl, rfl⟩
            go_wp2_with (fail)
            by_cases hal : 0 ≤ p.alive ∧ p.alive ≤ 65535
            · refine (within_yes _ _ _ _ hal).mono ?_
              rintro e w' ⟨rfl, rfl⟩
              have HAL := Lib.hid hal
              clear hal
              have m4 : W2.cell? ⟨g, 4, none⟩ = some (.string p.payload) := H2.out.at_.cell 4
              by_cases hpl : p.payload.size ≤ 65535
              · have d3 : decide ((p.payload.size : Int) ≤ 65535) = true := by simpa using (by omega : (p.payload.size : Int) ≤ 65535)
                have d4 : decide (p.payload.size ≤ 65535) = true := by simpa using hpl
                have HPL := Lib.hid hpl
                clear hpl
                go_wp2_with (fail)
                refine (need_yes _).mono ?_
                rintro e w' ⟨rfl, rfl⟩
                go_wp2_with (fail)
                refine (message_calls _ (H2.out.tabs HT.out) g _ H2.out.at_).mono ?_
                rintro e W3 ⟨ht, (⟨hi, rfl, hpk⟩ | ⟨hi, rfl⟩)⟩
                · have H3 : Hid (At w W3 g p.noMsg) := H2.out.turn ht hpk
                  have HM := Lib.hid hi
                  clear ht hpk hi m4 m9 m10 m11 m12 m14 d1 d2 d3 d4
                  have n7 : W3.cell? ⟨g, 7, none⟩ = some (.string p.client) := H3.out.at_.cell 7
                  have f7 := H3.out.at_.frozen 7
                  have n8 : W3.cell? ⟨g, 8, none⟩ = some (.bool p.clean) := H3.out.at_.cell 8
                  have f8 := H3.out.at_.frozen 8
                  have n9 : W3.cell? ⟨g, 9, none⟩ = some (.int .i64 p.alive) := H3.out.at_.cell 9
                  have f9 := H3.out.at_.frozen 9
                  have n10 : W3.cell? ⟨g, 10, none⟩ = some (.bool p.will) := H3.out.at_.cell 10
                  have f10 := H3.out.at_.frozen 10
                  have n11 : W3.cell? ⟨g, 11, none⟩ = some (.bool p.huser) := H3.out.at_.cell 11
                  have f11 := H3.out.at_.frozen 11
                  have n12 : W3.cell? ⟨g, 12, none⟩ = some (.bool p.hpass) := H3.out.at_.cell 12
                  have f12 := H3.out.at_.frozen 12
                  have n13 : W3.cell? ⟨g, 13, none⟩ = some (.string p.user) := H3.out.at_.cell 13
                  have f13 := H3.out.at_.frozen 13
                  have n14 : W3.cell? ⟨g, 14, none⟩ = some (.string p.pass) := H3.out.at_.cell 14
                  have f14 := H3.out.at_.frozen 14
                  rw [hhu] at n11
                  rw [hhp] at n12
                  rw [hw] at n10
                  have HE : Hid (At w (conW W3 g) g p.noMsg.noCon) := H3.out.con
                  by_cases hu0 : p.user.size = 0
                  · have HU0 := Lib.hid hu0
                    have eu := list_em hu0
                    have eu2 := list_em2 hu0
                    clear hu0
                    by_cases hp0 : p.pass.size = 0
                    · have HP0 := Lib.hid hp0
                      have ep := list_em hp0
                      have ep2 := list_em2 hp0
                      clear hp0
                      go_wp2_with (fail)
                      refine (need_yes _).mono ?_
                      rintro e w' ⟨rfl, rfl⟩
                      go_upto_region 50 with (fail)
                      exact zero_ends w _ g p _ C D HE.out HF.out.codes HF.out.subs (by show (0 : Nat) + 0 + 0 ≤ _; omega) ⟨fun x => (hG.out.1 x).2, fun x => hG.out.2 ⟨⟨HCL.out, HUS.out, HPS.out, .inr hhp, HAL.out.1, HAL.out.2, (fun _ => ⟨HPL.out, HM.out⟩), .inr HU0.out, .inr HP0.out⟩, x⟩⟩ _ (by kernel_rfl) _ rfl rfl rfl
                    · have HP0 := Lib.hid hp0
                      have e0 := list_ne hp0
                      clear hp0
                      go_wp2_with (fail)
                      refine (need_no _).mono ?_
                      rintro e w' ⟨rfl, rfl⟩
                      go_wp2_with (fail)
                      exact ⟨rfl, H3.out.below, .inr ⟨fun x => (by
                          rcases (hG.out.1 x).1.2.2.2.2.2.2.2.2 with y | y
                          · rw [hhp] at y; cases y
                          · exact HP0.out y), rfl⟩⟩
                  · have HU0 := Lib.hid hu0
                    have e0 := list_ne hu0
                    clear hu0
                    go_wp2_with (fail)
                    refine (need_no _).mono ?_
                    rintro e w' ⟨rfl, rfl⟩
                    go_wp2_with (fail)
                    exact ⟨rfl, H3.out.below, .inr ⟨fun x => (by
                        rcases (hG.out.1 x).1.2.2.2.2.2.2.2.1 with y | y
                        · rw [hhu] at y; cases y
                        · exact HU0.out y), rfl⟩⟩
                · have H3 : Hid (Below w.heap.size w W3) := H2.out.fail ht
                  have HM := Lib.hid hi
                  clear ht hi
                  go_wp2_with (fail)
                  exact ⟨rfl, H3.out, .inr ⟨fun x => HM.out ((hG.out.1 x).1.2.2.2.2.2.2.1 hw).2, rfl⟩⟩
              · have d3 : decide ((p.payload.size : Int) ≤ 65535) = false := by simpa using (by omega : ¬ (p.payload.size : Int) ≤ 65535)
                have d4 : decide (p.payload.size ≤ 65535) = false := by simpa using hpl
                have HPL := Lib.hid hpl
                clear hpl
                go_wp2_with (fail)
                refine (need_no _).mono ?_
                rintro e w' ⟨rfl, rfl⟩
                go_wp2_with (fail)
                exact ⟨rfl, H2.out.below, .inr ⟨fun x => HPL.out ((hG.out.1 x).1.2.2.2.2.2.2.1 hw).1, rfl⟩⟩
            · have HAL := Lib.hid hal
              refine (within_no _ _ _ _ hal).mono ?_
              rintro e w' ⟨rfl, rfl⟩
              go_wp2_with (fail)
              exact ⟨rfl, H2.out.below, .inr ⟨fun x => HAL.out ⟨(hG.out.1 x).1.2.2.2.2.1, (hG.out.1 x).1.2.2.2.2.2.1⟩, rfl⟩⟩
          · have hhp : p.hpass = true := by simpa using hhp
            rw [hhp] at m12
            go_wp2_with (fail)
            refine (need_no _).mono ?_
            rintro e w' ⟨rfl, rfl⟩
            go_wp2_with (fail)
            exact ⟨rfl, H2.out.below, .inr ⟨fun x => (by
                rcases (hG.out.1 x).1.2.2.2.1 with y | y
                · rw [hhu] at y; cases y
                · rw [hhp] at y; cases y), rfl⟩⟩
      · have d1 : decide ((p.pass.size : Int) ≤ 65535) = false := by simpa using (by omega : ¬ (p.pass.size : Int) ≤ 65535)
        have d2 : decide (p.pass.size ≤ 65535) = false := by simpa using hps
        have HPS := Lib.hid hps
        clear hps
        go_wp2_with (fail)
        refine (need_no _).mono ?_
        rintro e w' ⟨rfl, rfl⟩
        go_wp2_with (fail)
        exact ⟨rfl, H2.out.below, .inr ⟨fun x => HPS.out ((hG.out.1 x).1.2.2.1), rfl⟩⟩
    · refine (str_no W1 (H1.out.tabs HT.out) _ hus).mono ?_
      rintro e W2 ⟨rfl, hb2⟩
      have H2 : Hid (At w W2 g p) := H1.out.old hb2
      have HUS := Lib.hid hus
      clear hb2 hus
      go_wp2_with (fail)
      refine (need_no _).mono ?_
      rintro e w' ⟨rfl, rfl⟩
      go_wp2_with (fail)
      exact ⟨rfl, H2.out.below, .inr ⟨fun x => HUS.out ((hG.out.1 x).1.2.1), rfl⟩⟩
  · refine (str_no W (HA.out.tabs HT.out) _ hcl).mono ?_
    rintro e W1 ⟨rfl, hb1⟩
    have H1 : Hid (At w W1 g p) := HA.out.old hb1
    have HCL := Lib.hid hcl
    clear hb1 hcl
    go_wp2_with (fail)
    refine (need_no _).mono ?_
    rintro e w' ⟨rfl, rfl⟩
    go_wp2_with (fail)
    exact ⟨rfl, H1.out.below, .inr ⟨fun x => HCL.out ((hG.out.1 x).1.1), rfl⟩⟩
end Pk
end Go.Proofs.YteigakkghkjakaaDoor

/- stream: the document's examples; StreamNil. -/
import Derived.Test.YteigakkghkjakaaDoorStD
namespace Go.Proofs.YteigakkghkjakaaDoor
open Go.RowKit Go.ChangeShapes
set_option linter.unusedVariables false
set_option linter.unusedSimpArgs false
namespace Str
open Utf (nums nums_length nums_bytes IsStr nums_str)
open Var (BT info_byte digs digs_length tell RetTell)
open Pk

theorem is_224 : IsPkt [224, 0] (typeP 14) [] [] := by
  refine ⟨⟨rfl, rfl⟩, ⟨⟨by decide, by decide, ⟨fun h => absurd h (by decide), fun h => absurd h (by decide), fun h => absurd h (by decide), fun _ h => absurd h (by decide), fun h => absurd h (by decide), fun h => absurd h (by decide)⟩, ?_⟩, by decide⟩, by decide⟩
  exact (zero_iff _ _ _).2 ⟨⟨rfl, rfl, rfl, rfl⟩, rfl, rfl, rfl, rfl, ⟨rfl, rfl, rfl⟩, rfl, rfl, rfl, rfl, rfl, rfl⟩
theorem step_more {most : Int} {R : List Int} (h : tell 4 true R 1 0 1 = (0, 0, 7)) : stepS most R IsP = .inr 0 := by
  unfold stepS; rw [h]; rfl
theorem step_big {most : Int} {R : List Int} {n k : Int} (h : tell 4 true R 1 0 1 = (n, k, 0)) (hb : most < k + n) : stepS most R IsP = .inr 101 := by
  unfold stepS; rw [h]; simp only; rw [if_neg (by decide), if_neg (by decide), if_pos hb]
theorem step_pkt {most : Int} {R : List Int} {n k : Int} (h : tell 4 true R 1 0 1 = (n, k, 0)) (hb : ¬ most < k + n) (hl : ¬ (R.length : Int) < k + n) (hp : IsP (R.take (k + n).toNat)) : stepS most R IsP = .inl (k + n).toNat := by
  unfold stepS; rw [h]; simp only; rw [if_neg (by decide), if_neg (by decide), if_neg hb, if_neg hl, if_pos hp]
theorem step_bad {most : Int} {R : List Int} {n k : Int} (h : tell 4 true R 1 0 1 = (n, k, 0)) (hb : ¬ most < k + n) (hl : ¬ (R.length : Int) < k + n) (hp : ¬ IsP (R.take (k + n).toNat)) : stepS most R IsP = .inr 100 := by
  unfold stepS; rw [h]; simp only; rw [if_neg (by decide), if_neg (by decide), if_neg hb, if_neg hl, if_neg hp]
theorem ip1 : IsP [192, 0] := ⟨_, _, _, is_ping⟩
theorem ip2 : IsP [224, 0] := ⟨_, _, _, is_224⟩
theorem ip3 : ¬ IsP [193, 0] := fun ⟨p, C, D, h⟩ => not_193 p C D h
theorem c1 : cuts 100 2 [192] = ([], 0, [192]) := by rw [cuts_inr (step_more (by decide))]; rfl
theorem c2 : cuts 100 5 [192, 0, 224, 0] = ([[192, 0], [224, 0]], 0, []) := by
  have h1 : stepS 100 [192, 0, 224, 0] IsP = .inl 2 := step_pkt (n := 0) (k := 2) (by decide) (by decide) (by decide) ip1
  have h2 : stepS 100 [224, 0] IsP = .inl 2 := step_pkt (n := 0) (k := 2) (by decide) (by decide) (by decide) ip2
  have h3 : stepS 100 [] IsP = .inr 0 := step_more (by decide)
  rw [cuts_inl h1]
  show (([192, 0] : List Int) :: (cuts 100 4 [224, 0]).1, (cuts 100 4 [224, 0]).2) = _
  rw [cuts_inl h2]
  show (([192, 0] : List Int) :: [224, 0] :: (cuts 100 3 []).1, (cuts 100 3 []).2) = _
  rw [cuts_inr h3]; rfl
theorem c3 : cuts 100 3 [48, 99] = ([], 101, []) := by
  rw [cuts_inr (step_big (n := 99) (k := 2) (by decide) (by decide))]; rfl
theorem c4 : cuts 100 5 [192, 0, 193, 0] = ([[192, 0]], 100, []) := by
  have h1 : stepS 100 [192, 0, 193, 0] IsP = .inl 2 := step_pkt (n := 0) (k := 2) (by decide) (by decide) (by decide) ip1
  have h2 : stepS 100 [193, 0] IsP = .inr 100 := step_bad (n := 0) (k := 2) (by decide) (by decide) (by decide) ip3
  rw [cuts_inl h1]
  show (([192, 0] : List Int) :: (cuts 100 4 [193, 0]).1, (cuts 100 4 [193, 0]).2) = _
  rw [cuts_inr h2]; rfl
theorem told_len : ∀ {Ls : List (List Int)} {ps : List PkX}, Told Ls ps → ps.length = Ls.length
  | [], [], _ => rfl
  | _ :: _, _ :: _, h => by simp [told_len h.2]
  | [], _ :: _, h => h.elim
  | _ :: _, [], h => h.elim

/-- A row just laid, fed. -/
theorem feed_lit (W : World) (hT : Lib.Utf8Tabs 0 1 W) (s B E : Nat) (most : Int) (R : List Int) (h : StAt W s B E most 0 R) (hs2 : 2 ≤ s) (hm : most ≤ 268435460) (L : List Int) (cur : Array Value) (n c : Nat) (hn : n = L.length) (hcur : cur.toList = L.map (Value.int .u8)) (hb : ∀ x ∈ L, 0 ≤ x ∧ x < 256) (hl : R.length + L.length ≤ 900000000)
    (X : List (List Int)) (cd : Int) (r : List Int) (hc : cuts most ((R ++ L).length + 1) (R ++ L) = (X, cd, r)) :
    Calls Tryd.prog 27 #[.pointer (some ⟨s, 0, none⟩), .slice (some ⟨W.heap.size, 0, none⟩) n c] (W.alloc (.cells cur BT)) fun e w' => ∃ A m c', e = .returned (.tuple #[.slice A m c', .int .i64 cd]) ∧ m = X.length ∧ Turn (fun k => k = s) W w' ∧ StAt w' s W.heap.size w'.heap.size most cd r := by
  subst hn
  have hB : Below W.heap.size W (W.alloc (.cells cur BT)) := Below.alloc (Below.refl _ _) (Nat.le_refl _) _
  refine (feed_calls _ (Utf.tabs_keep hT hB) s B E most 0 R (h.keep hB) hs2 hm _ L c (reads_mark W L cur hcur) (fun h => by cases h) hb hl).mono ?_
  rintro e w' (⟨h0, _⟩ | ⟨_, A, m, c', ps, he, ht, hp, hto, hst⟩)
  · exact absurd rfl h0
  · rw [hc] at he hto hst
    refine ⟨A, m, c', he, ?_, (Turn.of_below hB).trans ht, hst.low (by simp) (Nat.le_refl _)⟩
    have := own_len hp.row
    rw [this]; exact told_len hto

theorem feed_nil (w : World) (v : Value) : Calls Tryd.prog 27 #[.pointer none, v] w fun e w' => e = .returned (.tuple #[.slice none 0 0, .int .i64 3]) ∧ w = w' := by
  go_enter Tryd.func27, Tryd.ntmps27
  go_wp2_with (fail)
  go_ret2
  exact ⟨rfl, rfl⟩

set_option maxRecDepth 100000 in
set_option maxHeartbeats 2000000 in
theorem awake_calls (w : World) (hT : Lib.Utf8Tabs 0 1 w) : Calls Tryd.prog 26 #[] w fun e w' => e = .returned (.bool true) ∧ Below w.heap.size w w' := by
  have HT := Lib.hid hT
  have h2w := tabs_lt hT
  clear hT
  have new : Hid (∀ W : World, Calls Tryd.prog 25 #[.int .i64 100] W fun e w' => e = .returned (.tuple #[.pointer (some ⟨W.heap.size, 0, none⟩), .int .i64 0]) ∧ Below W.heap.size W w' ∧ StAt w' W.heap.size (W.heap.size + 1) (W.heap.size + 1) 100 0 []) := fun W => (new_calls W 100).mono fun e w' h => by
    rcases h with ⟨_, _, h1, h2, h3⟩ | ⟨h, _⟩
    · exact ⟨h1, h2, h3⟩
    · exact absurd ⟨by decide, by decide⟩ h
  go_enter Tryd.func26, Tryd.ntmps26
  go_wp2_with (fail)
  refine (new.out w).mono ?_
  rintro e w1 ⟨rfl, hb1, hs1⟩
  obtain ⟨s, hs⟩ : ∃ s, Hid (s = w.heap.size) := ⟨_, rfl⟩
  have HB1 := Lib.hid hb1
  rw [← hs.out] at hs1 ⊢
  have HS1 := Lib.hid hs1
  clear hb1 hs1
  go_wp2_with (fail)
  refine (new.out w1).mono ?_
  rintro e w2 ⟨rfl, hb2, hs2⟩
  obtain ⟨t, ht⟩ : ∃ t, Hid (t = w1.heap.size) := ⟨_, rfl⟩
  have HB2 : Hid (Below w.heap.size w w2) := HB1.out.trans (hb2.mono HB1.out.size)
  have HS2 := Lib.hid (HS1.out.keep hb2)
  rw [← ht.out] at hs2 ⊢
  have HT2 := Lib.hid hs2
  have hst : Hid (s < t) := by rw [ht.out]; exact HS1.out.lt
  clear hb2 hs2
  go_wp2_with (fail)
  refine (new.out w2).mono ?_
  rintro e w3 ⟨rfl, hb3, hs3⟩
  obtain ⟨u, hu⟩ : ∃ u, Hid (u = w2.heap.size) := ⟨_, rfl⟩
  have HB3 : Hid (Below w.heap.size w w3) := HB2.out.trans (hb3.mono HB2.out.size)
  have HS3 := Lib.hid (HS2.out.keep hb3)
  have HT3 := Lib.hid (HT2.out.keep hb3)
  rw [← hu.out] at hs3 ⊢
  have HU3 := Lib.hid hs3
  have htu : Hid (t < u) := by rw [hu.out]; exact HT2.out.lt
  have hsw : Hid (w.heap.size ≤ s) := by rw [hs.out]; exact Nat.le_refl _
  clear hb3 hs3
  go_wp2_with (fail)
  refine (feed_lit w3 (Utf.tabs_keep HT.out HB3.out) s _ _ 100 [] HS3.out (by have := hsw.out; omega) (by decide) [192] _ _ _ rfl rfl (by decide) (by decide) _ _ _ c1).mono ?_
  rintro e w4 ⟨A4, m4, d4, rfl, rfl, ht4, hs4⟩
  have T4 : Hid (Turn (fun k => k = s) w3 w4) := ht4
  have HS4 := Lib.hid hs4
  have HT4 := Lib.hid (HT3.out.turn ht4 (fun e => by have := hst.out; omega) (fun k h1 h2 => by omega))
  have HU4 := Lib.hid (HU3.out.turn ht4 (fun e => by have := hst.out; have := htu.out; omega) (fun k h1 h2 => by omega))
  have HB4 : Hid (Below w.heap.size w w4) := HB3.out.trans (ht4.toBelow (HB3.out.size) (fun k hk e => by have := hsw.out; omega))
  clear ht4 hs4
  go_wp2_with (fail)
  refine (left_calls w4 s _ _ 100 0 [192] HS4.out).mono ?_
  rintro e w' ⟨rfl, rfl⟩
  go_wp2_with (fail)
  refine (feed_lit w4 (Utf.tabs_keep HT.out HB4.out) s _ _ 100 [192] HS4.out (by have := hsw.out; omega) (by decide) [0, 224, 0] _ _ _ rfl rfl (by decide) (by decide) _ _ _ c2).mono ?_
  rintro e w5 ⟨A5, m5, d5, rfl, rfl, ht5, hs5⟩
  have HT5 := Lib.hid (HT4.out.turn ht5 (fun e => by have := hst.out; omega) (fun k h1 h2 => by omega))
  have HU5 := Lib.hid (HU4.out.turn ht5 (fun e => by have := hst.out; have := htu.out; omega) (fun k h1 h2 => by omega))
  have HB5 : Hid (Below w.heap.size w w5) := HB4.out.trans (ht5.toBelow (HB4.out.size) (fun k hk e => by have := hsw.out; omega))
  clear ht5 hs5
  go_wp2_with (fail)
  refine (feed_lit w5 (Utf.tabs_keep HT.out HB5.out) t _ _ 100 [] HT5.out (by have := hsw.out; have := hst.out; omega) (by decide) [48, 99] _ _ _ rfl rfl (by decide) (by decide) _ _ _ c3).mono ?_
  rintro e w6 ⟨A6, m6, d6, rfl, rfl, ht6, hs6⟩
  have HU6 := Lib.hid (HU5.out.turn ht6 (fun e => by have := htu.out; omega) (fun k h1 h2 => by omega))
  have HB6 : Hid (Below w.heap.size w w6) := HB5.out.trans (ht6.toBelow (HB5.out.size) (fun k hk e => by have := hsw.out; have := hst.out; omega))
  clear ht6 hs6
  go_wp2_with (fail)
  refine (feed_lit w6 (Utf.tabs_keep HT.out HB6.out) u _ _ 100 [] HU6.out (by have := hsw.out; have := hst.out; have := htu.out; omega) (by decide) [192, 0, 193, 0] _ _ _ rfl rfl (by decide) (by decide) _ _ _ c4).mono ?_
  rintro e w7 ⟨A7, m7, d7, rfl, rfl, ht7, hs7⟩
  have HB7 : Hid (Below w.heap.size w w7) := HB6.out.trans (ht7.toBelow (HB6.out.size) (fun k hk e => by have := hsw.out; have := hst.out; have := htu.out; omega))
  clear ht7 hs7
  go_wp2_with (fail)
  go_ret
  exact ⟨rfl, HB7.out⟩
end Str
end Go.Proofs.YteigakkghkjakaaDoor

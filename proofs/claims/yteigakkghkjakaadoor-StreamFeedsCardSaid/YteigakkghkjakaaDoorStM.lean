/- StreamFeeds: bytes that come part by part are told in packets just as the document says of all that came. -/
import Derived.Test.YteigakkghkjakaaDoorStL
import Derived.Test.YteigakkghkjakaaDoorRfR
namespace Go.Proofs.YteigakkghkjakaaDoor
open Go.RowKit Go.ChangeShapes
set_option linter.unusedVariables false
set_option linter.unusedSimpArgs false
namespace Str
open Utf (nums nums_length nums_bytes IsStr nums_str)
open Var (BT info_byte digs digs_length tell RetTell GivesBytes)
open Pk
open Ref (Fills own_lit0 turn_above0 rSlice)

/-- Rows of bytes that came in. -/
def IsParts (w : World) (a : Option Addr) (len : Nat) (AA : Nat → Option Addr) (CC : Nat → Nat) (ZZ : Nat → List Int) : Prop := ∀ i, i < len → ∃ x, a = some x ∧ w.cell? (x.add i) = some (.slice (AA i) (ZZ i).length (CC i)) ∧ At11 w (AA i) (CC i) (ZZ i)
theorem parts_of {W : World} {x : Addr} {l c : Nat} {A : Nat → Option Addr} {Ln C : Nat → Nat} {Z : Nat → List Int} (hl : l ≤ c) (hm : c ≤ maxLen)
    (hrow : ∀ r, r < c → W.cell? (x.add r) = some (.slice (A r) (Ln r) (C r)) ∧ Ln r ≤ C r ∧ C r ≤ maxLen ∧ (Z r).length = C r ∧ (∀ n ∈ Z r, (Lit.int .u8 n).wf = true) ∧ (A r = none → C r = 0) ∧ ∀ a', A r = some a' → 0 ≤ a'.block ∧ ∀ c, c < C r → W.cell? (a'.add c) = some (.int .u8 ((Z r).getD c 0))) :
    ∃ AA CC ZZ, IsParts W (some x) l AA CC ZZ ∧ (l ≤ c ∧ c ≤ 9223372036854775807) := by
  refine ⟨A, C, fun r => (Z r).take (Ln r), fun i hi => ?_, hl, by simpa [maxLen] using hm⟩
  obtain ⟨h1, h2, h3, h4, h5, h6, h7⟩ := hrow i (by omega)
  have hlen : ((Z i).take (Ln i)).length = Ln i := by rw [List.length_take]; omega
  refine ⟨x, rfl, by rw [hlen]; exact h1, ⟨?_, by rw [hlen]; exact h2, by simpa [maxLen] using h3, h6, fun y hy => u8_range (h5 y (List.mem_of_mem_take hy))⟩⟩
  intro h0
  rw [hlen] at h0
  obtain ⟨y, hy⟩ : ∃ y, A i = some y := by
    cases hA : A i with
    | none => have := h6 hA; omega
    | some y => exact ⟨y, rfl⟩
  refine ⟨y, hy, fun j hj => ?_⟩
  rw [hlen] at hj
  rw [lat_take _ _ _ hj]
  exact (h7 y hy).2 j (by omega)

theorem cuts_fit {most : Int} {M : List Int} {Ls : List (List Int)} {cd : Int} {r : List Int} (h : (Ls, cd, r) = cuts most (M.length + 1) M) (hb : ∀ x ∈ M, 0 ≤ x ∧ x < 256) (hM : M.length ≤ 60000) {ps : List PkX} (ht : Told Ls ps) :
    ps.length ≤ 60000 ∧ (∀ x ∈ ps, (x.2.1.length : Int) ≤ 2000000) ∧ (∀ x ∈ ps, (x.2.2.length : Int) ≤ 2000000) ∧ (∀ L ∈ Ls, (∀ x ∈ L, 0 ≤ x ∧ x < 256) ∧ L.length ≤ 900000000) := by
  have hs := cuts_spec most (M.length + 1) M (by omega) hb
  rw [← h] at hs
  have hs : ((∀ L ∈ Ls, (L.length : Int) ≤ most ∧ L.length ≤ M.length) ∧ ((cd = 0 ∧ Ls.flatten ++ r = M) ∨ ((cd = 100 ∨ cd = 101) ∧ r = [] ∧ ∃ Y : List Int, 0 < Y.length ∧ Ls.flatten ++ Y = M))) := hs
  have hsub : ∃ Y, Ls.flatten ++ Y = M := by
    rcases hs.2 with ⟨_, h⟩ | ⟨_, _, Y, _, h⟩
    · exact ⟨_, h⟩
    · exact ⟨_, h⟩
  obtain ⟨Y, hY⟩ := hsub
  have hL : ∀ L ∈ Ls, (∀ x ∈ L, 0 ≤ x ∧ x < 256) ∧ L.length ≤ 900000000 := fun L hL => ⟨fun x hx => hb x (by rw [← hY]; exact List.mem_append_left _ (List.mem_flatten.2 ⟨L, hL, hx⟩)), by have := (hs.1 L hL).2; omega⟩
  have hpl := told_len ht
  have h2 : ∀ L ∈ Ls, 2 ≤ L.length := fun L hL => by
    obtain ⟨i, hi, rfl⟩ := List.getElem_of_mem hL
    exact (pkt_tell (told_get ht i (by rw [hpl]; exact hi) hi)).2.2
  have h3 := flat_two Ls h2
  have h4 := congrArg List.length hY
  rw [List.length_append] at h4
  have hx : ∀ x ∈ ps, x.2.1.length ≤ 60001 ∧ x.2.2.length ≤ 60000 := fun x hx => by
    obtain ⟨i, hi, rfl⟩ := List.getElem_of_mem hx
    have hi' : i < Ls.length := by rw [← hpl]; exact hi
    have hI := told_get ht i hi hi'
    obtain ⟨b1, b2, _⟩ := is_bounds hI (hL _ (List.getElem_mem hi')).1
    have := (hs.1 _ (List.getElem_mem hi')).2
    exact ⟨by omega, by omega⟩
  exact ⟨by omega, fun x h => by have := (hx x h).1; omega, fun x h => by have := (hx x h).2; omega, hL⟩
theorem cuts_rest {most : Int} {M : List Int} {Ls : List (List Int)} {cd : Int} {r : List Int} (h : (Ls, cd, r) = cuts most (M.length + 1) M) (hb : ∀ x ∈ M, 0 ≤ x ∧ x < 256) : r.length ≤ M.length ∧ (∀ x ∈ r, 0 ≤ x ∧ x < 256) ∧ (cd = 0 ∨ r = []) := by
  have hs := cuts_spec most (M.length + 1) M (by omega) hb
  rw [← h] at hs
  rcases hs.2 with ⟨h0, he⟩ | ⟨h1, h2, _⟩
  · have he' : Ls.flatten ++ r = M := he
    have hl := congrArg List.length he'
    rw [List.length_append] at hl
    exact ⟨by omega, fun x hx => hb x (by rw [← he']; exact List.mem_append_right _ hx), .inl h0⟩
  · have h2' : r = [] := h2
    rw [h2']
    exact ⟨Nat.zero_le _, fun x hx => (by cases hx), .inr rfl⟩
/-- How the stream, and all that came, stand. -/
structure FS (w W : World) (s : Nat) (most : Int) (X : List Int) (Aa : Option Addr) (ca : Nat) (br td : Int) : Prop where
  below : Below w.heap.size w W
  all : OwnInts W (s + 1) BT .u8 (.slice Aa X.length ca) X
  bytes : ∀ x ∈ X, 0 ≤ x ∧ x < 256
  len : X.length ≤ 5000
  st : (br = 0 ∧ ∃ Ls r B E, (Ls, (0 : Int), r) = cuts most (X.length + 1) X ∧ td = (Ls.length : Int) ∧ StAt W s B E most 0 r) ∨ (br ≠ 0 ∧ ∃ B E, StAt W s B E most br [])
theorem own_at11 {W : World} {base : Nat} {A : Option Addr} {n c : Nat} {X : List Int} (h : OwnInts W base BT .u8 (.slice A n c) X) (hb : ∀ x ∈ X, 0 ≤ x ∧ x < 256) : At11 W A c X := by
  obtain ⟨_, h1, h2, h3⟩ := own_reads h
  have hc : c ≤ 9223372036854775807 := by obtain ⟨_, c', hv, _, h, _⟩ := h.form; injection hv with _ _ e; rw [e]; exact h
  exact ⟨h2, h1, hc, h3, hb⟩
theorem kSlicePk {W : World} (g n c k : Nat) (hk : k ≤ n) (hc : n ≤ c) (hb : (k : Int) ≤ 268435460) : (Instr.sliceAt 50 (.slice (some ⟨g, 0, none⟩) n c) (some (.int .i64 (k : Int))) none none).run Tryd.prog W = .ok (.slice (some (if c = k then ⟨g, 0, none⟩ else ⟨g, k * 18, none⟩)) (n - k) (if c = k then 0 else c - k)) W := by
  have h18 : (sizeOf PT).run Tryd.prog W = .ok 18 W := by kernel_rfl
  by_cases h : c = k
  · subst h
    have : n - c = 0 := by omega
    simp [go_sem, this]
    omega
  · simp [go_sem, h, add_plain0]
    omega
theorem kSlicePk0 {W : World} : (Instr.sliceAt 50 (.slice none 0 0) (some (.int .i64 ((0 : Nat) : Int))) none none).run Tryd.prog W = .ok (.slice none 0 0) W := by kernel_rfl

theorem told_drop : ∀ {Ls Ms : List (List Int)} {qs : List PkX}, Told (Ls ++ Ms) qs → Told Ms (qs.drop Ls.length)
  | [], _, _, h => h
  | L :: Ls, Ms, q :: qs, h => by
    have h' : Told (Ls ++ Ms) qs := h.2
    have := told_drop h'
    exact this
  | _ :: _, _, [], h => h.elim
theorem slice_rows {w : World} {base n c : Nat} {A : Option Addr} {ps : List PkX} (h : PkRow w base (.slice A n c) ps) (hr : PkReads w A ps) (t : Nat) (ht : t ≤ ps.length) (hl : ps.length ≤ 60000) :
    ∃ A8 c8, (∀ W, (Instr.sliceAt 50 (.slice A n c) (some (.int .i64 (t : Int))) none none).run Tryd.prog W = .ok (.slice A8 (ps.drop t).length c8) W) ∧ PkReadsO w A8 (t * 18) (ps.drop t) ∧ (ps.drop t).length ≤ c8 := by
  have hn := own_len h.row
  have hdl : (ps.drop t).length = ps.length - t := List.length_drop
  rcases h.row.2 with ⟨hv, hz⟩ | ⟨g, cap, cur, hv, _, _, hc, _⟩
  · injection hv with h1 h2 h3
    subst h1 h3
    have ht0 : t = 0 := by omega
    subst ht0
    have hp0 : ps = [] := List.eq_nil_of_length_eq_zero (by omega)
    subst hp0
    subst h2
    exact ⟨none, 0, fun W => kSlicePk0, fun i hi => absurd hi (by simp), Nat.le_refl _⟩
  · injection hv with h1 h2 h3
    subst h1 h2 h3
    refine ⟨_, _, fun W => by rw [hdl]; exact kSlicePk g ps.length c t ht hc (by omega), ?_, ?_⟩
    · by_cases hct : c = t
      · intro i hi; rw [hdl] at hi; omega
      · rw [if_neg hct]; exact hr.drop t
    · rw [hdl]; split <;> omega

set_option maxRecDepth 100000 in
set_option maxHeartbeats 4000000 in
theorem feeds_walk (a0 : Int) (a1 : Option Addr) (len1 cap1 : Nat) (AA : Nat → Option Addr) (CC : Nat → Nat) (ZZ : Nat → List Int) (w : World) (w0 : (Lit.int .i64 a0).wf = true) (w1 : IsParts w a1 len1 AA CC ZZ) (y1 : len1 ≤ cap1 ∧ cap1 ≤ 9223372036854775807) (hT : Lib.Utf8Tabs 0 1 w) :
    Calls Tryd.prog 10 #[.int .i64 a0, .slice a1 len1 cap1] w fun e w' => e = .returned (.bool true) ∧ Below w.heap.size w w' := by
  have h2w := tabs_lt hT
  have HT := Lib.hid hT
  have HPA := Lib.hid w1
  have HY := Lib.hid y1
  clear hT w1 y1
  by_cases hbig : (200 : Int) < (len1 : Int)
  · have hd := decide_eq_true hbig
    go_enter Tryd.func10, Tryd.ntmps10
    go_wp2_with (fail)
    go_ret
    exact ⟨rfl, Below.refl _ _⟩
  have hd := decide_eq_false hbig
  have hlen1 : (len1 : Int) ≤ 200 := by omega
  clear hbig
  have HN := Lib.hid (new_calls w a0)
  go_enter Tryd.func10, Tryd.ntmps10
  go_wp2_with (fail)
  clear hd
  refine HN.out.mono ?_
  rintro e w1 (⟨hm2, hmb, rfl, hb1, hs1⟩ | ⟨hno, rfl, rfl⟩)
  case inr =>
    by_cases hlt : a0 < 2
    · have hd1 := decide_eq_true hlt
      go_wp2_with (fail)
      refine (awake_calls _ HT.out).mono ?_
      rintro e w2 ⟨rfl, hb2⟩
      have HB2 := Lib.hid hb2
      clear hb2
      go_wp2_with (fail)
      go_ret
      exact ⟨rfl, HB2.out⟩
    · have hd1 := decide_eq_false hlt
      have hgt : 268435460 < a0 := by omega
      have hd2 := decide_eq_true hgt
      clear hgt hlt hno
      go_wp2_with (fail)
      refine (awake_calls _ HT.out).mono ?_
      rintro e w2 ⟨rfl, hb2⟩
      have HB2 := Lib.hid hb2
      clear hb2
      go_wp2_with (fail)
      go_ret
      exact ⟨rfl, HB2.out⟩
  obtain ⟨s, hs⟩ : ∃ s, Hid (s = w.heap.size) := ⟨_, rfl⟩
  have hs2 : 2 ≤ s := by rw [hs.out]; exact h2w
  have hd1 : decide (a0 < 2) = false := decide_eq_false (by omega)
  have hd2 : decide (268435460 < a0) = false := decide_eq_false (by omega)
  rw [← hs.out] at hs1 ⊢
  have H1 : Hid (FS w w1 s a0 [] none 0 0 0) := ⟨hb1, OwnInts.nil _ _ _ _, fun x hx => (by cases hx), by simp, .inl ⟨rfl, [], [], s + 1, s + 1, by rw [cuts_inr (step_nil a0)]; rfl, rfl, hs1⟩⟩
  have HMB := Lib.hid hmb
  clear hb1 hs1 hm2 hmb HN
  go_wp2_with (fail)
  clear hd1 hd2
  go_loopw [7, 8, 9, 10, 11, 12, 13, 14, 15, 16, 17] (fun v7 v8 v9 v10 v11 v12 v13 v14 v15 v16 v17 wr => ∃ (i : Nat) (X : List Int) (Aa : Option Addr) (ca : Nat) (br td : Int), v7 = .slice Aa X.length ca ∧ v8 = .int .i64 td ∧ v9 = .int .i64 br ∧ v10 = .int .i64 i ∧ i ≤ len1 ∧ Hid (FS w wr s a0 X Aa ca br td)) (fun _ _ _ v10 _ _ _ _ _ _ _ _ => len1 - (intOf v10).toNat)
  case atStart => exact ⟨0, [], none, 0, 0, 0, rfl, rfl, rfl, rfl, Nat.zero_le _, H1⟩
  case round =>
    obtain ⟨i, X, Aa, ca, br, td, rfl, rfl, rfl, rfl, hi, HS⟩ := hrel
    have hib : (i : Int) ≤ 200 := by omega
    have hXb : (X.length : Int) ≤ 5000 := by have := HS.out.len; omega
    by_cases hil : i < len1
    case neg =>
      have hdi : decide (i < len1) = false := decide_eq_false hil
      go_wp2_with (fail)
      refine (awake_calls _ (Utf.tabs_keep HT.out HS.out.below)).mono ?_
      rintro e w2 ⟨rfl, hb2⟩
      have HB2 := Lib.hid (HS.out.below.trans (hb2.mono HS.out.below.size))
      clear hb2
      go_wp2_with (fail)
      go_ret
      exact ⟨rfl, HB2.out⟩
    have hdi : decide (i < len1) = true := decide_eq_true hil
    obtain ⟨x, rfl, hcell0, hAt0⟩ := HPA.out i hil
    obtain ⟨M, hM⟩ : ∃ M, M = ZZ i := ⟨_, rfl⟩
    obtain ⟨Ai, hAi⟩ : ∃ Ai, Ai = AA i := ⟨_, rfl⟩
    obtain ⟨Ci, hCi⟩ : ∃ Ci, Ci = CC i := ⟨_, rfl⟩
    rw [← hM, ← hAi, ← hCi] at hcell0 hAt0
    have HC0 := Lib.hid hcell0
    have HA0 := Lib.hid hAt0
    have hcell : wr.cell? (x.add i) = some (.slice Ai M.length Ci) := by rw [HS.out.below.cell (World.block_lt_of_cell? w _ hcell0)]; exact hcell0
    have hMc : (M.length : Int) ≤ 9223372036854775807 := by have := hAt0.len; have := hAt0.cap; omega
    clear hM hAi hCi hcell0 hAt0
    by_cases hM1 : (1000 : Int) < (M.length : Int)
    · have hdm := decide_eq_true hM1
      have HB := Lib.hid HS.out.below
      go_wp2_with (fail)
      go_ret
      exact ⟨rfl, HB.out⟩
    have hdm := decide_eq_false hM1
    by_cases hX1 : (4000 : Int) < (X.length : Int)
    · have hdx := decide_eq_true hX1
      have HB := Lib.hid HS.out.below
      go_wp2_with (fail)
      go_ret
      exact ⟨rfl, HB.out⟩
    have hdx := decide_eq_false hX1
    have hMb : (M.length : Int) ≤ 1000 := by omega
    have hX4 : Hid (X.length ≤ 4000) := by rw [Hid]; omega
    clear hM1 hX1 hMc
    have hwz : Hid (w.heap.size ≤ wr.heap.size) := HS.out.below.size
    have hswr : Hid (s < wr.heap.size) := by
      rcases HS.out.st with ⟨_, _, _, _, _, _, _, h⟩ | ⟨_, _, _, h⟩ <;> exact h.lt
    go_upto_region 16 with (fail)
    clear hdm hdx hdi
    have hcella : (wr.alloc (.cells #[] BT)).cell? (x.add i) = some (.slice Ai M.length Ci) := by rw [((Below.refl wr.heap.size wr).alloc (Nat.le_refl _) _).cell (World.block_lt_of_cell? wr _ hcell)]; exact hcell
    go_wp2_with (at_builtin; go_must (refine wp_append_row (W := wr.alloc (.cells #[] BT)) wr.heap.size rfl _ _ 22 5 .u8 1 rfl Tryd.underlying22 Var.info_byte _ [] M Ai Ci rfl rfl HA0.out.none_ (HA0.out.reads.keep (HS.out.below.trans (((Below.refl wr.heap.size wr).alloc (Nat.le_refl _) _).mono hwz.out))) (own_lit0 _ _ (Nat.le_refl _)) (by first | (simp; done) | (simp; omega)) (by first | (simp; done) | (simp; omega)) ?_))
    intro A2 c2 w2 ho2 ht2
    try rw [List.nil_append] at ho2
    try simp only [List.nil_append]
    have HO2 := Lib.hid ho2
    have HB2 : Hid (Below wr.heap.size wr w2) := (turn_above0 (Turn.alloc wr (.cells #[] BT)) (own_lit0 wr _ (Nat.le_refl _)) ht2).toBelow (Nat.le_refl _) (fun k hk h => by omega)
    have HBw2 : Hid (Below w.heap.size w w2) := HS.out.below.trans (HB2.out.mono hwz.out)
    have HAT2 := Lib.hid (own_at11 ho2 HA0.out.bytes)
    have hOB : Hid (∀ j, (Value.slice A2 M.length c2).ownBlock = some j → wr.heap.size ≤ j ∧ j < w2.heap.size) := fun j hj => own_block_ge HO2.out j hj
    have hAll2 : Hid (OwnInts w2 (s + 1) BT .u8 (.slice Aa X.length ca) X) := HS.out.all.turn (Turn.of_below (S := fun _ => False) HB2.out) (fun _ _ h => h)
    clear ho2 ht2 hcella hcell
    rcases HS.out.st with ⟨hbr, Ls, r, B, E, hcut, htd, hSt⟩ | ⟨hbr, B, E, hSt⟩
    case inr =>
      have HST2 : Hid (StAt w2 s B E a0 br []) := hSt.keep HB2.out
      have HBR := Lib.hid hbr
      have hbn : (br != 0) = true := bne_iff_ne.2 hbr
      have HF := Lib.hid (feed_calls w2 (Utf.tabs_keep HT.out HBw2.out) s B E a0 br [] HST2.out hs2 HMB.out A2 M c2 HAT2.out.reads HAT2.out.none_ HA0.out.bytes (by simp; omega))
      clear hSt hbr
      go_wp2_with (fail)
      refine HF.out.mono ?_
      rintro e w3 (⟨h0, rfl, tu⟩ | ⟨h0, _⟩)
      case inr => exact absurd h0 HBR.out
      have HBw3 : Hid (Below w.heap.size w w3) := tu.belowTrans HBw2.out HBw2.out.size (fun _ _ h => h)
      have HST3 : Hid (StAt w3 s B E a0 br []) := HST2.out.turn tu (fun h => h) (fun _ _ _ h => h)
      have hAll3 : Hid (OwnInts w3 (s + 1) BT .u8 (.slice Aa X.length ca) X) := hAll2.out.turn tu (fun _ _ h => h)
      have HK : Hid (∀ W', Turn (fun _ => False) w3 W' → ((convert 22 9 (.slice A2 M.length c2)).run Tryd.prog W' = .ok (.string (strOfNums M)) W' ∧ (convert 22 9 (.slice Ai M.length Ci)).run Tryd.prog W' = .ok (.string (strOfNums M)) W' ∧ W'.cell? (x.add i) = some (.slice Ai M.length Ci))) := Lib.hid fun W' t => by
        have hbel := t.belowTrans HBw3.out HBw3.out.size (fun _ _ h => h)
        exact ⟨conv_own (P := Tryd.prog) (W := W') (src := 22) (dst := 9) Tryd.underlying22 Tryd.underlying5 Tryd.underlying9 ((HO2.out.turn tu (fun _ _ h => h)).turn t (fun _ _ h => h)),
          conv_reads (P := Tryd.prog) (W := W') (src := 22) (dst := 9) (c := Ci) Tryd.underlying22 Tryd.underlying5 Tryd.underlying9 rfl (HA0.out.reads.keep hbel), by rw [hbel.cell (World.block_lt_of_cell? w _ HC0.out)]; exact HC0.out⟩
      have HT0 : Turn (fun _ => False) w3 w3.drew := Turn.drew (Turn.refl _ _)
      have HX : Hid (X.length ≤ 5000 ∧ ∀ y ∈ X, 0 ≤ y ∧ y < 256) := ⟨HS.out.len, HS.out.bytes⟩
      clear tu h0 HF
      go_upto_region 18 with (fail)
      refine wp_region_held_drew (S := (fun W' => (convert 22 9 (.slice A2 M.length c2)).run Tryd.prog W' = .ok (.string (strOfNums M)) W' ∧ (convert 22 9 (.slice Ai M.length Ci)).run Tryd.prog W' = .ok (.string (strOfNums M)) W' ∧ W'.cell? (x.add i) = some (.slice Ai M.length Ci))) (by kernel_rfl) (by exact HK.out _ HT0) (fun hHeld => ?_)
      refine wpAnyH_take (i := 0) (oi := ⟨_, _, _, _, _, _⟩) (v := ?_) rfl (by kernel_rfl) (by kernel_rfl) (by kernel_rfl) (fun _ _ _ h => h) (Or.inl ⟨by kernel_rfl, ?_⟩) hHeld ?_
      rotate_left
      · (intro w hSw; obtain ⟨s1, s2, s3⟩ := hSw; go_simp; try with_reducible rfl)
      simp only [Act.put, List.setIfInBounds_toArray, List.set_cons_zero, List.set_cons_succ]
      refine wpAnyH_take (i := 1) (oi := ⟨_, _, _, _, _, _⟩) (v := ?_) rfl (by kernel_rfl) (by kernel_rfl) (by kernel_rfl) (fun _ _ _ h => h) (Or.inl ⟨by kernel_rfl, ?_⟩) hHeld ?_
      rotate_left
      · (intro w hSw; obtain ⟨s1, s2, s3⟩ := hSw; go_simp; try with_reducible rfl)
      simp only [Act.put, List.setIfInBounds_toArray, List.set_cons_zero, List.set_cons_succ]
      refine wpAnyH_take (i := 2) (oi := ⟨_, _, _, _, _, _⟩) (v := ?_) rfl (by kernel_rfl) (by kernel_rfl) (by kernel_rfl) (fun _ _ _ h => h) (Or.inl ⟨by kernel_rfl, ?_⟩) hHeld ?_
      rotate_left
      · (intro w hSw; obtain ⟨s1, s2, s3⟩ := hSw; go_simp; try with_reducible rfl)
      simp only [Act.put, List.setIfInBounds_toArray, List.set_cons_zero, List.set_cons_succ]
      refine wpAnyH_take (i := 3) (oi := ⟨_, _, _, _, _, _⟩) (v := ?_) rfl (by kernel_rfl) (by kernel_rfl) (by kernel_rfl) (fun _ _ _ h => h) (Or.inl ⟨by kernel_rfl, ?_⟩) hHeld ?_
      rotate_left
      · (intro w hSw; obtain ⟨s1, s2, s3⟩ := hSw; go_simp; try with_reducible rfl)
      simp only [Act.put, List.setIfInBounds_toArray, List.set_cons_zero, List.set_cons_succ]
      refine wpAnyH_take (i := 4) (oi := ⟨_, _, _, _, _, _⟩) (v := ?_) rfl (by kernel_rfl) (by kernel_rfl) (by kernel_rfl) (fun _ _ _ h => h) (Or.inl ⟨by kernel_rfl, ?_⟩) hHeld ?_
      rotate_left
      · (intro w hSw; obtain ⟨s1, s2, s3⟩ := hSw; go_simp; try with_reducible rfl)
      simp only [Act.put, List.setIfInBounds_toArray, List.set_cons_zero, List.set_cons_succ]
      refine wpAnyH_take (i := 5) (oi := ⟨_, _, _, _, _, _⟩) (v := ?_) rfl (by kernel_rfl) (by kernel_rfl) (by kernel_rfl) (fun _ _ _ h => h) (Or.inl ⟨by kernel_rfl, ?_⟩) hHeld ?_
      rotate_left
      · (intro w hSw; obtain ⟨s1, s2, s3⟩ := hSw; go_simp; try with_reducible rfl)
      simp only [Act.put, List.setIfInBounds_toArray, List.set_cons_zero, List.set_cons_succ]
      refine wpAnyH_take (i := 6) (oi := ⟨_, _, _, _, _, _⟩) (v := ?_) rfl (by kernel_rfl) (by kernel_rfl) (by kernel_rfl) (fun _ _ _ h => h) (Or.inl ⟨by kernel_rfl, ?_⟩) hHeld ?_
      rotate_left
      · (intro w hSw; obtain ⟨s1, s2, s3⟩ := hSw; go_simp; try with_reducible rfl)
      simp only [Act.put, List.setIfInBounds_toArray, List.set_cons_zero, List.set_cons_succ]
      refine wpAnyH_take (i := 7) (oi := ⟨_, _, _, _, _, _⟩) (v := ?_) rfl (by kernel_rfl) (by kernel_rfl) (by kernel_rfl) (fun _ _ _ h => h) (Or.inl ⟨by kernel_rfl, ?_⟩) hHeld ?_
      rotate_left
      · (intro w hSw; obtain ⟨s1, s2, s3⟩ := hSw; go_simp; try with_reducible rfl)
      simp only [Act.put, List.setIfInBounds_toArray, List.set_cons_zero, List.set_cons_succ]
      refine wpAnyH_done (by kernel_rfl) ?_ _
      have HST4 : Hid (StAt w3.drew s B E a0 br []) := HST3.out.turn HT0 (fun h => h) (fun _ _ _ h => h)
      have HBw4 : Hid (Below w.heap.size w w3.drew) := HT0.belowTrans HBw3.out HBw3.out.size (fun _ _ h => h)
      have hAll4 : Hid (OwnInts w3.drew (s + 1) BT .u8 (.slice Aa X.length ca) X) := hAll3.out.turn HT0 (fun _ _ h => h)
      go_wp2_with (fail)
      refine (left_calls _ s B E a0 br [] HST4.out).mono ?_
      rintro e w' ⟨rfl, rfl⟩
      go_wp2_with (fail)
      go_roundw
      case rel => exact ⟨i + 1, X, Aa, ca, br, td, rfl, rfl, rfl, by go_num, by omega, HBw4.out, hAll4.out, HX.out.2, HX.out.1, .inr ⟨HBR.out, B, E, HST4.out⟩⟩
      case measure => simp [intOf]; omega
    subst hbr
    have HST2 : Hid (StAt w2 s B E a0 0 r) := hSt.keep HB2.out
    obtain ⟨hrl, hrb, _⟩ := cuts_rest hcut HS.out.bytes
    have hYb : ∀ y ∈ X ++ M, 0 ≤ y ∧ y < 256 := fun y hy => by
      rcases List.mem_append.1 hy with h | h
      · exact HS.out.bytes y h
      · exact HA0.out.bytes y h
    have hrMb : ∀ y ∈ r ++ M, 0 ≤ y ∧ y < 256 := fun y hy => by
      rcases List.mem_append.1 hy with h | h
      · exact hrb y h
      · exact HA0.out.bytes y h
    have hrMl : (r ++ M).length ≤ 6000 := by have := hX4.out; rw [List.length_append]; omega
    have hXMl : (X ++ M).length ≤ 5000 := by have := hX4.out; rw [List.length_append]; omega
    have HF := Lib.hid (feed_calls w2 (Utf.tabs_keep HT.out HBw2.out) s B E a0 0 r HST2.out hs2 HMB.out A2 M c2 HAT2.out.reads HAT2.out.none_ HA0.out.bytes (by have := hX4.out; omega))
    obtain ⟨⟨Ls', cd, r'⟩, hcut'⟩ : ∃ T, Hid (T = cuts a0 ((r ++ M).length + 1) (r ++ M)) := ⟨_, rfl⟩
    have HALL : Hid ((Ls ++ Ls', cd, r') = cuts a0 ((X ++ M).length + 1) (X ++ M)) := by
      have h := (cuts_part a0 (X.length + 1) ((X ++ M).length + 1) ((X ++ M).length + 1) X M (by omega) (by omega) (by omega) HS.out.bytes HA0.out.bytes).1
      rw [← hcut] at h
      have h := h rfl
      have hfu := cuts_fuel a0 ((X ++ M).length + 1) ((r ++ M).length + 1) (r ++ M) (by rw [List.length_append, List.length_append]; omega) (by omega) hrMb
      have h' : cuts a0 ((X ++ M).length + 1) (X ++ M) = (Ls ++ (cuts a0 ((X ++ M).length + 1) (r ++ M)).1, (cuts a0 ((X ++ M).length + 1) (r ++ M)).2) := h
      rw [hfu, ← hcut'.out] at h'
      exact h'.symm
    have hREST := Lib.hid (cuts_rest HALL.out hYb)
    have HYB := Lib.hid hYb
    have HRMB := Lib.hid hrMb
    have HRML := Lib.hid hrMl
    have HXML := Lib.hid hXMl
    have HTD := Lib.hid htd
    clear hSt hcut hrl hrb hYb hrMb hrMl hXMl htd
    go_wp2_with (fail)
    refine HF.out.mono ?_
    rintro e w3 (⟨h0, _⟩ | ⟨_, Al, nl, cl, ps, rfl, tu, hp, hto, hst⟩)
    · exact absurd rfl h0
    rw [← hcut'.out] at hto hst ⊢
    have hto' : Told Ls' ps := hto
    have hst' : StAt w3 s w2.heap.size w3.heap.size a0 cd r' := hst
    have hnl := own_len hp.row
    subst hnl
    have HTO := Lib.hid hto'
    have HST3 := Lib.hid hst'
    have HP3 := Lib.hid hp
    have HBw3 : Hid (Below w.heap.size w w3) := tu.belowTrans HBw2.out HBw2.out.size (fun k hk e => by have := hs.out; omega)
    have hAll3 : Hid (OwnInts w3 (s + 1) BT .u8 (.slice Aa X.length ca) X) := hAll2.out.turn tu (fun j hj e => by have := (own_block_ge hAll2.out j hj).1; omega)
    have HO3 : Hid (OwnInts w3 wr.heap.size BT .u8 (.slice A2 M.length c2) M) := HO2.out.turn tu (fun j hj e => by have := (own_block_ge HO2.out j hj).1; have := hswr.out; omega)
    have hz23 : Hid (w2.heap.size ≤ w3.heap.size) := tu.size
    clear tu hp hto hto' hst hst' HF
    have HK : Hid (∀ W', Turn (fun _ => False) w3 W' → ((convert 22 9 (.slice A2 M.length c2)).run Tryd.prog W' = .ok (.string (strOfNums M)) W' ∧ (convert 22 9 (.slice Ai M.length Ci)).run Tryd.prog W' = .ok (.string (strOfNums M)) W' ∧ W'.cell? (x.add i) = some (.slice Ai M.length Ci))) := Lib.hid fun W' t => by
      have hbel := t.belowTrans HBw3.out HBw3.out.size (fun _ _ h => h)
      exact ⟨conv_own (P := Tryd.prog) (W := W') (src := 22) (dst := 9) Tryd.underlying22 Tryd.underlying5 Tryd.underlying9 (HO3.out.turn t (fun _ _ h => h)),
        conv_reads (P := Tryd.prog) (W := W') (src := 22) (dst := 9) (c := Ci) Tryd.underlying22 Tryd.underlying5 Tryd.underlying9 rfl (HA0.out.reads.keep hbel), by rw [hbel.cell (World.block_lt_of_cell? w _ HC0.out)]; exact HC0.out⟩
    have HT0 : Turn (fun _ => False) w3 w3.drew := Turn.drew (Turn.refl _ _)
    go_upto_region 18 with (fail)
    refine wp_region_held_drew (S := (fun W' => (convert 22 9 (.slice A2 M.length c2)).run Tryd.prog W' = .ok (.string (strOfNums M)) W' ∧ (convert 22 9 (.slice Ai M.length Ci)).run Tryd.prog W' = .ok (.string (strOfNums M)) W' ∧ W'.cell? (x.add i) = some (.slice Ai M.length Ci))) (by kernel_rfl) (by exact HK.out _ HT0) (fun hHeld => ?_)
    refine wpAnyH_take (i := 0) (oi := ⟨_, _, _, _, _, _⟩) (v := ?_) rfl (by kernel_rfl) (by kernel_rfl) (by kernel_rfl) (fun _ _ _ h => h) (Or.inl ⟨by kernel_rfl, ?_⟩) hHeld ?_
    rotate_left
    · (intro w hSw; obtain ⟨s1, s2, s3⟩ := hSw; go_simp; try with_reducible rfl)
    simp only [Act.put, List.setIfInBounds_toArray, List.set_cons_zero, List.set_cons_succ]
    refine wpAnyH_take (i := 1) (oi := ⟨_, _, _, _, _, _⟩) (v := ?_) rfl (by kernel_rfl) (by kernel_rfl) (by kernel_rfl) (fun _ _ _ h => h) (Or.inl ⟨by kernel_rfl, ?_⟩) hHeld ?_
    rotate_left
    · (intro w hSw; obtain ⟨s1, s2, s3⟩ := hSw; go_simp; try with_reducible rfl)
    simp only [Act.put, List.setIfInBounds_toArray, List.set_cons_zero, List.set_cons_succ]
    refine wpAnyH_take (i := 2) (oi := ⟨_, _, _, _, _, _⟩) (v := ?_) rfl (by kernel_rfl) (by kernel_rfl) (by kernel_rfl) (fun _ _ _ h => h) (Or.inl ⟨by kernel_rfl, ?_⟩) hHeld ?_
    rotate_left
    · (intro w hSw; obtain ⟨s1, s2, s3⟩ := hSw; go_simp; try with_reducible rfl)
    simp only [Act.put, List.setIfInBounds_toArray, List.set_cons_zero, List.set_cons_succ]
    refine wpAnyH_take (i := 3) (oi := ⟨_, _, _, _, _, _⟩) (v := ?_) rfl (by kernel_rfl) (by kernel_rfl) (by kernel_rfl) (fun _ _ _ h => h) (Or.inl ⟨by kernel_rfl, ?_⟩) hHeld ?_
    rotate_left
    · (intro w hSw; obtain ⟨s1, s2, s3⟩ := hSw; go_simp; try with_reducible rfl)
    simp only [Act.put, List.setIfInBounds_toArray, List.set_cons_zero, List.set_cons_succ]
    refine wpAnyH_take (i := 4) (oi := ⟨_, _, _, _, _, _⟩) (v := ?_) rfl (by kernel_rfl) (by kernel_rfl) (by kernel_rfl) (fun _ _ _ h => h) (Or.inl ⟨by kernel_rfl, ?_⟩) hHeld ?_
    rotate_left
    · (intro w hSw; obtain ⟨s1, s2, s3⟩ := hSw; go_simp; try with_reducible rfl)
    simp only [Act.put, List.setIfInBounds_toArray, List.set_cons_zero, List.set_cons_succ]
    refine wpAnyH_take (i := 5) (oi := ⟨_, _, _, _, _, _⟩) (v := ?_) rfl (by kernel_rfl) (by kernel_rfl) (by kernel_rfl) (fun _ _ _ h => h) (Or.inl ⟨by kernel_rfl, ?_⟩) hHeld ?_
    rotate_left
    · (intro w hSw; obtain ⟨s1, s2, s3⟩ := hSw; go_simp; try with_reducible rfl)
    simp only [Act.put, List.setIfInBounds_toArray, List.set_cons_zero, List.set_cons_succ]
    refine wpAnyH_take (i := 6) (oi := ⟨_, _, _, _, _, _⟩) (v := ?_) rfl (by kernel_rfl) (by kernel_rfl) (by kernel_rfl) (fun _ _ _ h => h) (Or.inl ⟨by kernel_rfl, ?_⟩) hHeld ?_
    rotate_left
    · (intro w hSw; obtain ⟨s1, s2, s3⟩ := hSw; go_simp; try with_reducible rfl)
    simp only [Act.put, List.setIfInBounds_toArray, List.set_cons_zero, List.set_cons_succ]
    refine wpAnyH_take (i := 7) (oi := ⟨_, _, _, _, _, _⟩) (v := ?_) rfl (by kernel_rfl) (by kernel_rfl) (by kernel_rfl) (fun _ _ _ h => h) (Or.inl ⟨by kernel_rfl, ?_⟩) hHeld ?_
    rotate_left
    · (intro w hSw; obtain ⟨s1, s2, s3⟩ := hSw; go_simp; try with_reducible rfl)
    simp only [Act.put, List.setIfInBounds_toArray, List.set_cons_zero, List.set_cons_succ]
    refine wpAnyH_done (by kernel_rfl) ?_ _
    have hcell4 : w3.drew.cell? (x.add i) = some (.slice Ai M.length Ci) := (HK.out _ HT0).2.2
    have hBd : Hid (Below w3.heap.size w3 w3.drew) := HT0.toBelow (Nat.le_refl _) (fun _ _ h => h)
    go_wp2_with (fail)
    refine (both_calls _ Aa Ai ca Ci X M ((own_at11 hAll3.out HS.out.bytes).keep hBd.out) ((HA0.out.keep HBw3.out).keep hBd.out) (by have := hX4.out; omega)).mono ?_
    rintro e w5 ⟨A5, c5, rfl, ho5, hb5⟩
    have HB35 : Hid (Below w3.heap.size w3 w5) := hBd.out.trans (hb5.mono hBd.out.size)
    obtain ⟨Y, hY⟩ : ∃ Y, Hid (Y = X ++ M) := ⟨_, rfl⟩
    rw [← hY.out] at ho5 HALL hREST HYB HXML ⊢
    have HO5 : Hid (OwnInts w5 w3.heap.size BT .u8 (.slice A5 Y.length c5) Y) := oi_mono ho5 hBd.out.size rfl
    clear hb5 ho5 hcell4
    go_wp2_with (fail)
    refine (all_calls w5 a0 A5 Y c5 (own_at11 HO5.out HYB.out) (by have := HXML.out; omega)).mono ?_
    rintro e w6 ⟨hb6, A6, n6, c6, qs, rfl, hq, htq⟩
    rw [← HALL.out] at htq ⊢
    have hnq := own_len hq.row
    subst hnq
    have htq' : Told (Ls ++ Ls') qs := htq
    have HTQ := Lib.hid htq'
    have HQ6 := Lib.hid hq
    have HB6 := Lib.hid hb6
    have HB36 : Hid (Below w3.heap.size w3 w6) := HB35.out.trans (hb6.mono HB35.out.size)
    have HFIT := Lib.hid (cuts_fit HALL.out HYB.out (by have := HXML.out; omega) htq')
    have HFIT' := Lib.hid (cuts_fit hcut'.out HRMB.out (by have := HRML.out; omega) HTO.out)
    obtain ⟨hr6, _, _⟩ := hq.reads htq' HFIT.out.2.2.2
    have hql : qs.length = Ls.length + Ls'.length := by rw [told_len htq', List.length_append]
    obtain ⟨A8, c8, hsl, hr8, hc8⟩ := slice_rows hq hr6 Ls.length (by omega) HFIT.out.1
    obtain ⟨hrx, _, hcx⟩ := (HP3.out.keep HB36.out).reads HTO.out HFIT'.out.2.2.2
    obtain ⟨hsm1, hsm2⟩ := told_same HTO.out (told_drop HTQ.out)
    have HRC : Hid (∀ W', Below w6.heap.size w6 W' → Calls Tryd.prog 31 #[.slice Al ps.length cl, .slice A8 (qs.drop Ls.length).length c8] W' fun e w' => e = .returned (.bool true) ∧ Below W'.heap.size W' w') :=
      Lib.hid fun W' b => rows_calls2 W' Al A8 cl c8 ps.length _ ps (qs.drop Ls.length) rfl rfl (hrx.keep b) (Ls.length * 18) (hr8.keep b) hcx hc8 (by have := HFIT'.out.1; omega) ⟨hsm1, hsm2, HFIT'.out.2.1, HFIT'.out.2.2.1⟩
    have HQL := Lib.hid hql
    obtain ⟨n8, hn8⟩ : ∃ n8, Hid (n8 = (qs.drop Ls.length).length) := ⟨_, rfl⟩
    rw [← hn8.out] at hsl HRC
    have hqb : (qs.length : Int) ≤ 60000 := by have := HFIT.out.1; omega
    have htde := HTD.out
    subst htde
    clear hb6 hq htq htq' hr6 hql hr8 hc8 hrx hcx hsm1 hsm2
    go_wp2_with (with_reducible refine wp_sliceG (o := ⟨some 120, _, _, _, _, _⟩) rfl rfl rfl hsl ?_ (by with_unfolding_all rfl))
    refine (HRC.out _ (Below.refl _ _)).mono ?_
    rintro e w7 ⟨rfl, hb7⟩
    have HB37 : Hid (Below w3.heap.size w3 w7) := HB36.out.trans (hb7.mono HB36.out.size)
    have HO7 : Hid (OwnInts w7 w3.heap.size BT .u8 (.slice A5 Y.length c5) Y) := HO5.out.turn (Turn.of_below (S := fun _ => False) (HB6.out.trans (hb7.mono HB6.out.size))) (fun _ _ h => h)
    clear hb7 hsl
    go_wp2_with (fail)
    refine (left_calls w7 s _ _ a0 cd r' (HST3.out.keep HB37.out)).mono ?_
    rintro e w' ⟨rfl, rfl⟩
    go_wp2_with (fail)
    have HOW : Hid (OwnInts w7 wr.heap.size BT .u8 (.slice A2 M.length c2) M) := HO3.out.turn (Turn.of_below (S := fun _ => False) HB37.out) (fun _ _ h => h)
    obtain ⟨wA, hwA⟩ : ∃ wA, Hid (wA = wr.heap.size) := ⟨_, rfl⟩
    rw [← hwA.out] at hOB HOW hswr
    go_loopw [17] (fun xk wq => ∃ k : Nat, k ≤ M.length ∧ xk = .int .i64 k ∧ Hid (Fills w7 wq A2 M.length c2)) (fun xk _ => M.length - (intOf xk).toNat)
    case atStart => exact ⟨0, Nat.zero_le _, rfl, Fills.start HOW.out⟩
    case round =>
      obtain ⟨k, hk, rfl, HF⟩ := hrel
      have hkb : (k : Int) ≤ 1000 := by omega
      by_cases hkl : k < M.length
      · obtain ⟨xx, v, hA, hcellk, hfz⟩ := HF.out.cell hkl
        have HN1 := Lib.hid (HF.out.step hA hkl (.int .u8 7))
        subst hA
        go_wp2_with (fail)
        go_roundw
        case rel => exact ⟨k + 1, by omega, by go_num, HN1.out⟩
        case measure => simp [intOf]; omega
      · have hdk : decide (k < M.length) = false := decide_eq_false hkl
        have hT9 : Hid (Turn (fun j => (Value.slice A2 M.length c2).ownBlock = some j) w7 wr) := HF.out.1
        have HBw7 : Hid (Below w.heap.size w w7) := HBw3.out.trans (HB37.out.mono HBw3.out.size)
        have HBw9 : Hid (Below w.heap.size w wr) := hT9.out.belowTrans HBw7.out HBw7.out.size (fun j hj e => by have := (hOB.out j e).1; have := hwA.out; have := hwz.out; omega)
        have hAll9 : Hid (OwnInts wr (s + 1) BT .u8 (.slice A5 Y.length c5) Y) := oi_mono (HO7.out.turn hT9.out (fun j hj e => by have := (hOB.out j e).2; have := (own_block_ge HO7.out j hj).1; have := hz23.out; omega)) (by have := hswr.out; have := hwA.out; have := HB2.out.size; have := hz23.out; omega) rfl
        have HST9 : Hid (StAt wr s w2.heap.size w3.heap.size a0 cd r') := (HST3.out.keep HB37.out).turn hT9.out (fun e => by have := (hOB.out s e).1; have := hswr.out; omega) (fun j hj _ e => by have := (hOB.out j e).2; omega)
        go_wp2_with (fail)
        go_roundw
        case rel =>
          refine ⟨i + 1, Y, A5, c5, cd, (qs.length : Int), rfl, rfl, rfl, by go_num, by omega, HBw9.out, hAll9.out, HYB.out, HXML.out, ?_⟩
          by_cases hcd : cd = 0
          · subst hcd
            exact .inl ⟨rfl, Ls ++ Ls', r', _, _, HALL.out, by rw [HQL.out, List.length_append], HST9.out⟩
          · have hr' : r' = [] := hREST.out.2.2.resolve_left hcd
            subst hr'
            exact .inr ⟨hcd, _, _, HST9.out⟩
        case measure => simp [intOf]; omega
end Str
end Go.Proofs.YteigakkghkjakaaDoor

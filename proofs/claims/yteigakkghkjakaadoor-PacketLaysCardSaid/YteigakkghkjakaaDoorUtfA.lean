/- utf.point, utf.Points, utf.Is. -/
import Derived.Test.YteigakkghkjakaaDoorShelf
import Derived.Test.YteigakkghkjakaaDoorUtfP
namespace Go.Proofs.YteigakkghkjakaaDoor
open Go.RowKit
set_option linter.unusedVariables false
set_option linter.unusedSimpArgs false
namespace Utf

def nums (s : ByteArray) : List Int := s.data.toList.map fun b => (b.toNat : Int)
theorem nums_length (s : ByteArray) : (nums s).length = s.size := by unfold nums; rw [List.length_map, Array.length_toList]; rfl
theorem nums_bytes (s : ByteArray) : ∀ x ∈ nums s, 0 ≤ x ∧ x < 256 := by
  intro x hx
  simp only [nums, List.mem_map] at hx
  obtain ⟨b, _, rfl⟩ := hx
  have := b.toNat_lt
  omega
theorem nums_lat (s : ByteArray) (i : Nat) : lat (nums s) i = ((s.get! i).toNat : Int) := by
  have e : s.get! i = s.data[i]! := rfl
  rw [e]
  unfold lat nums
  rw [List.getD_eq_getElem?_getD, List.getElem?_map, Array.getElem?_toList]
  by_cases h : i < s.data.size
  · rw [Array.getElem?_eq_getElem h, getElem!_pos s.data i h]
    rfl
  · rw [Array.getElem?_eq_none (Nat.le_of_not_lt h), getElem!_neg s.data i h]
    rfl
theorem dec_go (s : ByteArray) (h : s.size ≠ 0) : Lib.decodeGo s = dec (nums s) := by
  unfold Lib.decodeGo dec
  rw [if_neg h, Lib.decode_at, nums_lat, nums_lat, nums_lat, nums_lat, nums_length]
  rfl

theorem nums_extract (s : ByteArray) (i j : Nat) : nums (s.extract i j) = ((nums s).take j).drop i := by
  unfold nums
  rw [ByteArray.data_extract, Array.toList_extract, List.extract_eq_take_drop, List.map_take, List.map_drop, List.drop_take]
theorem nums_from (s : ByteArray) (i : Nat) : nums (s.extract i s.size) = (nums s).drop i := by
  rw [nums_extract, List.take_of_length_le (by rw [nums_length]; omega)]

theorem tabs_keep {g3 g4 : Nat} {w w' : World} (h : Lib.Utf8Tabs g3 g4 w) (b : Below w.heap.size w w') : Lib.Utf8Tabs g3 g4 w' :=
  ⟨fun c hc => by rw [b.cell (World.block_lt_of_cell? w _ (h.1 c hc))]; exact h.1 c hc,
   fun i hi => ⟨by rw [b.cell (World.block_lt_of_cell? w _ (h.2 i hi).1)]; exact (h.2 i hi).1, by rw [b.cell (World.block_lt_of_cell? w _ (h.2 i hi).2)]; exact (h.2 i hi).2⟩⟩

/-- Where no point's bytes stand at the beginning: (0, 0). -/
theorem point_none (w : World) (hT : Lib.Utf8Tabs 0 1 w) (s : ByteArray) (r k : Nat) (hd : Lib.decodeGo s = (r, k)) (h : r = 0 ∨ r = 65533 ∧ k < 2) :
    Calls Tryd.prog 89 #[.string s] w fun e w' => e = .returned (.tuple #[.int .i64 0, .int .i64 0]) ∧ Below w.heap.size w w' := by
  have hk : Hid (k < 2 ∨ r = 0) := h.elim .inr (fun x => .inl x.2)
  go_enter Tryd.func89, Tryd.ntmps89
  go_wp2_with (fail)
  refine (Tryd.utf8_DecodeRuneInString s _ hT).mono ?_
  rw [hd]
  clear hd
  rintro e w1 ⟨rfl, hb⟩
  rcases h with rfl | ⟨rfl, h⟩
  · go_wp2_with (fail)
    go_ret2
    exact ⟨rfl, hb⟩
  · have hd := decide_eq_true (show (k : Int) < 2 by omega)
    clear h hk
    go_wp2_with (fail)
    go_ret2
    exact ⟨rfl, hb⟩

theorem point_some (w : World) (hT : Lib.Utf8Tabs 0 1 w) (s : ByteArray) (r k : Nat) (hd : Lib.decodeGo s = (r, k)) (h : ¬ (r = 0 ∨ r = 65533 ∧ k < 2)) (hr : r ≤ 1114111) :
    Calls Tryd.prog 89 #[.string s] w fun e w' => e = .returned (.tuple #[.int .i64 r, .int .i64 k]) ∧ Below w.heap.size w w' := by
  have h0 : ((r : Int) == 0) = false := by simp; omega
  obtain ⟨R, hR⟩ : ∃ R : Int, R = (r : Int) := ⟨_, rfl⟩
  have hw : wrap64 R = R := IntWalk.wrap64_in _ ⟨by omega, by omega⟩
  by_cases hq : r = 65533
  · have h1 := decide_eq_false (show ¬ ((k : Int) < 2) by omega)
    have h2 : (R == 65533) = true := by rw [hR, hq]; rfl
    rw [← hR] at h0 ⊢
    go_enter Tryd.func89, Tryd.ntmps89
    go_wp2_with (fail)
    refine (Tryd.utf8_DecodeRuneInString s _ hT).mono ?_
    rw [hd, ← hR]
    clear hd hq h hr
    rintro e w1 ⟨rfl, hb⟩
    clear hR
    go_wp2_with (fail)
    go_ret2
    exact ⟨by simp [hw], hb⟩
  · have h2 : (R == 65533) = false := by rw [hR]; simp; omega
    rw [← hR] at h0 ⊢
    go_enter Tryd.func89, Tryd.ntmps89
    go_wp2_with (fail)
    refine (Tryd.utf8_DecodeRuneInString s _ hT).mono ?_
    rw [hd, ← hR]
    clear hd hq h hr
    rintro e w1 ⟨rfl, hb⟩
    clear hR
    go_wp2_with (fail)
    go_ret2
    exact ⟨by simp [hw], hb⟩

theorem nums_ne {s : ByteArray} (h : s.size ≠ 0) : nums s ≠ [] := fun e => h (by rw [← nums_length, e]; rfl)

/-- utf.point: a point and how many bytes it has, or there is none. -/
theorem point_calls (w : World) (hT : Lib.Utf8Tabs 0 1 w) (s : ByteArray) (hs : s.size ≠ 0) :
    Calls Tryd.prog 89 #[.string s] w fun e w' => ∃ (n : Int) (k : Nat), e = .returned (.tuple #[.int .i64 n, .int .i64 k]) ∧ Below w.heap.size w w' ∧
      ((k = 0 ∧ ∀ n, Good n → ¬ enc n <+: nums s) ∨ (Good n ∧ enc n <+: nums s ∧ k = (enc n).length)) := by
  rcases dec_spec (nums s) (nums_bytes s) (nums_ne hs) with ⟨h1, h2⟩ | ⟨h1, h2, h3, h4⟩
  · refine (point_none w hT s (dec (nums s)).1 (dec (nums s)).2 (dec_go s hs) h1).mono ?_
    rintro e w' ⟨rfl, hb⟩
    exact ⟨0, 0, rfl, hb, .inl ⟨rfl, h2⟩⟩
  · refine (point_some w hT s (dec (nums s)).1 (dec (nums s)).2 (dec_go s hs) h1 (by have := h2.2.1; omega)).mono ?_
    rintro e w' ⟨rfl, hb⟩
    exact ⟨_, _, rfl, hb, .inr ⟨h2, h3, h4⟩⟩

theorem info_int : (Tryd.prog.info? 3).map (fun i => (i.zero, i.size, i.bytes)) = some (some (.int .i64 0), 1, 8) := by kernel_rfl

def strLen : Value → Nat | .string b => b.size | _ => 0
def IsStr (L l : List Int) : Prop := AllGood l ∧ L = encs l ∧ L.length ≤ 65535
def PointsPost (w : World) (L : List Int) (e : Ending) (w' : World) : Prop :=
  (∃ l A c, IsStr L l ∧ e = .returned (.tuple #[.slice A l.length c, .int .i64 0]) ∧ OwnInts w' w.heap.size 3 .i64 (.slice A l.length c) l ∧ Below w.heap.size w w') ∨
  ((∀ l, ¬ IsStr L l) ∧ e = .returned (.tuple #[.slice none 0 0, .int .i64 90]) ∧ Below w.heap.size w w')

set_option maxHeartbeats 1000000 in
theorem points_calls (w : World) (hT : Lib.Utf8Tabs 0 1 w) (s : ByteArray) :
    Calls Tryd.prog 84 #[.string s] w fun e w' => PointsPost w (nums s) e w' := by
  obtain ⟨L, hL⟩ : ∃ L, Hid (L = nums s) := ⟨_, rfl⟩
  have hLs : Hid (L.length = s.size) := by rw [hL.out, Hid, nums_length]
  rw [← hL.out]
  have HT := Lib.hid hT
  clear hT
  by_cases hbig : (65535 : Int) < (s.size : Int)
  · have hd := decide_eq_true hbig
    have HN : Hid (∀ l, ¬ IsStr L l) := fun l h => by have := h.2.2; rw [hLs.out] at this; omega
    go_enter Tryd.func84, Tryd.ntmps84
    go_wp2_with (fail)
    go_step3
    go_wp2_with (fail)
    rw [Exit.noGoto_ret]
    go_ret2
    exact .inr ⟨HN.out, rfl, Below.refl _ _⟩
  · have hd := decide_eq_false hbig
    have HS : Hid (L.length ≤ 65535) := by rw [Hid, hLs.out]; omega
    clear hbig
    go_enter Tryd.func84, Tryd.ntmps84
    go_wp2_with (fail)
    go_step3
    go_wp2_with (fail)
    go_step3
    go_wp2_with (fail)
    go_loopw [0, 4] (fun sv out wr => ∃ (b : ByteArray) (l : List Int) (A : Option Addr) (c : Nat), sv = .string b ∧ out = .slice A l.length c ∧ Hid (AllGood l ∧ L = encs l ++ nums b) ∧ Hid (OwnInts wr w.heap.size 3 .i64 (.slice A l.length c) l) ∧ Below w.heap.size w wr) (fun sv _ _ => strLen sv)
    case atStart => exact ⟨s, [], none, 0, rfl, rfl, ⟨fun n h => by simp at h, by rw [hL.out]; rfl⟩, OwnInts.nil _ _ _ _, Below.refl _ _⟩
    case round =>
      obtain ⟨b, l, A, c, rfl, rfl, hl, hO, hB⟩ := hrel
      have HB := Lib.hid hB
      clear hB
      by_cases hz : b.size = 0
      · have hfin : Hid (IsStr L l) := by
          have e : nums b = [] := List.eq_nil_of_length_eq_zero (by rw [nums_length]; exact hz)
          exact ⟨hl.out.1, by rw [hl.out.2, e]; simp, HS.out⟩
        have hd0 : decide (0 < b.size) = false := decide_eq_false (by omega)
        clear hz
        go_wp2_with (fail)
        rw [Exit.noGoto_ret]
        go_ret2
        exact .inl ⟨l, A, c, hfin.out, rfl, hO.out, HB.out⟩
      · have hd0 : decide (0 < b.size) = true := decide_eq_true (by omega)
        have HZ := Lib.hid hz
        clear hz
        go_wp2_with (fail)
        refine (point_calls _ (tabs_keep HT.out HB.out) b HZ.out).mono ?_
        rintro e w1 ⟨n, k, rfl, hb1, hk⟩
        have HB1 := Lib.hid (HB.out.trans (hb1.mono HB.out.size))
        have HO1 := Lib.hid (hO.out.turn (Turn.of_below (S := fun _ => False) hb1) (fun _ _ h => h))
        have HK := Lib.hid hk
        clear hb1 hk hO
        by_cases hk0 : k = 0
        · subst hk0
          have hfin : Hid (∀ l', ¬ IsStr L l') := by
            intro l' h'
            rcases HK.out with ⟨_, hno⟩ | ⟨_, _, h0⟩
            · have := encs_split l l' (nums b) hl.out.1 h'.1 (by rw [← hl.out.2]; exact h'.2.1) (fun _ => hno)
              exact nums_ne HZ.out this.1
            · have := enc_length n; have := (encLen_range n).1; omega
          go_wp2_with (fail)
          rw [Exit.noGoto_ret]
          go_ret2
          exact .inr ⟨hfin.out, rfl, HB1.out⟩
        · have hkp : (0 : Int) < (k : Int) := by omega
          have hdk : decide (0 < k) = true := decide_eq_true (by omega)
          have hk' : Hid (Good n ∧ enc n <+: nums b ∧ k = (enc n).length) := by
            rcases HK.out with ⟨h0, _⟩ | h
            · exact absurd h0 hk0
            · exact h
          have hkb : (k : Int) ≤ (b.size : Int) := by
            have := hk'.out.2.1.length_le
            rw [nums_length, ← hk'.out.2.2] at this
            omega
          have hLN : Hid (l.length + 1 ≤ 140737488355328 ∧ (l.length + 1) * 8 ≤ 140737488355328) := by
            have h1 := encs_length l
            have h2 := HS.out
            rw [hl.out.2, List.length_append] at h2
            rw [Hid]; omega
          clear hk0
          go_wp2_with (at_builtin; go_must (refine wp_append_int w1 w.heap.size rfl _ _ 25 3 .i64 8 rfl Tryd.underlying25 info_int (.slice A l.length c) l n rfl _ rfl (heap_new w1 _) (Nat.le_refl _) (Turn.alloc w1 _) HO1.out HB1.out.size hLN.out ?_))
          intro g2 c2 w2 hown2 ht2 hloc hsz2
          have HB2 := Lib.hid (ht2.belowTrans HB1.out HB1.out.size (fun j hj e => by have := (own_block_ge HO1.out j e).1; omega))
          have HO2 := Lib.hid hown2
          clear ht2 hloc hown2
          go_wp2_with (fail)
          go_roundw
          case rel =>
            refine ⟨b.extract k b.size, l ++ [n], some ⟨g2, 0, none⟩, c2, rfl, by simp, ?_, by simp only [Hid, List.length_append, List.length_singleton]; exact HO2.out, HB2.out⟩
            obtain ⟨hg, hp, hke⟩ := hk'.out
            refine ⟨fun x hx => ?_, ?_⟩
            · simp only [List.mem_append, List.mem_singleton] at hx
              rcases hx with hx | rfl
              · exact hl.out.1 x hx
              · exact hg
            · rw [hl.out.2, encs_app, encs_one, List.append_assoc, nums_from, hke]
              obtain ⟨t, ht⟩ := hp
              rw [← ht, List.drop_left]
          case measure =>
            show (b.extract k b.size).size < b.size
            rw [← nums_length, nums_from, List.length_drop, nums_length]
            omega

end Utf
end Go.Proofs.YteigakkghkjakaaDoor

/- basculeref09.Points; basculeref01.Ints. -/
import Derived.Test.YteigakkghkjakaaDoorUtfC
namespace Go.Proofs.YteigakkghkjakaaDoor
open Go.RowKit
set_option linter.unusedVariables false
set_option linter.unusedSimpArgs false
namespace Utf

theorem lat_ext {L M : List Int} (hl : L.length = M.length) (h : ∀ i, i < L.length → lat L i = lat M i) : L = M := by
  apply List.ext_getElem hl
  intro i h1 h2
  rw [← lat_get L i h1, ← lat_get M i h2]
  exact h i h1

def RPointsPost (w : World) (L : List Int) (e : Ending) (w' : World) : Prop :=
  (∃ l A c, IsStr L l ∧ e = .returned (.tuple #[.slice A l.length c, .bool true]) ∧ OwnInts w' w.heap.size 3 .i64 (.slice A l.length c) l ∧ Below w.heap.size w w') ∨
  ((∀ l, ¬ IsStr L l) ∧ e = .returned (.tuple #[.slice none 0 0, .bool false]) ∧ Below w.heap.size w w')

set_option maxHeartbeats 1000000 in
theorem rpoints_calls (w : World) (s : ByteArray) :
    Calls Tryd.prog 88 #[.string s] w fun e w' => RPointsPost w (nums s) e w' := by
  obtain ⟨L, hL⟩ : ∃ L, Hid (L = nums s) := ⟨_, rfl⟩
  have hLs : Hid (L.length = s.size) := by rw [hL.out, Hid, nums_length]
  rw [← hL.out]
  by_cases hbig : (65535 : Int) < (s.size : Int)
  · have hd := decide_eq_true hbig
    have HN : Hid (∀ l, ¬ IsStr L l) := fun l h => by have := h.2.2; rw [hLs.out] at this; omega
    go_enter Tryd.func88, Tryd.ntmps88
    go_wp2_with (fail)
    go_ret2
    exact .inr ⟨HN.out, rfl, Below.refl _ _⟩
  · have hd := decide_eq_false hbig
    have HS : Hid (L.length ≤ 65535) := by rw [Hid, hLs.out]; omega
    clear hbig
    go_enter Tryd.func88, Tryd.ntmps88
    go_wp2_with (fail)
    go_loopw [0, 4] (fun sv out wr => ∃ (b : ByteArray) (l : List Int) (A : Option Addr) (c : Nat), sv = .string b ∧ out = .slice A l.length c ∧ Hid (AllGood l ∧ L = encs l ++ nums b) ∧ Hid (OwnInts wr w.heap.size 3 .i64 (.slice A l.length c) l) ∧ Below w.heap.size w wr) (fun sv _ _ => strLen sv)
    case atStart => exact ⟨s, [], none, 0, rfl, rfl, ⟨fun n h => by simp at h, by rw [hL.out]; rfl⟩, OwnInts.nil _ _ _ _, Below.refl _ _⟩
    case round =>
      obtain ⟨b, l, A, c, rfl, rfl, hl, hO, hB⟩ := hrel
      have HB := Lib.hid hB
      clear hB
      by_cases hz : b.size = 0
      · have hfin : Hid (IsStr L l) := by
          have e : nums b = [] := List.eq_nil_of_length_eq_zero (by rw [nums_length]; exact hz)
          exact ⟨hl.out.1, by rw [hl.out.2, e]; simp, HS.out⟩
        have hd0 : decide (0 < b.size) = false := decide_eq_false (by omega)
        clear hz
        go_wp2_with (fail)
        go_ret2
        exact .inl ⟨l, A, c, hfin.out, rfl, hO.out, HB.out⟩
      · have hd0 : decide (0 < b.size) = true := decide_eq_true (by omega)
        have HZ := Lib.hid hz
        clear hz
        go_wp2_with (fail)
        refine (first_calls _ b).mono ?_
        rintro e w1 ⟨hb1, hk⟩
        have HB1 := Lib.hid (HB.out.trans (hb1.mono HB.out.size))
        have HO1 := Lib.hid (hO.out.turn (Turn.of_below (S := fun _ => False) hb1) (fun _ _ h => h))
        clear hb1 hO
        rcases hk with ⟨n, hg, hp, rfl⟩ | ⟨hno, rfl⟩
        · have HG := Lib.hid hg
          have HP := Lib.hid hp
          have hn0 : (n == 0) = false := by have := hg.1; simp; omega
          have hkb : (((enc n).length : Nat) : Int) ≤ (b.size : Int) := by
            have := hp.length_le
            rw [nums_length] at this
            omega
          have hsz : (strOfNums (enc n)).size = (enc n).length := strOfNums_size _
          have hLN : Hid (l.length + 1 ≤ 140737488355328 ∧ (l.length + 1) * 8 ≤ 140737488355328) := by
            have h1 := encs_length l
            have h2 := HS.out
            rw [hl.out.2, List.length_append] at h2
            rw [Hid]; omega
          clear hg hp
          go_wp2_with (at_builtin; go_must (refine wp_append_int w1 w.heap.size rfl _ _ 25 3 .i64 8 rfl Tryd.underlying25 info_int (.slice A l.length c) l n rfl _ rfl (heap_new w1 _) (Nat.le_refl _) (Turn.alloc w1 _) HO1.out HB1.out.size hLN.out ?_))
          intro g2 c2 w2 hown2 ht2 hloc hsz2
          have HB2 := Lib.hid (ht2.belowTrans HB1.out HB1.out.size (fun j hj e => by have := (own_block_ge HO1.out j e).1; omega))
          have HO2 := Lib.hid hown2
          clear ht2 hloc hown2
          go_wp2_with (fail)
          refine (rbytes_calls _ n HG.out).mono ?_
          rintro e w3 ⟨rfl, hb3⟩
          have HB3 := Lib.hid (HB2.out.trans (hb3.mono HB2.out.size))
          have HO3 := Lib.hid (HO2.out.turn (Turn.of_below (S := fun _ => False) hb3) (fun _ _ h => h))
          clear hb3
          go_wp2_with (fail)
          go_roundw
          case rel =>
            refine ⟨b.extract (enc n).length b.size, l ++ [n], some ⟨g2, 0, none⟩, c2, rfl, by simp, ?_, by simp only [Hid, List.length_append, List.length_singleton]; exact HO3.out, HB3.out⟩
            refine ⟨fun x hx => ?_, ?_⟩
            · simp only [List.mem_append, List.mem_singleton] at hx
              rcases hx with hx | rfl
              · exact hl.out.1 x hx
              · exact HG.out
            · rw [hl.out.2, encs_app, encs_one, List.append_assoc, nums_from]
              obtain ⟨t, ht⟩ := HP.out
              rw [← ht, List.drop_left]
          case measure =>
            show (b.extract (enc n).length b.size).size < b.size
            rw [← nums_length, nums_from, List.length_drop, nums_length]
            have := enc_length n; have := (encLen_range n).1; have := HZ.out
            omega
        · have hfin : Hid (∀ l', ¬ IsStr L l') := by
            intro l' h'
            have := encs_split l l' (nums b) hl.out.1 h'.1 (by rw [← hl.out.2]; exact h'.2.1) (fun _ => hno)
            exact nums_ne HZ.out this.1
          clear hno
          go_wp2_with (fail)
          go_ret2
          exact .inr ⟨hfin.out, rfl, HB1.out⟩

theorem meas (n k : Nat) (h : k < n) : n - ((k : Int) + 1).toNat < n - ((k : Int)).toNat := by omega

set_option maxHeartbeats 1000000 in
theorem ints_calls (w : World) (A B : Option Addr) (L M : List Int) (c d : Nat) (hL : Reads .i64 w A L) (hM : Reads .i64 w B M) (hbd : (L.length : Int) ≤ 70000) :
    Calls Tryd.prog 43 #[.slice A L.length c, .slice B M.length d] w fun e w' => e = .returned (.bool (decide (L = M))) ∧ Below w.heap.size w w' := by
  have HL := Lib.hid hL
  have HM := Lib.hid hM
  have HBD := Lib.hid hbd
  clear hL hM hbd
  obtain ⟨q, hq⟩ : ∃ q, Hid (decide (L = M) = q) := ⟨_, rfl⟩
  rw [hq.out]
  by_cases hlen : L.length = M.length
  · have hne : ((L.length : Int) != (M.length : Int)) = false := by simp [hlen]
    obtain ⟨k0, hk0⟩ : ∃ k0, Hid (k0 = M.length) := ⟨_, rfl⟩
    go_enter Tryd.func43, Tryd.ntmps43
    go_wp2_with (fail)
    go_loopw [5] (fun x wr => ∃ k : Nat, k ≤ L.length ∧ x = .int .i64 k ∧ Hid (∀ i, i < k → lat L i = lat M i) ∧ Hid (∃ n, wr = w.drewN n)) (fun x _ => L.length - (intOf x).toNat)
    case atStart => exact ⟨0, Nat.zero_le _, rfl, fun i h => absurd h (by omega), ⟨0, rfl⟩⟩
    case round =>
      obtain ⟨k, hk, rfl, hs, hB⟩ := hrel
      obtain ⟨n, hn⟩ := hB.out
      subst hn
      have hkb : (k : Int) ≤ 70000 := by have := HBD.out; omega
      by_cases hkl : k < L.length
      · have hkm : k < M.length := by omega
        obtain ⟨x, rfl, hcx⟩ := HL.out (by omega)
        obtain ⟨y, rfl, hcy⟩ := HM.out (by omega)
        have hx := hcx k hkl
        have hy := hcy k hkm
        clear hcx hcy
        by_cases he : lat L k = lat M k
        · have hbe : (lat L k != lat M k) = false := by simp [he]
          have HE := Lib.hid he
          clear he
          go_wp2_with (fail)
          go_quiet (fail)
          go_wp2_with (fail)
          go_roundw
          case rel =>
            refine ⟨k + 1, by omega, by go_num, fun i hi => ?_, ⟨_, rfl⟩⟩
            rcases Nat.lt_or_ge i k with h | h
            · exact hs.out i h
            · have : i = k := by omega
              subst this
              exact HE.out
          case measure => simp [intOf]; omega
        · have hbe : (lat L k != lat M k) = true := by simpa using he
          have hqf : Hid (q = false) := by rw [Hid, ← hq.out]; exact decide_eq_false (fun h : L = M => he (by rw [h]))
          clear he
          go_wp2_with (fail)
          go_quiet (fail)
          go_wp2_with (fail)
          go_ret
          exact ⟨by simp [hqf.out], below_drewN (below_drewN (Below.refl _ _) _) _⟩
      · have hke : Hid (L = M) := lat_ext hlen (fun i hi => hs.out i (by omega))
        have hqt : Hid (q = true) := by rw [Hid, ← hq.out]; exact decide_eq_true hke.out
        go_wp2_with (fail)
        go_ret
        exact ⟨by simp [hqt.out], below_drewN (Below.refl _ _) _⟩
  · have hqf : Hid (q = false) := by rw [Hid, ← hq.out]; exact decide_eq_false (fun h : L = M => hlen (by rw [h]))
    have hne : ((L.length : Int) != (M.length : Int)) = true := by simp; omega
    have hne' : (L.length != M.length) = true := by simp; omega
    clear hlen
    go_enter Tryd.func43, Tryd.ntmps43
    go_wp2_with (fail)
    go_ret
    exact ⟨by simp [hqf.out], Below.refl _ _⟩

end Utf
end Go.Proofs.YteigakkghkjakaaDoor

/- basculeref09.first. -/
import Derived.Test.YteigakkghkjakaaDoorUtfB
import Derived.Deep.RegionHeld
namespace Go.Proofs.YteigakkghkjakaaDoor
open Go.RowKit
set_option linter.unusedVariables false
set_option linter.unusedSimpArgs false
namespace Utf

theorem str_beq (x y : ByteArray) : (x.toList == y.toList) = true ↔ x = y := by
  rw [beq_iff_eq, ByteArray.toList_eq, ByteArray.toList_eq]
  exact ⟨fun h => ByteArray.ext (Array.toList_inj.mp h), fun h => by rw [h]⟩
theorem nums_inj {a b : ByteArray} (h : nums a = nums b) : a = b := by
  have h1 : a.data.toList = b.data.toList := by
    have h2 : (a.data.toList.map fun x => (x.toNat : Int)) = b.data.toList.map fun x => (x.toNat : Int) := h
    exact List.map_inj_right (fun x y e => UInt8.toNat_inj.1 (by omega)) |>.1 h2
  have h3 : a.data = b.data := Array.toList_inj.1 h1
  cases a; cases b; cases h3; rfl
theorem nums_str (X : List Int) (h : ∀ x ∈ X, 0 ≤ x ∧ x < 256) : nums (strOfNums X) = X := by
  unfold nums
  rw [strOfNums_data, List.map_map]
  conv => rhs; rw [← List.map_id X]
  refine List.map_congr_left fun x hx => ?_
  have := h x hx
  show ((UInt8.ofNat x.toNat).toNat : Int) = x
  rw [UInt8.toNat_ofNat']
  omega

def sub : Nat → Int | 2 => 192 | 3 => 224 | 4 => 240 | _ => 0
def acc (L : List Int) (k : Nat) : Nat → Int
  | 0 => 0
  | 1 => lat L 0 - sub k
  | q + 2 => 64 * acc L k (q + 1) + lat L (q + 1) - 128

/-- What a round of so many bytes reckons, where a point's bytes stand there, is the point. -/
theorem acc_enc (L : List Int) (m : Int) (h : Good m) (hp : enc m <+: L) : acc L (encLen m) (encLen m) = m := by
  have h1 := (pre_iff m L).1 hp
  obtain ⟨g1, g2, _⟩ := h
  unfold PreA at h1
  rcases h1 with h1 | h1 | h1 | h1
  · have e : encLen m = 1 := by unfold encLen; rw [if_pos h1.1]
    rw [e]; simp only [acc, sub, Nat.zero_add, Nat.reduceAdd]; omega
  · have e : encLen m = 2 := by unfold encLen; rw [if_neg (by omega), if_pos (by omega)]
    rw [e]; simp only [acc, sub, Nat.zero_add, Nat.reduceAdd]; omega
  · have e : encLen m = 3 := by unfold encLen; rw [if_neg (by omega), if_neg (by omega), if_pos (by omega)]
    rw [e]; simp only [acc, sub, Nat.zero_add, Nat.reduceAdd]; omega
  · have e : encLen m = 4 := by unfold encLen; rw [if_neg (by omega), if_neg (by omega), if_neg (by omega)]
    rw [e]; simp only [acc, sub, Nat.zero_add, Nat.reduceAdd]; omega

theorem step_eq (m : Int) (x : UInt8) (h0 : -100000000 ≤ m) (h1 : m ≤ 100000000) : wrap64 (wrap64 (64 * m + wrap64 (x.toNat : Int)) - 128) = 64 * m + (x.toNat : Int) - 128 := by
  have := x.toNat_lt
  rw [IntWalk.wrap64_in (x.toNat : Int) ⟨by omega, by omega⟩, IntWalk.wrap64_in (64 * m + (x.toNat : Int)) ⟨by omega, by omega⟩, IntWalk.wrap64_in _ ⟨by omega, by omega⟩]
theorem first_eq (x : UInt8) (d : Int) (h0 : 0 ≤ d) (h1 : d ≤ 240) : wrap64 (wrap64 (x.toNat : Int) - d) = (x.toNat : Int) - d := by
  have := x.toNat_lt
  rw [IntWalk.wrap64_in (x.toNat : Int) ⟨by omega, by omega⟩, IntWalk.wrap64_in _ ⟨by omega, by omega⟩]
theorem lat_at (s : ByteArray) (q : Nat) (h : q < s.size) : lat (nums s) q = ((s[q]'h).toNat : Int) := by
  have h2 : q < s.data.size := h
  rw [nums_lat, show s.get! q = s.data[q]! from rfl, getElem!_pos s.data q h2]
  rfl
theorem acc_bound (L : List Int) (hb : ∀ x ∈ L, 0 ≤ x ∧ x < 256) (k q : Nat) (h0 : 1 ≤ q) (h4 : q ≤ 4) : -100000000 ≤ acc L k q ∧ acc L k q ≤ 100000000 := by
  have k0 := lat_byte L hb 0
  have k1 := lat_byte L hb 1
  have k2 := lat_byte L hb 2
  have k3 := lat_byte L hb 3
  have hs : 0 ≤ sub k ∧ sub k ≤ 240 := by unfold sub; split <;> omega
  match q, h0, h4 with
  | 1, _, _ => simp only [acc]; omega
  | 2, _, _ => simp only [acc, Nat.zero_add, Nat.reduceAdd]; omega
  | 3, _, _ => simp only [acc, Nat.zero_add, Nat.reduceAdd]; omega
  | 4, _, _ => simp only [acc, Nat.zero_add, Nat.reduceAdd]; omega

def FirstPost (w : World) (L : List Int) (e : Ending) (w' : World) : Prop :=
  Below w.heap.size w w' ∧ ((∃ n, Good n ∧ enc n <+: L ∧ e = .returned (.int .i64 n)) ∨ ((∀ n, Good n → ¬ enc n <+: L) ∧ e = .returned (.int .i64 0)))

set_option maxHeartbeats 1000000 in
theorem first_calls (w : World) (s : ByteArray) :
    Calls Tryd.prog 91 #[.string s] w fun e w' => FirstPost w (nums s) e w' := by
  obtain ⟨L, hL⟩ : ∃ L, Hid (L = nums s) := ⟨_, rfl⟩
  have hLs : Hid (L.length = s.size) := by rw [hL.out, Hid, nums_length]
  rw [← hL.out]
  go_enter Tryd.func91, Tryd.ntmps91
  go_wp2_with (fail)
  go_loopw [3] (fun x wr => ∃ k : Nat, 1 ≤ k ∧ k ≤ 5 ∧ x = .int .i64 (k : Int) ∧ Hid (∀ m, Good m → enc m <+: L → k ≤ encLen m) ∧ Below w.heap.size w wr) (fun x _ => 5 - (intOf x).toNat)
  case atStart => exact ⟨1, by omega, by omega, rfl, fun m _ _ => (encLen_range m).1, Below.refl _ _⟩
  case round =>
    obtain ⟨k, hk1, hk5, rfl, hk, hB⟩ := hrel
    have HB := Lib.hid hB
    clear hB
    by_cases hin : k ≤ 4 ∧ k ≤ s.size
    · obtain ⟨hk4, hks⟩ := hin
      have hd1 : decide ((k : Int) ≤ 4) = true := decide_eq_true (by omega)
      have hd2 : decide ((k : Int) ≤ (s.size : Int)) = true := decide_eq_true (by omega)
      have hd2' : decide (k ≤ s.size) = true := decide_eq_true (by omega)
      have hs0 : (0 : Int) < (s.size : Int) := by omega
      have hkk : (((k : Int) == 2) = false ∧ ((k : Int) == 3) = false ∧ ((k : Int) == 4) = false ∧ sub k = 0) ∨ (((k : Int) == 2) = true ∧ sub k = 192) ∨ (((k : Int) == 2) = false ∧ ((k : Int) == 3) = true ∧ sub k = 224) ∨ (((k : Int) == 2) = false ∧ ((k : Int) == 3) = false ∧ ((k : Int) == 4) = true ∧ sub k = 240) := by
        match k, hk1, hk4 with
        | 1, _, _ => exact .inl ⟨rfl, rfl, rfl, rfl⟩
        | 2, _, _ => exact .inr (.inl ⟨rfl, rfl⟩)
        | 3, _, _ => exact .inr (.inr (.inl ⟨rfl, rfl, rfl⟩))
        | 4, _, _ => exact .inr (.inr (.inr ⟨rfl, rfl, rfl, rfl⟩))
      obtain ⟨K, hK⟩ : ∃ K : Nat, K = k := ⟨_, rfl⟩
      rcases hkk with ⟨e2, e3, e4, hsub⟩ | ⟨e2, hsub⟩ | ⟨e2, e3, hsub⟩ | ⟨e2, e3, e4, hsub⟩
      all_goals
        have Hsub := Lib.hid hsub
        clear hsub
        go_wp2_with (fail)
        go_loopw [4, 5] (fun n x w2 => ∃ (q : Nat) (m : Int), 1 ≤ q ∧ q ≤ k ∧ x = .int .i64 (q : Int) ∧ n = .int .i64 m ∧ -100000000 ≤ m ∧ m ≤ 100000000 ∧ Hid (m = acc L k q) ∧ w2 = wr) (fun _ x _ => 5 - (intOf x).toNat)
        case atStart =>
          have hb := acc_bound L (by rw [hL.out]; exact nums_bytes s) k 1 (by omega) (by omega)
          refine ⟨1, acc L k 1, by omega, hk1, rfl, ?_, hb.1, hb.2, rfl, rfl⟩
          simp only [acc, Hsub.out, hL.out]
          rw [lat_at s 0 (by omega)]
          first
            | (rw [first_eq _ _ (by omega) (by omega)])
            | (have := (s[0]'(by omega)).toNat_lt; rw [IntWalk.wrap64_in _ ⟨by omega, by omega⟩]; simp)
        case round =>
          obtain ⟨q, m, hq1, hqk, rfl, rfl, hm0, hm1, hm, rfl⟩ := hrel
          by_cases hqk' : q < k
          · have hqs : q < s.size := by omega
            go_wp2_with (fail)
            go_roundw
            case rel =>
              have hb := acc_bound L (by rw [hL.out]; exact nums_bytes s) k (q + 1) (by omega) (by omega)
              refine ⟨q + 1, acc L k (q + 1), by omega, by omega, by go_num, ?_, hb.1, hb.2, rfl, trivial⟩
              obtain ⟨p, rfl⟩ : ∃ p, q = p + 1 := ⟨q - 1, by omega⟩
              rw [step_eq _ _ hm0 hm1, hm.out]
              simp only [acc]
              rw [hL.out, lat_at s (p + 1) hqs]
            case measure => simp [intOf]; omega
          · have hqe : k = q := by omega
            subst hqe
            clear hqk'
            go_wp2_with (fail)
            by_cases hg : Good m
            · have hdg := decide_eq_true hg
              have HG := Lib.hid hg
              clear hg
              obtain ⟨b, hb⟩ : ∃ b, ((strOfNums (enc m)).toList == (s.extract 0 k).toList) = b := ⟨_, rfl⟩
              have HP := Lib.hid (fun W => rpoint_calls W m)
              rw [hdg] at HP
              clear hdg
              go_region_held (fun _ => True) (trivial) (first | (go_at_call 94; refine (HP.out _).mono ?_; rintro e w5 ⟨rfl, rfl⟩) | (go_at_call 92; refine (rbytes_calls _ m HG.out).mono ?_; rintro e w6 ⟨rfl, hb6⟩; have HB6 := Lib.hid ((HB.out.drew).trans (hb6.mono HB.out.size))))
              have hext : Hid (nums (s.extract 0 k) = L.take k) := by rw [hL.out, Hid, nums_extract, List.drop_zero]
              have hen : Hid (nums (strOfNums (enc m)) = enc m) := nums_str _ (enc_bytes m HG.out)
              cases b with
              | true =>
                have hfin : Hid (enc m <+: L) := by
                  have h1 := (str_beq _ _).1 hb
                  have h2 := congrArg nums h1
                  rw [hen.out, hext.out] at h2
                  rw [h2]
                  exact List.take_prefix _ _
                go_wp2_with (fail)
                go_ret
                exact ⟨HB6.out, .inl ⟨m, HG.out, hfin.out, rfl⟩⟩
              | false =>
                have hnext : Hid (∀ m', Good m' → enc m' <+: L → k + 1 ≤ encLen m') := by
                  intro m' hg' hp'
                  have h1 := hk.out m' hg' hp'
                  rcases Nat.lt_or_ge k (encLen m') with h2 | h2
                  · exact h2
                  · have h3 : encLen m' = k := by omega
                    have h4 := acc_enc L m' hg' hp'
                    rw [h3, ← hm.out] at h4
                    subst h4
                    have h5 : enc m = L.take k := by
                      have := List.prefix_iff_eq_take.1 hp'
                      rw [enc_length, h3] at this
                      exact this
                    have h6 : strOfNums (enc m) = s.extract 0 k := nums_inj (by rw [hen.out, hext.out, h5])
                    rw [(str_beq _ _).2 h6] at hb
                    cases hb
                go_wp2_with (fail)
                go_roundw
                case rel => exact ⟨k + 1, by omega, by omega, by go_num, hnext.out, HB6.out⟩
                case measure => simp [intOf]; omega
            · have hdg := decide_eq_false hg
              have HG := Lib.hid hg
              clear hg
              have HP := Lib.hid (fun W => rpoint_calls W m)
              rw [hdg] at HP
              clear hdg
              go_quiet ((go_at_call 94; exact quiet_left (HP.out _)))
              have hnext : Hid (∀ m', Good m' → enc m' <+: L → k + 1 ≤ encLen m') := by
                intro m' hg' hp'
                have h1 := hk.out m' hg' hp'
                rcases Nat.lt_or_ge k (encLen m') with h2 | h2
                · exact h2
                · have h3 : encLen m' = k := by omega
                  have h4 := acc_enc L m' hg' hp'
                  rw [h3, ← hm.out] at h4
                  exact absurd (h4 ▸ hg') HG.out
              go_wp2_with (fail)
              go_roundw
              case rel => exact ⟨k + 1, by omega, by omega, by go_num, hnext.out, below_drewN HB.out _⟩
              case measure => simp [intOf]; omega
    · have hno : Hid (∀ n, Good n → ¬ enc n <+: L) := by
        intro n hg hp
        have h1 := hk.out n hg hp
        have h2 := (encLen_range n).2
        have h3 := hp.length_le
        rw [enc_length, hLs.out] at h3
        omega
      by_cases h4 : k ≤ 4
      · have hd1 : decide ((k : Int) ≤ 4) = true := decide_eq_true (by omega)
        have hd2 : decide ((k : Int) ≤ (s.size : Int)) = false := decide_eq_false (by omega)
        have hd2' : decide (k ≤ s.size) = false := decide_eq_false (by omega)
        clear hin h4
        go_wp2_with (fail)
        go_ret
        exact ⟨HB.out, .inr ⟨hno.out, rfl⟩⟩
      · have hd1 : decide ((k : Int) ≤ 4) = false := decide_eq_false (by omega)
        clear hin h4
        go_wp2_with (fail)
        go_ret
        exact ⟨HB.out, .inr ⟨hno.out, rfl⟩⟩

end Utf
end Go.Proofs.YteigakkghkjakaaDoor

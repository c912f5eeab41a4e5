/- VarintTells; VarintAgain. -/
import Derived.Test.YthigialbjbpkpaaVarF
import Derived.OpenShut
import Derived.Deep.RegionHeld
namespace Go.Proofs.Ythigialbjbpkpaa
open Go.RowKit Go.ChangeShapes
set_option linter.unusedVariables false
set_option linter.unusedSimpArgs false
namespace Var

theorem u8_range {x : Int} (h : (Lit.int .u8 x).wf = true) : 0 ≤ x ∧ x < 256 := by have := bounds_u8 h; omega
theorem i64_range {x : Int} (h : (Lit.int .i64 x).wf = true) : -9223372036854775808 ≤ x ∧ x ≤ 9223372036854775807 := bounds_i64 h

theorem lat_take (L : List Int) (n i : Nat) (h : i < n) : lat (L.take n) i = lat L i := by
  simp [lat, List.getElem?_take, h]

/-- What came in, as a list of its elements. -/
theorem row_reads {w : World} {a : Option Addr} {len cap : Nat} {zs : List Int} (h : IsRow .u8 w a len cap zs) :
    (zs.take len).length = len ∧ Reads .u8 w a (zs.take len) ∧ (∀ x ∈ zs.take len, 0 ≤ x ∧ x < 256) ∧ len ≤ cap := by
  rcases h with ⟨rfl, rfl, rfl, rfl⟩ | ⟨x, rfl, h1, h2, h3, h4, h5⟩
  · exact ⟨rfl, fun h => absurd h (by simp), by simp, Nat.le_refl _⟩
  · have hl : (zs.take len).length = len := by simp; omega
    refine ⟨hl, fun _ => ⟨x, rfl, fun i hi => ?_⟩, fun y hy => u8_range (h5 y (List.mem_of_mem_take hy)), h1⟩
    rw [hl] at hi
    rw [lat_take _ _ _ hi]
    exact h4 i (by omega)

set_option maxHeartbeats 1000000 in
theorem tells_walk (a0 : Option Addr) (len0 cap0 : Nat) (z0 : List Int) (a1 : Int) (w : World) (w0 : IsRow .u8 w a0 len0 cap0 z0) (y0 : cap0 * 1 ≤ 140737488351232) (w1 : (Lit.int .i64 a1).wf = true) :
    Calls Try.prog 4 #[.slice a0 len0 cap0, .int .i64 a1] w fun e w' => e = .returned (.bool true) ∧ Below w.heap.size w w' := by
  obtain ⟨hl, hR, hb, hcap⟩ := row_reads w0
  obtain ⟨L, hLd⟩ : ∃ L, L = z0.take len0 := ⟨_, rfl⟩
  rw [← hLd] at hl hR hb
  subst hl
  clear hLd w0
  have hlen : Hid (((L.length : Nat) : Int) ≤ 140737488355328) := by rw [Hid]; omega
  have HC := Lib.hid hcap
  have HR := Lib.hid hR
  have Hb := Lib.hid hb
  have hi1 := (i64_range w1).2
  have Hi1 := Lib.hid hi1
  clear hR hb w1 y0 hcap hi1
  by_cases hbig : (1000 : Int) < (L.length : Int)
  · have hd := decide_eq_true hbig
    go_enter Try.func4, Try.ntmps4
    go_wp2_with (fail)
    go_ret
    exact ⟨rfl, Below.refl _ _⟩
  · have hd := decide_eq_false hbig
    clear hbig
    by_cases hneg : a1 < 0
    · have hdn := decide_eq_true hneg
      go_enter Try.func4, Try.ntmps4
      go_wp2_with (fail)
      refine (at_neg _ _ _ _ _ hneg).mono ?_
      rintro e w1 ⟨rfl, rfl⟩
      go_wp2_with (fail)
      refine (awake_calls _).mono ?_
      rintro e w4 ⟨rfl, hb4⟩
      go_wp2_with (fail)
      go_ret
      exact ⟨rfl, hb4⟩
    · have hdn := decide_eq_false hneg
      obtain ⟨T, hT⟩ : ∃ T, Hid (T = tell 4 true L a1 0 1) := ⟨_, rfl⟩
      go_enter Try.func4, Try.ntmps4
      go_wp2_with (fail)
      refine (at_calls _ _ _ _ HC.out HR.out Hb.out hlen.out _ (by omega) Hi1.out).mono ?_
      rw [← hT.out]
      rintro e w1 ⟨rfl, rfl⟩
      go_wp2_with (fail)
      refine (rat_calls _ _ _ _ HC.out HR.out Hb.out hlen.out _ (by omega)).mono ?_
      rw [← hT.out]
      rintro e w1 ⟨rfl, rfl⟩
      go_wp2_with (fail)
      refine (awake_calls _).mono ?_
      rintro e w4 ⟨rfl, hb4⟩
      go_wp2_with (fail)
      go_ret
      exact ⟨by simp, hb4⟩

theorem add_add (x : Addr) (i j : Nat) : (x.add i).add j = x.add (i + j) := by
  unfold Addr.add
  by_cases hi : i = 0
  · subst hi; simp
  · by_cases hj : j = 0
    · subst hj; simp
    · rw [if_neg hj, if_neg hi, if_neg (by omega)]; simp [Nat.add_assoc]

/-- string(b) of what came in. -/
theorem conv_reads {P : Program} {W : World} {src dst e : TypeId} {A : Option Addr} {n c : Nat} {L : List Int} (hs : P.underlying src = some (.slice e)) (he : P.underlying e = some (.int .u8)) (hd : P.underlying dst = some .string)
    (hn : n = L.length) (h : Reads .u8 W A L) : (convert src dst (.slice A n c)).run P W = .ok (.string (strOfNums L)) W := by
  subst hn
  cases A with
  | none =>
    have hL : L = [] := by
      cases L with
      | nil => rfl
      | cons a b => obtain ⟨x, hx, _⟩ := h (by simp); cases hx
    subst hL
    exact run_convert_bytes_nil W src e hs he _ _ dst hd
  | some x =>
    have hl := run_loadCells_list (P := P) W x (L.map (Value.int .u8)) (fun j v hj => by
      have hj' : j < L.length := by simpa using (List.getElem?_eq_some_iff.1 hj).1
      obtain ⟨y, hy, hc⟩ := h (by omega)
      cases hy
      rw [hc j hj', lat_get _ _ hj']
      simp [List.getElem?_eq_getElem hj'] at hj
      rw [← hj])
    rw [List.length_map] at hl
    rw [run_convert_bytes_string W src dst e _ _ c hs he hd, run_bytesToString W x _ c L hl, foldl_push_bytes]
    simp [strOfNums, ByteArray.empty, ByteArray.emptyWithCapacity]
    rfl

theorem Reads.keep {w w' : World} {A : Option Addr} {L : List Int} {k : IntKind} (h : Reads k w A L) (b : Below w.heap.size w w') : Reads k w' A L := by
  intro h0
  obtain ⟨x, hx, hc⟩ := h h0
  exact ⟨x, hx, fun i hi => by rw [b.cell (World.block_lt_of_cell? w _ (hc i hi))]; exact hc i hi⟩

theorem reads_part {W : World} {x : Addr} {L M : List Int} {j n : Nat} (h : Reads .u8 W (some x) L) (hM : (L.drop j).take n = M) (hjn : j + n ≤ L.length) : Reads .u8 W (some (x.add j)) M := by
  subst hM
  intro h0
  refine ⟨_, rfl, fun i hi => ?_⟩
  have hi' : i < n := by simp at hi; omega
  obtain ⟨y, hy, hc⟩ := h (by omega)
  cases hy
  rw [add_add, hc (j + i) (by omega)]
  simp [lat, List.getElem?_take, hi', List.getElem?_drop]

set_option maxHeartbeats 2000000 in
set_option maxRecDepth 100000 in
theorem again_walk (a0 : Option Addr) (len0 cap0 : Nat) (z0 : List Int) (a1 : Int) (w : World) (w0 : IsRow .u8 w a0 len0 cap0 z0) (y0 : cap0 * 1 ≤ 140737488351232) (w1 : (Lit.int .i64 a1).wf = true) :
    Calls Try.prog 6 #[.slice a0 len0 cap0, .int .i64 a1] w fun e w' => e = .returned (.bool true) ∧ Below w.heap.size w w' := by
  obtain ⟨hl, hR, hb, hcap⟩ := row_reads w0
  obtain ⟨L, hLd⟩ : ∃ L, L = z0.take len0 := ⟨_, rfl⟩
  rw [← hLd] at hl hR hb
  subst hl
  clear hLd w0
  have hlen : Hid (((L.length : Nat) : Int) ≤ 140737488355328) := by rw [Hid]; omega
  have HC := Lib.hid hcap
  have HR := Lib.hid hR
  have Hb := Lib.hid hb
  have hi1 := (i64_range w1).2
  have Hi1 := Lib.hid hi1
  clear hR hb w1 y0 hcap hi1
  by_cases hbig : (1000 : Int) < (L.length : Int)
  · have hd := decide_eq_true hbig
    go_enter Try.func6, Try.ntmps6
    go_wp2_with (fail)
    go_ret
    exact ⟨rfl, Below.refl _ _⟩
  · have hd := decide_eq_false hbig
    have Hbig := Lib.hid hbig
    clear hbig
    by_cases hneg : a1 < 0
    · go_enter Try.func6, Try.ntmps6
      go_wp2_with (fail)
      refine (at_neg _ _ _ _ _ hneg).mono ?_
      rintro e w1 ⟨rfl, rfl⟩
      go_wp2_with (fail)
      refine (awake_calls _).mono ?_
      rintro e w4 ⟨rfl, hb4⟩
      go_wp2_with (fail)
      go_ret
      exact ⟨rfl, hb4⟩
    · obtain ⟨j, rfl⟩ : ∃ j : Nat, a1 = (j : Int) := ⟨a1.toNat, by omega⟩
      rcases tell_inv 3 true L j 0 1 Hb.out with ⟨m, hm0, hm1, _, hT, hto, hM⟩ | ⟨er, her, hT⟩
      · rw [Int.zero_add, Int.one_mul] at hT
        have hm2 : m ≤ 268435455 := by have : (128 : Int) ^ (3 + 1) = 268435456 := by decide
                                       omega
        have hpos := (digs_length 3 m).1
        obtain ⟨x, rfl, _⟩ := HR.out (by omega)
        go_enter Try.func6, Try.ntmps6
        go_wp2_with (fail)
        refine (at_calls _ _ _ _ HC.out HR.out Hb.out hlen.out _ (by omega) Hi1.out).mono ?_
        rw [hT]
        rintro e w1 ⟨rfl, rfl⟩
        go_wp2_with (fail)
        refine (put_calls _ m hm0 hm2).mono ?_
        rintro e w1 ⟨A, c, rfl, ho, hb⟩
        go_wp2_with (fail)
        obtain ⟨M, hMd⟩ : ∃ M, Hid (M = digs 3 m) := ⟨_, rfl⟩
        rw [← hMd.out] at hpos hto hM ho ⊢
        have HO := Lib.hid ho
        have HB := Lib.hid hb
        have HT0 : Turn (fun _ => False) w1 w1.drew := Turn.drew (Turn.refl _ _)
        have hRM : Reads .u8 w (some (x.add j)) M := reads_part HR.out hM hto
        have HK : Hid (∀ W, Turn (fun _ => False) w1 W → ((convert 22 9 (.slice A M.length c)).run Try.prog W = .ok (.string (strOfNums M)) W ∧ (convert 22 9 (.slice (some (x.add j)) M.length (cap0 - j))).run Try.prog W = .ok (.string (strOfNums M)) W)) := Lib.hid fun W hW =>
          ⟨conv_own (src := 22) (dst := 9) (e := BT) Try.underlying22 Try.underlying5 Try.underlying9 (HO.out.turn hW (fun _ _ h => h)),
           conv_reads (src := 22) (dst := 9) (e := BT) Try.underlying22 Try.underlying5 Try.underlying9 rfl (hRM.keep (HB.out.trans (hW.toBelow HB.out.size (fun _ _ h => h))))⟩
        obtain ⟨K, hK⟩ : ∃ K : Nat, K = j + M.length := ⟨_, rfl⟩
        have hKi : (j : Int) + (M.length : Int) = (K : Int) := by omega
        rw [hKi]
        have hn : K - j = M.length := by omega
        have hlt : decide (j < K) = true := decide_eq_true (by omega)
        have hle : decide (K ≤ L.length) = true := decide_eq_true (by omega)
        have hb1 : (0 : Int) ≤ (j : Int) := by omega
        have hb2 : (j : Int) ≤ (K : Int) := by omega
        have hb3 : (K : Int) ≤ (cap0 : Int) := by have := HC.out; omega
        clear ho hb hM hRM hKi hK
        go_region_held (fun W => (convert 22 9 (.slice A M.length c)).run Try.prog W = .ok (.string (strOfNums M)) W ∧ (convert 22 9 (.slice (some (x.add j)) M.length (cap0 - j))).run Try.prog W = .ok (.string (strOfNums M)) W) (exact HK.out _ (by assumption)) (first | (go_at_call 11; refine (awake_calls _).mono ?_; rintro e w4 ⟨rfl, hb4⟩; have HT4 := HT0.trans (Turn.of_below hb4)))
        go_wp2_with (fail)
        go_ret
        exact ⟨rfl, HB.out.trans (HT4.toBelow HB.out.size (fun _ _ h => h))⟩
      · go_enter Try.func6, Try.ntmps6
        go_wp2_with (fail)
        refine (at_calls _ _ _ _ HC.out HR.out Hb.out hlen.out _ (by omega) Hi1.out).mono ?_
        rw [hT]
        rintro e w1 ⟨rfl, rfl⟩
        have he0 : (er == 0) = false := by rcases her with rfl | rfl <;> rfl
        go_wp2_with (fail)
        refine (awake_calls _).mono ?_
        rintro e w4 ⟨rfl, hb4⟩
        go_wp2_with (fail)
        go_ret
        exact ⟨rfl, hb4⟩

end Var
end Go.Proofs.Ythigialbjbpkpaa

/- packet.check: any packet. packet.bit, wire.behind, wire.Put, wire.PutText. wire.Put, wire.PutText. wire.PutText; packet.text. -/
import Derived.Test.YteigakkghkjakaaDoorPkO
import Derived.Laws.CopyOwn
import Derived.Lib.AppendStr
namespace Go.Proofs.YteigakkghkjakaaDoor
open Go.RowKit
set_option linter.unusedVariables false
set_option linter.unusedSimpArgs false
namespace Pk

theorem check_calls (w : World) (hT : Lib.Utf8Tabs 0 1 w) (p : Pkt) (C : List Int) (D : List (ByteArray × Int)) (hF : Lies w p C D) : Calls Tryd.prog 45 #[.agg p.cells] w fun e w' => Checks w (Good p C D) e w' := by
  by_cases h : 1 ≤ p.ty ∧ p.ty ≤ 14
  · rcases (by omega : p.ty = 1 ∨ p.ty = 2 ∨ p.ty = 3 ∨ (p.ty = 4 ∨ p.ty = 5 ∨ p.ty = 6 ∨ p.ty = 7 ∨ p.ty = 11) ∨ p.ty = 8 ∨ p.ty = 9 ∨ p.ty = 10 ∨ (p.ty = 12 ∨ p.ty = 13 ∨ p.ty = 14)) with h | h | h | h | h | h | h | h
    · cases hw : p.will
      · exact check_connect_false w hT p C D hF.fit h hw
      · exact check_connect_true w hT p C D hF.fit h hw
    · exact check_connack w p C D hF h
    · exact check_publish w hT p C D hF.fit h
    · exact check_id w p C D hF.fit h
    · exact check_subs8 w hT p C D hF h
    · exact check_suback w p C D hF h
    · exact check_subs10 w hT p C D hF h
    · obtain ⟨A, l, c, hc⟩ := hF.fit.codes
      obtain ⟨B, m, d, hs⟩ := hF.fit.subs
      exact check_none w p C D l c m d A B hc hs hF.strs h
  · refine (check_ty_no w p h).mono ?_
    rintro e w' ⟨hb, rfl⟩
    exact ⟨hb, .inr ⟨fun x => h ⟨x.1, x.2.1⟩, rfl⟩⟩
end Pk
end Go.Proofs.YteigakkghkjakaaDoor

namespace Go.Proofs.YteigakkghkjakaaDoor
open Go.RowKit
set_option linter.unusedVariables false
set_option linter.unusedSimpArgs false
namespace Pk
open Utf (nums nums_length nums_bytes)
open Var (BT info_byte GivesBytes)

def bitN (b : Bool) (n : Int) : Int := if b then n else 0
theorem bit_calls (w : World) (b : Bool) (n : Int) : Calls Tryd.prog 71 #[.bool b, .int .i64 n] w fun e w' => e = .returned (.int .i64 (bitN b n)) ∧ w = w' := by
  cases b with
  | true =>
    go_enter Tryd.func71, Tryd.ntmps71
    go_wp2_with (fail)
    go_ret
    exact ⟨rfl, rfl⟩
  | false =>
    go_enter Tryd.func71, Tryd.ntmps71
    go_wp2_with (fail)
    go_ret
    exact ⟨rfl, rfl⟩

/-- 'make([]T, n, m)': a new row of m cells, n of them named. -/
theorem wp_make_cap {P : Program} (w : World) {ops : Array Oper} {rest : List Oper} {o : Oper} {a : Act} {Q : Exit → Act → World → Prop}
    (hg : o.guard = none) (l c : Operand) (t : TypeId) (hop : o.op = Op.makeSlice t l c)
    (e : TypeId) (i : TypeInfo) (z : Value) (h1 : P.underlying t = some (.slice e)) (h2 : P.info? e = some i) (h3 : i.zero = some z) (h4 : i.size = 1)
    (kl kc : IntKind) (L C : Int) (n m : Nat) (hl : a.eval l = .int kl L) (hc : a.eval c = .int kc C) (hL : L = (n : Int)) (hC : C = (m : Int)) (hnm : n ≤ m) (b2 : i.bytes * m ≤ 281474976710656) (b3 : m ≤ 9223372036854775807)
    (hK : ∀ cur, Hid (cur.size = m) → wpList P ops Q rest (a.put o.dst (.slice (some ⟨w.heap.size, 0, none⟩) n m)) (w.alloc (.cells cur e))) :
    wpList P ops Q (o :: rest) a w := by
  refine wpList_plain hg fun K hK' => ?_
  subst hL
  subst hC
  have hb' : (i.bytes : Int) * (m : Int) ≤ 281474976710656 := by
    have h : ((i.bytes * m : Nat) : Int) ≤ 281474976710656 := by omega
    rwa [Int.natCast_mul] at h
  have hr := run_make (P := P) w t e i z h1 h2 h3 kl kc n m (by omega) (by omega) hb' (by omega)
  simp only [Int.toNat_natCast] at hr
  unfold Oper.wp
  simp [execOp, hop, hl, hc, hr, Result.andThen]
  exact hK' _ _ (hK _ (by rw [Hid, size_madeCells, h4, Nat.mul_one]))

theorem own_of_heap {W : World} {base g n cap : Nat} {e : TypeId} {cur : Array Value} {k : IntKind} {L : List Int} (hg : W.heap[g]? = some (.cells cur e (0, 0))) (hb : base ≤ g) (hn : n = L.length) (hc : L.length ≤ cap) (hm : cap ≤ 9223372036854775807) (hs : cur.size = cap) (ht : cur.toList.take L.length = L.map (Value.int k)) : OwnInts W base e k (.slice (some ⟨g, 0, none⟩) n cap) L := by
  subst hn
  exact ⟨by simp, .inr ⟨g, cap, cur, rfl, hb, hg, hc, by simpa [maxLen] using hm, by simpa using hs, by simpa using ht⟩⟩

set_option maxHeartbeats 1000000 in
theorem behind_calls (w : World) (A : Option Addr) (L : List Int) (c : Nat) (m : Nat) (hR : Reads .u8 w A L) (hb : (L.length : Int) + m ≤ 140737488355328) : Calls Tryd.prog 90 #[.slice A L.length c, .int .i64 m] w fun e w' => GivesBytes w L e w' := by
  have hbn : Hid (L.length + m ≤ 140737488355328) := by rw [Hid]; omega
  have HR := Lib.hid hR
  clear hR
  obtain ⟨i0, hi, hzz⟩ := Option.map_eq_some_iff.1 info_byte
  simp only [Prod.mk.injEq] at hzz
  obtain ⟨hz0, hz1, hz2⟩ := hzz
  have HI := Lib.hid hi
  have HZ0 := Lib.hid hz0
  have HZ1 := Lib.hid hz1
  have HZ2 := Lib.hid hz2
  clear hi hz0 hz1 hz2
  obtain ⟨cs, hcs⟩ : ∃ cs, Hid (cs = L.map (Value.int .u8)) := ⟨_, rfl⟩
  have hcl : Hid (cs.length = L.length) := by rw [hcs.out, Hid, List.length_map]
  go_enter Tryd.func90, Tryd.ntmps90
  go_wp2_with (at_make; go_must (refine wp_make_cap w rfl _ _ 22 rfl BT i0 (.int .u8 0) Tryd.underlying22 HI.out HZ0.out HZ1.out .i64 .i64 _ _ L.length (L.length + m) rfl rfl rfl (by have := hbn.out; first | rfl | (rw [IntWalk.wrap64_in _ ⟨by omega, by omega⟩]; omega) | omega) (by omega) (by rw [HZ2.out]; have := hbn.out; omega) (by have := hbn.out; omega) ?_))
  intro cur hcur
  have hcurl : Hid (cur.toList.length = L.length + m) := by rw [Hid, Array.length_toList]; exact hcur.out
  have hnew : Hid ((w.alloc (.cells cur BT)).heap[w.heap.size]? = some (.cells cur.toList.toArray BT (0, 0))) := by
    rw [Hid, Array.toArray_toList]; exact heap_new _ _
  have HRA : Hid (Reads .u8 (w.alloc (.cells cur BT)) A L) := HR.out.keep (Below.alloc (Below.refl _ _) (Nat.le_refl _) _)
  have hB0 : Hid (Below w.heap.size w (w.alloc (.cells cur BT))) := Below.alloc (Below.refl _ _) (Nat.le_refl _) _
  obtain ⟨W1, hW1⟩ : ∃ W1, W1 = w.alloc (.cells cur BT) := ⟨_, rfl⟩
  rw [← hW1] at hnew HRA hB0 ⊢
  clear hW1
  obtain ⟨g, hg⟩ : ∃ g, Hid (g = w.heap.size) := ⟨_, rfl⟩
  rw [← hg.out] at hnew ⊢
  go_wp2_with (with_reducible refine wpList_copy_splice (o := ⟨some 15, _, _, _, _, _⟩) rfl _ _ 22 22 rfl BT Tryd.underlying22 (by kernel_rfl) _ _ _ _ _ _ rfl rfl g 0 cur.toList BT hnew.out cs (by rw [hcl.out]; simp [Nat.min_self]) ?_ ?_ ?_ w.heap.size w hB0.out (by rw [hg.out]; exact Nat.le_refl _) ?_)
  · intro h0
    rw [hcl.out] at h0
    obtain ⟨x, hx, hc⟩ := HRA.out h0
    have hfin : ∀ j v, cs[j]? = some v → W1.cell? (x.add j) = some v := by
      intro j v hj
      have hj' : j < L.length := by have := (List.getElem?_eq_some_iff.1 hj).1; rw [hcl.out] at this; exact this
      rw [hc j hj', lat_get _ _ hj']
      rw [hcs.out] at hj
      simp [List.getElem?_eq_getElem hj'] at hj
      rw [← hj]
    first | exact ⟨rfl, x, hx, hfin⟩ | exact ⟨x, hx, hfin⟩
  · rw [hcl.out, hcurl.out]; omega
  · intro v hv
    rw [hcs.out] at hv
    simp at hv
    obtain ⟨x, _, rfl⟩ := hv
    rfl
  intro W2 HG2 hB2
  have HB2 := Lib.hid hB2
  clear hB2
  go_wp2_with (fail)
  go_ret
  have hspl : splice cur.toList 0 cs = cs ++ cur.toList.drop cs.length := by simp [splice]
  refine ⟨some ⟨g, 0, none⟩, L.length + m, rfl, ?_, HB2.out⟩
  refine own_of_heap HG2.out (by rw [hg.out]; exact Nat.le_refl _) rfl (by omega) (by have := hbn.out; omega) ?_ ?_
  · rw [List.size_toArray, length_splice, hcurl.out]
    rw [hcl.out, hcurl.out]; omega
  · rw [List.toList_toArray, hspl, ← hcl.out, List.take_left, hcs.out]
end Pk
end Go.Proofs.YteigakkghkjakaaDoor

namespace Go.Proofs.YteigakkghkjakaaDoor
open Go.RowKit
set_option linter.unusedVariables false
set_option linter.unusedSimpArgs false
namespace Pk
open Utf (nums nums_length nums_bytes)
open Var (BT info_byte GivesBytes)

def wordB (n : Int) : List Int := [n / 256, n % 256]
def GivesBytesOk (w : World) (L : List Int) (e : Ending) (w' : World) : Prop :=
  ∃ A c, e = .returned (.tuple #[.slice A L.length c, .int .i64 0]) ∧ OwnInts w' w.heap.size BT .u8 (.slice A L.length c) L ∧ Below w.heap.size w w'

theorem gives_ok {w w' : World} {A : Option Addr} {n m c c' : Nat} {A' : Option Addr} {L : List Int} (hO : OwnInts w' w.heap.size BT .u8 (.slice A n c) L) (hn : Value.slice A' m c' = .slice A n c ∨ Value.slice A' m c' = .slice A L.length c) (hB : Below w.heap.size w w') : GivesBytesOk w L (.returned (.tuple #[.slice A' m c', .int .i64 0])) w' := by
  have hL := (own_reads hO).1
  subst hL
  rcases hn with h | h <;> (injection h with h1 h2 h3; subst h1 h2 h3; exact ⟨A', c', rfl, hO, hB⟩)
theorem gives_one {w w' : World} {A : Option Addr} {n m c c' : Nat} {A' : Option Addr} {L : List Int} (hO : OwnInts w' w.heap.size BT .u8 (.slice A n c) L) (hn : Value.slice A' m c' = .slice A n c ∨ Value.slice A' m c' = .slice A L.length c) (hB : Below w.heap.size w w') : GivesBytes w L (.returned (.slice A' m c')) w' := by
  have hL := (own_reads hO).1
  subst hL
  rcases hn with h | h <;> (injection h with h1 h2 h3; subst h1 h2 h3; exact ⟨A', c', rfl, hO, hB⟩)
theorem reads_lit {k : IntKind} {e : TypeId} (w : World) (L : List Int) (cur : Array Value) (h : cur.toList = L.map (Value.int k)) : Reads k (w.alloc (.cells cur e)) (some ⟨w.heap.size, 0, none⟩) L := by
  intro h0
  refine ⟨_, rfl, fun i hi => ?_⟩
  rw [add_plain0, cell_heap (heap_new _ _), lat_get _ _ hi]
  have : cur[i]? = cur.toList[i]? := by simp
  rw [this, h]
  simp [List.getElem?_eq_getElem hi]
theorem own_alloc {w : World} {base : Nat} {e : TypeId} {k : IntKind} {v : Value} {L : List Int} (h : OwnInts w base e k v L) (o : Obj) : OwnInts (w.alloc o) base e k v L := h.turn (Turn.alloc (S := fun _ => False) w o) (fun _ _ h => h)
theorem wordB_length (n : Int) : (wordB n).length = 2 := rfl
theorem wordB_bytes (n : Int) (h0 : 0 ≤ n) (h1 : n ≤ 65535) : ∀ x ∈ wordB n, 0 ≤ x ∧ x < 256 := by
  intro x hx
  simp [wordB] at hx
  omega

set_option maxHeartbeats 1000000 in
theorem wput_calls (w : World) (A : Option Addr) (L : List Int) (c : Nat) (hR : Reads .u8 w A L) (hb : (L.length : Int) + 2 ≤ 140737488355328) (n : Int) (h0 : 0 ≤ n) (h1 : n ≤ 65535) : Calls Tryd.prog 86 #[.slice A L.length c, .int .i64 n] w fun e w' => GivesBytesOk w (L ++ wordB n) e w' := by
  have d1 : decide (n < 0) = false := decide_eq_false (by omega)
  have d2 : decide (65535 < n) = false := decide_eq_false (by omega)
  have HR := Lib.hid hR
  have HLN : Hid (L.length + 2 ≤ 140737488355328 ∧ (L.length + 2) * 1 ≤ 140737488355328) := by rw [Hid]; omega
  clear hR
  go_enter Tryd.func86, Tryd.ntmps86
  go_wp2_with (fail)
  refine (behind_calls w A L c 2 HR.out (by omega)).mono ?_
  rintro e w1 ⟨A1, c1, rfl, hown, hB1⟩
  have HO := Lib.hid hown
  have HB1 := Lib.hid hB1
  clear hown hB1
  go_wp2_with (at_builtin; go_must (refine wp_append_row w.heap.size rfl _ _ 22 5 .u8 1 rfl Tryd.underlying22 info_byte (.slice A1 L.length c1) L (wordB n) (some ⟨w1.heap.size, 0, none⟩) 2 rfl rfl (fun h => by cases h) (reads_lit w1 (wordB n) _ rfl) (own_alloc HO.out _) (Nat.le_trans HB1.out.size (by simp)) HLN.out ?_))
  intro A2 c2 w2 hown2 ht2
  have HO2 := Lib.hid hown2
  have HB2 : Hid (Below w.heap.size w w2) := ht2.belowTrans (Below.alloc HB1.out HB1.out.size _) (Nat.le_trans HB1.out.size (by simp)) (fun j hj e => by have := (own_block_ge HO.out j e).1; omega)
  clear ht2 hown2
  go_wp2_with (fail)
  go_ret2
  exact gives_ok HO2.out (.inl (by simp)) HB2.out

set_option maxHeartbeats 1000000 in
theorem word_calls (w : World) (A : Option Addr) (L : List Int) (c : Nat) (hR : Reads .u8 w A L) (hb : (L.length : Int) + 2 ≤ 140737488355328) (n : Int) (h0 : 0 ≤ n) (h1 : n ≤ 65535) : Calls Tryd.prog 73 #[.slice A L.length c, .int .i64 n] w fun e w' => GivesBytes w (L ++ wordB n) e w' := by
  have HP := Lib.hid (wput_calls w A L c hR hb n h0 h1)
  clear hR
  go_enter Tryd.func73, Tryd.ntmps73
  go_wp2_with (fail)
  refine HP.out.mono ?_
  rintro e w1 ⟨A1, c1, rfl, hown, hB1⟩
  have HO := Lib.hid hown
  have HB1 := Lib.hid hB1
  clear hown hB1
  go_wp2_with (fail)
  go_ret
  exact gives_one HO.out (.inl (by simp)) HB1.out
end Pk
end Go.Proofs.YteigakkghkjakaaDoor

namespace Go.Proofs.YteigakkghkjakaaDoor
open Go.RowKit
set_option linter.unusedVariables false
set_option linter.unusedSimpArgs false
namespace Pk
open Utf (nums nums_length nums_bytes)
open Var (BT info_byte GivesBytes)

theorem strCells_nums (s : ByteArray) : Lib.strCells s = (nums s).map (Value.int .u8) := by
  simp [Lib.strCells, nums]
/-- 'append(v, s...)', s a string. -/
theorem wp_append_str {ops : Array Oper} {rest : List Oper} {o : Oper} {a : Act} {Q : Exit → Act → World → Prop} {W : World} (base : Nat) (hgd : o.guard = none) (s x : Operand)
    (ho : o.op = .call { callee := .builtin .append, args := #[s, x], argTypes := #[22, 9] })
    (v : Value) (L : List Int) (S : ByteArray) (hs : a.eval s = v) (hx : a.eval x = .string S)
    (HO : OwnInts W base BT .u8 v L) (hbase : base ≤ W.heap.size) (hn : L.length + S.size ≤ 140737488355328)
    (K : ∀ A1 c1 w1, OwnInts w1 base BT .u8 (.slice A1 (L ++ nums S).length c1) (L ++ nums S) → Turn (fun j => v.ownBlock = some j) W w1 → wpList Tryd.prog ops Q rest (a.put o.dst (.slice A1 (L ++ nums S).length c1)) w1) :
    wpList Tryd.prog ops Q (o :: rest) a W := by
  obtain ⟨i0, hi, hzz⟩ := Option.map_eq_some_iff.1 info_byte
  simp only [Prod.mk.injEq] at hzz
  obtain ⟨hz0, hz1, hz2⟩ := hzz
  refine Lib.wpList_append_own_string W hgd s x 22 9 ho base BT i0 Tryd.underlying22 Tryd.underlying9 hi hz0 hz1 hz2 v L.length _ hs HO S hx (by simp only [maxLen]; omega) hn hbase ?_
  intro v' w' h2 h3 _
  have h4 : OwnInts w' base BT .u8 v' (L ++ nums S) := by
    rw [strCells_nums] at h2
    unfold OwnInts
    rw [List.length_append, nums_length, List.map_append]
    exact h2
  obtain ⟨A1, c1, hv, _⟩ := h4.form
  subst hv
  exact K A1 c1 w' h4 (Turn.of_grownBy h3 (fun k e => e))

def textB (s : ByteArray) : List Int := wordB s.size ++ nums s
theorem textB_length (s : ByteArray) : (textB s).length = 2 + s.size := by
  simp [textB, wordB, nums_length]; omega
theorem textB_bytes (s : ByteArray) (h : s.size ≤ 65535) : ∀ x ∈ textB s, 0 ≤ x ∧ x < 256 := by
  intro x hx
  rw [textB, List.mem_append] at hx
  rcases hx with hx | hx
  · exact wordB_bytes _ (by omega) (by omega) x hx
  · exact nums_bytes _ x hx

set_option maxHeartbeats 1000000 in
theorem ptext_calls (w : World) (A : Option Addr) (L : List Int) (c : Nat) (s : ByteArray) (hR : Reads .u8 w A L) (hs : (s.size : Int) ≤ 65535) (hb : (L.length : Int) + 2 + s.size ≤ 140737488355328) : Calls Tryd.prog 85 #[.slice A L.length c, .string s] w fun e w' => GivesBytesOk w (L ++ textB s) e w' := by
  have d2 : decide (65535 < (s.size : Int)) = false := decide_eq_false (by omega)
  have d3 : decide (65535 < s.size) = false := decide_eq_false (by omega)
  have HR := Lib.hid hR
  have HLN : Hid (L.length + 2 + s.size ≤ 140737488355328 ∧ (L.length + 2) * 1 ≤ 140737488355328) := by rw [Hid]; omega
  have HB := Lib.hid (behind_calls w A L c (2 + s.size) hR (by omega))
  obtain ⟨W2, hW2⟩ : ∃ B, Hid (B = wordB s.size) := ⟨_, rfl⟩
  have hl2 : Hid (W2.length = 2) := by rw [hW2.out]; rfl
  clear hR
  go_enter Tryd.func85, Tryd.ntmps85
  go_wp2_with (fail)
  refine HB.out.mono ?_
  rintro e w1 ⟨A1, c1, rfl, hown, hB1⟩
  have HO := Lib.hid hown
  have HB1 := Lib.hid hB1
  clear hown hB1
  go_wp2_with (at_builtin; go_must (refine wp_append_row w.heap.size rfl _ _ 22 5 .u8 1 rfl Tryd.underlying22 info_byte (.slice A1 L.length c1) L W2 (some ⟨w1.heap.size, 0, none⟩) 2 rfl (by rw [hl2.out]; rfl) (fun h => by cases h) (reads_lit w1 W2 _ (by rw [hW2.out]; rfl)) (own_alloc HO.out _) (Nat.le_trans HB1.out.size (by simp)) (by have := HLN.out; rw [hl2.out]; exact ⟨by omega, by omega⟩) ?_))
  intro A2 c2 w2 hown2 ht2
  have HO2 := Lib.hid hown2
  have HB2 : Hid (Below w.heap.size w w2) := ht2.belowTrans (Below.alloc HB1.out HB1.out.size _) (Nat.le_trans HB1.out.size (by simp)) (fun j hj e => by have := (own_block_ge HO.out j e).1; omega)
  clear ht2 hown2
  go_wp2_with (at_builtin; go_must (refine wp_append_str w.heap.size rfl _ _ rfl (.slice A2 (L.length + W2.length) c2) (L ++ W2) s rfl rfl HO2.out HB2.out.size (by have := HLN.out; rw [List.length_append, hl2.out]; omega) ?_))
  intro A3 c3 w3 hown3 ht3
  have HO3 := Lib.hid hown3
  have HB3 : Hid (Below w.heap.size w w3) := ht3.belowTrans HB2.out HB2.out.size (fun j hj e => by have := (own_block_ge HO2.out j e).1; omega)
  clear ht3 hown3
  go_wp2_with (fail)
  go_ret2
  have hfin : L ++ textB s = L ++ (W2 ++ nums s) := by rw [hW2.out, textB]
  rw [hfin]
  refine gives_ok (n := L.length + (W2.length + (nums s).length)) (by simpa using HO3.out) (.inl ?_) HB3.out
  simp

def flatT (ss : List ByteArray) : List Int := (ss.map textB).flatten
theorem flatT_snoc (ss : List ByteArray) (k : Nat) (h : k < ss.length) : flatT (ss.take (k + 1)) = flatT (ss.take k) ++ textB ss[k] := by
  rw [flatT, flatT, List.take_succ_eq_append_getElem h, List.map_append, List.flatten_append]
  congr 1
  simp
theorem flatT_le (ss : List ByteArray) (k : Nat) : (flatT (ss.take k)).length ≤ (flatT ss).length := by
  have h : flatT ss = flatT (ss.take k) ++ flatT (ss.drop k) := by
    rw [flatT, flatT, flatT, ← List.flatten_append, ← List.map_append, List.take_append_drop]
  rw [h, List.length_append]; omega
/-- Strings in a row. -/
def ReadsStr (w : World) (A : Option Addr) (ss : List ByteArray) : Prop :=
  0 < ss.length → ∃ x, A = some x ∧ ∀ i (h : i < ss.length), w.cell? (x.add i) = some (.string ss[i])
theorem ReadsStr.keep {w w' : World} {A : Option Addr} {ss : List ByteArray} (h : ReadsStr w A ss) (b : Below w.heap.size w w') : ReadsStr w' A ss := by
  intro h0
  obtain ⟨x, hx, hc⟩ := h h0
  exact ⟨x, hx, fun i hi => by rw [b.cell (World.block_lt_of_cell? w _ (hc i hi))]; exact hc i hi⟩

set_option maxHeartbeats 1000000 in
theorem text_calls (w : World) (A : Option Addr) (L : List Int) (c : Nat) (B : Option Addr) (ss : List ByteArray) (cb : Nat) (hR : Reads .u8 w A L) (hS : ReadsStr w B ss) (h0 : 0 < ss.length) (hl : (ss.length : Int) ≤ 1000) (hs : ∀ s ∈ ss, s.size ≤ 65535) (hb : L.length + (flatT ss).length ≤ 140737488355328) :
    Calls Tryd.prog 72 #[.slice A L.length c, .slice B ss.length cb] w fun e w' => GivesBytes w (L ++ flatT ss) e w' := by
  have HR := Lib.hid hR
  have HS := Lib.hid hS
  have Hs := Lib.hid hs
  have HBD := Lib.hid hb
  have H0 := Lib.hid h0
  clear hR hS hs hb h0
  go_enter Tryd.func72, Tryd.ntmps72
  go_wp2_with (fail)
  go_loopw [0, 9] (fun t x wr => ∃ (k : Nat) (A1 : Option Addr) (n c1 : Nat), k ≤ ss.length ∧ x = .int .i64 k ∧ t = .slice A1 n c1 ∧ Hid (n = (L ++ flatT (ss.take k)).length) ∧ Hid (Reads .u8 wr A1 (L ++ flatT (ss.take k))) ∧ Hid (0 < k → OwnInts wr w.heap.size BT .u8 (.slice A1 n c1) (L ++ flatT (ss.take k))) ∧ Below w.heap.size w wr) (fun _ x _ => ss.length - (intOf x).toNat)
  case atStart =>
    refine ⟨0, A, L.length, c, Nat.zero_le _, rfl, rfl, ?_, ?_, fun h => absurd h (by omega), Below.refl _ _⟩
    · simp [Hid, flatT]
    · rw [Hid, List.take_zero, show flatT [] = [] from rfl, List.append_nil]; exact HR.out
  case round =>
    obtain ⟨k, A1, n, c1, hk, rfl, rfl, hn, hR1, hO1, hB⟩ := hrel
    have HB := Lib.hid hB
    clear hB
    have hkb : (k : Int) ≤ 1000 := by omega
    by_cases hkl : k < ss.length
    · obtain ⟨x, hx0, hx⟩ := HS.out.keep HB.out H0.out
      subst hx0
      have hxk := hx k hkl
      obtain ⟨s, hse⟩ : ∃ s, Hid (s = ss[k]'hkl) := ⟨ss[k]'hkl, by rw [Hid]⟩
      rw [← hse.out] at hxk
      clear hx
      obtain ⟨R, hRe⟩ : ∃ R, Hid (R = L ++ flatT (ss.take k)) := ⟨_, rfl⟩
      rw [← hRe.out] at hn hR1 hO1
      have hnR := hn.out
      subst hnR
      have hsz : Hid (s.size ≤ 65535) := by rw [hse.out]; exact Hs.out _ (List.getElem_mem hkl)
      have hnx : Hid (R ++ textB s = L ++ flatT (ss.take (k + 1))) := by rw [hRe.out, hse.out, flatT_snoc _ _ hkl, List.append_assoc]; rfl
      have hbd : Hid (R.length + 2 + s.size ≤ 140737488355328) := by
        have h1 := congrArg List.length hnx.out
        have h2 := flatT_le ss (k + 1)
        have h3 := HBD.out
        rw [List.length_append, List.length_append, textB_length] at h1
        rw [Hid]; omega
      go_wp2_with (fail)
      refine (ptext_calls wr A1 R c1 s hR1.out (by have := hsz.out; omega) (by have := hbd.out; omega)).mono ?_
      rintro e w2 ⟨A2, c2, rfl, hown, hb2⟩
      have HB2 : Hid (Below w.heap.size w w2) := HB.out.trans (hb2.mono HB.out.size)
      have HO2 : Hid (OwnInts w2 w.heap.size BT .u8 (.slice A2 (R ++ textB s).length c2) (R ++ textB s)) := own_mono hown HB.out.size
      rw [hnx.out] at HO2
      clear hb2 hown
      go_wp2_with (fail)
      go_roundw
      case rel =>
        refine ⟨k + 1, A2, _, c2, by omega, by go_num, rfl, ?_, ?_, fun _ => ?_, HB2.out⟩
        · rw [← hnx.out]; simp [Hid]
        · exact (own_reads HO2.out).2.2.1
        · have := HO2.out
          rw [← hnx.out] at this ⊢
          simpa using this
      case measure => simp [intOf]; omega
    · have hk' : k = ss.length := by omega
      subst hk'
      rw [List.take_length] at hn hR1 hO1
      have hO := Lib.hid (hO1.out H0.out)
      clear hO1
      go_wp2_with (fail)
      go_ret
      exact gives_one hO.out (.inl rfl) HB.out
end Pk
end Go.Proofs.YteigakkghkjakaaDoor

/- packet.check: any packet. packet.bit, wire.behind, wire.Put, wire.PutText. wire.Put, wire.PutText. wire.PutText; packet.text. packet.connect. The whole packet loaded; packet.body: its plain form; the types without a body, Connect, Connack. packet.body: Connack, Publish. packet.body: Publish. packet.body: the types with an Id, filters, codes. packet.body as one contract; packet.Bytes, packet.Check. packet.Bytes, packet.Check. -/
import Derived.Test.YtonemmdipmohgaaDoorPkO
import Derived.Laws.CopyOwn
import Derived.Lib.AppendStr
import Derived.Deep.CutRange
import Derived.Deep.DeepCutAuto
import Derived.Deep.RegionLaw
import Derived.Deep.RegionHeldLaw
namespace Go.Proofs.YtonemmdipmohgaaDoor
open Go.RowKit
set_option linter.unusedVariables false
set_option linter.unusedSimpArgs false
namespace Pk

theorem check_calls (w : World) (hT : Lib.Utf8Tabs 0 1 w) (p : Pkt) (C : List Int) (D : List (ByteArray × Int)) (hF : Lies w p C D) : Calls Tryd.prog 74 #[.agg p.cells] w fun e w' => Checks w (Good p C D) e w' := by
  by_cases h : 1 ≤ p.ty ∧ p.ty ≤ 14
  · rcases (by omega : p.ty = 1 ∨ p.ty = 2 ∨ p.ty = 3 ∨ (p.ty = 4 ∨ p.ty = 5 ∨ p.ty = 6 ∨ p.ty = 7 ∨ p.ty = 11) ∨ p.ty = 8 ∨ p.ty = 9 ∨ p.ty = 10 ∨ (p.ty = 12 ∨ p.ty = 13 ∨ p.ty = 14)) with h | h | h | h | h | h | h | h
    · cases hw : p.will
      · exact check_connect_false w hT p C D hF.fit h hw
      · exact check_connect_true w hT p C D hF.fit h hw
    · exact check_connack w p C D hF h
    · exact check_publish w hT p C D hF.fit h
    · exact check_id w p C D hF.fit h
    · exact check_subs8 w hT p C D hF h
    · exact check_suback w p C D hF h
    · exact check_subs10 w hT p C D hF h
    · obtain ⟨A, l, c, hc⟩ := hF.fit.codes
      obtain ⟨B, m, d, hs⟩ := hF.fit.subs
      exact check_none w p C D l c m d A B hc hs hF.strs h
  · refine (check_ty_no w p h).mono ?_
    rintro e w' ⟨hb, rfl⟩
    exact ⟨hb, .inr ⟨fun x => h ⟨x.1, x.2.1⟩, rfl⟩⟩
end Pk
end Go.Proofs.YtonemmdipmohgaaDoor

namespace Go.Proofs.YtonemmdipmohgaaDoor
open Go.RowKit
set_option linter.unusedVariables false
set_option linter.unusedSimpArgs false
namespace Pk
open Utf (nums nums_length nums_bytes)
open Var (BT info_byte GivesBytes)

def bitN (b : Bool) (n : Int) : Int := if b then n else 0
theorem bit_calls (w : World) (b : Bool) (n : Int) : Calls Tryd.prog 90 #[.bool b, .int .i64 n] w fun e w' => e = .returned (.int .i64 (bitN b n)) ∧ w = w' := by
  cases b with
  | true =>
    go_enter Tryd.func90, Tryd.ntmps90
    go_wp2_with (fail)
    go_ret
    exact ⟨rfl, rfl⟩
  | false =>
    go_enter Tryd.func90, Tryd.ntmps90
    go_wp2_with (fail)
    go_ret
    exact ⟨rfl, rfl⟩

/-- 'make([]T, n, m)': a new row of m cells, n of them named. -/
theorem wp_make_cap {P : Program} (w : World) {ops : Array Oper} {rest : List Oper} {o : Oper} {a : Act} {Q : Exit → Act → World → Prop}
    (hg : o.guard = none) (l c : Operand) (t : TypeId) (hop : o.op = Op.makeSlice t l c)
    (e : TypeId) (i : TypeInfo) (z : Value) (h1 : P.underlying t = some (.slice e)) (h2 : P.info? e = some i) (h3 : i.zero = some z) (h4 : i.size = 1)
    (kl kc : IntKind) (L C : Int) (n m : Nat) (hl : a.eval l = .int kl L) (hc : a.eval c = .int kc C) (hL : L = (n : Int)) (hC : C = (m : Int)) (hnm : n ≤ m) (b2 : i.bytes * m ≤ 281474976710656) (b3 : m ≤ 9223372036854775807)
    (hK : ∀ cur, Hid (cur.size = m) → wpList P ops Q rest (a.put o.dst (.slice (some ⟨w.heap.size, 0, none⟩) n m)) (w.alloc (.cells cur e))) :
    wpList P ops Q (o :: rest) a w := by
  refine wpList_plain hg fun K hK' => ?_
  subst hL
  subst hC
  have hb' : (i.bytes : Int) * (m : Int) ≤ 281474976710656 := by
    have h : ((i.bytes * m : Nat) : Int) ≤ 281474976710656 := by omega
    rwa [Int.natCast_mul] at h
  have hr := run_make (P := P) w t e i z h1 h2 h3 kl kc n m (by omega) (by omega) hb' (by omega)
  simp only [Int.toNat_natCast] at hr
  unfold Oper.wp
  simp [execOp, hop, hl, hc, hr, Result.andThen]
  exact hK' _ _ (hK _ (by rw [Hid, size_madeCells, h4, Nat.mul_one]))

theorem own_of_heap {W : World} {base g n cap : Nat} {e : TypeId} {cur : Array Value} {k : IntKind} {L : List Int} (hg : W.heap[g]? = some (.cells cur e (0, 0))) (hb : base ≤ g) (hn : n = L.length) (hc : L.length ≤ cap) (hm : cap ≤ 9223372036854775807) (hs : cur.size = cap) (ht : cur.toList.take L.length = L.map (Value.int k)) : OwnInts W base e k (.slice (some ⟨g, 0, none⟩) n cap) L := by
  subst hn
  exact ⟨by simp, .inr ⟨g, cap, cur, rfl, hb, hg, hc, by simpa [maxLen] using hm, by simpa using hs, by simpa using ht⟩⟩

set_option maxHeartbeats 1000000 in
theorem behind_calls (w : World) (A : Option Addr) (L : List Int) (c : Nat) (m : Nat) (hR : Reads .u8 w A L) (hb : (L.length : Int) + m ≤ 140737488355328) : Calls Tryd.prog 119 #[.slice A L.length c, .int .i64 m] w fun e w' => GivesBytes w L e w' := by
  have hbn : Hid (L.length + m ≤ 140737488355328) := by rw [Hid]; omega
  have HR := Lib.hid hR
  clear hR
  obtain ⟨i0, hi, hzz⟩ := Option.map_eq_some_iff.1 info_byte
  simp only [Prod.mk.injEq] at hzz
  obtain ⟨hz0, hz1, hz2⟩ := hzz
  have HI := Lib.hid hi
  have HZ0 := Lib.hid hz0
  have HZ1 := Lib.hid hz1
  have HZ2 := Lib.hid hz2
  clear hi hz0 hz1 hz2
  obtain ⟨cs, hcs⟩ : ∃ cs, Hid (cs = L.map (Value.int .u8)) := ⟨_, rfl⟩
  have hcl : Hid (cs.length = L.length) := by rw [hcs.out, Hid, List.length_map]
  go_enter Tryd.func119, Tryd.ntmps119
  go_wp2_with (at_make; go_must (refine wp_make_cap w rfl _ _ 82 rfl BT i0 (.int .u8 0) Tryd.underlying82 HI.out HZ0.out HZ1.out .i64 .i64 _ _ L.length (L.length + m) rfl rfl rfl (by have := hbn.out; first | rfl | (rw [IntWalk.wrap64_in _ ⟨by omega, by omega⟩]; omega) | omega) (by omega) (by rw [HZ2.out]; have := hbn.out; omega) (by have := hbn.out; omega) ?_))
  intro cur hcur
  have hcurl : Hid (cur.toList.length = L.length + m) := by rw [Hid, Array.length_toList]; exact hcur.out
  have hnew : Hid ((w.alloc (.cells cur BT)).heap[w.heap.size]? = some (.cells cur.toList.toArray BT (0, 0))) := by
    rw [Hid, Array.toArray_toList]; exact heap_new _ _
  have HRA : Hid (Reads .u8 (w.alloc (.cells cur BT)) A L) := HR.out.keep (Below.alloc (Below.refl _ _) (Nat.le_refl _) _)
  have hB0 : Hid (Below w.heap.size w (w.alloc (.cells cur BT))) := Below.alloc (Below.refl _ _) (Nat.le_refl _) _
  obtain ⟨W1, hW1⟩ : ∃ W1, W1 = w.alloc (.cells cur BT) := ⟨_, rfl⟩
  rw [← hW1] at hnew HRA hB0 ⊢
  clear hW1
  obtain ⟨g, hg⟩ : ∃ g, Hid (g = w.heap.size) := ⟨_, rfl⟩
  rw [← hg.out] at hnew ⊢
  go_wp2_with (with_reducible refine wpList_copy_splice (o := ⟨some 15, _, _, _, _, _⟩) rfl _ _ 82 82 rfl BT Tryd.underlying82 (by kernel_rfl) _ _ _ _ _ _ rfl rfl g 0 cur.toList BT hnew.out cs (by rw [hcl.out]; simp [Nat.min_self]) ?_ ?_ ?_ w.heap.size w hB0.out (by rw [hg.out]; exact Nat.le_refl _) ?_)
  · intro h0
    rw [hcl.out] at h0
    obtain ⟨x, hx, hc⟩ := HRA.out h0
    have hfin : ∀ j v, cs[j]? = some v → W1.cell? (x.add j) = some v := by
      intro j v hj
      have hj' : j < L.length := by have := (List.getElem?_eq_some_iff.1 hj).1; rw [hcl.out] at this; exact this
      rw [hc j hj', lat_get _ _ hj']
      rw [hcs.out] at hj
      simp [List.getElem?_eq_getElem hj'] at hj
      rw [← hj]
    first | exact ⟨rfl, x, hx, hfin⟩ | exact ⟨x, hx, hfin⟩
  · rw [hcl.out, hcurl.out]; omega
  · intro v hv
    rw [hcs.out] at hv
    simp at hv
    obtain ⟨x, _, rfl⟩ := hv
    rfl
  intro W2 HG2 hB2
  have HB2 := Lib.hid hB2
  clear hB2
  go_wp2_with (fail)
  go_ret
  have hspl : splice cur.toList 0 cs = cs ++ cur.toList.drop cs.length := by simp [splice]
  refine ⟨some ⟨g, 0, none⟩, L.length + m, rfl, ?_, HB2.out⟩
  refine own_of_heap HG2.out (by rw [hg.out]; exact Nat.le_refl _) rfl (by omega) (by have := hbn.out; omega) ?_ ?_
  · rw [List.size_toArray, length_splice, hcurl.out]
    rw [hcl.out, hcurl.out]; omega
  · rw [List.toList_toArray, hspl, ← hcl.out, List.take_left, hcs.out]
end Pk
end Go.Proofs.YtonemmdipmohgaaDoor

namespace Go.Proofs.YtonemmdipmohgaaDoor
open Go.RowKit
set_option linter.unusedVariables false
set_option linter.unusedSimpArgs false
namespace Pk
open Utf (nums nums_length nums_bytes)
open Var (BT info_byte GivesBytes)

def wordB (n : Int) : List Int := [n / 256, n % 256]
def GivesBytesOk (w : World) (L : List Int) (e : Ending) (w' : World) : Prop :=
  ∃ A c, e = .returned (.tuple #[.slice A L.length c, .int .i64 0]) ∧ OwnInts w' w.heap.size BT .u8 (.slice A L.length c) L ∧ Below w.heap.size w w'

theorem gives_ok {w w' : World} {A : Option Addr} {n m c c' : Nat} {A' : Option Addr} {L : List Int} (hO : OwnInts w' w.heap.size BT .u8 (.slice A n c) L) (hn : Value.slice A' m c' = .slice A n c ∨ Value.slice A' m c' = .slice A L.length c) (hB : Below w.heap.size w w') : GivesBytesOk w L (.returned (.tuple #[.slice A' m c', .int .i64 0])) w' := by
  have hL := (own_reads hO).1
  subst hL
  rcases hn with h | h <;> (injection h with h1 h2 h3; subst h1 h2 h3; exact ⟨A', c', rfl, hO, hB⟩)
theorem gives_one {w w' : World} {A : Option Addr} {n m c c' : Nat} {A' : Option Addr} {L : List Int} (hO : OwnInts w' w.heap.size BT .u8 (.slice A n c) L) (hn : Value.slice A' m c' = .slice A n c ∨ Value.slice A' m c' = .slice A L.length c) (hB : Below w.heap.size w w') : GivesBytes w L (.returned (.slice A' m c')) w' := by
  have hL := (own_reads hO).1
  subst hL
  rcases hn with h | h <;> (injection h with h1 h2 h3; subst h1 h2 h3; exact ⟨A', c', rfl, hO, hB⟩)
theorem reads_lit {k : IntKind} {e : TypeId} (w : World) (L : List Int) (cur : Array Value) (h : cur.toList = L.map (Value.int k)) : Reads k (w.alloc (.cells cur e)) (some ⟨w.heap.size, 0, none⟩) L := by
  intro h0
  refine ⟨_, rfl, fun i hi => ?_⟩
  rw [add_plain0, cell_heap (heap_new _ _), lat_get _ _ hi]
  have : cur[i]? = cur.toList[i]? := by simp
  rw [this, h]
  simp [List.getElem?_eq_getElem hi]
theorem own_alloc {w : World} {base : Nat} {e : TypeId} {k : IntKind} {v : Value} {L : List Int} (h : OwnInts w base e k v L) (o : Obj) : OwnInts (w.alloc o) base e k v L := h.turn (Turn.alloc (S := fun _ => False) w o) (fun _ _ h => h)
theorem wordB_length (n : Int) : (wordB n).length = 2 := rfl
theorem wordB_bytes (n : Int) (h0 : 0 ≤ n) (h1 : n ≤ 65535) : ∀ x ∈ wordB n, 0 ≤ x ∧ x < 256 := by
  intro x hx
  simp [wordB] at hx
  omega

set_option maxHeartbeats 1000000 in
theorem wput_calls (w : World) (A : Option Addr) (L : List Int) (c : Nat) (hR : Reads .u8 w A L) (hb : (L.length : Int) + 2 ≤ 140737488355328) (n : Int) (h0 : 0 ≤ n) (h1 : n ≤ 65535) : Calls Tryd.prog 109 #[.slice A L.length c, .int .i64 n] w fun e w' => GivesBytesOk w (L ++ wordB n) e w' := by
  have d1 : decide (n < 0) = false := decide_eq_false (by omega)
  have d2 : decide (65535 < n) = false := decide_eq_false (by omega)
  have HR := Lib.hid hR
  have HLN : Hid (L.length + 2 ≤ 140737488355328 ∧ (L.length + 2) * 1 ≤ 140737488355328) := by rw [Hid]; omega
  clear hR
  go_enter Tryd.func109, Tryd.ntmps109
  go_wp2_with (fail)
  refine (behind_calls w A L c 2 HR.out (by omega)).mono ?_
  rintro e w1 ⟨A1, c1, rfl, hown, hB1⟩
  have HO := Lib.hid hown
  have HB1 := Lib.hid hB1
  clear hown hB1
  go_wp2_with (at_builtin; go_must (refine wp_append_row w.heap.size rfl _ _ 82 5 .u8 1 rfl Tryd.underlying82 info_byte (.slice A1 L.length c1) L (wordB n) (some ⟨w1.heap.size, 0, none⟩) 2 rfl rfl (fun h => by cases h) (reads_lit w1 (wordB n) _ rfl) (own_alloc HO.out _) (Nat.le_trans HB1.out.size (by simp)) HLN.out ?_))
  intro A2 c2 w2 hown2 ht2
  have HO2 := Lib.hid hown2
  have HB2 : Hid (Below w.heap.size w w2) := ht2.belowTrans (Below.alloc HB1.out HB1.out.size _) (Nat.le_trans HB1.out.size (by simp)) (fun j hj e => by have := (own_block_ge HO.out j e).1; omega)
  clear ht2 hown2
  go_wp2_with (fail)
  go_ret2
  exact gives_ok HO2.out (.inl (by simp)) HB2.out

set_option maxHeartbeats 1000000 in
theorem word_calls (w : World) (A : Option Addr) (L : List Int) (c : Nat) (hR : Reads .u8 w A L) (hb : (L.length : Int) + 2 ≤ 140737488355328) (n : Int) (h0 : 0 ≤ n) (h1 : n ≤ 65535) : Calls Tryd.prog 92 #[.slice A L.length c, .int .i64 n] w fun e w' => GivesBytes w (L ++ wordB n) e w' := by
  have HP := Lib.hid (wput_calls w A L c hR hb n h0 h1)
  clear hR
  go_enter Tryd.func92, Tryd.ntmps92
  go_wp2_with (fail)
  refine HP.out.mono ?_
  rintro e w1 ⟨A1, c1, rfl, hown, hB1⟩
  have HO := Lib.hid hown
  have HB1 := Lib.hid hB1
  clear hown hB1
  go_wp2_with (fail)
  go_ret
  exact gives_one HO.out (.inl (by simp)) HB1.out
end Pk
end Go.Proofs.YtonemmdipmohgaaDoor

namespace Go.Proofs.YtonemmdipmohgaaDoor
open Go.RowKit
set_option linter.unusedVariables false
set_option linter.unusedSimpArgs false
namespace Pk
open Utf (nums nums_length nums_bytes)
open Var (BT info_byte GivesBytes)

theorem strCells_nums (s : ByteArray) : Lib.strCells s = (nums s).map (Value.int .u8) := by
  simp [Lib.strCells, nums]
/-- 'append(v, s...)', s a string. -/
theorem wp_append_str {ops : Array Oper} {rest : List Oper} {o : Oper} {a : Act} {Q : Exit → Act → World → Prop} {W : World} (base : Nat) (hgd : o.guard = none) (s x : Operand)
    (ho : o.op = .call { callee := .builtin .append, args := #[s, x], argTypes := #[82, 9] })
    (v : Value) (L : List Int) (S : ByteArray) (hs : a.eval s = v) (hx : a.eval x = .string S)
    (HO : OwnInts W base BT .u8 v L) (hbase : base ≤ W.heap.size) (hn : L.length + S.size ≤ 140737488355328)
    (K : ∀ A1 c1 w1, OwnInts w1 base BT .u8 (.slice A1 (L ++ nums S).length c1) (L ++ nums S) → Turn (fun j => v.ownBlock = some j) W w1 → wpList Tryd.prog ops Q rest (a.put o.dst (.slice A1 (L ++ nums S).length c1)) w1) :
    wpList Tryd.prog ops Q (o :: rest) a W := by
  obtain ⟨i0, hi, hzz⟩ := Option.map_eq_some_iff.1 info_byte
  simp only [Prod.mk.injEq] at hzz
  obtain ⟨hz0, hz1, hz2⟩ := hzz
  refine Lib.wpList_append_own_string W hgd s x 82 9 ho base BT i0 Tryd.underlying82 Tryd.underlying9 hi hz0 hz1 hz2 v L.length _ hs HO S hx (by simp only [maxLen]; omega) hn hbase ?_
  intro v' w' h2 h3 _
  have h4 : OwnInts w' base BT .u8 v' (L ++ nums S) := by
    rw [strCells_nums] at h2
    unfold OwnInts
    rw [List.length_append, nums_length, List.map_append]
    exact h2
  obtain ⟨A1, c1, hv, _⟩ := h4.form
  subst hv
  exact K A1 c1 w' h4 (Turn.of_grownBy h3 (fun k e => e))

def textB (s : ByteArray) : List Int := wordB s.size ++ nums s
theorem textB_length (s : ByteArray) : (textB s).length = 2 + s.size := by
  simp [textB, wordB, nums_length]; omega
theorem textB_bytes (s : ByteArray) (h : s.size ≤ 65535) : ∀ x ∈ textB s, 0 ≤ x ∧ x < 256 := by
  intro x hx
  rw [textB, List.mem_append] at hx
  rcases hx with hx | hx
  · exact wordB_bytes _ (by omega) (by omega) x hx
  · exact nums_bytes _ x hx

set_option maxHeartbeats 1000000 in
theorem ptext_calls (w : World) (A : Option Addr) (L : List Int) (c : Nat) (s : ByteArray) (hR : Reads .u8 w A L) (hs : (s.size : Int) ≤ 65535) (hb : (L.length : Int) + 2 + s.size ≤ 140737488355328) : Calls Tryd.prog 108 #[.slice A L.length c, .string s] w fun e w' => GivesBytesOk w (L ++ textB s) e w' := by
  have d2 : decide (65535 < (s.size : Int)) = false := decide_eq_false (by omega)
  have d3 : decide (65535 < s.size) = false := decide_eq_false (by omega)
  have HR := Lib.hid hR
  have HLN : Hid (L.length + 2 + s.size ≤ 140737488355328 ∧ (L.length + 2) * 1 ≤ 140737488355328) := by rw [Hid]; omega
  have HB := Lib.hid (behind_calls w A L c (2 + s.size) hR (by omega))
  obtain ⟨W2, hW2⟩ : ∃ B, Hid (B = wordB s.size) := ⟨_, rfl⟩
  have hl2 : Hid (W2.length = 2) := by rw [hW2.out]; rfl
  clear hR
  go_enter Tryd.func108, Tryd.ntmps108
  go_wp2_with (fail)
  refine HB.out.mono ?_
  rintro e w1 ⟨A1, c1, rfl, hown, hB1⟩
  have HO := Lib.hid hown
  have HB1 := Lib.hid hB1
  clear hown hB1
  go_wp2_with (at_builtin; go_must (refine wp_append_row w.heap.size rfl _ _ 82 5 .u8 1 rfl Tryd.underlying82 info_byte (.slice A1 L.length c1) L W2 (some ⟨w1.heap.size, 0, none⟩) 2 rfl (by rw [hl2.out]; rfl) (fun h => by cases h) (reads_lit w1 W2 _ (by rw [hW2.out]; rfl)) (own_alloc HO.out _) (Nat.le_trans HB1.out.size (by simp)) (by have := HLN.out; rw [hl2.out]; exact ⟨by omega, by omega⟩) ?_))
  intro A2 c2 w2 hown2 ht2
  have HO2 := Lib.hid hown2
  have HB2 : Hid (Below w.heap.size w w2) := ht2.belowTrans (Below.alloc HB1.out HB1.out.size _) (Nat.le_trans HB1.out.size (by simp)) (fun j hj e => by have := (own_block_ge HO.out j e).1; omega)
  clear ht2 hown2
  go_wp2_with (at_builtin; go_must (refine wp_append_str w.heap.size rfl _ _ rfl (.slice A2 (L.length + W2.length) c2) (L ++ W2) s rfl rfl HO2.out HB2.out.size (by have := HLN.out; rw [List.length_append, hl2.out]; omega) ?_))
  intro A3 c3 w3 hown3 ht3
  have HO3 := Lib.hid hown3
  have HB3 : Hid (Below w.heap.size w w3) := ht3.belowTrans HB2.out HB2.out.size (fun j hj e => by have := (own_block_ge HO2.out j e).1; omega)
  clear ht3 hown3
  go_wp2_with (fail)
  go_ret2
  have hfin : L ++ textB s = L ++ (W2 ++ nums s) := by rw [hW2.out, textB]
  rw [hfin]
  refine gives_ok (n := L.length + (W2.length + (nums s).length)) (by simpa using HO3.out) (.inl ?_) HB3.out
  simp

def flatT (ss : List ByteArray) : List Int := (ss.map textB).flatten
theorem flatT_snoc (ss : List ByteArray) (k : Nat) (h : k < ss.length) : flatT (ss.take (k + 1)) = flatT (ss.take k) ++ textB ss[k] := by
  rw [flatT, flatT, List.take_succ_eq_append_getElem h, List.map_append, List.flatten_append]
  congr 1
  simp
theorem flatT_le (ss : List ByteArray) (k : Nat) : (flatT (ss.take k)).length ≤ (flatT ss).length := by
  have h : flatT ss = flatT (ss.take k) ++ flatT (ss.drop k) := by
    rw [flatT, flatT, flatT, ← List.flatten_append, ← List.map_append, List.take_append_drop]
  rw [h, List.length_append]; omega
/-- Strings in a row. -/
def ReadsStr (w : World) (A : Option Addr) (ss : List ByteArray) : Prop :=
  0 < ss.length → ∃ x, A = some x ∧ ∀ i (h : i < ss.length), w.cell? (x.add i) = some (.string ss[i])
theorem ReadsStr.keep {w w' : World} {A : Option Addr} {ss : List ByteArray} (h : ReadsStr w A ss) (b : Below w.heap.size w w') : ReadsStr w' A ss := by
  intro h0
  obtain ⟨x, hx, hc⟩ := h h0
  exact ⟨x, hx, fun i hi => by rw [b.cell (World.block_lt_of_cell? w _ (hc i hi))]; exact hc i hi⟩

set_option maxHeartbeats 1000000 in
theorem text_calls (w : World) (A : Option Addr) (L : List Int) (c : Nat) (B : Option Addr) (ss : List ByteArray) (cb : Nat) (hR : Reads .u8 w A L) (hS : ReadsStr w B ss) (h0 : 0 < ss.length) (hl : (ss.length : Int) ≤ 1000) (hs : ∀ s ∈ ss, s.size ≤ 65535) (hb : L.length + (flatT ss).length ≤ 140737488355328) :
    Calls Tryd.prog 91 #[.slice A L.length c, .slice B ss.length cb] w fun e w' => GivesBytes w (L ++ flatT ss) e w' := by
  have HR := Lib.hid hR
  have HS := Lib.hid hS
  have Hs := Lib.hid hs
  have HBD := Lib.hid hb
  have H0 := Lib.hid h0
  clear hR hS hs hb h0
  go_enter Tryd.func91, Tryd.ntmps91
  go_wp2_with (fail)
  go_loopw [0, 9] (fun t x wr => ∃ (k : Nat) (A1 : Option Addr) (n c1 : Nat), k ≤ ss.length ∧ x = .int .i64 k ∧ t = .slice A1 n c1 ∧ Hid (n = (L ++ flatT (ss.take k)).length) ∧ Hid (Reads .u8 wr A1 (L ++ flatT (ss.take k))) ∧ Hid (0 < k → OwnInts wr w.heap.size BT .u8 (.slice A1 n c1) (L ++ flatT (ss.take k))) ∧ Below w.heap.size w wr) (fun _ x _ => ss.length - (intOf x).toNat)
  case atStart =>
    refine ⟨0, A, L.length, c, Nat.zero_le _, rfl, rfl, ?_, ?_, fun h => absurd h (by omega), Below.refl _ _⟩
    · simp [Hid, flatT]
    · rw [Hid, List.take_zero, show flatT [] = [] from rfl, List.append_nil]; exact HR.out
  case round =>
    obtain ⟨k, A1, n, c1, hk, rfl, rfl, hn, hR1, hO1, hB⟩ := hrel
    have HB := Lib.hid hB
    clear hB
    have hkb : (k : Int) ≤ 1000 := by omega
    by_cases hkl : k < ss.length
    · obtain ⟨x, hx0, hx⟩ := HS.out.keep HB.out H0.out
      subst hx0
      have hxk := hx k hkl
      obtain ⟨s, hse⟩ : ∃ s, Hid (s = ss[k]'hkl) := ⟨ss[k]'hkl, by rw [Hid]⟩
      rw [← hse.out] at hxk
      clear hx
      obtain ⟨R, hRe⟩ : ∃ R, Hid (R = L ++ flatT (ss.take k)) := ⟨_, rfl⟩
      rw [← hRe.out] at hn hR1 hO1
      have hnR := hn.out
      subst hnR
      have hsz : Hid (s.size ≤ 65535) := by rw [hse.out]; exact Hs.out _ (List.getElem_mem hkl)
      have hnx : Hid (R ++ textB s = L ++ flatT (ss.take (k + 1))) := by rw [hRe.out, hse.out, flatT_snoc _ _ hkl, List.append_assoc]; rfl
      have hbd : Hid (R.length + 2 + s.size ≤ 140737488355328) := by
        have h1 := congrArg List.length hnx.out
        have h2 := flatT_le ss (k + 1)
        have h3 := HBD.out
        rw [List.length_append, List.length_append, textB_length] at h1
        rw [Hid]; omega
      go_wp2_with (fail)
      refine (ptext_calls wr A1 R c1 s hR1.out (by have := hsz.out; omega) (by have := hbd.out; omega)).mono ?_
      rintro e w2 ⟨A2, c2, rfl, hown, hb2⟩
      have HB2 : Hid (Below w.heap.size w w2) := HB.out.trans (hb2.mono HB.out.size)
      have HO2 : Hid (OwnInts w2 w.heap.size BT .u8 (.slice A2 (R ++ textB s).length c2) (R ++ textB s)) := own_mono hown HB.out.size
      rw [hnx.out] at HO2
      clear hb2 hown
      go_wp2_with (fail)
      go_roundw
      case rel =>
        refine ⟨k + 1, A2, _, c2, by omega, by go_num, rfl, ?_, ?_, fun _ => ?_, HB2.out⟩
        · rw [← hnx.out]; simp [Hid]
        · exact (own_reads HO2.out).2.2.1
        · have := HO2.out
          rw [← hnx.out] at this ⊢
          simpa using this
      case measure => simp [intOf]; omega
    · have hk' : k = ss.length := by omega
      subst hk'
      rw [List.take_length] at hn hR1 hO1
      have hO := Lib.hid (hO1.out H0.out)
      clear hO1
      go_wp2_with (fail)
      go_ret
      exact gives_one hO.out (.inl rfl) HB.out
end Pk
end Go.Proofs.YtonemmdipmohgaaDoor

namespace Go.Proofs.YtonemmdipmohgaaDoor
open Go.RowKit
set_option linter.unusedVariables false
set_option linter.unusedSimpArgs false
namespace Pk
open Utf (nums nums_length nums_bytes)
open Var (BT info_byte GivesBytes)

/-- 'append(v, src...)' as a step of a region that draws its order. -/
theorem step_append_row {P : Program} {ops : Array Oper} {o : Oper} {a : Act} {K : Act → World → Prop} {Q : Exit → Act → World → Prop} {E : Prop} {W : World} (base : Nat) (hgd : o.guard = none) (s x : Operand) (t e : TypeId) (k : IntKind) (bytes : Nat)
    (ho : o.op = .call { callee := .builtin .append, args := #[s, x], argTypes := #[t, t] })
    (ht : P.underlying t = some (.slice e)) (hinfo : (P.info? e).map (fun i => (i.zero, i.size, i.bytes)) = some (some (.int k 0), 1, bytes))
    (v : Value) (L M : List Int) (ad : Addr) (c : Nat) (hs : a.eval s = v) (hx : a.eval x = .slice (some ad) M.length c) (hR : Reads k W (some ad) M)
    (HO : OwnInts W base e k v L) (hbase : base ≤ W.heap.size) (hn : L.length + M.length ≤ 140737488355328 ∧ (L.length + M.length) * bytes ≤ 140737488355328)
    (hK : ∀ A1 c1 w1, OwnInts w1 base e k (.slice A1 (L ++ M).length c1) (L ++ M) → Turn (fun j => v.ownBlock = some j) W w1 → K (a.put o.dst (.slice A1 (L ++ M).length c1)) w1) :
    if Region.wanted o (yielded ops a.tmps) = true then Oper.wp P o a W K Q else E := by
  have hw : Region.wanted o (yielded ops a.tmps) = true := by simp [Region.wanted, hgd]
  rw [if_pos hw]
  obtain ⟨i0, hi, hzz⟩ := Option.map_eq_some_iff.1 hinfo
  simp only [Prod.mk.injEq] at hzz
  obtain ⟨hz0, hz1, hz2⟩ := hzz
  refine wp_append_own W s x t ho base e i0 (.int k 0) 1 bytes ht hi hz0 hz1 hz2 rfl (by omega) v L.length _ hs HO ad M.length c (M.map (Value.int k)) hx (by simp)
      (fun j u hu => ?_) (by simp [Value.oneCell']) (by simp only [maxLen]; omega) hn.2 hbase ?_
  · have hj : j < M.length := by simpa using (List.getElem?_eq_some_iff.1 hu).1
    obtain ⟨y, hy, hc⟩ := hR (by omega)
    cases hy
    rw [hc j hj, lat_get _ _ hj]
    simp [List.getElem?_eq_getElem hj] at hu
    rw [← hu]
  · intro v' w' h2 h3 _
    have h4 : OwnInts w' base e k v' (L ++ M) := by simpa [OwnInts] using h2
    obtain ⟨A1, c1, hv, _⟩ := h4.form
    subst hv
    exact hK A1 c1 w' h4 (Turn.of_grownBy h3 (fun k e => e))

theorem reads_str_lit {e : TypeId} (w : World) (ss : List ByteArray) (cur : Array Value) (h : cur.toList = ss.map Value.string) : ReadsStr (w.alloc (.cells cur e)) (some ⟨w.heap.size, 0, none⟩) ss := by
  intro h0
  refine ⟨_, rfl, fun i hi => ?_⟩
  rw [add_plain0, cell_heap (heap_new _ _)]
  have : cur[i]? = cur.toList[i]? := by simp
  rw [this, h]
  simp [List.getElem?_eq_getElem hi]
theorem reads_none (w : World) : Reads .u8 w none [] := fun h => absurd h (by simp)

abbrev mqtt : ByteArray := ⟨#[77, 81, 84, 84]⟩
def conF (p : Pkt) : Int := bits .or .i64 (bits .or .i64 (bits .or .i64 (bits .or .i64 (bits .or .i64 (bitN p.clean 2) (bitN p.will 4)) (p.qos * 8)) (bitN p.retain 32)) (bitN p.hpass 64)) (bitN p.huser 128)
theorem conF_eq (p : Pkt) (hq : 0 ≤ p.qos ∧ p.qos ≤ 2) : conF p = bitN p.clean 2 + bitN p.will 4 + 8 * p.qos + bitN p.retain 32 + bitN p.hpass 64 + bitN p.huser 128 := by
  unfold conF
  have h : p.qos = 0 ∨ p.qos = 1 ∨ p.qos = 2 := by omega
  rcases h with h | h | h <;> rw [h] <;> cases p.clean <;> cases p.will <;> cases p.retain <;> cases p.hpass <;> cases p.huser <;> rfl
theorem conF_range (p : Pkt) (hq : 0 ≤ p.qos ∧ p.qos ≤ 2) : 0 ≤ conF p ∧ conF p ≤ 255 := by
  rw [conF_eq p hq]
  unfold bitN
  cases p.clean <;> cases p.will <;> cases p.retain <;> cases p.hpass <;> cases p.huser <;> simp <;> omega
def conH (p : Pkt) : List Int := textB mqtt ++ [4, conF p] ++ wordB p.alive

theorem reads_drew {k : IntKind} {W : World} {A : Option Addr} {L : List Int} (h : Reads k W A L) : Reads k W.drew A L := h
theorem ReadsStr.drew {W : World} {A : Option Addr} {L : List ByteArray} (h : ReadsStr W A L) : ReadsStr W.drew A L := h
theorem reads_lit2 {k : IntKind} {e : TypeId} (X : World) (o : Obj) (L : List Int) (cur : Array Value) (h : cur.toList = L.map (Value.int k)) : Reads k ((X.alloc o).alloc (.cells cur e)).drew (some ⟨X.heap.size + 1, 0, none⟩) L := by
  have h := reads_drew (reads_lit (e := e) (X.alloc o) L cur h)
  have e : (X.alloc o).heap.size = X.heap.size + 1 := by simp
  rw [e] at h; exact h
theorem reads_str_lit2 {e : TypeId} (X : World) (o : Obj) (L : List ByteArray) (cur : Array Value) (h : cur.toList = L.map Value.string) : ReadsStr ((X.alloc o).alloc (.cells cur e)).drew (some ⟨X.heap.size + 1, 0, none⟩) L := by
  have h := (reads_str_lit (e := e) (X.alloc o) L cur h).drew
  have e : (X.alloc o).heap.size = X.heap.size + 1 := by simp
  rw [e] at h; exact h
theorem At.drew {w W : World} {g : Nat} {p : Pkt} (h : At w W g p) : At w W.drew g p := h.turn (Turn.drew (Turn.refl _ _)) (by unfold PkAt; exact h.at_)
theorem At.drewN {w W : World} {g : Nat} {p : Pkt} (h : At w W g p) (n : Nat) : At w (W.drewN n) g p := h.turn (Turn.drewN (Turn.refl _ _) n) (by unfold PkAt; exact h.at_)
theorem At.lt1 {w W : World} {g : Nat} {p : Pkt} (h : At w W g p) : w.heap.size + 1 ≤ W.heap.size := by have := h.at_.lt; have := h.eq; omega
theorem At.grow {w W W' : World} {g : Nat} {p : Pkt} {S : Nat → Prop} (h : At w W g p) (t : Turn S W W') (hS : ∀ k, S k → w.heap.size + 1 ≤ k) : At w W' g p :=
  ⟨h.eq, Nat.le_trans h.lt t.size, Turn.belowTrans h.below t h.lt (fun k hk hx => by have := hS k hx; omega), h.at_.keep t (fun hx => by have := hS g hx; have := h.eq; omega)⟩
theorem wrap_u8 (F : Int) (h0 : 0 ≤ F) (h1 : F ≤ 255) : IntKind.u8.wrap F = F := by
  have : IntKind.u8.wrap F = F % 256 := by simp [IntKind.wrap, IntKind.bits, IntKind.signed]
  omega

theorem oi_mono {w : World} {base base' : Nat} {e : TypeId} {k : IntKind} {v : Value} {L L' : List Int} (h : OwnInts w base e k v L) (hb : base' ≤ base) (hL : L = L') : OwnInts w base' e k v L' := by
  subst hL
  exact own_mono h hb
theorem text_list (w W : World) (A : Option Addr) (n c : Nat) (L : List Int) (g : Nat) (p : Pkt) (ss : List ByteArray) (cur : Array Value) (R : Ending → World → Prop) (hO : OwnInts W (w.heap.size + 1) BT .u8 (.slice A n c) L) (hA : At w W g p)
    (h0 : 0 < ss.length) (hl : (ss.length : Int) ≤ 1000) (hcur : cur.toList = ss.map Value.string) (hs : ∀ s ∈ ss, s.size ≤ 65535) (hL : L.length + (flatT ss).length ≤ 140737488355328) (hK : ∀ A1 n1 c1 w1, Hid (OwnInts w1 (w.heap.size + 1) BT .u8 (.slice A1 n1 c1) (L ++ flatT ss)) → Hid (At w w1 g p) → R (.returned (.slice A1 n1 c1)) w1) :
    Calls Tryd.prog 91 #[.slice A n c, .slice (some ⟨W.heap.size, 0, none⟩) ss.length ss.length] (W.alloc (.cells cur 9)) R := by
  have hA1 := hA.alloc (.cells cur 9)
  have ho := own_reads (own_alloc hO (.cells cur 9))
  obtain ⟨rfl, _, hr, _⟩ := ho
  refine (text_calls _ A L c (some ⟨W.heap.size, 0, none⟩) ss ss.length hr (reads_str_lit W ss cur hcur) h0 hl hs hL).mono ?_
  rintro e w1 ⟨A1, c1, rfl, ho1, hb⟩
  exact hK A1 _ c1 w1 (own_mono ho1 hA1.lt1) (hA1.old hb)
theorem text_one (w W : World) (A : Option Addr) (n c : Nat) (L : List Int) (g : Nat) (p : Pkt) (s : ByteArray) (R : Ending → World → Prop) (hO : OwnInts W (w.heap.size + 1) BT .u8 (.slice A n c) L) (hA : At w W g p) (hs : s.size ≤ 65535) (hL : L.length ≤ 140737488200000) (hK : ∀ A1 n1 c1 w1, Hid (OwnInts w1 (w.heap.size + 1) BT .u8 (.slice A1 n1 c1) (L ++ textB s)) → Hid (At w w1 g p) → R (.returned (.slice A1 n1 c1)) w1) :
    Calls Tryd.prog 91 #[.slice A n c, .slice (some ⟨W.heap.size, 0, none⟩) 1 1] (W.alloc (.cells #[.string s] 9)) R := by
  have hf : flatT [s] = textB s := by simp [flatT]
  refine text_list w W A n c L g p [s] #[.string s] R hO hA (by simp) (by simp) rfl (fun x hx => by simp at hx; subst hx; exact hs) (by rw [hf, textB_length]; omega) ?_
  rw [hf]; exact hK
theorem text_two (w W : World) (A : Option Addr) (n c : Nat) (L : List Int) (g : Nat) (p : Pkt) (s t : ByteArray) (R : Ending → World → Prop) (hO : OwnInts W (w.heap.size + 1) BT .u8 (.slice A n c) L) (hA : At w W g p) (hs : s.size ≤ 65535) (ht : t.size ≤ 65535) (hL : L.length ≤ 140737488200000) (hK : ∀ A1 n1 c1 w1, Hid (OwnInts w1 (w.heap.size + 1) BT .u8 (.slice A1 n1 c1) (L ++ (textB s ++ textB t))) → Hid (At w w1 g p) → R (.returned (.slice A1 n1 c1)) w1) :
    Calls Tryd.prog 91 #[.slice A n c, .slice (some ⟨W.heap.size, 0, none⟩) 2 2] (W.alloc (.cells #[.string s, .string t] 9)) R := by
  have hf : flatT [s, t] = textB s ++ textB t := by simp [flatT]
  refine text_list w W A n c L g p [s, t] #[.string s, .string t] R hO hA (by simp) (by simp) rfl (fun x hx => by simp at hx; rcases hx with rfl | rfl <;> assumption) (by rw [hf, List.length_append, textB_length, textB_length]; omega) ?_
  rw [hf]; exact hK

def conB (p : Pkt) : List Int := conH p ++ (textB p.client ++ ((if p.will then textB p.topic ++ textB p.payload else []) ++ ((if p.huser then textB p.user else []) ++ (if p.hpass then textB p.pass else []))))
structure ConFit (p : Pkt) : Prop where
  qos : 0 ≤ p.qos ∧ p.qos ≤ 2
  alive : 0 ≤ p.alive ∧ p.alive ≤ 65535
  client : p.client.size ≤ 65535
  topic : p.will = true → p.topic.size ≤ 65535
  payload : p.will = true → p.payload.size ≤ 65535
  user : p.user.size ≤ 65535
  pass : p.pass.size ≤ 65535

set_option maxRecDepth 100000 in
set_option maxHeartbeats 1000000 in
theorem connect_calls (w : World) (p : Pkt) (hFit : ConFit p) : Calls Tryd.prog 89 #[.agg p.cells] w fun e w' => GivesBytes w (conB p) e w' := by
  have hq := hFit.qos
  have ha := hFit.alive
  have HFi := Lib.hid hFit
  clear hFit
  have hA := at_box w p
  obtain ⟨W, hW⟩ : ∃ W, Hid (W = w.alloc (.cells p.cells PT)) := ⟨_, rfl⟩
  obtain ⟨g, hg⟩ : ∃ g, Hid (g = w.heap.size) := ⟨_, rfl⟩
  rw [← hW.out, ← hg.out] at hA
  have k8 : W.cell? ⟨g, 8, none⟩ = some (.bool p.clean) := hA.at_.cell 8
  have k10 : W.cell? ⟨g, 10, none⟩ = some (.bool p.will) := hA.at_.cell 10
  have k5 : W.cell? ⟨g, 5, none⟩ = some (.int .i64 p.qos) := hA.at_.cell 5
  have k6 : W.cell? ⟨g, 6, none⟩ = some (.bool p.retain) := hA.at_.cell 6
  have k11 : W.cell? ⟨g, 11, none⟩ = some (.bool p.huser) := hA.at_.cell 11
  have k12 : W.cell? ⟨g, 12, none⟩ = some (.bool p.hpass) := hA.at_.cell 12
  have HA := Lib.hid hA
  clear hA
  have HAL := Lib.hid ha
  clear ha
  obtain ⟨F, hF⟩ : ∃ F, Hid (F = conF p) := ⟨_, rfl⟩
  have hFr := conF_range p hq
  rw [← hF.out] at hFr
  obtain ⟨hF0, hF1⟩ := hFr
  have hFw := wrap_u8 F hF0 hF1
  obtain ⟨M0, hM0⟩ : ∃ M0, Hid (M0 = textB mqtt) := ⟨_, rfl⟩
  have hl0 : Hid (M0.length = 6) := by rw [hM0.out]; rfl
  go_enter Tryd.func89, Tryd.ntmps89
  go_upto_region 1 with (fail)
  rw [← hW.out, ← hg.out]
  go_cut [3] (fun v wx => v = .int .i64 F ∧ ∃ n, wx = W.drewN n)
  case first =>
    go_quiet ((go_at_call 90; exact quiet_left (bit_calls _ _ _)))
    go_wp2_with (fail)
    go_meet
    exact ⟨by rw [hF.out]; rfl, _, rfl⟩
  case rest =>
    obtain ⟨rfl, n, rfl⟩ := hcut
    clear k8 k10 k5 k6 k11 k12 hq
    go_upto_region 2 with (fail)
    go_cut [4] (fun v wx => ∃ A c n, v = .slice A n c ∧ Hid (n = 10) ∧ Hid (OwnInts wx (w.heap.size + 1) BT .u8 (.slice A n c) (conH p)) ∧ Hid (At w wx g p))
    case first =>
      have HT : ∀ (Wx : World) (blk : Nat) (R : Ending → World → Prop), At w Wx g p → ReadsStr Wx (some ⟨blk, 0, none⟩) [mqtt] → (∀ A5 c5 w5, Hid (OwnInts w5 (w.heap.size + 1) BT .u8 (.slice A5 M0.length c5) M0) → Hid (Below Wx.heap.size Wx w5) → Hid (At w w5 g p) → w5.cell? ⟨g, 9, none⟩ = some (.int .i64 p.alive) → R (.returned (.slice A5 M0.length c5)) w5) → Calls Tryd.prog 91 #[.slice none 0 0, .slice (some ⟨blk, 0, none⟩) 1 1] Wx R := by
        intro Wx blk R hAx hS hK
        refine (text_calls Wx none [] 0 (some ⟨blk, 0, none⟩) [mqtt] 1 (reads_none _) hS (by decide) (by decide) (fun s hs => by simp at hs; subst hs; decide) (by decide)).mono ?_
        rintro e w5 ⟨A5, c5, rfl, ho, hb⟩
        have hM : [] ++ flatT [mqtt] = M0 := by rw [hM0.out]; simp [flatT]
        rw [hM] at ho ⊢
        have hA5 := hAx.old hb
        exact hK A5 c5 w5 (own_mono ho hAx.lt1) hb hA5 (hA5.at_.cell 9)
      obtain ⟨X, hX⟩ : ∃ X, Hid (X = W.drewN n) := ⟨_, rfl⟩
      have HA0 : Hid (At w X g p) := by rw [hX.out]; exact HA.out.drewN n
      have k9 : X.drew.cell? ⟨g, 9, none⟩ = some (.int .i64 p.alive) := HA0.out.at_.cell 9
      have k9' : X.cell? ⟨g, 9, none⟩ = some (.int .i64 p.alive) := k9
      have k9a : ∀ o, (X.alloc o).cell? ⟨g, 9, none⟩ = some (.int .i64 p.alive) := fun o => (HA0.out.alloc o).at_.cell 9
      have k9b : ∀ o o', ((X.alloc o).alloc o').cell? ⟨g, 9, none⟩ = some (.int .i64 p.alive) := fun o o' => ((HA0.out.alloc o).alloc o').at_.cell 9
      have k9c : ∀ o, (X.alloc o).drew.cell? ⟨g, 9, none⟩ = some (.int .i64 p.alive) := fun o => (HA0.out.alloc o).at_.cell 9
      have k9d : ∀ o o', ((X.alloc o).alloc o').drew.cell? ⟨g, 9, none⟩ = some (.int .i64 p.alive) := fun o o' => ((HA0.out.alloc o).alloc o').at_.cell 9
      rw [← hX.out]
      have HW : ∀ (w6 : World) (A6 : Option Addr) (c6 : Nat) (R : Ending → World → Prop), Hid (OwnInts w6 (w.heap.size + 1) BT .u8 (.slice A6 (M0 ++ [4, F]).length c6) (M0 ++ [4, F])) → Hid (At w w6 g p) → (∀ A7 c7 w7, Hid (OwnInts w7 (w.heap.size + 1) BT .u8 (.slice A7 10 c7) (conH p)) → Hid (At w w7 g p) → R (.returned (.slice A7 10 c7)) w7) → Calls Tryd.prog 92 #[.slice A6 (M0.length + 2) c6, .int .i64 p.alive] w6 R := by
        intro w6 A6 c6 R HO HAx hK
        have e : M0.length + 2 = (M0 ++ [4, F]).length := by simp
        rw [e]
        refine (word_calls w6 A6 (M0 ++ [4, F]) c6 (own_reads HO.out).2.2.1 (by rw [← e, hl0.out]; decide) p.alive HAL.out.1 HAL.out.2).mono ?_
        rintro e w7 ⟨A7, c7, rfl, ho, hb⟩
        have hc : M0 ++ [4, F] ++ wordB p.alive = conH p := by rw [hM0.out, hF.out]; rfl
        have hl : (conH p).length = 10 := rfl
        rw [hc, hl] at ho
        rw [hc, hl]
        exact hK A7 c7 w7 (own_mono ho HAx.out.lt1) (HAx.out.old hb)
      have HT' := Lib.hid HT
      have HW' := Lib.hid HW
      clear HW
      clear HT
      have hlen : Hid (M0.length + 2 ≤ 140737488355328 ∧ (M0.length + 2) * 1 ≤ 140737488355328) := by rw [Hid, hl0.out]; decide
      go_region_law (first
        | (refine step_append_row (w.heap.size + 1) rfl _ _ 82 5 .u8 1 rfl Tryd.underlying82 info_byte _ M0 [4, F] _ 2 rfl rfl
            (by first
              | exact reads_lit _ [4, F] _ rfl
              | exact (reads_drew ((reads_lit X [4, F] _ rfl).keep (Below.alloc (Below.refl _ _) (Nat.le_refl _) _))).keep HB5.out
              | exact (reads_lit2 X _ [4, F] _ rfl).keep HB5.out)
            (by first | exact HO5.out | exact own_alloc HO5.out _) (by first | exact HA5.out.lt1 | exact (HA5.out.alloc _).lt1) hlen.out ?_
           intro A6 c6 w6 hown6 ht6
           have HA6 : Hid (At w w6 g p) := by first | exact HA5.out.grow ht6 (fun k hk => (own_block_ge HO5.out k hk).1) | exact (HA5.out.alloc _).grow ht6 (fun k hk => (own_block_ge HO5.out k hk).1)
           have k96 : w6.cell? ⟨g, 9, none⟩ = some (.int .i64 p.alive) := HA6.out.at_.cell 9
           have HO6 : Hid (OwnInts w6 (w.heap.size + 1) BT .u8 (.slice A6 (M0 ++ [4, F]).length c6) (M0 ++ [4, F])) := hown6
           clear hown6 ht6)
        | (go_simp; go_at_call 91
           refine HT'.out _ _ _ (by first | exact (HA0.out.alloc _).drew | exact ((HA0.out.alloc _).alloc _).drew) (by first
              | exact (reads_str_lit X [mqtt] _ rfl).drew
              | exact ((reads_str_lit X [mqtt] _ rfl).keep (Below.alloc (Below.refl _ _) (Nat.le_refl _) _)).drew
              | exact reads_str_lit2 X _ [mqtt] _ rfl) ?_
           intro A5 c5 w5 HO5 HB5 HA5 k95
           have k95a : ∀ o, (w5.alloc o).cell? ⟨g, 9, none⟩ = some (.int .i64 p.alive) := fun o => (HA5.out.alloc o).at_.cell 9)
        | (go_simp; go_at_call 92; refine HW'.out _ _ _ _ HO6 HA6 ?_; intro A7 c7 w7 HO7 HA7))
      all_goals (go_wp2_with (fail); go_meet; exact ⟨A7, c7, 10, rfl, rfl, HO7, HA7⟩)
    case rest =>
      obtain ⟨A, c, n, rfl, hn, HO, HA1⟩ := hcut
      have h10 : Hid ((conH p).length = 10) := rfl
      have k7 : wc.cell? ⟨g, 7, none⟩ = some (.string p.client) := HA1.out.at_.cell 7
      go_wp2_with (fail)
      refine text_one w _ A n c _ g p p.client _ HO.out HA1.out HFi.out.client (by rw [h10.out]; decide) ?_
      intro A1 n1 c1 w1 HO1 HB1
      have HL1 : Hid ((conH p ++ textB p.client).length ≤ 80000) := by rw [Hid, List.length_append, textB_length, h10.out]; have := HFi.out.client; omega
      have m10 : w1.cell? ⟨g, 10, none⟩ = some (.bool p.will) := HB1.out.at_.cell 10
      clear k7 HO HA1 h10 hn
      have HU : Hid (∀ (W2 : World) (A2 : Option Addr) (n2 c2 : Nat) (L : List Int), Hid (OwnInts W2 (w.heap.size + 1) BT .u8 (.slice A2 n2 c2) L) → Hid (At w W2 g p) → L.length ≤ 400000 → True) := fun _ _ _ _ _ _ _ _ => trivial
      clear HU
      cases hw : p.will with
      | true =>
        rw [hw] at m10
        have m3 : w1.cell? ⟨g, 3, none⟩ = some (.string p.topic) := HB1.out.at_.cell 3
        have m4 : w1.cell? ⟨g, 4, none⟩ = some (.string p.payload) := HB1.out.at_.cell 4
        go_wp2_with (fail)
        refine text_two w _ A1 n1 c1 _ g p p.topic p.payload _ HO1.out HB1.out (HFi.out.topic hw) (HFi.out.payload hw) (by have := HL1.out; omega) ?_
        intro A2 n2 c2 w2 HO2 HB2
        have HL2 : Hid ((conH p ++ textB p.client ++ (textB p.topic ++ textB p.payload)).length ≤ 300000) := by
          have h2 : (textB p.topic ++ textB p.payload).length = (2 + p.topic.size) + (2 + p.payload.size) := by rw [List.length_append, textB_length, textB_length]
          rw [Hid, List.length_append, h2]; have := HL1.out; have := HFi.out.topic hw; have := HFi.out.payload hw; omega
        have hE : Hid (conH p ++ textB p.client ++ (textB p.topic ++ textB p.payload) ++ ((if p.huser then textB p.user else []) ++ (if p.hpass then textB p.pass else [])) = conB p) := by
          simp [Hid, conB, hw, List.append_assoc]
        clear m3 m4 m10 HO1 HB1 HL1
        have q11 : w2.cell? ⟨g, 11, none⟩ = some (.bool p.huser) := HB2.out.at_.cell 11
        cases hu : p.huser with
        | true =>
          rw [hu] at q11
          have q13 : w2.cell? ⟨g, 13, none⟩ = some (.string p.user) := HB2.out.at_.cell 13
          go_wp2_with (fail)
          refine text_one w _ A2 n2 c2 _ g p p.user _ HO2.out HB2.out HFi.out.user (by have := HL2.out; omega) ?_
          intro A3 n3 c3 w3 HO3 HB3
          have HL3 : Hid ((conH p ++ textB p.client ++ (textB p.topic ++ textB p.payload) ++ textB p.user).length ≤ 400000) := by rw [Hid, List.length_append, textB_length]; have := HL2.out; have := HFi.out.user; omega
          have q12 : w3.cell? ⟨g, 12, none⟩ = some (.bool p.hpass) := HB3.out.at_.cell 12
          cases hp : p.hpass with
          | true =>
            rw [hp] at q12
            have q14 : w3.cell? ⟨g, 14, none⟩ = some (.string p.pass) := HB3.out.at_.cell 14
            go_wp2_with (fail)
            refine text_one w _ A3 n3 c3 _ g p p.pass _ HO3.out HB3.out HFi.out.pass (by have := HL3.out; omega) ?_
            intro A4 n4 c4 w4 HO4 HB4
            go_wp2_with (fail)
            go_ret
            rw [← hE.out]
            exact gives_one (A := A4) (n := n4) (c := c4) (oi_mono HO4.out (by omega) (by simp [hu, hp])) (.inl rfl) HB4.out.below
          | false =>
            rw [hp] at q12
            go_wp2_with (fail)
            go_ret
            rw [← hE.out]
            exact gives_one (A := A3) (n := n3) (c := c3) (oi_mono HO3.out (by omega) (by simp [hu, hp])) (.inl rfl) HB3.out.below
        | false =>
          rw [hu] at q11
          have q12 : w2.cell? ⟨g, 12, none⟩ = some (.bool p.hpass) := HB2.out.at_.cell 12
          cases hp : p.hpass with
          | true =>
            rw [hp] at q12
            have q14 : w2.cell? ⟨g, 14, none⟩ = some (.string p.pass) := HB2.out.at_.cell 14
            go_wp2_with (fail)
            refine text_one w _ A2 n2 c2 _ g p p.pass _ HO2.out HB2.out HFi.out.pass (by have := HL2.out; omega) ?_
            intro A4 n4 c4 w4 HO4 HB4
            go_wp2_with (fail)
            go_ret
            rw [← hE.out]
            exact gives_one (A := A4) (n := n4) (c := c4) (oi_mono HO4.out (by omega) (by simp [hu, hp])) (.inl rfl) HB4.out.below
          | false =>
            rw [hp] at q12
            go_wp2_with (fail)
            go_ret
            rw [← hE.out]
            exact gives_one (A := A2) (n := n2) (c := c2) (oi_mono HO2.out (by omega) (by simp [hu, hp])) (.inl rfl) HB2.out.below
      | false =>
        rw [hw] at m10
        have HO2 := HO1
        have HB2 := HB1
        have HL2 : Hid ((conH p ++ textB p.client).length ≤ 300000) := by have := HL1.out; rw [Hid]; omega
        have hE : Hid (conH p ++ textB p.client ++ ((if p.huser then textB p.user else []) ++ (if p.hpass then textB p.pass else [])) = conB p) := by
          simp [Hid, conB, hw, List.append_assoc]
        have q11 : w1.cell? ⟨g, 11, none⟩ = some (.bool p.huser) := HB2.out.at_.cell 11
        cases hu : p.huser with
        | true =>
          rw [hu] at q11
          have q13 : w1.cell? ⟨g, 13, none⟩ = some (.string p.user) := HB2.out.at_.cell 13
          go_wp2_with (fail)
          refine text_one w _ A1 n1 c1 _ g p p.user _ HO2.out HB2.out HFi.out.user (by have := HL2.out; omega) ?_
          intro A3 n3 c3 w3 HO3 HB3
          have HL3 : Hid ((conH p ++ textB p.client ++ textB p.user).length ≤ 400000) := by rw [Hid, List.length_append, textB_length]; have := HL2.out; have := HFi.out.user; omega
          have q12 : w3.cell? ⟨g, 12, none⟩ = some (.bool p.hpass) := HB3.out.at_.cell 12
          cases hp : p.hpass with
          | true =>
            rw [hp] at q12
            have q14 : w3.cell? ⟨g, 14, none⟩ = some (.string p.pass) := HB3.out.at_.cell 14
            go_wp2_with (fail)
            refine text_one w _ A3 n3 c3 _ g p p.pass _ HO3.out HB3.out HFi.out.pass (by have := HL3.out; omega) ?_
            intro A4 n4 c4 w4 HO4 HB4
            go_wp2_with (fail)
            go_ret
            rw [← hE.out]
            exact gives_one (A := A4) (n := n4) (c := c4) (oi_mono HO4.out (by omega) (by simp [hu, hp])) (.inl rfl) HB4.out.below
          | false =>
            rw [hp] at q12
            go_wp2_with (fail)
            go_ret
            rw [← hE.out]
            exact gives_one (A := A3) (n := n3) (c := c3) (oi_mono HO3.out (by omega) (by simp [hu, hp])) (.inl rfl) HB3.out.below
        | false =>
          rw [hu] at q11
          have q12 : w1.cell? ⟨g, 12, none⟩ = some (.bool p.hpass) := HB2.out.at_.cell 12
          cases hp : p.hpass with
          | true =>
            rw [hp] at q12
            have q14 : w1.cell? ⟨g, 14, none⟩ = some (.string p.pass) := HB2.out.at_.cell 14
            go_wp2_with (fail)
            refine text_one w _ A1 n1 c1 _ g p p.pass _ HO2.out HB2.out HFi.out.pass (by have := HL2.out; omega) ?_
            intro A4 n4 c4 w4 HO4 HB4
            go_wp2_with (fail)
            go_ret
            rw [← hE.out]
            exact gives_one (A := A4) (n := n4) (c := c4) (oi_mono HO4.out (by omega) (by simp [hu, hp])) (.inl rfl) HB4.out.below
          | false =>
            rw [hp] at q12
            go_wp2_with (fail)
            go_ret
            rw [← hE.out]
            exact gives_one (A := A1) (n := n1) (c := c1) (oi_mono HO2.out (by omega) (by simp [hu, hp])) (.inl rfl) HB2.out.below
end Pk
end Go.Proofs.YtonemmdipmohgaaDoor

namespace Go.Proofs.YtonemmdipmohgaaDoor
open Go.RowKit
set_option linter.unusedVariables false
set_option linter.unusedSimpArgs false
namespace Pk
open Utf (nums nums_length nums_bytes)
open Var (BT info_byte GivesBytes)

theorem load_pkt (W : World) (g : Nat) (p : Pkt) (h : PkAt W g p) : (Instr.loadAt PT (.pointer (some ⟨g, 0, none⟩))).run Tryd.prog W = .ok (.agg p.cells) W := by
  have hl := run_loadCells_list (P := Tryd.prog) W ⟨g, 0, none⟩ p.cells.toList (fun j v hj => by rw [add_plain0, h.cell]; simpa using hj)
  have hs : p.cells.toList.length = 18 := rfl
  rw [hs] at hl
  have h1 : (isAgg PT).run Tryd.prog W = .ok true W := by kernel_rfl
  have h2 : (sizeOf PT).run Tryd.prog W = .ok 18 W := by kernel_rfl
  unfold Instr.loadAt loadVar
  simp only [Instr.sureAddr, Sem.run_bind, Sem.run_pure, Result.andThen_ok, h1, if_true, h2, hl]
/-- The whole packet, as an operation. -/
theorem wp_load_pkt {ops : Array Oper} {rest : List Oper} {o : Oper} {a : Act} {W : World} {Q : Exit → Act → World → Prop} {x : Operand} {g : Nat} {p : Pkt} (hgd : o.guard = none) (ho : o.op = .load PT x) (hx : a.eval x = .pointer (some ⟨g, 0, none⟩)) (h : PkAt W g p)
    (hK : wpList Tryd.prog ops Q rest (a.put o.dst (.agg p.cells)) W) : wpList Tryd.prog ops Q (o :: rest) a W :=
  st_val _ (wanted_free hgd) (rLoad ho (by rw [hx]; exact load_pkt W g p h)) hK

def subB (ty : Int) (s : ByteArray × Int) : List Int := textB s.1 ++ (if ty = 8 then [s.2] else [])
def subsB (ty : Int) (D : List (ByteArray × Int)) : List Int := (D.map (subB ty)).flatten
def bodyB (p : Pkt) (C : List Int) (D : List (ByteArray × Int)) : List Int :=
  if p.ty = 1 then conB p
  else if p.ty = 2 then [bitN p.present 1, lat C 0]
  else if p.ty = 3 then textB p.topic ++ ((if p.qos = 0 then [] else wordB p.id) ++ nums p.payload)
  else if p.ty = 12 ∨ p.ty = 13 ∨ p.ty = 14 then []
  else wordB p.id ++ (subsB p.ty D ++ C)
def flagsN (p : Pkt) : Int :=
  if p.ty = 3 then bitN p.dup 8 + 2 * p.qos + bitN p.retain 1
  else if p.ty = 6 ∨ p.ty = 8 ∨ p.ty = 10 then 2
  else 0
/-- What body gives. -/
def GivesBody (w : World) (L : List Int) (F : Int) (e : Ending) (w' : World) : Prop :=
  ∃ A c, e = .returned (.tuple #[.slice A L.length c, .int .i64 F]) ∧ OwnInts w' w.heap.size BT .u8 (.slice A L.length c) L ∧ Below w.heap.size w w'
theorem gives_body {w w' : World} {A A' : Option Addr} {n m c c' : Nat} {L : List Int} {F : Int} (hO : OwnInts w' w.heap.size BT .u8 (.slice A n c) L) (hn : Value.slice A' m c' = .slice A n c ∨ Value.slice A' m c' = .slice A L.length c) (hB : Below w.heap.size w w') : GivesBody w L F (.returned (.tuple #[.slice A' m c', .int .i64 F])) w' := by
  have hL := (own_reads hO).1
  subst hL
  rcases hn with h | h <;> (injection h with h1 h2 h3; subst h1 h2 h3; exact ⟨A', c', rfl, hO, hB⟩)

structure BodyFit (w : World) (p : Pkt) (C : List Int) (D : List (ByteArray × Int)) : Prop where
  lies : Lies w p C D
  con : p.ty = 1 → ConFit p
  ack : p.ty = 2 → C.length = 1 ∧ 0 ≤ lat C 0 ∧ lat C 0 ≤ 255
  pub : p.ty = 3 → p.topic.size ≤ 65535 ∧ 0 ≤ p.qos ∧ p.qos ≤ 2 ∧ (p.qos ≠ 0 → 0 ≤ p.id ∧ p.id ≤ 65535)
  ids : 4 ≤ p.ty → p.ty ≤ 11 → 0 ≤ p.id ∧ p.id ≤ 65535
  subs : ∀ s ∈ D, s.1.size ≤ 65535 ∧ 0 ≤ s.2 ∧ s.2 ≤ 255
  codes : ∀ c ∈ C, 0 ≤ c ∧ c ≤ 255
  len : (bodyB p C D).length ≤ 70368744177664

set_option maxRecDepth 100000 in
set_option maxHeartbeats 1000000 in
theorem body_none (w : World) (p : Pkt) (C : List Int) (D : List (ByteArray × Int)) (h : p.ty = 12 ∨ p.ty = 13 ∨ p.ty = 14) : Calls Tryd.prog 75 #[.agg p.cells] w fun e w' => GivesBody w (bodyB p C D) (flagsN p) e w' := by
  have e1 : bodyB p C D = [] := by unfold bodyB; rcases h with h | h | h <;> rw [h] <;> rfl
  have e2 : flagsN p = 0 := by unfold flagsN; rcases h with h | h | h <;> rw [h] <;> rfl
  rw [e1, e2]
  have hA := box_at w p
  have h0 : (w.alloc (.cells p.cells PT)).cell? ⟨w.heap.size, 0, none⟩ = some (.int .i64 p.ty) := hA.cell 0
  have HB : Hid (Below w.heap.size w (w.alloc (.cells p.cells PT))) := Below.alloc (Below.refl _ _) (Nat.le_refl _) _
  clear hA e1 e2
  rcases h with h | h | h <;> rw [h] at h0
  all_goals
    go_enter Tryd.func75, Tryd.ntmps75
    go_wp2_with (fail)
    go_ret2
    exact gives_body (OwnInts.nil _ _ _ _) (.inl rfl) HB.out

set_option maxRecDepth 100000 in
set_option maxHeartbeats 1000000 in
theorem body_connect (w : World) (p : Pkt) (C : List Int) (D : List (ByteArray × Int)) (hFit : ConFit p) (h : p.ty = 1) : Calls Tryd.prog 75 #[.agg p.cells] w fun e w' => GivesBody w (bodyB p C D) (flagsN p) e w' := by
  have e1 : bodyB p C D = conB p := by unfold bodyB; rw [h]; rfl
  have e2 : flagsN p = 0 := by unfold flagsN; rw [h]; rfl
  rw [e1, e2]
  have hA := at_box w p
  obtain ⟨W, hW⟩ : ∃ W, Hid (W = w.alloc (.cells p.cells PT)) := ⟨_, rfl⟩
  obtain ⟨g, hg⟩ : ∃ g, Hid (g = w.heap.size) := ⟨_, rfl⟩
  have h0 : (w.alloc (.cells p.cells PT)).cell? ⟨w.heap.size, 0, none⟩ = some (.int .i64 p.ty) := hA.at_.cell 0
  rw [← hW.out, ← hg.out] at hA
  rw [h] at h0
  have HA := Lib.hid hA
  have HFi := Lib.hid hFit
  clear hA e1 e2 hFit
  go_enter Tryd.func75, Tryd.ntmps75
  go_upto_region 3 with (fail)
  rw [← hW.out, ← hg.out]
  go_wp2_with (with_reducible refine wp_load_pkt (o := ⟨some 14, _, _, _, _, _⟩) rfl rfl rfl HA.out.at_ ?_)
  refine (connect_calls W p HFi.out).mono ?_
  rintro e w1 ⟨A1, c1, rfl, ho, hb⟩
  have HO : Hid (OwnInts w1 w.heap.size BT .u8 (.slice A1 (conB p).length c1) (conB p)) := own_mono ho HA.out.lt
  have H1 : Hid (At w w1 g p) := HA.out.old hb
  clear ho hb
  go_wp2_with (fail)
  go_ret2
  exact gives_body HO.out (.inl rfl) H1.out.below
end Pk
end Go.Proofs.YtonemmdipmohgaaDoor

namespace Go.Proofs.YtonemmdipmohgaaDoor
open Go.RowKit
set_option linter.unusedVariables false
set_option linter.unusedSimpArgs false
namespace Pk
open Utf (nums nums_length nums_bytes)
open Var (BT info_byte GivesBytes)
theorem bitN_range (b : Bool) (n : Int) (h0 : 0 ≤ n) : 0 ≤ bitN b n ∧ bitN b n ≤ n := by
  unfold bitN; cases b <;> simp <;> omega

set_option maxRecDepth 100000 in
set_option maxHeartbeats 1000000 in
theorem body_connack (w : World) (p : Pkt) (C : List Int) (D : List (ByteArray × Int)) (hF : Lies w p C D) (hk : C.length = 1 ∧ 0 ≤ lat C 0 ∧ lat C 0 ≤ 255) (h : p.ty = 2) : Calls Tryd.prog 75 #[.agg p.cells] w fun e w' => GivesBody w (bodyB p C D) (flagsN p) e w' := by
  have e1 : bodyB p C D = [bitN p.present 1, lat C 0] := by unfold bodyB; rw [h]; rfl
  have e2 : flagsN p = 0 := by unfold flagsN; rw [h]; rfl
  rw [e1, e2]
  obtain ⟨c, rfl⟩ : ∃ c, C = [c] := by
    match C, hk.1 with
    | [c], _ => exact ⟨c, rfl⟩
  obtain ⟨Ac, cc, hc, hR⟩ := hF.codes
  have hlat : lat [c] 0 = c := rfl
  rw [hlat] at hk ⊢
  have hw2 := wrap_u8 c hk.2.1 hk.2.2
  have hw1 := wrap_u8 (bitN p.present 1) (bitN_range _ _ (by decide)).1 (by have := (bitN_range p.present 1 (by decide)).2; omega)
  have hA := at_box w p
  have hR' := hR.keep hA.below
  obtain ⟨W, hW⟩ : ∃ W, Hid (W = w.alloc (.cells p.cells PT)) := ⟨_, rfl⟩
  obtain ⟨g, hg⟩ : ∃ g, Hid (g = w.heap.size) := ⟨_, rfl⟩
  have h0 : (w.alloc (.cells p.cells PT)).cell? ⟨w.heap.size, 0, none⟩ = some (.int .i64 p.ty) := hA.at_.cell 0
  rw [← hW.out] at hR'
  rw [← hW.out, ← hg.out] at hA
  rw [h] at h0
  have k16 : W.cell? ⟨g, 16, none⟩ = some (.slice Ac [c].length cc) := by rw [← hc]; exact hA.at_.cell 16
  have k15 : W.cell? ⟨g, 15, none⟩ = some (.bool p.present) := hA.at_.cell 15
  obtain ⟨x, rfl, hx⟩ := hR' (by simp)
  have hx0 : W.cell? x = some (.int .i64 c) := by
    have := hx 0 (by simp)
    have h1 : x.add 0 = x := by simp [Addr.add]
    rw [h1] at this
    exact this
  obtain ⟨b1, hb1⟩ : ∃ b1, b1 = bitN p.present 1 := ⟨_, rfl⟩
  have HA := Lib.hid hA
  have HK : Hid (∀ W', Turn (fun _ => False) W W' → W'.cell? ⟨g, 15, none⟩ = some (.bool p.present) ∧ W'.cell? ⟨g, 16, none⟩ = some (.slice (some x) 1 cc) ∧ W'.cell? x = some (.int .i64 c)) := by
    intro W' ht
    exact ⟨ht.cell k15 (fun h => h), ht.cell k16 (fun h => h), ht.cell hx0 (fun h => h)⟩
  clear hA hR hR' hx e1 e2 hk hlat
  go_enter Tryd.func75, Tryd.ntmps75
  go_upto_region 5 with (fail)
  rw [← hW.out, ← hg.out]
  have HT0 : Turn (fun _ => False) W W.drew := Turn.drew (Turn.refl _ _)
  go_region_held (fun W' => W'.cell? ⟨g, 15, none⟩ = some (.bool p.present) ∧ W'.cell? ⟨g, 16, none⟩ = some (.slice (some x) 1 cc) ∧ W'.cell? x = some (.int .i64 c))
    (first | exact HK.out _ HT0 | exact HK.out _ (HT0.trans (Turn.alloc _ _)))
    (first | (go_at_call 90; refine (bit_calls _ _ _).mono ?_; rintro e w2 ⟨rfl, rfl⟩))
  go_wp2_with (fail)
  go_ret2
  have hown : OwnInts (W.alloc (.cells #[.int .u8 (bitN p.present 1), .int .u8 c] BT)).drew w.heap.size BT .u8 (.slice (some ⟨W.heap.size, 0, none⟩) 2 2) [bitN p.present 1, c] :=
    own_of_heap (cur := #[.int .u8 (bitN p.present 1), .int .u8 c]) (heap_new W _) HA.out.lt rfl (Nat.le_refl _) (by decide) rfl rfl
  exact gives_body hown (.inl rfl) (HA.out.alloc (.cells #[.int .u8 (bitN p.present 1), .int .u8 c] BT)).drew.below

def pubF (p : Pkt) : Int := bits .or .i64 (bits .or .i64 (bitN p.dup 8) (p.qos * 2)) (bitN p.retain 1)
theorem pubF_eq (p : Pkt) (hq : 0 ≤ p.qos ∧ p.qos ≤ 2) : pubF p = bitN p.dup 8 + 2 * p.qos + bitN p.retain 1 := by
  unfold pubF
  have h : p.qos = 0 ∨ p.qos = 1 ∨ p.qos = 2 := by omega
  rcases h with h | h | h <;> rw [h] <;> cases p.dup <;> cases p.retain <;> rfl

/-- 'append(v, s...)', s a string, as a step of a region that draws its order. -/
theorem step_append_str {ops : Array Oper} {o : Oper} {a : Act} {K : Act → World → Prop} {Q : Exit → Act → World → Prop} {E : Prop} {W : World} (base : Nat) (hgd : o.guard = none) (s x : Operand)
    (ho : o.op = .call { callee := .builtin .append, args := #[s, x], argTypes := #[82, 9] })
    (v : Value) (L : List Int) (S : ByteArray) (hs : a.eval s = v) (hx : a.eval x = .string S)
    (HO : OwnInts W base BT .u8 v L) (hbase : base ≤ W.heap.size) (hn : L.length + S.size ≤ 140737488355328)
    (hK : ∀ A1 n1 c1 w1, Hid (OwnInts w1 base BT .u8 (.slice A1 n1 c1) (L ++ nums S)) → Turn (fun j => v.ownBlock = some j) W w1 → K (a.put o.dst (.slice A1 n1 c1)) w1) :
    if Region.wanted o (yielded ops a.tmps) = true then Oper.wp Tryd.prog o a W K Q else E := by
  have hw : Region.wanted o (yielded ops a.tmps) = true := by simp [Region.wanted, hgd]
  rw [if_pos hw]
  obtain ⟨i0, hi, hzz⟩ := Option.map_eq_some_iff.1 info_byte
  simp only [Prod.mk.injEq] at hzz
  obtain ⟨hz0, hz1, hz2⟩ := hzz
  obtain ⟨v', w', hr, h2, h3, h4⟩ := Lib.run_append_own_string (P := Tryd.prog) W base 82 9 o.type BT i0 Tryd.underlying82 Tryd.underlying9 hi hz0 hz1 hz2 v L.length _ HO S (by simp only [maxLen]; omega) hn hbase
  unfold Oper.wp execOp
  simp only [ho, resolve, invoke, builtin, Sem.run_bind, Sem.run_pure, Result.andThen_ok, List.map_toArray, List.map_cons, List.map_nil, hs, hx, hr]
  have h5 : OwnInts w' base BT .u8 v' (L ++ nums S) := by
    rw [strCells_nums] at h2
    unfold OwnInts
    rw [List.length_append, nums_length, List.map_append]
    exact h2
  obtain ⟨A1, c1, hv, _⟩ := h5.form
  subst hv
  exact hK A1 _ c1 w' h5 (Turn.of_grownBy h3 (fun k e => e))

end Pk
end Go.Proofs.YtonemmdipmohgaaDoor

namespace Go.Proofs.YtonemmdipmohgaaDoor
open Go.RowKit
set_option linter.unusedVariables false
set_option linter.unusedSimpArgs false
namespace Pk
open Utf (nums nums_length nums_bytes)
open Var (BT info_byte GivesBytes)

set_option maxRecDepth 100000 in
set_option maxHeartbeats 1000000 in
theorem body_publish (w : World) (p : Pkt) (C : List Int) (D : List (ByteArray × Int)) (hp : p.topic.size ≤ 65535 ∧ 0 ≤ p.qos ∧ p.qos ≤ 2 ∧ (p.qos ≠ 0 → 0 ≤ p.id ∧ p.id ≤ 65535)) (hlen : (bodyB p C D).length ≤ 70368744177664) (h : p.ty = 3) : Calls Tryd.prog 75 #[.agg p.cells] w fun e w' => GivesBody w (bodyB p C D) (flagsN p) e w' := by
  have e1 : bodyB p C D = textB p.topic ++ ((if p.qos = 0 then [] else wordB p.id) ++ nums p.payload) := by unfold bodyB; rw [h]; rfl
  have e2 : flagsN p = pubF p := by rw [pubF_eq p ⟨hp.2.1, hp.2.2.1⟩]; unfold flagsN; rw [h]; rfl
  rw [e1] at hlen
  rw [e1, e2]
  have hsz : Hid (p.payload.size ≤ 70368744177664) := by
    rw [List.length_append, List.length_append, nums_length] at hlen
    rw [Hid]; omega
  have hA := at_box w p
  obtain ⟨W, hW⟩ : ∃ W, Hid (W = w.alloc (.cells p.cells PT)) := ⟨_, rfl⟩
  obtain ⟨g, hg⟩ : ∃ g, Hid (g = w.heap.size) := ⟨_, rfl⟩
  have h0 : (w.alloc (.cells p.cells PT)).cell? ⟨w.heap.size, 0, none⟩ = some (.int .i64 p.ty) := hA.at_.cell 0
  rw [← hW.out, ← hg.out] at hA
  rw [h] at h0
  have k3 : W.cell? ⟨g, 3, none⟩ = some (.string p.topic) := hA.at_.cell 3
  obtain ⟨M, hM⟩ : ∃ M, Hid (M = textB p.topic ++ ((if p.qos = 0 then [] else wordB p.id) ++ nums p.payload)) := ⟨_, rfl⟩
  rw [← hM.out]
  obtain ⟨F, hFe⟩ : ∃ F, Hid (F = pubF p) := ⟨_, rfl⟩
  rw [← hFe.out]
  have HA := Lib.hid hA
  have HP := Lib.hid hp
  obtain ⟨hq0, hq2⟩ : 0 ≤ p.qos ∧ p.qos ≤ 2 := ⟨hp.2.1, hp.2.2.1⟩
  clear hA e1 e2 hp hlen
  go_enter Tryd.func75, Tryd.ntmps75
  go_upto_region 7 with (fail)
  rw [← hW.out, ← hg.out]
  clear h0
  go_wp2_with (fail)
  refine text_one w W none 0 0 [] g p p.topic _ (OwnInts.nil _ _ _ _) HA.out HP.out.1 (by decide) ?_
  intro A1 n1 c1 w1 HO1 HB1
  rw [List.nil_append] at HO1
  have m5 : w1.cell? ⟨g, 5, none⟩ = some (.int .i64 p.qos) := HB1.out.at_.cell 5
  have ht2 : Hid ((textB p.topic).length ≤ 65537) := by rw [Hid, textB_length]; have := HP.out.1; omega
  clear k3
  obtain ⟨Lp, hLp⟩ : ∃ Lp, Hid (Lp = textB p.topic ++ (if p.qos = 0 then [] else wordB p.id)) := ⟨_, rfl⟩
  have hMp : Hid (Lp ++ nums p.payload = M) := by rw [hM.out, hLp.out, List.append_assoc, Hid]
  have hLl : Hid (Lp.length ≤ 65539) := by
    rw [hLp.out, Hid, List.length_append]
    have := ht2.out
    split
    · simp; omega
    · rw [wordB_length]; omega
  go_upto_if 38 with (fail)
  go_cut [4] (fun v wx => ∃ A n c, v = .slice A n c ∧ Hid (OwnInts wx (w.heap.size + 1) BT .u8 (.slice A n c) Lp) ∧ Hid (At w wx g p))
  case first =>
    by_cases hz : p.qos = 0
    · have hd : decide (0 < p.qos) = false := decide_eq_false (by omega)
      have e : Hid (Lp = textB p.topic) := by rw [hLp.out, if_pos hz, List.append_nil, Hid]
      rw [hz] at m5
      go_wp2_with (fail)
      go_meet
      exact ⟨A1, n1, c1, rfl, by rw [e.out]; exact HO1, HB1⟩
    · have hd : decide (0 < p.qos) = true := decide_eq_true (by omega)
      have e : Hid (Lp = textB p.topic ++ wordB p.id) := by rw [hLp.out, if_neg hz, Hid]
      have m2 : w1.cell? ⟨g, 2, none⟩ = some (.int .i64 p.id) := HB1.out.at_.cell 2
      obtain ⟨rfl, _, hr1, _⟩ := own_reads HO1.out
      have HW := Lib.hid (word_calls w1 A1 (textB p.topic) c1 hr1 (by have := ht2.out; omega) p.id (HP.out.2.2.2 hz).1 (HP.out.2.2.2 hz).2)
      clear hr1
      go_wp2_with (fail)
      refine HW.out.mono ?_
      rintro e w2 ⟨A2, c2, rfl, ho, hb⟩
      have HO2 : Hid (OwnInts w2 (w.heap.size + 1) BT .u8 (.slice A2 (textB p.topic ++ wordB p.id).length c2) (textB p.topic ++ wordB p.id)) := own_mono ho HB1.out.lt1
      have HB2 : Hid (At w w2 g p) := HB1.out.old hb
      clear ho hb
      go_wp2_with (fail)
      go_meet
      refine ⟨A2, _, c2, rfl, ?_, HB2⟩
      rw [e.out]
      simpa using HO2
  case rest =>
    obtain ⟨A2, n2, c2, rfl, HO2, HB2⟩ := hcut
    clear m5 HO1 HB1
    go_upto_region 10 with (fail)
    have HK : Hid (∀ W', At w W' g p → W'.cell? ⟨g, 4, none⟩ = some (.string p.payload) ∧ W'.cell? ⟨g, 1, none⟩ = some (.bool p.dup) ∧ W'.cell? ⟨g, 5, none⟩ = some (.int .i64 p.qos) ∧ W'.cell? ⟨g, 6, none⟩ = some (.bool p.retain)) :=
      fun W' ha => ⟨ha.at_.cell 4, ha.at_.cell 1, ha.at_.cell 5, ha.at_.cell 6⟩
    have hwq : IntKind.i64.wrap (p.qos * 2) = p.qos * 2 := by rw [IntKind.wrap_i64]; omega
    have HBX : At w wc.drew g p := HB2.out.drew
    have HOX : Hid (OwnInts wc.drew (w.heap.size + 1) BT .u8 (.slice A2 n2 c2) Lp) := HO2.out.turn (Turn.drew (Turn.refl (fun _ => False) _)) (fun _ _ h => h)
    have hfit : Hid (Lp.length + p.payload.size ≤ 140737488355328) := by have := hLl.out; have := hsz.out; rw [Hid]; omega
    go_region_held_law (fun W' => W'.cell? ⟨g, 4, none⟩ = some (.string p.payload) ∧ W'.cell? ⟨g, 1, none⟩ = some (.bool p.dup) ∧ W'.cell? ⟨g, 5, none⟩ = some (.int .i64 p.qos) ∧ W'.cell? ⟨g, 6, none⟩ = some (.bool p.retain))
      (first | exact HK.out _ HB3.out | exact HK.out _ HBX)
      (first
        | (refine step_append_str (w.heap.size + 1) rfl _ _ rfl _ Lp p.payload rfl rfl HOX.out HBX.lt1 hfit.out ?_
           intro A3 n3 c3 w3 HO3 ht3
           have HB3 : Hid (At w w3 g p) := HBX.grow ht3 (fun k hk => (own_block_ge HOX.out k hk).1)
           clear ht3)
        | (go_at_call 90; refine (bit_calls _ _ _).mono ?_; rintro e w4 ⟨rfl, rfl⟩))
    all_goals
      go_wp2_with (fail)
      go_ret2
      rw [hFe.out, ← hMp.out]
      exact gives_body (oi_mono HO3.out (by omega) rfl) (.inl rfl) HB3.out.below
end Pk
end Go.Proofs.YtonemmdipmohgaaDoor

namespace Go.Proofs.YtonemmdipmohgaaDoor
open Go.RowKit
set_option linter.unusedVariables false
set_option linter.unusedSimpArgs false
namespace Pk
open Utf (nums nums_length nums_bytes)
open Var (BT info_byte GivesBytes)

theorem text_one' (w W : World) (A : Option Addr) (n c : Nat) (L : List Int) (g : Nat) (p : Pkt) (s : ByteArray) (R : Ending → World → Prop) (hO : OwnInts W (w.heap.size + 1) BT .u8 (.slice A n c) L) (hA : At w W g p) (hs : s.size ≤ 65535) (hL : L.length ≤ 140737488200000) (hK : ∀ A1 n1 c1 w1, Hid (OwnInts w1 (w.heap.size + 1) BT .u8 (.slice A1 n1 c1) (L ++ textB s)) → Hid (At w w1 g p) → Hid (Below W.heap.size W w1) → R (.returned (.slice A1 n1 c1)) w1) :
    Calls Tryd.prog 91 #[.slice A n c, .slice (some ⟨W.heap.size, 0, none⟩) 1 1] (W.alloc (.cells #[.string s] 9)) R := by
  have hf : flatT [s] = textB s := by simp [flatT]
  have hA1 := hA.alloc (.cells #[.string s] 9)
  have ho := own_reads (own_alloc hO (.cells #[.string s] 9))
  obtain ⟨rfl, _, hr, _⟩ := ho
  refine (text_calls _ A L c (some ⟨W.heap.size, 0, none⟩) [s] 1 hr (reads_str_lit W [s] #[.string s] rfl) (by simp) (by simp) (fun x hx => by simp at hx; subst hx; exact hs) (by rw [hf, textB_length]; omega)).mono ?_
  rintro e w1 ⟨A1, c1, rfl, ho1, hb⟩
  rw [hf] at ho1 ⊢
  exact hK A1 _ c1 w1 (own_mono ho1 hA1.lt1) (hA1.old hb) ((Below.alloc (Below.refl _ _) (Nat.le_refl _) _).trans (hb.mono (by simp)))

theorem subsB_snoc (t : Int) (D : List (ByteArray × Int)) (k : Nat) (h : k < D.length) : subsB t (D.take (k + 1)) = subsB t (D.take k) ++ subB t D[k] := by
  rw [subsB, subsB, List.take_succ_eq_append_getElem h, List.map_append, List.flatten_append]
  congr 1
  simp
theorem subsB_le (t : Int) (D : List (ByteArray × Int)) (k : Nat) : (subsB t (D.take k)).length ≤ (subsB t D).length := by
  have h : subsB t D = subsB t (D.take k) ++ subsB t (D.drop k) := by
    rw [subsB, subsB, subsB, ← List.flatten_append, ← List.map_append, List.take_append_drop]
  rw [h, List.length_append]; omega

set_option maxRecDepth 100000 in
set_option maxHeartbeats 2000000 in
theorem body_rest (w : World) (p : Pkt) (C : List Int) (D : List (ByteArray × Int)) (hF : Lies w p C D) (hid : 0 ≤ p.id ∧ p.id ≤ 65535) (hsub : ∀ s ∈ D, s.1.size ≤ 65535 ∧ 0 ≤ s.2 ∧ s.2 ≤ 255) (hcod : ∀ c ∈ C, 0 ≤ c ∧ c ≤ 255) (hlen : (bodyB p C D).length ≤ 70368744177664) (h : 4 ≤ p.ty ∧ p.ty ≤ 11) : Calls Tryd.prog 75 #[.agg p.cells] w fun e w' => GivesBody w (bodyB p C D) (flagsN p) e w' := by
  have e1 : bodyB p C D = wordB p.id ++ (subsB p.ty D ++ C) := by unfold bodyB; rw [if_neg (by omega), if_neg (by omega), if_neg (by omega), if_neg (by omega)]
  have e2 : flagsN p = if p.ty = 6 ∨ p.ty = 8 ∨ p.ty = 10 then 2 else 0 := by unfold flagsN; rw [if_neg (by omega)]
  obtain ⟨M, hM⟩ : ∃ M, Hid (M = wordB p.id ++ (subsB p.ty D ++ C)) := ⟨_, rfl⟩
  obtain ⟨F, hFe⟩ : ∃ F, Hid (F = flagsN p) := ⟨_, rfl⟩
  rw [e1, ← hM.out] at hlen ⊢
  rw [← hFe.out]
  rw [← hFe.out] at e2
  have HM := Lib.hid hlen
  have HE2 := Lib.hid e2
  have hML : Hid (2 + (subsB p.ty D).length + C.length = M.length) := by rw [hM.out, Hid, List.length_append, List.length_append, wordB_length]; omega
  obtain ⟨Ac, cc, hc, hR⟩ := hF.codes
  obtain ⟨As, cs, hs, hS⟩ := hF.subs
  have hA := at_box w p
  obtain ⟨W, hW⟩ : ∃ W, Hid (W = w.alloc (.cells p.cells PT)) := ⟨_, rfl⟩
  obtain ⟨g, hg⟩ : ∃ g, Hid (g = w.heap.size) := ⟨_, rfl⟩
  have h0 : (w.alloc (.cells p.cells PT)).cell? ⟨w.heap.size, 0, none⟩ = some (.int .i64 p.ty) := hA.at_.cell 0
  rw [← hW.out, ← hg.out] at hA
  have HA := Lib.hid hA
  have HR := Lib.hid hR
  have HS := Lib.hid hS
  have HSU := Lib.hid hsub
  have HCO := Lib.hid hcod
  have hBC := hF.lenC
  have hBD := hF.lenD
  have x1 : (p.ty == 1) = false := by simp; omega
  have x2 : (p.ty == 2) = false := by simp; omega
  have x3 : (p.ty == 3) = false := by simp; omega
  have x12 : (p.ty == 12) = false := by simp; omega
  have x13 : (p.ty == 13) = false := by simp; omega
  have x14 : (p.ty == 14) = false := by simp; omega
  have k2 : W.cell? ⟨g, 2, none⟩ = some (.int .i64 p.id) := hA.at_.cell 2
  have HW0 := Lib.hid (word_calls W none [] 0 (reads_none _) (by decide) p.id hid.1 hid.2)
  clear hA hR hS hsub hcod hF hlen e1 e2 hid
  go_enter Tryd.func75, Tryd.ntmps75
  go_upto_region 15 with (fail)
  rw [← hW.out, ← hg.out]
  clear h0
  go_wp2_with (fail)
  refine HW0.out.mono ?_
  rintro e w1 ⟨A1, c1, rfl, ho, hb⟩
  have HO1 : Hid (OwnInts w1 (w.heap.size + 1) BT .u8 (.slice A1 2 c1) (wordB p.id)) := own_mono ho HA.out.lt1
  have HB1 : Hid (At w w1 g p) := HA.out.old hb
  have k17 : w1.cell? ⟨g, 17, none⟩ = some (.slice As D.length cs) := by rw [← hs]; exact HB1.out.at_.cell 17
  clear ho hb k2
  go_wp2_with (fail)
  go_loopw [5, 71] (fun t x wr => ∃ (k : Nat) (A : Option Addr) (n c : Nat), k ≤ D.length ∧ x = .int .i64 k ∧ t = .slice A n c ∧ Hid (OwnInts wr (w.heap.size + 1) BT .u8 (.slice A n c) (wordB p.id ++ subsB p.ty (D.take k))) ∧ Hid (At w wr g p)) (fun _ x _ => D.length - (intOf x).toNat)
  case atStart => exact ⟨0, A1, _, c1, Nat.zero_le _, rfl, rfl, (by rw [List.take_zero, show subsB p.ty [] = [] from rfl, List.append_nil]; exact HO1), HB1⟩
  case round =>
    obtain ⟨k, A, n, c, hk, rfl, rfl, HO, HB⟩ := hrel
    have hkb : (k : Int) ≤ 1000000000000000000 := by omega
    obtain ⟨L, hL⟩ : ∃ L, Hid (L = wordB p.id ++ subsB p.ty (D.take k)) := ⟨_, rfl⟩
    rw [← hL.out] at HO
    have hLl : Hid (L.length ≤ 70368744177664) := by
      have h1 := subsB_le p.ty D k
      have h2 := hML.out
      have h3 := HM.out
      rw [hL.out, Hid, List.length_append, wordB_length]; omega
    by_cases hkl : k < D.length
    · have HRR : Hid (ReadsSub wr As D) := HS.out.keep HB.out.below
      obtain ⟨x, hxe, hx⟩ := HRR.out (by omega)
      subst hxe
      obtain ⟨hx1, hx2⟩ := hx k hkl
      obtain ⟨s, q, hce⟩ : ∃ s q, Hid (D[k]'hkl = (s, q)) := ⟨(D[k]'hkl).1, (D[k]'hkl).2, by rw [Hid]⟩
      have hfit := HSU.out (D[k]'hkl) (List.getElem_mem hkl)
      rw [hce.out] at hx1 hx2 hfit
      obtain ⟨hs1, hq0, hq1⟩ := hfit
      rw [Nat.mul_comm] at hx1
      rw [add_next] at hx2
      have hnx : Hid (L ++ subB p.ty (s, q) = wordB p.id ++ subsB p.ty (D.take (k + 1))) := by rw [hL.out, subsB_snoc _ _ _ hkl, hce.out, List.append_assoc]; exact rfl
      have HBA : Hid (At w (wr.alloc (.cells #[.string s, .int .i64 q] 114)) g p) := HB.out.alloc _
      have HOA : Hid (OwnInts (wr.alloc (.cells #[.string s, .int .i64 q] 114)) (w.heap.size + 1) BT .u8 (.slice A n c) L) := own_alloc HO.out _
      have hnew := heap_new wr (.cells #[.string s, .int .i64 q] 114)
      have hnlt : wr.heap.size < (wr.alloc (.cells #[.string s, .int .i64 q] 114)).heap.size := by simp
      obtain ⟨Wa, hWa⟩ : ∃ Wa, Hid (Wa = wr.alloc (.cells #[.string s, .int .i64 q] 114)) := ⟨_, rfl⟩
      obtain ⟨b, hbs⟩ : ∃ b, Hid (b = wr.heap.size) := ⟨_, rfl⟩
      clear hx
      go_upto_region 19 with (fail)
      rw [← hWa.out, ← hbs.out]
      rw [← hWa.out, ← hbs.out] at hnew hnlt
      rw [← hWa.out] at HBA HOA
      have cb0 : Wa.cell? ⟨b, 0, none⟩ = some (.string s) := by rw [cell_heap hnew]; rfl
      have cb1 : Wa.cell? ⟨b, 1, none⟩ = some (.int .i64 q) := by rw [cell_heap hnew]; rfl
      clear hnew hx1 hx2 k17
      go_wp2_with (fail)
      refine text_one' w Wa A n c L g p s _ HOA.out HBA.out hs1 (by have := hLl.out; omega) ?_
      intro A2 n2 c2 w2 HO2 HB2 HW2
      have l0 : w2.cell? ⟨g, 0, none⟩ = some (.int .i64 p.ty) := HB2.out.at_.cell 0
      have cc1 : w2.cell? ⟨b, 1, none⟩ = some (.int .i64 q) := by rw [HW2.out.cell hnlt]; exact cb1
      obtain ⟨L2, hL2⟩ : ∃ L2, Hid (L2 = L ++ textB s) := ⟨_, rfl⟩
      rw [← hL2.out] at HO2
      have hn2 := (own_reads HO2.out).1
      subst hn2
      have hL2l : Hid (L2.length + 1 ≤ 140737488355328 ∧ (L2.length + 1) * 1 ≤ 140737488355328) := by
        have := hLl.out
        rw [Hid, hL2.out, List.length_append, textB_length]
        exact ⟨by omega, by omega⟩
      clear cb0 cb1 hnlt HW2 HOA HBA
      by_cases h8 : p.ty = 8
      · have e8 : (p.ty == 8) = true := by simpa using h8
        have hnx2 : Hid (L2 ++ [q] = wordB p.id ++ subsB p.ty (D.take (k + 1))) := by rw [← hnx.out, hL2.out, subB, if_pos h8, List.append_assoc, Hid]
        rw [h8] at l0
        have hwq := wrap_u8 q hq0 hq1
        clear h8
        go_wp2_with (at_builtin; go_must (refine wp_append_int w2 (w.heap.size + 1) rfl _ _ 82 5 .u8 1 rfl Tryd.underlying82 info_byte (.slice A2 L2.length c2) L2 q rfl _ rfl (heap_new w2 _) (Nat.le_refl _) (Turn.alloc w2 _) HO2.out HB2.out.lt1 hL2l.out ?_))
        intro g3 c3 w3 hown3 ht3 _ _
        have HO3 := Lib.hid hown3
        have HB3 : Hid (At w w3 g p) := HB2.out.grow ht3 (fun j hj => (own_block_ge HO2.out j hj).1)
        clear hown3 ht3
        go_wp2_with (fail)
        go_roundw
        case rel => exact ⟨k + 1, _, _, c3, by omega, by go_num, rfl, by rw [← hnx2.out]; exact HO3, HB3⟩
        case measure => simp [intOf]; omega
      · have e8 : (p.ty == 8) = false := by simpa using h8
        have hnx2 : Hid (L2 = wordB p.id ++ subsB p.ty (D.take (k + 1))) := by rw [← hnx.out, hL2.out, subB, if_neg h8, List.append_nil, Hid]
        clear h8
        go_wp2_with (fail)
        go_roundw
        case rel => exact ⟨k + 1, A2, _, c2, by omega, by go_num, rfl, by rw [← hnx2.out]; exact HO2, HB2⟩
        case measure => simp [intOf]; omega
    · have hke : k = D.length := by omega
      subst hke
      rw [List.take_length] at hL
      have hn := (own_reads HO.out).1
      subst hn
      have k16 : wr.cell? ⟨g, 16, none⟩ = some (.slice Ac C.length cc) := by rw [← hc]; exact HB.out.at_.cell 16
      clear k17
      go_wp2_with (fail)
      go_loopw [5, 93] (fun t x wr => ∃ (j : Nat) (A5 : Option Addr) (n5 c5 : Nat), j ≤ C.length ∧ x = .int .i64 j ∧ t = .slice A5 n5 c5 ∧ Hid (OwnInts wr (w.heap.size + 1) BT .u8 (.slice A5 n5 c5) (L ++ C.take j)) ∧ Hid (At w wr g p)) (fun _ x _ => C.length - (intOf x).toNat)
      case atStart => exact ⟨0, A, _, c, Nat.zero_le _, rfl, rfl, (by rw [List.take_zero, List.append_nil]; exact HO), HB⟩
      case round =>
        obtain ⟨j, A5, n5, c5, hj, rfl, rfl, HO5, HB5⟩ := hrel
        have hjb : (j : Int) ≤ 1000000000000000000 := by omega
        obtain ⟨L5, hL5⟩ : ∃ L5, Hid (L5 = L ++ C.take j) := ⟨_, rfl⟩
        rw [← hL5.out] at HO5
        have hn5 := (own_reads HO5.out).1
        subst hn5
        have hL5l : Hid (L5.length + 1 ≤ 140737488355328 ∧ (L5.length + 1) * 1 ≤ 140737488355328) := by
          have h1 := hML.out
          have h2 := HM.out
          have h3 : (C.take j).length ≤ C.length := by rw [List.length_take]; omega
          rw [Hid, hL5.out, hL.out, List.length_append, List.length_append, wordB_length]
          exact ⟨by omega, by omega⟩
        by_cases hjl : j < C.length
        · obtain ⟨x, hxe, hx⟩ := HR.out.keep HB5.out.below (by omega)
          subst hxe
          have hxj := hx j hjl
          obtain ⟨y, hy⟩ : ∃ y, Hid (y = lat C j) := ⟨_, rfl⟩
          obtain ⟨hy0, hy1⟩ := HCO.out (lat C j) (lat_mem C j hjl)
          rw [← hy.out] at hxj hy0 hy1
          have hwy := wrap_u8 y hy0 hy1
          have hnx5 : Hid (L5 ++ [y] = L ++ C.take (j + 1)) := by rw [hL5.out, hy.out, take_lat C j hjl, List.append_assoc, Hid]
          clear hx
          go_wp2_with (at_builtin; go_must (refine wp_append_int wr (w.heap.size + 1) rfl _ _ 82 5 .u8 1 rfl Tryd.underlying82 info_byte (.slice A5 L5.length c5) L5 y rfl _ rfl (heap_new wr _) (Nat.le_refl _) (Turn.alloc wr _) HO5.out HB5.out.lt1 hL5l.out ?_))
          intro g6 c6 w6 hown6 ht6 _ _
          have HO6 := Lib.hid hown6
          have HB6 : Hid (At w w6 g p) := HB5.out.grow ht6 (fun j hj => (own_block_ge HO5.out j hj).1)
          clear hown6 ht6
          go_wp2_with (fail)
          go_roundw
          case rel => exact ⟨j + 1, _, _, c6, by omega, by go_num, rfl, by rw [← hnx5.out]; exact HO6, HB6⟩
          case measure => simp [intOf]; omega
        · have hje : j = C.length := by omega
          subst hje
          rw [List.take_length] at hL5
          have hfin : Hid (L5 = M) := by rw [hL5.out, hL.out, hM.out, List.append_assoc, Hid]
          have l0 : wr.cell? ⟨g, 0, none⟩ = some (.int .i64 p.ty) := HB5.out.at_.cell 0
          by_cases h6 : p.ty = 6
          · have e6 : (p.ty == 6) = true := by simpa using h6
            have hF2 : Hid (F = bitN true 2) := by rw [HE2.out, if_pos (.inl h6)]; exact rfl
            clear h6
            go_wp2_with (fail)
            refine (bit_calls _ _ _).mono ?_
            rintro e w' ⟨rfl, rfl⟩
            go_wp2_with (fail)
            go_ret2
            rw [hF2.out, ← hfin.out]
            exact gives_body (oi_mono HO5.out (by omega) rfl) (.inl rfl) HB5.out.below
          · have e6 : (p.ty == 6) = false := by simpa using h6
            by_cases h8 : p.ty = 8
            · have e8 : (p.ty == 8) = true := by simpa using h8
              have hF2 : Hid (F = bitN true 2) := by rw [HE2.out, if_pos (.inr (.inl h8))]; exact rfl
              clear h6 h8
              go_wp2_with (fail)
              refine (bit_calls _ _ _).mono ?_
              rintro e w' ⟨rfl, rfl⟩
              go_wp2_with (fail)
              go_ret2
              rw [hF2.out, ← hfin.out]
              exact gives_body (oi_mono HO5.out (by omega) rfl) (.inl rfl) HB5.out.below
            · have e8 : (p.ty == 8) = false := by simpa using h8
              by_cases h10 : p.ty = 10
              · have e10 : (p.ty == 10) = true := by simpa using h10
                have hF2 : Hid (F = bitN true 2) := by rw [HE2.out, if_pos (.inr (.inr h10))]; exact rfl
                clear h6 h8 h10
                go_wp2_with (fail)
                refine (bit_calls _ _ _).mono ?_
                rintro e w' ⟨rfl, rfl⟩
                go_wp2_with (fail)
                go_ret2
                rw [hF2.out, ← hfin.out]
                exact gives_body (oi_mono HO5.out (by omega) rfl) (.inl rfl) HB5.out.below
              · have e10 : (p.ty == 10) = false := by simpa using h10
                have hF2 : Hid (F = bitN false 2) := by rw [HE2.out, if_neg (by omega)]; exact rfl
                clear h6 h8 h10
                go_wp2_with (fail)
                refine (bit_calls _ _ _).mono ?_
                rintro e w' ⟨rfl, rfl⟩
                go_wp2_with (fail)
                go_ret2
                rw [hF2.out, ← hfin.out]
                exact gives_body (oi_mono HO5.out (by omega) rfl) (.inl rfl) HB5.out.below
end Pk
end Go.Proofs.YtonemmdipmohgaaDoor

namespace Go.Proofs.YtonemmdipmohgaaDoor
open Go.RowKit
set_option linter.unusedVariables false
set_option linter.unusedSimpArgs false
namespace Pk
open Utf (nums nums_length nums_bytes IsStr)
open Var (BT info_byte GivesBytes digs)

theorem size_iff (s : ByteArray) : (s.toList == []) = decide (s.size = 0) := by
  by_cases h : s.size = 0
  · rw [list_em h, decide_eq_true h]
  · rw [list_ne h, decide_eq_false h]
theorem zero_iff (p : Pkt) (lc ls : Nat) : p.zero lc ls = true ↔ (p.topic.size = 0 ∧ p.payload.size = 0 ∧ p.qos = 0 ∧ p.retain = false) ∧ p.id = 0 ∧ p.dup = false ∧ lc = 0 ∧ ls = 0 ∧ (p.client.size = 0 ∧ p.user.size = 0 ∧ p.pass.size = 0) ∧ p.clean = false ∧ p.present = false ∧ p.will = false ∧ p.huser = false ∧ p.hpass = false ∧ p.alive = 0 := by
  unfold Pkt.zero
  rw [size_iff, size_iff, size_iff, ByteArray.size_append, ByteArray.size_append]
  simp only [Bool.and_eq_true, decide_eq_true_eq, beq_iff_eq, Bool.not_eq_true']
  constructor
  · rintro ⟨⟨⟨⟨⟨⟨⟨⟨⟨⟨⟨⟨⟨⟨h1, h2⟩, h3⟩, h4⟩, h5⟩, h6⟩, h7⟩, h8⟩, h9⟩, h10⟩, h11⟩, h12⟩, h13⟩, h14⟩, h15⟩
    exact ⟨⟨h1, h2, h3, h4⟩, h5, h6, by omega, by omega, ⟨by omega, by omega, by omega⟩, h10, h11, h12, h13, h14, h15⟩
  · rintro ⟨⟨h1, h2, h3, h4⟩, h5, h6, h7, h8, ⟨h9, h9', h9''⟩, h10, h11, h12, h13, h14, h15⟩
    exact ⟨⟨⟨⟨⟨⟨⟨⟨⟨⟨⟨⟨⟨⟨h1, h2⟩, h3⟩, h4⟩, h5⟩, h6⟩, by omega⟩, by omega⟩, by omega⟩, h10⟩, h11⟩, h12⟩, h13⟩, h14⟩, h15⟩
theorem str_size {s : ByteArray} (h : Str s) : s.size ≤ 65535 := by
  obtain ⟨l, h⟩ := h
  have := h.2.2
  rwa [nums_length] at this
theorem full_size {s : ByteArray} (h : Full s) : s.size ≤ 65535 := str_size h.2

theorem Lies.keep {w w' : World} {p : Pkt} {C : List Int} {D : List (ByteArray × Int)} (h : Lies w p C D) (b : Below w.heap.size w w') : Lies w' p C D := by
  obtain ⟨⟨A, c, h1, h1'⟩, ⟨B, d, h2, h2'⟩, h3, h4, h5⟩ := h
  exact ⟨⟨A, c, h1, h1'.keep b⟩, ⟨B, d, h2, h2'.keep b⟩, h3, h4, h5⟩
theorem Lies.rowC {w : World} {p : Pkt} {C : List Int} {D : List (ByteArray × Int)} (h : Lies w p C D) : rowLen p.codes = C.length := by obtain ⟨A, c, h1, _⟩ := h.codes; rw [h1]; rfl
theorem Lies.rowD {w : World} {p : Pkt} {C : List Int} {D : List (ByteArray × Int)} (h : Lies w p C D) : rowLen p.subs = D.length := by obtain ⟨A, c, h1, _⟩ := h.subs; rw [h1]; rfl

theorem after_of (p : Pkt) (h1 : p.ty ≠ 1) (h2 : p.ty ≠ 2) (h3 : p.ty ≠ 3) (h9 : p.ty ≠ 9) : rowLen p.after.codes = rowLen p.codes := by
  unfold Pkt.after
  rw [if_neg h1, if_neg h2, if_neg h3]
  split
  · rfl
  · split
    · rfl
    · first | rfl | rw [if_neg h9]
theorem after_ofD (p : Pkt) (h1 : p.ty ≠ 1) (h2 : p.ty ≠ 2) (h3 : p.ty ≠ 3) (h8 : p.ty ≠ 8) (h10 : p.ty ≠ 10) : rowLen p.after.subs = rowLen p.subs := by
  unfold Pkt.after
  rw [if_neg h1, if_neg h2, if_neg h3]
  split
  · rfl
  · rw [if_neg (by omega)]
    split <;> rfl

theorem good_parts {w : World} {p : Pkt} {C : List Int} {D : List (ByteArray × Int)} (hF : Lies w p C D) (hG : Good p C D) : (p.ty = 1 → ConFit p) ∧ (p.ty = 2 → C.length = 1 ∧ 0 ≤ lat C 0 ∧ lat C 0 ≤ 255) ∧ (p.ty = 3 → p.topic.size ≤ 65535 ∧ 0 ≤ p.qos ∧ p.qos ≤ 2 ∧ (p.qos ≠ 0 → 0 ≤ p.id ∧ p.id ≤ 65535)) ∧ (4 ≤ p.ty → p.ty ≤ 11 → 0 ≤ p.id ∧ p.id ≤ 65535) ∧ (∀ s ∈ D, s.1.size ≤ 65535 ∧ 0 ≤ s.2 ∧ s.2 ≤ 255) ∧ (∀ c ∈ C, 0 ≤ c ∧ c ≤ 255) := by
  obtain ⟨hty1, hty2, hOk, hz⟩ := hG
  have hz' := (zero_iff _ _ _).1 hz
  obtain ⟨o1, o2, o3, o4, o5, o6⟩ := hOk
  refine ⟨fun h => ?_, fun h => ?_, fun h => ?_, fun h h' => ?_, ?_, ?_⟩
  · obtain ⟨c1, c2, c3, c4, c5, c6, c7, c8, c9⟩ := o1 h
    have hq : 0 ≤ p.qos ∧ p.qos ≤ 2 := by
      cases hw : p.will with
      | true => exact (c7 hw).2.2
      | false =>
        have ha : p.after = p.noCon := by unfold Pkt.after; rw [h, hw]; rfl
        rw [ha] at hz'
        have : p.qos = 0 := hz'.1.2.2.1
        omega
    exact ⟨hq, ⟨c5, c6⟩, str_size c1, fun hw => full_size (c7 hw).2.1, fun hw => (c7 hw).1, str_size c2, c3⟩
  · obtain ⟨c1, c2, c3, _⟩ := o2 h
    exact ⟨c1, c2, by omega⟩
  · obtain ⟨c1, c2, c3, c4⟩ := o3 h
    exact ⟨full_size c2, c3, c4, fun hq => by have := c1 hq; unfold IdOk at this; omega⟩
  · have := o4 h h'
    unfold IdOk at this; omega
  · intro s hs
    by_cases h8 : p.ty = 8 ∨ p.ty = 10
    · have := (o5 h8).2 s hs
      exact ⟨full_size this.1, this.2.1, by have := this.2.2.1; omega⟩
    · have hd : rowLen p.after.subs = 0 := hz'.2.2.2.2.1
      have hdl : p.ty ≠ 1 → p.ty ≠ 2 → p.ty ≠ 3 → D.length = 0 := by
        intro a b c
        rw [after_ofD p a b c (by omega) (by omega), hF.rowD] at hd
        exact hd
      have hD0 : D.length = 0 := by
        by_cases a : p.ty = 1
        · have : p.after.subs = p.subs := by unfold Pkt.after; rw [if_pos a]; cases p.will <;> rfl
          rw [this, hF.rowD] at hd; exact hd
        · by_cases b : p.ty = 2
          · have : p.after.subs = p.subs := by unfold Pkt.after; rw [if_neg a, if_pos b]; rfl
            rw [this, hF.rowD] at hd; exact hd
          · by_cases c : p.ty = 3
            · have : p.after.subs = p.subs := by
                unfold Pkt.after; rw [if_neg a, if_neg b, if_pos c]
                split <;> rfl
              rw [this, hF.rowD] at hd; exact hd
            · exact hdl a b c
      have : D = [] := List.eq_nil_of_length_eq_zero hD0
      rw [this] at hs; cases hs
  · intro c hc
    by_cases h9 : p.ty = 9
    · have := (o6 h9).2 c hc
      unfold CodeOk at this; omega
    · by_cases b : p.ty = 2
      · obtain ⟨c1, c2, c3, _⟩ := o2 b
        match C, c1 with
        | [x], _ =>
          have : c = x := by simpa using hc
          subst this
          have e : lat [c] 0 = c := rfl
          rw [e] at c2 c3
          omega
      · have hd : rowLen p.after.codes = 0 := hz'.2.2.2.1
        have hC0 : C.length = 0 := by
          by_cases a : p.ty = 1
          · have : p.after.codes = p.codes := by unfold Pkt.after; rw [if_pos a]; cases p.will <;> rfl
            rw [this, hF.rowC] at hd; exact hd
          · by_cases c : p.ty = 3
            · have : p.after.codes = p.codes := by
                unfold Pkt.after; rw [if_neg a, if_neg b, if_pos c]
                split <;> rfl
              rw [this, hF.rowC] at hd; exact hd
            · rw [after_of p a b c h9, hF.rowC] at hd; exact hd
        have : C = [] := List.eq_nil_of_length_eq_zero hC0
        rw [this] at hc; cases hc

theorem good_fit {w : World} {p : Pkt} {C : List Int} {D : List (ByteArray × Int)} (hF : Lies w p C D) (hG : Good p C D) (hlen : (bodyB p C D).length ≤ 70368744177664) : BodyFit w p C D :=
  let ⟨h1, h2, h3, h4, h5, h6⟩ := good_parts hF hG
  ⟨hF, h1, h2, h3, h4, h5, h6, hlen⟩
theorem subsB_bound (t : Int) : ∀ (D : List (ByteArray × Int)), (∀ s ∈ D, s.1.size ≤ 65535) → (subsB t D).length ≤ 65538 * D.length := by
  intro D
  induction D with
  | nil => intro _; exact Nat.le_refl _
  | cons x D ih =>
    intro h
    have h1 := ih (fun s hs => h s (List.mem_cons_of_mem _ hs))
    have h2 := h x (List.mem_cons_self ..)
    have hcons : subsB t (x :: D) = subB t x ++ subsB t D := rfl
    rw [hcons, List.length_append, subB, List.length_append, textB_length, List.length_cons]
    split <;> simp <;> omega
theorem good_len {w : World} {p : Pkt} {C : List Int} {D : List (ByteArray × Int)} (hF : Lies w p C D) (hG : Good p C D) (hC : C.length ≤ 1000000000) (hD : D.length ≤ 1000000000) (hp : p.ty = 3 → p.payload.size ≤ 1000000000000) : (bodyB p C D).length ≤ 70368744177664 := by
  obtain ⟨h1, h2, h3, h4, h5, h6⟩ := good_parts hF hG
  have hs := subsB_bound p.ty D (fun s hs => (h5 s hs).1)
  unfold bodyB
  split
  · rename_i h
    obtain ⟨_, _, c1, c2, c3, c4, c5⟩ := h1 h
    have e10 : (conH p).length = 10 := rfl
    unfold conB
    rw [List.length_append, List.length_append, List.length_append, List.length_append, e10, textB_length]
    have a1 : (if p.will then textB p.topic ++ textB p.payload else []).length ≤ 131074 := by
      split
      · rename_i hw
        rw [List.length_append, textB_length, textB_length]
        have := c2 hw; have := c3 hw; omega
      · simp
    have a2 : (if p.huser then textB p.user else []).length ≤ 65537 := by
      split
      · rw [textB_length]; omega
      · simp
    have a3 : (if p.hpass then textB p.pass else []).length ≤ 65537 := by
      split
      · rw [textB_length]; omega
      · simp
    omega
  · split
    · simp
    · split
      · rename_i h
        have := (h3 h).1
        have := hp h
        rw [List.length_append, List.length_append, textB_length, nums_length]
        split
        · simp; omega
        · rw [wordB_length]; omega
      · split
        · simp
        · rw [List.length_append, List.length_append, wordB_length]; omega

theorem body_calls (w : World) (p : Pkt) (C : List Int) (D : List (ByteArray × Int)) (hB : BodyFit w p C D) (h : 1 ≤ p.ty ∧ p.ty ≤ 14) : Calls Tryd.prog 75 #[.agg p.cells] w fun e w' => GivesBody w (bodyB p C D) (flagsN p) e w' := by
  rcases (by omega : p.ty = 1 ∨ p.ty = 2 ∨ p.ty = 3 ∨ (4 ≤ p.ty ∧ p.ty ≤ 11) ∨ (p.ty = 12 ∨ p.ty = 13 ∨ p.ty = 14)) with h | h | h | h | h
  · exact body_connect w p C D (hB.con h) h
  · exact body_connack w p C D hB.lies (hB.ack h) h
  · exact body_publish w p C D (hB.pub h) hB.len h
  · exact body_rest w p C D hB.lies (hB.ids h.1 h.2) hB.subs hB.codes hB.len h
  · exact body_none w p C D h

set_option maxRecDepth 100000 in
theorem bytes1_calls (W : World) (hT : Lib.Utf8Tabs 0 1 W) (g : Nat) (p : Pkt) (C : List Int) (D : List (ByteArray × Int)) (hF : Lies W p C D) (h : PkAt W g p) : Calls Tryd.prog 73 #[.pointer (some ⟨g, 0, none⟩)] W fun e w' => Checks W (Good p C D) e w' := by
  have H := Lib.hid h
  have HC := Lib.hid (check_calls W hT p C D hF)
  clear h hT hF
  go_enter Tryd.func73, Tryd.ntmps73
  go_wp2_with (with_reducible refine wp_load_pkt (o := ⟨some 1, _, _, _, _, _⟩) rfl rfl rfl H.out ?_)
  refine HC.out.mono ?_
  rintro e w1 ⟨hb, (⟨hg, rfl⟩ | ⟨hg, rfl⟩)⟩
  · have HG := Lib.hid (And.intro hb hg)
    clear hb hg
    go_wp2_with (fail)
    go_end0
    exact ⟨HG.out.1, .inl ⟨HG.out.2, rfl⟩⟩
  · have HG := Lib.hid (And.intro hb hg)
    clear hb hg
    go_wp2_with (fail)
    exact ⟨rfl, HG.out.1, .inr ⟨HG.out.2, rfl⟩⟩
end Pk
end Go.Proofs.YtonemmdipmohgaaDoor

namespace Go.Proofs.YtonemmdipmohgaaDoor
open Go.RowKit
set_option linter.unusedVariables false
set_option linter.unusedSimpArgs false
namespace Pk
open Utf (nums nums_length nums_bytes IsStr)
open Var (BT info_byte GivesBytes digs digs_length put_calls put_bad)

def bytesB (p : Pkt) (C : List Int) (D : List (ByteArray × Int)) : List Int := [16 * p.ty + flagsN p] ++ (digs 3 (bodyB p C D).length ++ bodyB p C D)
/-- Whether a packet may be. -/
def May (p : Pkt) (C : List Int) (D : List (ByteArray × Int)) : Prop := Good p C D ∧ (bodyB p C D).length ≤ 268435455
def BytesPost (w : World) (p : Pkt) (C : List Int) (D : List (ByteArray × Int)) (e : Ending) (w' : World) : Prop :=
  Below w.heap.size w w' ∧ ((May p C D ∧ ∃ A c, e = .returned (.tuple #[.slice A (bytesB p C D).length c, .int .i64 0]) ∧ OwnInts w' w.heap.size BT .u8 (.slice A (bytesB p C D).length c) (bytesB p C D)) ∨
    (¬ May p C D ∧ e = .returned (.tuple #[.slice none 0 0, .int .i64 1])))

theorem or_high (y n : Int) (h0 : 0 ≤ n) (h1 : n < 16) (hy0 : 0 ≤ y) (hy1 : y < 256) (hym : y % 16 = 0) : bits .or .i64 y n = y + n := by
  have hw : ∀ n : Int, 0 ≤ n → n < 2 ^ 28 → IntKind.i64.wrap n = n := fun n h0 h1 => by rw [IntKind.wrap_i64]; omega
  exact bits_join .i64 28 (by decide) hw 4 y n hy0 hym (by omega) h0 h1 (by omega)
theorem flags_range {w : World} {p : Pkt} {C : List Int} {D : List (ByteArray × Int)} (h : BodyFit w p C D) : 0 ≤ flagsN p ∧ flagsN p < 16 := by
  unfold flagsN
  split
  · rename_i h3
    have := h.pub h3
    have h1 := bitN_range p.dup 8 (by decide)
    have h2 := bitN_range p.retain 1 (by decide)
    omega
  · split <;> omega
theorem own_one (W : World) (base : Nat) (hb : base ≤ W.heap.size) (x : Int) : OwnInts (W.alloc (.cells #[.int .u8 x] BT)) base BT .u8 (.slice (some ⟨W.heap.size, 0, none⟩) 1 1) [x] :=
  own_of_heap (cur := #[.int .u8 x]) (heap_new W _) hb rfl (Nat.le_refl _) (by decide) rfl rfl

set_option maxRecDepth 100000 in
set_option maxHeartbeats 1000000 in
theorem bytes_calls (w : World) (hT : Lib.Utf8Tabs 0 1 w) (p : Pkt) (C : List Int) (D : List (ByteArray × Int)) (hF : Lies w p C D) (hlen : Good p C D → (bodyB p C D).length ≤ 70368744177664) : Calls Tryd.prog 61 #[.agg p.cells] w fun e w' => BytesPost w p C D e w' := by
  have hmf : ∀ (fn : Fn) (first cap : Array Value) (w : World), (Instr.makeFunc fn first cap).run Tryd.prog w = .ok (.func fn first cap) w := fun _ _ _ _ => rfl
  have hA := at_box w p
  obtain ⟨W, hW⟩ : ∃ W, Hid (W = w.alloc (.cells p.cells PT)) := ⟨_, rfl⟩
  obtain ⟨g, hg⟩ : ∃ g, Hid (g = w.heap.size) := ⟨_, rfl⟩
  rw [← hW.out, ← hg.out] at hA
  have HA := Lib.hid hA
  have HLI : Hid (Lies w p C D) := hF
  have HT := Lib.hid hT
  have HLEN := Lib.hid hlen
  clear hA hF hT hlen
  have HTH : Hid (Calls Tryd.prog 72 #[.func (.func 73) #[] #[.pointer (some ⟨g, 0, none⟩)]] W fun e w' => Below W.heap.size W w' ∧ ((Good p C D ∧ e = .returned (.bool true)) ∨ (¬ Good p C D ∧ e = .returned (.bool false)))) := by
    have hx := HA.out.alloc (.cells #[.bool false] 4)
    refine (through_calls 73 #[.pointer (some ⟨g, 0, none⟩)] W (fun _ => False) (fun h => h) (fun _ => Good p C D) (fun _ => ¬ Good p C D) (Go.Proofs.enters_of Tryd.func73 (by kernel_rfl) rfl) ?_).mono ?_
    · refine (bytes1_calls (W.alloc (.cells #[.bool false] 4)) (hx.tabs HT.out) g p C D ((HLI.out.keep HA.out.below).keep (Below.alloc (Below.refl _ _) (Nat.le_refl _) _)) hx.at_).mono ?_
      rintro e w1 ⟨hb, h⟩
      refine ⟨Turn.of_below hb, ?_⟩
      rcases h with ⟨h1, h2⟩ | ⟨h1, h2⟩
      · exact .inl ⟨h2, h1⟩
      · exact .inr ⟨h2, h1⟩
    · rintro e w' ⟨w1, t1, t2, h⟩
      have b1 : Below W.heap.size W w1 := (Below.alloc (Below.refl _ _) (Nat.le_refl _) _).trans (t1.toBelow (by simp) (fun _ _ h => h))
      have b2 : Below W.heap.size w1 w' := t2.toBelow b1.size (fun k hk e => by omega)
      refine ⟨b1.trans b2, ?_⟩
      rcases h with ⟨h1, h2⟩ | ⟨h1, h2⟩
      · exact .inl ⟨h2, h1⟩
      · exact .inr ⟨h2, h1⟩
  go_enter Tryd.func61, Tryd.ntmps61
  go_upto_region 1 with (fail)
  rw [← hW.out, ← hg.out]
  go_wp2_with (fail)
  refine HTH.out.mono ?_
  rintro e w1 ⟨hb, (⟨hG, rfl⟩ | ⟨hG, rfl⟩)⟩
  · have H1 : Hid (At w w1 g p) := HA.out.old hb
    have HFI : Hid (BodyFit w1 p C D) := good_fit (HLI.out.keep H1.out.below) hG (HLEN.out hG)
    obtain ⟨ht1, ht2⟩ : 1 ≤ p.ty ∧ p.ty ≤ 14 := ⟨hG.1, hG.2.1⟩
    obtain ⟨hf0, hf1⟩ := flags_range HFI.out
    have HGo := Lib.hid hG
    obtain ⟨F, hF⟩ : ∃ F, Hid (F = flagsN p) := ⟨_, rfl⟩
    obtain ⟨B, hB⟩ : ∃ B, Hid (B = bodyB p C D) := ⟨_, rfl⟩
    have HBO := Lib.hid (body_calls w1 p C D HFI.out ⟨ht1, ht2⟩)
    rw [← hF.out] at hf0 hf1 HBO
    rw [← hB.out] at HBO
    obtain ⟨G, hGe⟩ : ∃ G, Hid (G = 16 * p.ty + F) := ⟨_, rfl⟩
    have hor : bits .or .i64 (p.ty * 16) F = G := by rw [or_high (p.ty * 16) F hf0 hf1 (by omega) (by omega) (by omega), hGe.out]; omega
    obtain ⟨hG0, hG1⟩ : 0 ≤ G ∧ G ≤ 255 := by rw [hGe.out]; omega
    have hGw := wrap_u8 G hG0 hG1
    have HBL : Hid (B.length ≤ 70368744177664) := by rw [hB.out]; exact HLEN.out HGo.out
    clear hG hb
    go_wp2_with (with_reducible refine wp_load_pkt (o := ⟨some 12, _, _, _, _, _⟩) rfl rfl rfl H1.out.at_ ?_)
    refine HBO.out.mono ?_
    rintro e w2 ⟨A2, c2, rfl, ho2, hb2⟩
    have HO2 : Hid (OwnInts w2 (w.heap.size + 1) BT .u8 (.slice A2 B.length c2) B) := own_mono ho2 H1.out.lt1
    have H2 : Hid (At w w2 g p) := H1.out.old hb2
    have k0 : w2.cell? ⟨g, 0, none⟩ = some (.int .i64 p.ty) := H2.out.at_.cell 0
    clear ho2 hb2
    by_cases hBl : B.length ≤ 268435455
    · have hBl' := Lib.hid hBl
      have HPU := Lib.hid (put_calls w2 (B.length : Int) (by omega) (by omega))
      obtain ⟨N, hN⟩ : ∃ N, Hid (N = digs 3 (B.length : Int)) := ⟨_, rfl⟩
      rw [← hN.out] at HPU
      have hNl : Hid (N.length ≤ 4) := by rw [hN.out]; exact (digs_length 3 _).2
      clear hBl
      go_wp2_with (fail)
      refine HPU.out.mono ?_
      rintro e w3 ⟨A3, c3, rfl, ho3, hb3⟩
      have HO3 : Hid (OwnInts w3 (w.heap.size + 1) BT .u8 (.slice A3 N.length c3) N) := own_mono ho3 H2.out.lt1
      have H3 : Hid (At w w3 g p) := H2.out.old hb3
      have HO2' : Hid (OwnInts w3 (w.heap.size + 1) BT .u8 (.slice A2 B.length c2) B) := HO2.out.turn (Turn.of_below (S := fun _ => False) hb3) (fun _ _ h => h)
      have l0 : w3.cell? ⟨g, 0, none⟩ = some (.int .i64 p.ty) := H3.out.at_.cell 0
      have HRB := own_reads HO2'.out
      have HRN := own_reads HO3.out
      have HRB' := Lib.hid HRB
      have HRN' := Lib.hid HRN
      clear ho3 hb3 k0 HRB HRN
      go_wp2_with (at_builtin; go_must (refine wp_append_row (W := w3.alloc (.cells #[.int .u8 G] BT)) (w.heap.size + 1) rfl _ _ 82 5 .u8 1 rfl Tryd.underlying82 info_byte (.slice (some ⟨w3.heap.size, 0, none⟩) 1 1) [G] N A3 c3 rfl rfl HRN'.out.2.2.2 (HRN'.out.2.2.1.keep (Below.alloc (Below.refl _ _) (Nat.le_refl _) _)) (own_one w3 _ H3.out.lt1 G) (H3.out.alloc _).lt1 (by have := hNl.out; simp only [List.length_singleton]; exact ⟨by omega, by omega⟩) ?_))
      intro A4 c4 w4 hown4 ht4
      have HB4 : Hid (Below w3.heap.size w3 w4) := ((Below.alloc (Below.refl _ _) (Nat.le_refl _) _).trans (ht4.toBelow (by simp) (fun k hk e => by injection e with e; simp at e; omega)))
      have H4 : Hid (At w w4 g p) := H3.out.old HB4.out
      obtain ⟨L4, hL4⟩ : ∃ L4, Hid (L4 = [G] ++ N) := ⟨_, rfl⟩
      have HO4 : Hid (OwnInts w4 (w.heap.size + 1) BT .u8 (.slice A4 (N.length + 1) c4) L4) := by
        rw [hL4.out, Hid]; simpa using hown4
      have hL4l : Hid (L4.length ≤ 5) := by have := hNl.out; rw [hL4.out, Hid]; simp; omega
      clear hown4 ht4
      go_wp2_with (at_builtin; go_must (refine wp_append_row (W := w4) (w.heap.size + 1) rfl _ _ 82 5 .u8 1 rfl Tryd.underlying82 info_byte (.slice A4 (N.length + 1) c4) L4 B A2 c2 rfl rfl HRB'.out.2.2.2 (HRB'.out.2.2.1.keep HB4.out) HO4.out H4.out.lt1 (by have := hL4l.out; have := HBL.out; exact ⟨by omega, by omega⟩) ?_))
      intro A5 c5 w5 hown5 ht5
      have H5 : Hid (At w w5 g p) := H4.out.grow ht5 (fun j hj => (own_block_ge HO4.out j hj).1)
      have hfin : Hid (L4 ++ B = bytesB p C D) := by rw [hL4.out, hGe.out, hF.out, hN.out, hB.out, bytesB, List.append_assoc, Hid]
      have HO5 : Hid (OwnInts w5 (w.heap.size + 1) BT .u8 (.slice A5 (L4.length + B.length) c5) (L4 ++ B)) := by rw [Hid]; simpa using hown5
      clear hown5 ht5
      go_wp2_with (fail)
      go_ret2
      have hMay : May p C D := ⟨HGo.out, by rw [← hB.out]; exact hBl'.out⟩
      have hown := HO5.out
      rw [hfin.out] at hown
      have hl : L4.length + B.length = (bytesB p C D).length := by rw [← hfin.out, List.length_append]
      rw [hl] at hown
      refine ⟨H5.out.below, .inl ⟨hMay, A5, c5, ?_, own_mono hown (by omega)⟩⟩
      rw [← hl]
      first | rfl | (simp; rfl)
    · have HNB := Lib.hid hBl
      have HPU := Lib.hid (put_bad w2 (B.length : Int) (.inr (by omega)))
      clear hBl
      go_wp2_with (fail)
      refine HPU.out.mono ?_
      rintro e w3 ⟨rfl, rfl⟩
      go_wp2_with (fail)
      go_ret2
      exact ⟨H2.out.below, .inr ⟨fun h => HNB.out (by rw [hB.out]; exact h.2), rfl⟩⟩
  · have H1 : Hid (At w w1 g p) := HA.out.old hb
    have HG := Lib.hid hG
    clear hb hG
    go_wp2_with (fail)
    go_ret2
    exact ⟨H1.out.below, .inr ⟨fun h => HG.out h.1, rfl⟩⟩

set_option maxRecDepth 100000 in
theorem pcheck_calls (w : World) (hT : Lib.Utf8Tabs 0 1 w) (p : Pkt) (C : List Int) (D : List (ByteArray × Int)) (hF : Lies w p C D) (hlen : Good p C D → (bodyB p C D).length ≤ 70368744177664) : Calls Tryd.prog 35 #[.agg p.cells] w fun e w' => Below w.heap.size w w' ∧ ((May p C D ∧ e = .returned (.int .i64 0)) ∨ (¬ May p C D ∧ e = .returned (.int .i64 1))) := by
  have hA := at_box w p
  obtain ⟨W, hW⟩ : ∃ W, Hid (W = w.alloc (.cells p.cells PT)) := ⟨_, rfl⟩
  obtain ⟨g, hg⟩ : ∃ g, Hid (g = w.heap.size) := ⟨_, rfl⟩
  rw [← hW.out, ← hg.out] at hA
  have HA := Lib.hid hA
  have HB := Lib.hid (bytes_calls W (hA.tabs hT) p C D (hF.keep hA.below) hlen)
  clear hA hF hT hlen
  go_enter Tryd.func35, Tryd.ntmps35
  go_upto_region 1 with (fail)
  rw [← hW.out, ← hg.out]
  go_wp2_with (with_reducible refine wp_load_pkt (o := ⟨some 6, _, _, _, _, _⟩) rfl rfl rfl HA.out.at_ ?_)
  refine HB.out.mono ?_
  rintro e w1 ⟨hb, (⟨hm, A, c, rfl, ho⟩ | ⟨hm, rfl⟩)⟩
  · have H1 := Lib.hid (And.intro (HA.out.old hb).below hm)
    clear hb hm ho
    go_wp2_with (fail)
    go_ret
    exact ⟨H1.out.1, .inl ⟨H1.out.2, rfl⟩⟩
  · have H1 := Lib.hid (And.intro (HA.out.old hb).below hm)
    clear hb hm
    go_wp2_with (fail)
    go_ret
    exact ⟨H1.out.1, .inr ⟨H1.out.2, rfl⟩⟩
end Pk
end Go.Proofs.YtonemmdipmohgaaDoor

/- packet.connect. -/
import Derived.Test.YteigakkghkjakaaDoorPkS
import Derived.Deep.CutRange
import Derived.Deep.DeepCutAuto
import Derived.Deep.RegionLaw
namespace Go.Proofs.YteigakkghkjakaaDoor
open Go.RowKit
set_option linter.unusedVariables false
set_option linter.unusedSimpArgs false
namespace Pk
open Utf (nums nums_length nums_bytes)
open Var (BT info_byte GivesBytes)

/-- 'append(v, src...)' as a step of a region that draws its order. -/
theorem step_append_row {P : Program} {ops : Array Oper} {o : Oper} {a : Act} {K : Act → World → Prop} {Q : Exit → Act → World → Prop} {E : Prop} {W : World} (base : Nat) (hgd : o.guard = none) (s x : Operand) (t e : TypeId) (k : IntKind) (bytes : Nat)
    (ho : o.op = .call { callee := .builtin .append, args := #[s, x], argTypes := #[t, t] })
    (ht : P.underlying t = some (.slice e)) (hinfo : (P.info? e).map (fun i => (i.zero, i.size, i.bytes)) = some (some (.int k 0), 1, bytes))
    (v : Value) (L M : List Int) (ad : Addr) (c : Nat) (hs : a.eval s = v) (hx : a.eval x = .slice (some ad) M.length c) (hR : Reads k W (some ad) M)
    (HO : OwnInts W base e k v L) (hbase : base ≤ W.heap.size) (hn : L.length + M.length ≤ 140737488355328 ∧ (L.length + M.length) * bytes ≤ 140737488355328)
    (hK : ∀ A1 c1 w1, OwnInts w1 base e k (.slice A1 (L ++ M).length c1) (L ++ M) → Turn (fun j => v.ownBlock = some j) W w1 → K (a.put o.dst (.slice A1 (L ++ M).length c1)) w1) :
    if Region.wanted o (yielded ops a.tmps) = true then Oper.wp P o a W K Q else E := by
  have hw : Region.wanted o (yielded ops a.tmps) = true := by simp [Region.wanted, hgd]
  rw [if_pos hw]
  obtain ⟨i0, hi, hzz⟩ := Option.map_eq_some_iff.1 hinfo
  simp only [Prod.mk.injEq] at hzz
  obtain ⟨hz0, hz1, hz2⟩ := hzz
  refine wp_append_own W s x t ho base e i0 (.int k 0) 1 bytes ht hi hz0 hz1 hz2 rfl (by omega) v L.length _ hs HO ad M.length c (M.map (Value.int k)) hx (by simp)
      (fun j u hu => ?_) (by simp [Value.oneCell']) (by simp only [maxLen]; omega) hn.2 hbase ?_
  · have hj : j < M.length := by simpa using (List.getElem?_eq_some_iff.1 hu).1
    obtain ⟨y, hy, hc⟩ := hR (by omega)
    cases hy
    rw [hc j hj, lat_get _ _ hj]
    simp [List.getElem?_eq_getElem hj] at hu
    rw [← hu]
  · intro v' w' h2 h3 _
    have h4 : OwnInts w' base e k v' (L ++ M) := by simpa [OwnInts] using h2
    obtain ⟨A1, c1, hv, _⟩ := h4.form
    subst hv
    exact hK A1 c1 w' h4 (Turn.of_grownBy h3 (fun k e => e))

theorem reads_str_lit {e : TypeId} (w : World) (ss : List ByteArray) (cur : Array Value) (h : cur.toList = ss.map Value.string) : ReadsStr (w.alloc (.cells cur e)) (some ⟨w.heap.size, 0, none⟩) ss := by
  intro h0
  refine ⟨_, rfl, fun i hi => ?_⟩
  rw [add_plain0, cell_heap (heap_new _ _)]
  have : cur[i]? = cur.toList[i]? := by simp
  rw [this, h]
  simp [List.getElem?_eq_getElem hi]
theorem reads_none (w : World) : Reads .u8 w none [] := fun h => absurd h (by simp)

abbrev mqtt : ByteArray := ⟨#[77, 81, 84, 84]⟩
def conF (p : Pkt) : Int := bits .or .i64 (bits .or .i64 (bits .or .i64 (bits .or .i64 (bits .or .i64 (bitN p.clean 2) (bitN p.will 4)) (p.qos * 8)) (bitN p.retain 32)) (bitN p.hpass 64)) (bitN p.huser 128)
theorem conF_eq (p : Pkt) (hq : 0 ≤ p.qos ∧ p.qos ≤ 2) : conF p = bitN p.clean 2 + bitN p.will 4 + 8 * p.qos + bitN p.retain 32 + bitN p.hpass 64 + bitN p.huser 128 := by
  unfold conF
  have h : p.qos = 0 ∨ p.qos = 1 ∨ p.qos = 2 := by omega
  rcases h with h | h | h <;> rw [h] <;> cases p.clean <;> cases p.will <;> cases p.retain <;> cases p.hpass <;> cases p.huser <;> rfl
theorem conF_range (p : Pkt) (hq : 0 ≤ p.qos ∧ p.qos ≤ 2) : 0 ≤ conF p ∧ conF p ≤ 255 := by
  rw [conF_eq p hq]
  unfold bitN
  cases p.clean <;> cases p.will <;> cases p.retain <;> cases p.hpass <;> cases p.huser <;> simp <;> omega
def conH (p : Pkt) : List Int := textB mqtt ++ [4, conF p] ++ wordB p.alive

theorem reads_drew {k : IntKind} {W : World} {A : Option Addr} {L : List Int} (h : Reads k W A L) : Reads k W.drew A L := h
theorem ReadsStr.drew {W : World} {A : Option Addr} {L : List ByteArray} (h : ReadsStr W A L) : ReadsStr W.drew A L := h
theorem reads_lit2 {k : IntKind} {e : TypeId} (X : World) (o : Obj) (L : List Int) (cur : Array Value) (h : cur.toList = L.map (Value.int k)) : Reads k ((X.alloc o).alloc (.cells cur e)).drew (some ⟨X.heap.size + 1, 0, none⟩) L := by
  have h := reads_drew (reads_lit (e := e) (X.alloc o) L cur h)
  have e : (X.alloc o).heap.size = X.heap.size + 1 := by simp
  rw [e] at h; exact h
theorem reads_str_lit2 {e : TypeId} (X : World) (o : Obj) (L : List ByteArray) (cur : Array Value) (h : cur.toList = L.map Value.string) : ReadsStr ((X.alloc o).alloc (.cells cur e)).drew (some ⟨X.heap.size + 1, 0, none⟩) L := by
  have h := (reads_str_lit (e := e) (X.alloc o) L cur h).drew
  have e : (X.alloc o).heap.size = X.heap.size + 1 := by simp
  rw [e] at h; exact h
theorem At.drew {w W : World} {g : Nat} {p : Pkt} (h : At w W g p) : At w W.drew g p := h.turn (Turn.drew (Turn.refl _ _)) (by unfold PkAt; exact h.at_)
theorem At.drewN {w W : World} {g : Nat} {p : Pkt} (h : At w W g p) (n : Nat) : At w (W.drewN n) g p := h.turn (Turn.drewN (Turn.refl _ _) n) (by unfold PkAt; exact h.at_)
theorem At.lt1 {w W : World} {g : Nat} {p : Pkt} (h : At w W g p) : w.heap.size + 1 ≤ W.heap.size := by have := h.at_.lt; have := h.eq; omega
theorem At.grow {w W W' : World} {g : Nat} {p : Pkt} {S : Nat → Prop} (h : At w W g p) (t : Turn S W W') (hS : ∀ k, S k → w.heap.size + 1 ≤ k) : At w W' g p :=
  ⟨h.eq, Nat.le_trans h.lt t.size, Turn.belowTrans h.below t h.lt (fun k hk hx => by have := hS k hx; omega), h.at_.keep t (fun hx => by have := hS g hx; have := h.eq; omega)⟩
theorem wrap_u8 (F : Int) (h0 : 0 ≤ F) (h1 : F ≤ 255) : IntKind.u8.wrap F = F := by
  have : IntKind.u8.wrap F = F % 256 := by simp [IntKind.wrap, IntKind.bits, IntKind.signed]
  omega

theorem oi_mono {w : World} {base base' : Nat} {e : TypeId} {k : IntKind} {v : Value} {L L' : List Int} (h : OwnInts w base e k v L) (hb : base' ≤ base) (hL : L = L') : OwnInts w base' e k v L' := by
  subst hL
  exact own_mono h hb
theorem text_list (w W : World) (A : Option Addr) (n c : Nat) (L : List Int) (g : Nat) (p : Pkt) (ss : List ByteArray) (cur : Array Value) (R : Ending → World → Prop) (hO : OwnInts W (w.heap.size + 1) BT .u8 (.slice A n c) L) (hA : At w W g p)
    (h0 : 0 < ss.length) (hl : (ss.length : Int) ≤ 1000) (hcur : cur.toList = ss.map Value.string) (hs : ∀ s ∈ ss, s.size ≤ 65535) (hL : L.length + (flatT ss).length ≤ 140737488355328) (hK : ∀ A1 n1 c1 w1, Hid (OwnInts w1 (w.heap.size + 1) BT .u8 (.slice A1 n1 c1) (L ++ flatT ss)) → Hid (At w w1 g p) → R (.returned (.slice A1 n1 c1)) w1) :
    Calls Tryd.prog 72 #[.slice A n c, .slice (some ⟨W.heap.size, 0, none⟩) ss.length ss.length] (W.alloc (.cells cur 9)) R := by
  have hA1 := hA.alloc (.cells cur 9)
  have ho := own_reads (own_alloc hO (.cells cur 9))
  obtain ⟨rfl, _, hr, _⟩ := ho
  refine (text_calls _ A L c (some ⟨W.heap.size, 0, none⟩) ss ss.length hr (reads_str_lit W ss cur hcur) h0 hl hs hL).mono ?_
  rintro e w1 ⟨A1, c1, rfl, ho1, hb⟩
  exact hK A1 _ c1 w1 (own_mono ho1 hA1.lt1) (hA1.old hb)
theorem text_one (w W : World) (A : Option Addr) (n c : Nat) (L : List Int) (g : Nat) (p : Pkt) (s : ByteArray) (R : Ending → World → Prop) (hO : OwnInts W (w.heap.size + 1) BT .u8 (.slice A n c) L) (hA : At w W g p) (hs : s.size ≤ 65535) (hL : L.length ≤ 140737488200000) (hK : ∀ A1 n1 c1 w1, Hid (OwnInts w1 (w.heap.size + 1) BT .u8 (.slice A1 n1 c1) (L ++ textB s)) → Hid (At w w1 g p) → R (.returned (.slice A1 n1 c1)) w1) :
    Calls Tryd.prog 72 #[.slice A n c, .slice (some ⟨W.heap.size, 0, none⟩) 1 1] (W.alloc (.cells #[.string s] 9)) R := by
  have hf : flatT [s] = textB s := by simp [flatT]
  refine text_list w W A n c L g p [s] #[.string s] R hO hA (by simp) (by simp) rfl (fun x hx => by simp at hx; subst hx; exact hs) (by rw [hf, textB_length]; omega) ?_
  rw [hf]; exact hK
theorem text_two (w W : World) (A : Option Addr) (n c : Nat) (L : List Int) (g : Nat) (p : Pkt) (s t : ByteArray) (R : Ending → World → Prop) (hO : OwnInts W (w.heap.size + 1) BT .u8 (.slice A n c) L) (hA : At w W g p) (hs : s.size ≤ 65535) (ht : t.size ≤ 65535) (hL : L.length ≤ 140737488200000) (hK : ∀ A1 n1 c1 w1, Hid (OwnInts w1 (w.heap.size + 1) BT .u8 (.slice A1 n1 c1) (L ++ (textB s ++ textB t))) → Hid (At w w1 g p) → R (.returned (.slice A1 n1 c1)) w1) :
    Calls Tryd.prog 72 #[.slice A n c, .slice (some ⟨W.heap.size, 0, none⟩) 2 2] (W.alloc (.cells #[.string s, .string t] 9)) R := by
  have hf : flatT [s, t] = textB s ++ textB t := by simp [flatT]
  refine text_list w W A n c L g p [s, t] #[.string s, .string t] R hO hA (by simp) (by simp) rfl (fun x hx => by simp at hx; rcases hx with rfl | rfl <;> assumption) (by rw [hf, List.length_append, textB_length, textB_length]; omega) ?_
  rw [hf]; exact hK

def conB (p : Pkt) : List Int := conH p ++ (textB p.client ++ ((if p.will then textB p.topic ++ textB p.payload else []) ++ ((if p.huser then textB p.user else []) ++ (if p.hpass then textB p.pass else []))))
structure ConFit (p : Pkt) : Prop where
  qos : 0 ≤ p.qos ∧ p.qos ≤ 2
  alive : 0 ≤ p.alive ∧ p.alive ≤ 65535
  client : p.client.size ≤ 65535
  topic : p.will = true → p.topic.size ≤ 65535
  payload : p.will = true → p.payload.size ≤ 65535
  user : p.user.size ≤ 65535
  pass : p.pass.size ≤ 65535

set_option maxRecDepth 100000 in
set_option maxHeartbeats 1000000 in
theorem connect_calls (w : World) (p : Pkt) (hFit : ConFit p) : Calls Tryd.prog 70 #[.agg p.cells] w fun e w' => GivesBytes w (conB p) e w' := by
  have hq := hFit.qos
  have ha := hFit.alive
  have HFi := Lib.hid hFit
  clear hFit
  have hA := at_box w p
  obtain ⟨W, hW⟩ : ∃ W, Hid (W = w.alloc (.cells p.cells PT)) := ⟨_, rfl⟩
  obtain ⟨g, hg⟩ : ∃ g, Hid (g = w.heap.size) := ⟨_, rfl⟩
  rw [← hW.out, ← hg.out] at hA
  have k8 : W.cell? ⟨g, 8, none⟩ = some (.bool p.clean) := hA.at_.cell 8
  have k10 : W.cell? ⟨g, 10, none⟩ = some (.bool p.will) := hA.at_.cell 10
  have k5 : W.cell? ⟨g, 5, none⟩ = some (.int .i64 p.qos) := hA.at_.cell 5
  have k6 : W.cell? ⟨g, 6, none⟩ = some (.bool p.retain) := hA.at_.cell 6
  have k11 : W.cell? ⟨g, 11, none⟩ = some (.bool p.huser) := hA.at_.cell 11
  have k12 : W.cell? ⟨g, 12, none⟩ = some (.bool p.hpass) := hA.at_.cell 12
  have HA := Lib.hid hA
  clear hA
  have HAL := Lib.hid ha
  clear ha
  obtain ⟨F, hF⟩ : ∃ F, Hid (F = conF p) := ⟨_, rfl⟩
  have hFr := conF_range p hq
  rw [← hF.out] at hFr
  obtain ⟨hF0, hF1⟩ := hFr
  have hFw := wrap_u8 F hF0 hF1
  obtain ⟨M0, hM0⟩ : ∃ M0, Hid (M0 = textB mqtt) := ⟨_, rfl⟩
  have hl0 : Hid (M0.length = 6) := by rw [hM0.out]; rfl
  go_enter Tryd.func70, Tryd.ntmps70
  go_upto_region 1 with (fail)
  rw [← hW.out, ← hg.out]
  go_cut [3] (fun v wx => v = .int .i64 F ∧ ∃ n, wx = W.drewN n)
  case first =>
    go_quiet ((go_at_call 71; exact quiet_left (bit_calls _ _ _)))
    go_wp2_with (fail)
    go_meet
    exact ⟨by rw [hF.out]; rfl, _, rfl⟩
  case rest =>
    obtain ⟨rfl, n, rfl⟩ := hcut
    clear k8 k10 k5 k6 k11 k12 hq
    go_upto_region 2 with (fail)
    go_cut [4] (fun v wx => ∃ A c n, v = .slice A n c ∧ Hid (n = 10) ∧ Hid (OwnInts wx (w.heap.size + 1) BT .u8 (.slice A n c) (conH p)) ∧ Hid (At w wx g p))
    case first =>
      have HT : ∀ (Wx : World) (blk : Nat) (R : Ending → World → Prop), At w Wx g p → ReadsStr Wx (some ⟨blk, 0, none⟩) [mqtt] → (∀ A5 c5 w5, Hid (OwnInts w5 (w.heap.size + 1) BT .u8 (.slice A5 M0.length c5) M0) → Hid (Below Wx.heap.size Wx w5) → Hid (At w w5 g p) → w5.cell? ⟨g, 9, none⟩ = some (.int .i64 p.alive) → R (.returned (.slice A5 M0.length c5)) w5) → Calls Tryd.prog 72 #[.slice none 0 0, .slice (some ⟨blk, 0, none⟩) 1 1] Wx R := by
        intro Wx blk R hAx hS hK
        refine (text_calls Wx none [] 0 (some ⟨blk, 0, none⟩) [mqtt] 1 (reads_none _) hS (by decide) (by decide) (fun s hs => by simp at hs; subst hs; decide) (by decide)).mono ?_
        rintro e w5 ⟨A5, c5, rfl, ho, hb⟩
        have hM : [] ++ flatT [mqtt] = M0 := by rw [hM0.out]; simp [flatT]
        rw [hM] at ho ⊢
        have hA5 := hAx.old hb
        exact hK A5 c5 w5 (own_mono ho hAx.lt1) hb hA5 (hA5.at_.cell 9)
      obtain ⟨X, hX⟩ : ∃ X, Hid (X = W.drewN n) := ⟨_, rfl⟩
      have HA0 : Hid (At w X g p) := by rw [hX.out]; exact HA.out.drewN n
      have k9 : X.drew.cell? ⟨g, 9, none⟩ = some (.int .i64 p.alive) := HA0.out.at_.cell 9
      have k9' : X.cell? ⟨g, 9, none⟩ = some (.int .i64 p.alive) := k9
      have k9a : ∀ o, (X.alloc o).cell? ⟨g, 9, none⟩ = some (.int .i64 p.alive) := fun o => (HA0.out.alloc o).at_.cell 9
      have k9b : ∀ o o', ((X.alloc o).alloc o').cell? ⟨g, 9, none⟩ = some (.int .i64 p.alive) := fun o o' => ((HA0.out.alloc o).alloc o').at_.cell 9
      have k9c : ∀ o, (X.alloc o).drew.cell? ⟨g, 9, none⟩ = some (.int .i64 p.alive) := fun o => (HA0.out.alloc o).at_.cell 9
      have k9d : ∀ o o', ((X.alloc o).alloc o').drew.cell? ⟨g, 9, none⟩ = some (.int .i64 p.alive) := fun o o' => ((HA0.out.alloc o).alloc o').at_.cell 9
      rw [← hX.out]
      have HW : ∀ (w6 : World) (A6 : Option Addr) (c6 : Nat) (R : Ending → World → Prop), Hid (OwnInts w6 (w.heap.size + 1) BT .u8 (.slice A6 (M0 ++ [4, F]).length c6) (M0 ++ [4, F])) → Hid (At w w6 g p) → (∀ A7 c7 w7, Hid (OwnInts w7 (w.heap.size + 1) BT .u8 (.slice A7 10 c7) (conH p)) → Hid (At w w7 g p) → R (.returned (.slice A7 10 c7)) w7) → Calls Tryd.prog 73 #[.slice A6 (M0.length + 2) c6, .int .i64 p.alive] w6 R := by
        intro w6 A6 c6 R HO HAx hK
        have e : M0.length + 2 = (M0 ++ [4, F]).length := by simp
        rw [e]
        refine (word_calls w6 A6 (M0 ++ [4, F]) c6 (own_reads HO.out).2.2.1 (by rw [← e, hl0.out]; decide) p.alive HAL.out.1 HAL.out.2).mono ?_
        rintro e w7 ⟨A7, c7, rfl, ho, hb⟩
        have hc : M0 ++ [4, F] ++ wordB p.alive = conH p := by rw [hM0.out, hF.out]; rfl
        have hl : (conH p).length = 10 := rfl
        rw [hc, hl] at ho
        rw [hc, hl]
        exact hK A7 c7 w7 (own_mono ho HAx.out.lt1) (HAx.out.old hb)
      have HT' := Lib.hid HT
      have HW' := Lib.hid HW
      clear HW
      clear HT
      have hlen : Hid (M0.length + 2 ≤ 140737488355328 ∧ (M0.length + 2) * 1 ≤ 140737488355328) := by rw [Hid, hl0.out]; decide
      go_region_law (first
        | (refine step_append_row (w.heap.size + 1) rfl _ _ 22 5 .u8 1 rfl Tryd.underlying22 info_byte _ M0 [4, F] _ 2 rfl rfl
            (by first
              | exact reads_lit _ [4, F] _ rfl
              | exact (reads_drew ((reads_lit X [4, F] _ rfl).keep (Below.alloc (Below.refl _ _) (Nat.le_refl _) _))).keep HB5.out
              | exact (reads_lit2 X _ [4, F] _ rfl).keep HB5.out)
            (by first | exact HO5.out | exact own_alloc HO5.out _) (by first | exact HA5.out.lt1 | exact (HA5.out.alloc _).lt1) hlen.out ?_
           intro A6 c6 w6 hown6 ht6
           have HA6 : Hid (At w w6 g p) := by first | exact HA5.out.grow ht6 (fun k hk => (own_block_ge HO5.out k hk).1) | exact (HA5.out.alloc _).grow ht6 (fun k hk => (own_block_ge HO5.out k hk).1)
           have k96 : w6.cell? ⟨g, 9, none⟩ = some (.int .i64 p.alive) := HA6.out.at_.cell 9
           have HO6 : Hid (OwnInts w6 (w.heap.size + 1) BT .u8 (.slice A6 (M0 ++ [4, F]).length c6) (M0 ++ [4, F])) := hown6
           clear hown6 ht6)
        | (go_simp; go_at_call 72
           refine HT'.out _ _ _ (by first | exact (HA0.out.alloc _).drew | exact ((HA0.out.alloc _).alloc _).drew) (by first
              | exact (reads_str_lit X [mqtt] _ rfl).drew
              | exact ((reads_str_lit X [mqtt] _ rfl).keep (Below.alloc (Below.refl _ _) (Nat.le_refl _) _)).drew
              | exact reads_str_lit2 X _ [mqtt] _ rfl) ?_
           intro A5 c5 w5 HO5 HB5 HA5 k95
           have k95a : ∀ o, (w5.alloc o).cell? ⟨g, 9, none⟩ = some (.int .i64 p.alive) := fun o => (HA5.out.alloc o).at_.cell 9)
        | (go_simp; go_at_call 73; refine HW'.out _ _ _ _ HO6 HA6 ?_; intro A7 c7 w7 HO7 HA7))
      all_goals (go_wp2_with (fail); go_meet; exact ⟨A7, c7, 10, rfl, rfl, HO7, HA7⟩)
    case rest =>
      obtain ⟨A, c, n, rfl, hn, HO, HA1⟩ := hcut
      have h10 : Hid ((conH p).length = 10) := rfl
      have k7 : wc.cell? ⟨g, 7, none⟩ = some (.string p.client) := HA1.out.at_.cell 7
      go_wp2_with (fail)
      refine text_one w _ A n c _ g p p.client _ HO.out HA1.out HFi.out.client (by rw [h10.out]; decide) ?_
      intro A1 n1 c1 w1 HO1 HB1
      have HL1 : Hid ((conH p ++ textB p.client).length ≤ 80000) := by rw [Hid, List.length_append, textB_length, h10.out]; have := HFi.out.client; omega
      have m10 : w1.cell? ⟨g, 10, none⟩ = some (.bool p.will) := HB1.out.at_.cell 10
      clear k7 HO HA1 h10 hn
      have HU : Hid (∀ (W2 : World) (A2 : Option Addr) (n2 c2 : Nat) (L : List Int), Hid (OwnInts W2 (w.heap.size + 1) BT .u8 (.slice A2 n2 c2) L) → Hid (At w W2 g p) → L.length ≤ 400000 → True) := fun _ _ _ _ _ _ _ _ => trivial
      clear HU
      cases hw : p.will with
      | true =>
        rw [hw] at m10
        have m3 : w1.cell? ⟨g, 3, none⟩ = some (.string p.topic) := HB1.out.at_.cell 3
        have m4 : w1.cell? ⟨g, 4, none⟩ = some (.string p.payload) := HB1.out.at_.cell 4
        go_wp2_with (fail)
        refine text_two w _ A1 n1 c1 _ g p p.topic p.payload _ HO1.out HB1.out (HFi.out.topic hw) (HFi.out.payload hw) (by have := HL1.out; omega) ?_
        intro A2 n2 c2 w2 HO2 HB2
        have HL2 : Hid ((conH p ++ textB p.client ++ (textB p.topic ++ textB p.payload)).length ≤ 300000) := by
          have h2 : (textB p.topic ++ textB p.payload).length = (2 + p.topic.size) + (2 + p.payload.size) := by rw [List.length_append, textB_length, textB_length]
          rw [Hid, List.length_append, h2]; have := HL1.out; have := HFi.out.topic hw; have := HFi.out.payload hw; omega
        have hE : Hid (conH p ++ textB p.client ++ (textB p.topic ++ textB p.payload) ++ ((if p.huser then textB p.user else []) ++ (if p.hpass then textB p.pass else [])) = conB p) := by
          simp [Hid, conB, hw, List.append_assoc]
        clear m3 m4 m10 HO1 HB1 HL1
        have q11 : w2.cell? ⟨g, 11, none⟩ = some (.bool p.huser) := HB2.out.at_.cell 11
        cases hu : p.huser with
        | true =>
          rw [hu] at q11
          have q13 : w2.cell? ⟨g, 13, none⟩ = some (.string p.user) := HB2.out.at_.cell 13
          go_wp2_with (fail)
          refine text_one w _ A2 n2 c2 _ g p p.user _ HO2.out HB2.out HFi.out.user (by have := HL2.out; omega) ?_
          intro A3 n3 c3 w3 HO3 HB3
          have HL3 : Hid ((conH p ++ textB p.client ++ (textB p.topic ++ textB p.payload) ++ textB p.user).length ≤ 400000) := by rw [Hid, List.length_append, textB_length]; have := HL2.out; have := HFi.out.user; omega
          have q12 : w3.cell? ⟨g, 12, none⟩ = some (.bool p.hpass) := HB3.out.at_.cell 12
          cases hp : p.hpass with
          | true =>
            rw [hp] at q12
            have q14 : w3.cell? ⟨g, 14, none⟩ = some (.string p.pass) := HB3.out.at_.cell 14
            go_wp2_with (fail)
            refine text_one w _ A3 n3 c3 _ g p p.pass _ HO3.out HB3.out HFi.out.pass (by have := HL3.out; omega) ?_
            intro A4 n4 c4 w4 HO4 HB4
            go_wp2_with (fail)
            go_ret
            rw [← hE.out]
            exact gives_one (A := A4) (n := n4) (c := c4) (oi_mono HO4.out (by omega) (by simp [hu, hp])) (.inl rfl) HB4.out.below
          | false =>
            rw [hp] at q12
            go_wp2_with (fail)
            go_ret
            rw [← hE.out]
            exact gives_one (A := A3) (n := n3) (c := c3) (oi_mono HO3.out (by omega) (by simp [hu, hp])) (.inl rfl) HB3.out.below
        | false =>
          rw [hu] at q11
          have q12 : w2.cell? ⟨g, 12, none⟩ = some (.bool p.hpass) := HB2.out.at_.cell 12
          cases hp : p.hpass with
          | true =>
            rw [hp] at q12
            have q14 : w2.cell? ⟨g, 14, none⟩ = some (.string p.pass) := HB2.out.at_.cell 14
            go_wp2_with (fail)
            refine text_one w _ A2 n2 c2 _ g p p.pass _ HO2.out HB2.out HFi.out.pass (by have := HL2.out; omega) ?_
            intro A4 n4 c4 w4 HO4 HB4
            go_wp2_with (fail)
            go_ret
            rw [← hE.out]
            exact gives_one (A := A4) (n := n4) (c := c4) (oi_mono HO4.out (by omega) (by simp [hu, hp])) (.inl rfl) HB4.out.below
          | false =>
            rw [hp] at q12
            go_wp2_with (fail)
            go_ret
            rw [← hE.out]
            exact gives_one (A := A2) (n := n2) (c := c2) (oi_mono HO2.out (by omega) (by simp [hu, hp])) (.inl rfl) HB2.out.below
      | false =>
        rw [hw] at m10
        have HO2 := HO1
        have HB2 := HB1
        have HL2 : Hid ((conH p ++ textB p.client).length ≤ 300000) := by have := HL1.out; rw [Hid]; omega
        have hE : Hid (conH p ++ textB p.client ++ ((if p.huser then textB p.user else []) ++ (if p.hpass then textB p.pass else [])) = conB p) := by
          simp [Hid, conB, hw, List.append_assoc]
        have q11 : w1.cell? ⟨g, 11, none⟩ = some (.bool p.huser) := HB2.out.at_.cell 11
        cases hu : p.huser with
        | true =>
          rw [hu] at q11
          have q13 : w1.cell? ⟨g, 13, none⟩ = some (.string p.user) := HB2.out.at_.cell 13
          go_wp2_with (fail)
          refine text_one w _ A1 n1 c1 _ g p p.user _ HO2.out HB2.out HFi.out.user (by have := HL2.out; omega) ?_
          intro A3 n3 c3 w3 HO3 HB3
          have HL3 : Hid ((conH p ++ textB p.client ++ textB p.user).length ≤ 400000) := by rw [Hid, List.length_append, textB_length]; have := HL2.out; have := HFi.out.user; omega
          have q12 : w3.cell? ⟨g, 12, none⟩ = some (.bool p.hpass) := HB3.out.at_.cell 12
          cases hp : p.hpass with
          | true =>
            rw [hp] at q12
            have q14 : w3.cell? ⟨g, 14, none⟩ = some (.string p.pass) := HB3.out.at_.cell 14
            go_wp2_with (fail)
            refine text_one w _ A3 n3 c3 _ g p p.pass _ HO3.out HB3.out HFi.out.pass (by have := HL3.out; omega) ?_
            intro A4 n4 c4 w4 HO4 HB4
            go_wp2_with (fail)
            go_ret
            rw [← hE.out]
            exact gives_one (A := A4) (n := n4) (c := c4) (oi_mono HO4.out (by omega) (by simp [hu, hp])) (.inl rfl) HB4.out.below
          | false =>
            rw [hp] at q12
            go_wp2_with (fail)
            go_ret
            rw [← hE.out]
            exact gives_one (A := A3) (n := n3) (c := c3) (oi_mono HO3.out (by omega) (by simp [hu, hp])) (.inl rfl) HB3.out.below
        | false =>
          rw [hu] at q11
          have q12 : w1.cell? ⟨g, 12, none⟩ = some (.bool p.hpass) := HB2.out.at_.cell 12
          cases hp : p.hpass with
          | true =>
            rw [hp] at q12
            have q14 : w1.cell? ⟨g, 14, none⟩ = some (.string p.pass) := HB2.out.at_.cell 14
            go_wp2_with (fail)
            refine text_one w _ A1 n1 c1 _ g p p.pass _ HO2.out HB2.out HFi.out.pass (by have := HL2.out; omega) ?_
            intro A4 n4 c4 w4 HO4 HB4
            go_wp2_with (fail)
            go_ret
            rw [← hE.out]
            exact gives_one (A := A4) (n := n4) (c := c4) (oi_mono HO4.out (by omega) (by simp [hu, hp])) (.inl rfl) HB4.out.below
          | false =>
            rw [hp] at q12
            go_wp2_with (fail)
            go_ret
            rw [← hE.out]
            exact gives_one (A := A1) (n := n1) (c := c1) (oi_mono HO2.out (by omega) (by simp [hu, hp])) (.inl rfl) HB2.out.below
end Pk
end Go.Proofs.YteigakkghkjakaaDoor

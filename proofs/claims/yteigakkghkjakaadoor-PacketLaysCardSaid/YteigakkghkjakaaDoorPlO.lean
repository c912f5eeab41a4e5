/- The document's examples of packet. basculelaw10.awake. What is known of a packet that Parse has read. -/
import Derived.Test.YteigakkghkjakaaDoorPlK
import Derived.Lib.SlBytesConst
namespace Go.Proofs.YteigakkghkjakaaDoor
open Go.RowKit
set_option linter.unusedVariables false
set_option linter.unusedSimpArgs false
namespace Pk
open Utf (nums nums_length nums_bytes IsStr nums_str)
open Var (BT digs digs_length)

theorem is_unique {L : List Int} {p p' : Pkt} {C C' : List Int} {D D' : List (ByteArray × Int)} (h : IsPkt L p C D) (h' : IsPkt L p' C' D') : p.rows nilV nilV = p'.rows nilV nilV ∧ C = C' ∧ D = D' := by
  obtain ⟨a1, a2, _⟩ := pkt_tell h
  obtain ⟨b1, b2, _⟩ := pkt_tell h'
  rw [a1] at b1
  injection b1 with _ b1
  injection b1 with e1 _
  have e : (digs 3 ((bodyB p C D).length : Int)).length = (digs 3 ((bodyB p' C' D').length : Int)).length := by omega
  rw [e, b2] at a2
  have f1 : 16 * p.ty + flagsN p = 16 * p'.ty + flagsN p' := by
    have h1 := congrArg (fun X => lat X 0) h.2.2
    have h2 := congrArg (fun X => lat X 0) h'.2.2
    exact Eq.trans (show 16 * p.ty + flagsN p = lat L 0 from h1) (show 16 * p'.ty + flagsN p' = lat L 0 from h2).symm
  have r1 := read_back p C D h.2.1.1 h.1
  have r2 := read_back p' C' D' h'.2.1.1 h'.1
  rw [← f1, a2, r1] at r2
  injection r2 with r2
  injection r2 with e1 r2
  injection r2 with e2 e3
  exact ⟨e1, e2, e3⟩

abbrev strA : ByteArray := ⟨#[97]⟩
def exP : Pkt := { typeP 3 with topic := strA, payload := ⟨#[104, 105]⟩, qos := 1, id := 10 }
def exC : Pkt := { typeP 1 with client := strA, clean := true, alive := 60 }
theorem isA : IsStr (nums strA) [97] := by
  refine ⟨fun x hx => ?_, rfl, by decide⟩
  have : x = 97 := by simpa using hx
  subst this
  decide
theorem fullA : Full strA := ⟨by decide, _, isA⟩
theorem strE : Str ⟨#[]⟩ := ⟨[], ⟨(by intro x hx; cases hx), rfl, by decide⟩⟩
theorem may_exP : May exP [] [] := by
  refine ⟨⟨by decide, by decide, ⟨fun h => absurd h (by decide), fun h => absurd h (by decide), fun _ => ⟨fun _ => ⟨by decide, by decide⟩, fullA, by decide, by decide⟩, fun h _ => absurd h (by decide), fun h => absurd h (by decide), fun h => absurd h (by decide)⟩, ?_⟩, by decide⟩
  exact (zero_iff _ _ _).2 ⟨⟨rfl, rfl, rfl, rfl⟩, rfl, rfl, rfl, rfl, ⟨rfl, rfl, rfl⟩, rfl, rfl, rfl, rfl, rfl, rfl⟩
theorem bytes_exP : bytesB exP [] [] = [50, 7, 0, 1, 97, 0, 10, 104, 105] := by decide
theorem is_ping : IsPkt [192, 0] (typeP 12) [] [] := by
  refine ⟨⟨rfl, rfl⟩, ⟨⟨by decide, by decide, ⟨fun h => absurd h (by decide), fun h => absurd h (by decide), fun h => absurd h (by decide), fun _ h => absurd h (by decide), fun h => absurd h (by decide), fun h => absurd h (by decide)⟩, ?_⟩, by decide⟩, by decide⟩
  exact (zero_iff _ _ _).2 ⟨⟨rfl, rfl, rfl, rfl⟩, rfl, rfl, rfl, rfl, ⟨rfl, rfl, rfl⟩, rfl, rfl, rfl, rfl, rfl, rfl⟩
theorem is_exC : IsPkt [16, 13, 0, 4, 77, 81, 84, 84, 4, 2, 0, 60, 0, 1, 97] exC [] [] := by
  refine ⟨⟨rfl, rfl⟩, ⟨⟨by decide, by decide, ⟨fun _ => ⟨⟨_, isA⟩, strE, by decide, .inr rfl, by decide, by decide, fun h => absurd h (by decide), .inr rfl, .inr rfl⟩, fun h => absurd h (by decide), fun h => absurd h (by decide), fun h _ => absurd h (by decide), fun h => absurd h (by decide), fun h => absurd h (by decide)⟩, ?_⟩, by decide⟩, by decide⟩
  exact (zero_iff _ _ _).2 ⟨⟨rfl, rfl, rfl, rfl⟩, rfl, rfl, rfl, rfl, ⟨rfl, rfl, rfl⟩, rfl, rfl, rfl, rfl, rfl, rfl⟩
theorem not_193 : ∀ p C D, ¬ IsPkt [193, 0] p C D := by
  intro p C D h
  have h1 := congrArg (fun X => lat X 0) h.2.2
  have h2 : 16 * p.ty + flagsN p = 193 := h1
  have hm := h.2.1.1
  have t1 := hm.1
  have t2 := hm.2.1
  unfold flagsN at h2
  split at h2
  · rename_i h3
    have ho := (hm.2.2.1.2.2.1 h3).2.2
    have b1 := bitN_range p.dup 8 (by decide)
    have b2 := bitN_range p.retain 1 (by decide)
    omega
  · split at h2 <;> omega
theorem lies_exP (w : World) : Lies w exP [] [] := ⟨⟨none, 0, rfl, fun h => absurd h (by simp)⟩, ⟨none, 0, rfl, fun h => absurd h (by simp)⟩, by decide, by decide, by decide⟩

theorem kSlice2 (W : World) (a b : Int) : (Instr.buildSlice 22 2 #[(0, .int .u8 a), (1, .int .u8 b)]).run Tryd.prog W = .ok (.slice (some ⟨W.heap.size, 0, none⟩) 2 2) (W.alloc (.cells #[.int .u8 a, .int .u8 b] BT)) := by kernel_rfl
end Pk
end Go.Proofs.YteigakkghkjakaaDoor

namespace Go.Proofs.YteigakkghkjakaaDoor
open Go.RowKit
set_option linter.unusedVariables false
set_option linter.unusedSimpArgs false
namespace Pk
open Utf (nums nums_length nums_bytes IsStr nums_str)
open Var (BT)

theorem rExtract {P : Program} {ev : Operand → Value} {o : Oper} {W : World} {x : Operand} {i : Nat} {v : Value} (ho : o.op = .extract x i) (hk : (Instr.extract (ev x) i).run P W = .ok v W) : (execOp ev o).run P W = .ok (.value v) W := by
  unfold execOp
  rw [ho]
  show ((Instr.extract (ev x) i) >>= fun v => pure (Next.value v)).run P W = _
  rw [Sem.run_bind, hk]; rfl
theorem kExt0 {P : Program} {W : World} (a b : Value) : (Instr.extract (.tuple #[a, b]) 0).run P W = .ok a W := rfl
theorem kExt1 {P : Program} {W : World} (a b : Value) : (Instr.extract (.tuple #[a, b]) 1).run P W = .ok b W := rfl

theorem reads_mark {k : IntKind} {e : TypeId} {fr : Nat × Nat} (w : World) (L : List Int) (cur : Array Value) (h : cur.toList = L.map (Value.int k)) : Reads k (w.alloc (.cells cur e fr)) (some ⟨w.heap.size, 0, none⟩) L := by
  intro h0
  refine ⟨_, rfl, fun i hi => ?_⟩
  rw [add_plain0, World.cell?_alloc_mark, lat_get _ _ hi]
  have : cur[i]? = cur.toList[i]? := by simp
  rw [this, h]
  simp [List.getElem?_eq_getElem hi]

/-- What is known of a packet that Parse has answered to a row just laid. -/
theorem parse_lit {fr : Nat × Nat} (W : World) (hT : Lib.Utf8Tabs 0 1 W) (L : List Int) (cur : Array Value) (n c : Nat) (hn : n = L.length) (hcur : cur.toList = L.map (Value.int .u8)) (hb : ∀ x ∈ L, 0 ≤ x ∧ x < 256) (hl : L.length ≤ 1000) (hnc : n ≤ c) (hc : c ≤ 1000) :
    Calls Tryd.prog 15 #[.slice (some ⟨W.heap.size, 0, none⟩) n c] (W.alloc (.cells cur BT fr)) fun e w' => ParsePost (W.alloc (.cells cur BT fr)) L e w' := by
  subst hn
  exact parse_calls _ (Utf.tabs_keep hT (Below.alloc (Below.refl _ _) (Nat.le_refl _) _)) _ L c (reads_mark W L cur hcur) hnc (by omega) hb (by omega)

set_option maxRecDepth 100000 in
set_option maxHeartbeats 2000000 in
theorem awake_calls (w : World) (hT : Lib.Utf8Tabs 0 1 w) : Calls Tryd.prog 17 #[] w fun e w' => e = .returned (.bool true) ∧ Below w.heap.size w w' := by
  have HT := Lib.hid hT
  clear hT
  go_enter Tryd.func17, Tryd.ntmps17
  go_wp2_with (fail)
  refine (bytes_calls w HT.out exP [] [] (lies_exP w) (fun _ => by decide)).mono ?_
  rintro e w1 ⟨hb1, (⟨_, A1, c1, rfl, ho1⟩ | ⟨hn, _⟩)⟩
  · have HB1 := Lib.hid hb1
    rw [show (bytesB exP [] []).length = 9 from rfl] at ho1 ⊢
    rw [bytes_exP] at ho1
    have HO1 := Lib.hid ho1
    clear hb1 ho1
    go_wp2_with (fail)
    refine (parse_lit w1 (Utf.tabs_keep HT.out HB1.out) [192, 0] _ 2 2 rfl rfl (by decide) (by decide) (by decide) (by decide)).mono ?_
    rintro e w2 ⟨hb2, (⟨p, C, D, hI, rfl, hoc, hos⟩ | ⟨hn, _⟩)⟩
    · have HBw2 : Hid (Below w.heap.size w w2) := HB1.out.trans (((Below.alloc (Below.refl _ _) (Nat.le_refl _) _).trans (hb2.mono (by simp))).mono HB1.out.size)
      have HLw2 : Hid (Below w1.heap.size w1 w2) := (Below.alloc (Below.refl _ _) (Nat.le_refl _) _).trans (hb2.mono (by simp))
      have hty : Hid (p.ty = 12) := by have := (is_unique hI is_ping).1; exact congrArg Pkt.ty this
      have hpc : Hid (p.codes.oneCell' = true) := by obtain ⟨A', c', hv, _⟩ := hoc.form; rw [hv]; exact rfl
      have hps : Hid (p.subs.oneCell' = true) := by obtain ⟨A', c', hv, _⟩ := own_form hos; rw [hv]; exact rfl
      clear hb2 hI hoc hos
      rename_i hK
      refine hK _ _ ?_
      refine st_val (.tuple #[.agg p.cells, .int .i64 0]) (wanted_free rfl) (by exact rMove (x := .tmp 17) rfl) ?_
      refine st_val (.agg p.cells) (wanted_free rfl) (by exact rExtract (x := .tmp 15) rfl (kExt0 _ _)) ?_
      refine st_val (.int .i64 0) (wanted_free rfl) (by exact rExtract (x := .tmp 15) rfl (kExt1 _ _)) ?_
      refine st_alloc (wanted_free rfl) rfl (by exact kAllocP _) ?_
      refine wp_store_pkt (g := w2.heap.size) p zeroP rfl rfl rfl rfl (by exact heap_new _ _) hpc.out hps.out ?_
      intro w3 HPw3 t
      refine st_val (.int .i64 0) (wanted_free rfl) (by exact rAssign (x := .tmp 19) rfl) ?_
      refine wpList_nil ?_
      simp only [Exit.then, Act.put, List.setIfInBounds_toArray, List.set_cons_zero, List.set_cons_succ]
      have HLw3 : Hid (Below w2.heap.size w2 w3) := (Below.alloc (Below.refl _ _) (Nat.le_refl _) _).trans (t.toBelow (by simp) (fun k hk e => by omega))
      have hzw3 : Hid (w2.heap.size < w3.heap.size) := by have := t.size; rw [Hid]; simp at this; omega
      have HBw3 : Hid (Below w.heap.size w w3) := HBw2.out.trans (HLw3.out.mono HBw2.out.size)
      clear t hK
      go_wp2_with (fail)
      refine (parse_lit w3 (Utf.tabs_keep HT.out HBw3.out) [193, 0] _ 2 2 rfl rfl (by decide) (by decide) (by decide) (by decide)).mono ?_
      rintro e w4 ⟨hb4, (⟨p', C', D', hI, _⟩ | ⟨hn193, rfl⟩)⟩
      · exact absurd hI (not_193 _ _ _)
      · have HBw4 : Hid (Below w.heap.size w w4) := HBw3.out.trans (((Below.alloc (Below.refl _ _) (Nat.le_refl _) _).trans (hb4.mono (by simp))).mono HBw3.out.size)
        have HLw4 : Hid (Below w3.heap.size w3 w4) := (Below.alloc (Below.refl _ _) (Nat.le_refl _) _).trans (hb4.mono (by simp))
        clear hb4 hn193
        rename_i hK
        refine hK _ _ ?_
        refine st_val (.tuple #[.agg zeroP.cells, .int .i64 100]) (wanted_free rfl) (by exact rMove (x := .tmp 22) rfl) ?_
        refine st_val (.agg zeroP.cells) (wanted_free rfl) (by exact rExtract (x := .tmp 20) rfl (kExt0 _ _)) ?_
        refine st_val (.int .i64 100) (wanted_free rfl) (by exact rExtract (x := .tmp 20) rfl (kExt1 _ _)) ?_
        refine st_alloc (wanted_free rfl) rfl (by exact kAllocP _) ?_
        refine wp_store_pkt (g := w4.heap.size) zeroP zeroP rfl rfl rfl rfl (by exact heap_new _ _) rfl rfl ?_
        intro w5 HPw5 t
        refine st_val (.int .i64 100) (wanted_free rfl) (by exact rAssign (x := .tmp 24) rfl) ?_
        refine wpList_nil ?_
        simp only [Exit.then, Act.put, List.setIfInBounds_toArray, List.set_cons_zero, List.set_cons_succ]
        have HLw5 : Hid (Below w4.heap.size w4 w5) := (Below.alloc (Below.refl _ _) (Nat.le_refl _) _).trans (t.toBelow (by simp) (fun k hk e => by omega))
        have hzw5 : Hid (w4.heap.size < w5.heap.size) := by have := t.size; rw [Hid]; simp at this; omega
        have HBw5 : Hid (Below w.heap.size w w5) := HBw4.out.trans (HLw5.out.mono HBw4.out.size)
        clear t hK
        have hkb : (convert 22 22 (.slice (some ⟨w5.heap.size, 0, none⟩) 15 15)).run Tryd.prog (w5.alloc (.cells #[.int .u8 16, .int .u8 13, .int .u8 0, .int .u8 4, .int .u8 77, .int .u8 81, .int .u8 84, .int .u8 84, .int .u8 4, .int .u8 2, .int .u8 0, .int .u8 60, .int .u8 0, .int .u8 1, .int .u8 97] BT)) = .ok (.slice (some ⟨w5.heap.size, 0, none⟩) 15 15) (w5.alloc (.cells #[.int .u8 16, .int .u8 13, .int .u8 0, .int .u8 4, .int .u8 77, .int .u8 81, .int .u8 84, .int .u8 84, .int .u8 4, .int .u8 2, .int .u8 0, .int .u8 60, .int .u8 0, .int .u8 1, .int .u8 97] BT (15, 16))) := Lib.run_convert_bytes_const w5 _ _ _ _ _ Tryd.underlying22 Tryd.underlying5
        go_wp2_with (fail)
        refine (parse_lit w5 (Utf.tabs_keep HT.out HBw5.out) [16, 13, 0, 4, 77, 81, 84, 84, 4, 2, 0, 60, 0, 1, 97] _ 15 15 rfl rfl (by decide) (by decide) (by decide) (by decide)).mono ?_
        rintro e w6 ⟨hb6, (⟨p', C', D', hI, rfl, hoc, hos⟩ | ⟨hn, _⟩)⟩
        · have HBw6 : Hid (Below w.heap.size w w6) := HBw5.out.trans (((Below.alloc (Below.refl _ _) (Nat.le_refl _) _).trans (hb6.mono (by simp))).mono HBw5.out.size)
          have HLw6 : Hid (Below w5.heap.size w5 w6) := (Below.alloc (Below.refl _ _) (Nat.le_refl _) _).trans (hb6.mono (by simp))
          have hcl : Hid (p'.client = strA ∧ p'.clean = true ∧ p'.alive = 60) := by
            have := (is_unique hI is_exC).1
            exact ⟨congrArg Pkt.client this, congrArg Pkt.clean this, congrArg Pkt.alive this⟩
          have hpc' : Hid (p'.codes.oneCell' = true) := by obtain ⟨A', c', hv, _⟩ := hoc.form; rw [hv]; exact rfl
          have hps' : Hid (p'.subs.oneCell' = true) := by obtain ⟨A', c', hv, _⟩ := own_form hos; rw [hv]; exact rfl
          clear hb6 hI hoc hos
          rename_i hK
          refine hK _ _ ?_
          refine st_val (.tuple #[.agg p'.cells, .int .i64 0]) (wanted_free rfl) (by exact rMove (x := .tmp 28) rfl) ?_
          refine st_val (.agg p'.cells) (wanted_free rfl) (by exact rExtract (x := .tmp 25) rfl (kExt0 _ _)) ?_
          refine st_val (.int .i64 0) (wanted_free rfl) (by exact rExtract (x := .tmp 25) rfl (kExt1 _ _)) ?_
          refine st_alloc (wanted_free rfl) rfl (by exact kAllocP _) ?_
          refine wp_store_pkt (g := w6.heap.size) p' zeroP rfl rfl rfl rfl (by exact heap_new _ _) hpc'.out hps'.out ?_
          intro w7 HPw7 t
          refine st_val (.int .i64 0) (wanted_free rfl) (by exact rAssign (x := .tmp 30) rfl) ?_
          refine wpList_nil ?_
          simp only [Exit.then, Act.put, List.setIfInBounds_toArray, List.set_cons_zero, List.set_cons_succ]
          have HLw7 : Hid (Below w6.heap.size w6 w7) := (Below.alloc (Below.refl _ _) (Nat.le_refl _) _).trans (t.toBelow (by simp) (fun k hk e => by omega))
          have hzw7 : Hid (w6.heap.size < w7.heap.size) := by have := t.size; rw [Hid]; simp at this; omega
          have HBw7 : Hid (Below w.heap.size w w7) := HBw6.out.trans (HLw7.out.mono HBw6.out.size)
          clear t hK
          have HP3' : Hid (PkAt w7 w2.heap.size p) := by
            have b1 : PkAt w4 w2.heap.size p := HPw3.out.keep (Turn.of_below (S := fun _ => False) HLw4.out) (fun h => h)
            have b2 : PkAt w5 w2.heap.size p := b1.keep (Turn.of_below (S := fun _ => False) HLw5.out) (fun h => h)
            have b3 : PkAt w6 w2.heap.size p := b2.keep (Turn.of_below (S := fun _ => False) HLw6.out) (fun h => h)
            exact b3.keep (Turn.of_below (S := fun _ => False) HLw7.out) (fun h => h)
          have HLL : Hid (Below w1.heap.size w1 w7) := by
            have b2 := HLw2.out.trans (HLw3.out.mono HLw2.out.size)
            have b3 := b2.trans (HLw4.out.mono b2.size)
            have b4 := b3.trans (HLw5.out.mono b3.size)
            have b5 := b4.trans (HLw6.out.mono b4.size)
            exact b5.trans (HLw7.out.mono b5.size)
          have HO7 : Hid (OwnInts w7 w.heap.size BT .u8 (.slice A1 9 c1) [50, 7, 0, 1, 97, 0, 10, 104, 105]) := HO1.out.turn (Turn.of_below (S := fun _ => False) HLL.out) (fun _ _ h => h)
          have hcv := conv_own (P := Tryd.prog) (W := w7) (src := 22) (dst := 9) Tryd.underlying22 Tryd.underlying5 Tryd.underlying9 HO7.out
          rw [show strOfNums [50, 7, 0, 1, 97, 0, 10, 104, 105] = ⟨#[50, 7, 0, 1, 97, 0, 10, 104, 105]⟩ from rfl] at hcv
          have c30 : w7.cell? ⟨w2.heap.size, 0, none⟩ = some (.int .i64 12) := by rw [← hty.out]; exact HP3'.out.cell 0
          have c77 : w7.cell? ⟨w6.heap.size, 7, none⟩ = some (.string strA) := by rw [← hcl.out.1]; exact HPw7.out.cell 7
          have c78 : w7.cell? ⟨w6.heap.size, 8, none⟩ = some (.bool true) := by rw [← hcl.out.2.1]; exact HPw7.out.cell 8
          have c79 : w7.cell? ⟨w6.heap.size, 9, none⟩ = some (.int .i64 60) := by rw [← hcl.out.2.2]; exact HPw7.out.cell 9
          go_wp2_with (fail)
          go_ret
          exact ⟨rfl, HBw7.out⟩
        · exact absurd is_exC (hn _ _ _)
    · exact absurd is_ping (hn _ _ _)
  · exact absurd may_exP hn
end Pk
end Go.Proofs.YteigakkghkjakaaDoor

namespace Go.Proofs.YteigakkghkjakaaDoor
open Go.RowKit
set_option linter.unusedVariables false
set_option linter.unusedSimpArgs false
namespace Pk
open Utf (nums nums_length nums_bytes IsStr nums_str)
open Var (BT)

theorem is_bounds {L : List Int} {p : Pkt} {C : List Int} {D : List (ByteArray × Int)} (hI : IsPkt L p C D) (hby : ∀ x ∈ L, 0 ≤ x ∧ x < 256) : C.length ≤ L.length + 1 ∧ D.length ≤ L.length ∧ p.client.size + p.user.size + p.pass.size ≤ 3 * L.length ∧ (bodyB p C D).length ≤ L.length := by
  have hr := read_back p C D hI.2.1.1 hI.1
  have hb := (pkt_tell hI).2.1
  have hbl : (bodyB p C D).length ≤ L.length := by rw [← hb, List.length_drop]; omega
  have hbb : ∀ x ∈ bodyB p C D, 0 ≤ x ∧ x < 256 := by rw [← hb]; exact fun x hx => hby x (List.mem_of_mem_drop hx)
  have h1 := rdPkt_fit hr hbb
  have h2 : p.client.size + p.user.size + p.pass.size ≤ 3 * (bodyB p C D).length := by have := rdPkt_strs hr; exact this
  exact ⟨by omega, by omega, by omega, hbl⟩

theorem own_lies {W : World} {base : Nat} {L : List Int} {p : Pkt} {C : List Int} {D : List (ByteArray × Int)} (hI : IsPkt L p C D) (hby : ∀ x ∈ L, 0 ≤ x ∧ x < 256) (hl : L.length ≤ 900000000)
    (hoc : OwnInts W base 3 .i64 p.codes C) (hos : W.ownsRow base 76 2 p.subs D.length (subCells D)) : Lies W p C D := by
  obtain ⟨h1, h2, h3, _⟩ := is_bounds hI hby
  refine ⟨?_, ?_, by omega, by omega, by omega⟩
  · obtain ⟨A, c, hv, _⟩ := hoc.form
    rw [hv] at hoc
    exact ⟨A, c, hv, (own_reads hoc).2.2.1⟩
  · obtain ⟨A, c, hv, _⟩ := own_form hos
    rw [hv] at hos
    exact ⟨A, c, hv, subs_reads hos⟩

/-- The whole packet is loaded, behind a guard that is open. -/
theorem wp_load_pktG {ops : Array Oper} {rest : List Oper} {o : Oper} {a : Act} {W : World} {Q : Exit → Act → World → Prop} {x : Operand} {g : Nat} {p : Pkt} (ho : o.op = .load PT x) (hx : a.eval x = .pointer (some ⟨g, 0, none⟩)) (h : PkAt W g p)
    (hK : wpList Tryd.prog ops Q rest (a.put o.dst (.agg p.cells)) W) (hgd : Region.wanted o (yielded ops a.tmps) = true) : wpList Tryd.prog ops Q (o :: rest) a W :=
  st_val _ hgd (rLoad ho (by rw [hx]; exact load_pkt W g p h)) hK
end Pk
end Go.Proofs.YteigakkghkjakaaDoor

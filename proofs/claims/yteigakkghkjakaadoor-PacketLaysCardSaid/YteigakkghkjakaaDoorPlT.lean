/- Which packets are looked at. -/
import Derived.Test.YteigakkghkjakaaDoorPlS
namespace Go.Proofs.YteigakkghkjakaaDoor
open Go.RowKit
set_option linter.unusedVariables false
set_option linter.unusedSimpArgs false
namespace Pk
open Var (BT)

structure SmallP (p : Pkt) (C : List Int) (D : List (ByteArray × Int)) : Prop where
  topic : p.topic.size ≤ 2000
  payload : p.payload.size ≤ 2000
  client : p.client.size ≤ 2000
  user : p.user.size ≤ 2000
  pass : p.pass.size ≤ 2000
  codes : C.length ≤ 2000
  subs : D.length ≤ 50

/-- small's answer. -/
def SmallPost (w : World) (p : Pkt) (C : List Int) (D : List (ByteArray × Int)) (e : Ending) (w' : World) : Prop := Below w.heap.size w w' ∧ ∃ b, e = .returned (.bool b) ∧ (b = true → SmallP p C D)
set_option maxRecDepth 100000 in
set_option maxHeartbeats 1000000 in
theorem small_calls (w : World) (p : Pkt) (C : List Int) (D : List (ByteArray × Int)) (hF : Lies w p C D) (hS : Sized p C D) : Calls Tryd.prog 19 #[.agg p.cells] w fun e w' => SmallPost w p C D e w' := by
  have hA := at_box w p
  obtain ⟨W, hW⟩ : ∃ W, Hid (W = w.alloc (.cells p.cells PT)) := ⟨_, rfl⟩
  obtain ⟨g, hg⟩ : ∃ g, Hid (g = w.heap.size) := ⟨_, rfl⟩
  rw [← hW.out, ← hg.out] at hA
  have HB : Hid (Below w.heap.size w W) := hA.below
  obtain ⟨Ac, cc, hc, hCr⟩ := hF.codes
  obtain ⟨As, cs, hs, hDr⟩ := hF.subs
  have HD : Hid (ReadsSub W As D) := hDr.keep HB.out
  have k3 : W.cell? ⟨g, 3, none⟩ = some (.string p.topic) := hA.at_.cell 3
  have k4 : W.cell? ⟨g, 4, none⟩ = some (.string p.payload) := hA.at_.cell 4
  have k7 : W.cell? ⟨g, 7, none⟩ = some (.string p.client) := hA.at_.cell 7
  have k13 : W.cell? ⟨g, 13, none⟩ = some (.string p.user) := hA.at_.cell 13
  have k14 : W.cell? ⟨g, 14, none⟩ = some (.string p.pass) := hA.at_.cell 14
  have k16 : W.cell? ⟨g, 16, none⟩ = some (.slice Ac C.length cc) := by rw [← hc]; exact hA.at_.cell 16
  have k17 : W.cell? ⟨g, 17, none⟩ = some (.slice As D.length cs) := by rw [← hs]; exact hA.at_.cell 17
  have b1 : (p.topic.size : Int) ≤ 140737488351232 := by have := hS.topic; omega
  have b2 : (p.payload.size : Int) ≤ 140737488351232 := by have := hS.payload; omega
  have b3 : (p.client.size : Int) ≤ 140737488351232 := by have := hS.client; omega
  have b4 : (p.user.size : Int) ≤ 140737488351232 := by have := hS.user; omega
  have b5 : (p.pass.size : Int) ≤ 140737488351232 := by have := hS.pass; omega
  have b6 : (C.length : Int) ≤ 140737488351232 := by have := hS.codes; omega
  have b7 : (D.length : Int) ≤ 140737488351232 := by have := hS.subs; omega
  have HN : Hid (∀ s ∈ D, s.1.size ≤ 140737488351232) := hS.names
  obtain ⟨S, hSu⟩ : ∃ S, Hid (S = p.topic.size + p.payload.size + p.client.size + p.user.size + p.pass.size + C.length) := ⟨_, rfl⟩
  have hSb : Hid (S ≤ 844424930107392) := by have := hSu.out; rw [Hid]; omega
  clear hA hF hS hCr hDr hc hs
  go_enter Tryd.func19, Tryd.ntmps19
  go_upto_region 1 with (fail)
  rw [← hW.out, ← hg.out]
  go_wp2_with (fail)
  go_loopw [3, 4] (fun n x wr => ∃ i m : Nat, i ≤ D.length ∧ i ≤ 100 ∧ n = .int .i64 m ∧ x = .int .i64 i ∧ Hid (S ≤ m ∧ m ≤ S + i * 140737488351232) ∧ Hid (wr = W)) (fun _ x _ => 100 - (intOf x).toNat)
  case atStart => exact ⟨0, S, Nat.zero_le _, by omega, by congr 1; have := hSu.out; omega, rfl, ⟨Nat.le_refl _, by omega⟩, rfl⟩
  case round =>
    obtain ⟨i, m, hi, hi2, rfl, rfl, hm, hwr⟩ := hrel
    have hwr' := hwr.out
    subst hwr'
    clear hwr
    have hib : (i : Int) ≤ 100 := by omega
    have hmb : (m : Int) ≤ 20000000000000000 := by have := hm.out; have := hSb.out; omega
    by_cases h1 : i < D.length
    · by_cases h2 : (i : Int) < 100
      · obtain ⟨x, rfl, hx⟩ := HD.out (by omega)
        obtain ⟨hx1, _⟩ := hx i h1
        have hsz := HN.out _ (List.getElem_mem h1)
        obtain ⟨s, hs⟩ : ∃ s, Hid ((D[i]'h1).1 = s) := ⟨(D[i]'h1).1, by rw [Hid]⟩
        rw [hs.out] at hx1 hsz
        rw [Nat.mul_comm] at hx1
        have hsb : (s.size : Int) ≤ 140737488351232 := by omega
        clear hx hsz
        go_wp2_with (fail)
        go_roundw
        case rel => exact ⟨i + 1, m + s.size, by omega, by omega, by go_num, by go_num, by have := hm.out; rw [Hid]; omega, trivial⟩
        case measure => simp [intOf]; omega
      · have hno : ¬ (D.length : Int) ≤ 50 := by omega
        have hnd : decide ((D.length : Int) ≤ 50) = false := decide_eq_false hno
        by_cases hn : (m : Int) ≤ 2000
        · have hnd2 : decide ((m : Int) ≤ 2000) = true := decide_eq_true hn
          go_wp2_with (fail)
          go_ret
          exact ⟨HB.out, false, by simp [hnd], fun h => by cases h⟩
        · have hnd2 : decide ((m : Int) ≤ 2000) = false := decide_eq_false hn
          go_wp2_with (fail)
          go_ret
          exact ⟨HB.out, false, by simp [hnd], fun h => by cases h⟩
    · by_cases hd : (D.length : Int) ≤ 50
      · have hnd : decide ((D.length : Int) ≤ 50) = true := decide_eq_true hd
        by_cases hn : (m : Int) ≤ 2000
        · have hnd2 : decide ((m : Int) ≤ 2000) = true := decide_eq_true hn
          go_wp2_with (fail)
          go_ret
          refine ⟨HB.out, true, by simp [hnd], fun _ => ?_⟩
          have h1 := hm.out
          have h2 := hSu.out
          exact ⟨by omega, by omega, by omega, by omega, by omega, by omega, by omega⟩
        · have hnd2 : decide ((m : Int) ≤ 2000) = false := decide_eq_false hn
          go_wp2_with (fail)
          go_ret
          exact ⟨HB.out, false, by simp, fun h => by cases h⟩
      · have hnd : decide ((D.length : Int) ≤ 50) = false := decide_eq_false hd
        by_cases hn : (m : Int) ≤ 2000
        · have hnd2 : decide ((m : Int) ≤ 2000) = true := decide_eq_true hn
          go_wp2_with (fail)
          go_ret
          exact ⟨HB.out, false, by simp [hnd], fun h => by cases h⟩
        · have hnd2 : decide ((m : Int) ≤ 2000) = false := decide_eq_false hn
          go_wp2_with (fail)
          go_ret
          exact ⟨HB.out, false, by simp [hnd], fun h => by cases h⟩
end Pk
end Go.Proofs.YteigakkghkjakaaDoor

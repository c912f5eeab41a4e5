/- ReceiverMeets, the plain law. -/
import Derived.Test.YtonemmdipmohgaaDoorRcC
import Derived.Test.YtonemmdipmohgaaDoorSnU
namespace Go.Proofs.YtonemmdipmohgaaDoor
open Go.RowKit Go.ChangeShapes
set_option linter.unusedVariables false
set_option linter.unusedSimpArgs false
namespace Rcv
open Pk Str Snd

def pmsg (p : Pkt) : Msg := ⟨p.topic, p.payload, p.qos, p.retain⟩
structure Meet (ms : List Msg) (x : St) (L : List Int) (G : List Msg) (d : Nat) : Prop where
  win : x.win = 1
  q2 : ∀ m ∈ ms, m.qos = 2
  rest : ms.drop d = x.ways.map Way.msg ++ x.wait
  le : d ≤ ms.length
  st : (x.ways = [] ∧ L = [] ∧ G = ms.take d) ∨ ∃ y, x.ways = [y] ∧ ((y.got = false ∧ L = [] ∧ G = ms.take d) ∨ (y.got = false ∧ L = [y.id] ∧ G = ms.take (d + 1)) ∨ (y.got = true ∧ (L = [] ∨ L = [y.id]) ∧ G = ms.take (d + 1)))
theorem Meet.new {ms : List Msg} {x : St} (hw : x.win = 1) (hq : ∀ m ∈ ms, m.qos = 2) (hy : x.ways = []) (hm : x.wait = ms) : Meet ms x [] [] 0 :=
  ⟨hw, hq, by rw [hy, hm]; rfl, Nat.zero_le _, .inl ⟨hy, rfl, rfl⟩⟩
theorem meet_next {ms : List Msg} {x : St} {L : List Int} {G : List Msg} {d : Nat} (h : Meet ms x L G d) (hI : Inv x.next.1) :
    Meet ms x.next.1 L G d ∧ x.next.2.length ≤ 1 ∧ (x.next.2 ≠ [] → Line x.next.1 x.next.2) ∧ (x.next.1.ways = [] → x.next.1.wait = []) ∧ (x.next.2 ≠ [] → x.next.1.ways ≠ []) := by
  obtain ⟨new, h1, h2, h3, h4, h5, h6⟩ := nextN_ways (n := x.wait.length) (x := x)
  have hstop := nextN_stop (n := x.wait.length) (x := x) (Nat.le_refl _)
  have h1' : x.next.1.ways = x.ways ++ new := h1
  have h2' : x.next.2 = new.map (fun y => pubP y.id y.msg false) := h2
  have h4' : x.next.1.win = x.win := h4
  have h6' : x.wait = new.map Way.msg ++ x.next.1.wait := h6
  have hstop' : ¬ ((x.next.1.ways.length : Int) < x.next.1.win ∧ 0 < x.next.1.wait.length) := hstop
  have hw := h.win
  have hle := hI.ways
  rw [h4', hw, h1', List.length_append] at hle
  have hl2 : x.next.2.length = new.length := by rw [h2', List.length_map]
  have hline : x.ways = [] → Line x.next.1 x.next.2 := fun he => by
    have := Line.next (x := x) (l := []) (by unfold Line; rw [he]; exact .refl _)
    simpa using this
  refine ⟨⟨h4'.trans hw, h.q2, ?_, h.le, ?_⟩, by omega, fun hne => ?_, fun he => ?_, fun hne he => ?_⟩
  · rw [h.rest, h6', h1', List.map_append, List.append_assoc]
  · rcases h.st with ⟨e1, e2, e3⟩ | ⟨y, e1, e2⟩
    · cases new with
      | nil => exact .inl ⟨by rw [h1', e1]; rfl, e2, e3⟩
      | cons y t =>
        have ht : t = [] := List.eq_nil_of_length_eq_zero (by rw [List.length_cons] at hle; omega)
        subst ht
        exact .inr ⟨y, by rw [h1', e1]; rfl, .inl ⟨h3 y (by simp), e2, e3⟩⟩
    · have hn : new = [] := List.eq_nil_of_length_eq_zero (by rw [e1] at hle; simp only [List.length_singleton] at hle; omega)
      exact .inr ⟨y, by rw [h1', hn, List.append_nil, e1], e2⟩
  · have hn : 0 < x.next.2.length := List.length_pos_iff.2 hne
    exact hline (List.eq_nil_of_length_eq_zero (by omega))
  · refine List.eq_nil_of_length_eq_zero (Nat.eq_zero_of_not_pos fun hp => hstop' ⟨?_, hp⟩)
    rw [h4', hw, he]; decide
  · have hn : 0 < x.next.2.length := List.length_pos_iff.2 hne
    rw [h1'] at he
    have := congrArg List.length he
    rw [List.length_append, List.length_nil] at this
    omega
theorem take_succ {ms r : List Msg} {d : Nat} {m : Msg} (h : ms.drop d = m :: r) : ms.take (d + 1) = ms.take d ++ [m] := by
  have h1 : ms[d]? = some m := by
    have h2 : (ms.drop d)[0]? = some m := by rw [h]; rfl
    rw [List.getElem?_drop] at h2
    exact h2
  rw [List.take_add_one, h1]; rfl
theorem meet_take {ms : List Msg} {x : St} {L : List Int} {G : List Msg} {d : Nat} {p : Pkt} {l : List Pkt} (h : Meet ms x L G d) (hI : Inv x) (hn : x.ids.Nodup) (hr : ∀ i ∈ x.ids, 1 ≤ i ∧ i ≤ 65535) (hl : Line x (p :: l)) (hf : Fine p) :
    l = [] ∧ Pk.May p [] [] ∧ ∃ on L', rcv L p [] [] = (on, [ansP p], 0, L') ∧ Meet ms x L' (if on = true then G ++ [pmsg p] else G) d ∧ (x.take (ansP p).ty (ansP p).id).2.2 = 0 ∧ Line (x.take (ansP p).ty (ansP p).id).1 (x.take (ansP p).ty (ansP p).id).2.1 ∧ mu (x.take (ansP p).ty (ansP p).id).1 + 1 = mu x ∧
      ∃ d', Meet ms (x.take (ansP p).ty (ansP p).id).1 L' (if on = true then G ++ [pmsg p] else G) d' ∧ d' + (x.take (ansP p).ty (ansP p).id).2.1.length = d + 1 := by
  obtain ⟨hM, h0, hL', hmu, hwt⟩ := Line.step hI hn hr hl hf
  have hlen := hl.len
  rcases h.st with ⟨e1, _⟩ | ⟨y, hw, hst⟩
  · rw [e1] at hlen; simp at hlen
  have hl0 : l = [] := List.eq_nil_of_length_eq_zero (by rw [hw] at hlen; simpa using hlen)
  subst hl0
  rw [List.nil_append] at hL'
  have hy : y ∈ x.ways := by rw [hw]; simp
  have hby : wbase y = base p := by
    have : base p ∈ x.ways.map wbase := hl.mem_iff.1 (by simp)
    rw [hw] at this
    exact (List.mem_singleton.1 this).symm
  have hn' : (x.ways.map Way.id).Nodup := by rw [← hI.ids]; exact hn
  have hat := at_mem hn' hy
  have ha0 : x.at y.id = 0 := by
    have := (List.getElem?_eq_some_iff.1 hat).1
    rw [hw] at this
    simpa using this
  have hdr : ms.drop d = y.msg :: x.wait := by rw [h.rest, hw]; rfl
  have hyq : y.msg.qos = 2 := h.q2 _ (List.mem_of_mem_drop (by rw [hdr]; simp))
  have hts := take_succ hdr
  have hd1 : d + 1 ≤ ms.length := by
    have := congrArg List.length hdr
    rw [List.length_drop, List.length_cons] at this
    omega
  have hty : p.ty = y.pkt.ty := by have := (congrArg Pkt.ty hby).symm; exact this
  have hid : p.id = y.pkt.id := by have := (congrArg Pkt.id hby).symm; exact this
  have hqos : p.qos = y.pkt.qos := by have := (congrArg Pkt.qos hby).symm; exact this
  have htop : p.topic = y.pkt.topic := by have := (congrArg Pkt.topic hby).symm; exact this
  have hpay : p.payload = y.pkt.payload := by have := (congrArg Pkt.payload hby).symm; exact this
  have hret : p.retain = y.pkt.retain := by have := (congrArg Pkt.retain hby).symm; exact this
  refine ⟨rfl, hM, ?_⟩
  cases hg : y.got with
  | true =>
    have e : y.pkt = ackP 6 y.id := by unfold Way.pkt; rw [hg]; rfl
    rw [e] at hty hid
    have h6 : p.ty = 6 := hty
    have hi6 : p.id = y.id := hid
    have ea : ansP p = ackP 7 y.id := by unfold ansP; rw [if_pos h6, hi6]
    have he : Snd.Ends 7 y := .inr ⟨rfl, hyq, hg⟩
    have hG : (L = [] ∨ L = [y.id]) ∧ G = ms.take (d + 1) := by
      rcases hst with ⟨h1, _⟩ | ⟨h1, _⟩ | ⟨_, h2⟩
      · rw [hg] at h1; cases h1
      · rw [hg] at h1; cases h1
      · exact h2
    have hrc : rcv L p [] [] = (false, [ansP p], 0, []) := by
      unfold rcv
      rw [if_neg (fun h => h hM), if_pos h6, ea, hi6]
      rcases hG.1 with e | e <;> subst e <;> simp
    refine ⟨false, [], hrc, ?_, h0, hL', hmu, d + 1, ?_, ?_⟩
    · rw [if_neg (by decide)]
      exact ⟨h.win, h.q2, h.rest, h.le, .inr ⟨y, hw, .inr (.inr ⟨hg, .inl rfl, hG.2⟩)⟩⟩
    · rw [if_neg (by decide), ea, show (ackP 7 y.id).ty = 7 from rfl, show (ackP 7 y.id).id = y.id from rfl, take_ends hat he]
      have hwd : (x.done y.id).ways = [] := by show x.ways.eraseIdx (x.at y.id) = []; rw [ha0, hw]; rfl
      refine ⟨h.win, h.q2, ?_, hd1, .inl ⟨hwd, rfl, hG.2⟩⟩
      show ms.drop (d + 1) = (x.done y.id).ways.map Way.msg ++ x.wait
      rw [hwd, ← List.drop_drop, hdr]; rfl
    · rw [ea, show (ackP 7 y.id).ty = 7 from rfl, show (ackP 7 y.id).id = y.id from rfl, take_ends hat he]; rfl
  | false =>
    have e : y.pkt = pubP y.id y.msg true := by unfold Way.pkt; rw [hg]; rfl
    rw [e] at hty hid hqos htop hpay hret
    have h3 : p.ty = 3 := hty
    have hq : p.qos = 2 := hqos.trans hyq
    have hi : p.id = y.id := hid
    have hpm : pmsg p = y.msg := by
      unfold pmsg
      rw [htop, hpay, hqos, hret]; rfl
    have ea : ansP p = ackP 5 y.id := by unfold ansP; rw [if_neg (by omega), if_neg (by omega), if_pos ⟨h3, hq⟩, hi]
    have he : ¬ Snd.Ends 5 y := by unfold Snd.Ends; omega
    have hrc : rcv L p [] [] = (!decide (y.id ∈ L), [ansP p], 0, if y.id ∈ L then L else L ++ [y.id]) := by
      unfold rcv
      rw [if_neg (fun h => h hM), if_neg (by omega), if_neg (fun h => h h3), if_neg (by omega), if_neg (by omega), ea, hi]
    have hwg : (x.got y.id y).ways = [{ y with got := true }] := by show x.ways.set (x.at y.id) { y with got := true } = _; rw [ha0, hw]; rfl
    have hmr : ms.drop d = (x.got y.id y).ways.map Way.msg ++ (x.got y.id y).wait := by rw [hwg]; exact hdr
    rw [ea] at h0 hL' hmu ⊢
    rw [show (ackP 5 y.id).ty = 5 from rfl, show (ackP 5 y.id).id = y.id from rfl] at h0 hL' hmu ⊢
    rw [take_goes hat he ⟨rfl, hyq⟩] at h0 hL' hmu ⊢
    rw [ea] at hrc
    rcases hst with ⟨_, hLe, hGe⟩ | ⟨_, hLe, hGe⟩ | ⟨h1, _⟩
    · subst hLe
      refine ⟨true, [y.id], by rw [hrc]; simp, ?_, rfl, hL', hmu, d, ?_, rfl⟩
      · rw [if_pos rfl, hpm, hGe, ← hts]
        exact ⟨h.win, h.q2, h.rest, h.le, .inr ⟨y, hw, .inr (.inl ⟨hg, rfl, rfl⟩)⟩⟩
      · rw [if_pos rfl, hpm, hGe, ← hts]
        exact ⟨h.win, h.q2, hmr, h.le, .inr ⟨_, hwg, .inr (.inr ⟨rfl, .inr rfl, rfl⟩)⟩⟩
    · subst hLe
      refine ⟨false, [y.id], by rw [hrc]; simp, ?_, rfl, hL', hmu, d, ?_, rfl⟩
      · rw [if_neg (by decide)]
        exact ⟨h.win, h.q2, h.rest, h.le, .inr ⟨y, hw, .inr (.inl ⟨hg, rfl, hGe⟩)⟩⟩
      · rw [if_neg (by decide)]
        exact ⟨h.win, h.q2, hmr, h.le, .inr ⟨_, hwg, .inr (.inr ⟨rfl, .inr rfl, hGe⟩)⟩⟩
    · rw [hg] at h1; cases h1
theorem Meet.fin {ms : List Msg} {x : St} {L : List Int} {G : List Msg} {d : Nat} (h : Meet ms x L G d) (hy : x.ways = []) (hw : x.wait = []) : L = [] ∧ G = ms := by
  rcases h.st with ⟨_, e2, e3⟩ | ⟨y, e1, _⟩
  · have := h.rest
    rw [hy, hw] at this
    have hl := congrArg List.length this
    rw [List.length_drop] at hl
    simp only [List.map_nil, List.append_nil, List.length_nil] at hl
    exact ⟨e2, by rw [e3, List.take_of_length_le (by omega)]⟩
  · rw [hy] at e1; cases e1
theorem push_ok {x : St} {m : Msg} (h : (x.push m).2.1 = 0) (hr : (x.wait.length : Int) < x.que) : (x.push m).1 = true := by
  unfold St.push at h ⊢
  split
  · rename_i hc
    rw [if_pos hc] at h
    exact absurd h (by show ¬ (1 : Int) = 0; decide)
  · rw [if_neg (by omega)]
theorem push_no {x : St} {m : Msg} (h : (x.push m).2.1 ≠ 0) : (x.push m).1 = false := by
  unfold St.push at h ⊢
  split
  · rfl
  · rename_i hc
    rw [if_neg hc] at h
    split
    · rfl
    · rename_i hd
      rw [if_neg hd] at h
      exact absurd rfl h
theorem push3 {x : St} {m : Msg} (hr : (x.wait.length : Int) < x.que) : x.push m = (false, 1, x) ∨ x.push m = (true, 0, { x with wait := x.wait ++ [m] }) := by
  unfold St.push
  split
  · exact .inl rfl
  · rw [if_neg (by omega)]
    exact .inr rfl
theorem fine_pay {p : Pkt} (h : Fine p) (hM : Pk.May p [] []) : p.payload.size ≤ 268435455 := by
  rcases h with ⟨id, m, d, rfl⟩ | ⟨id, rfl⟩
  · exact Nat.le_trans (pub_pay id m d) hM.2
  · show (0 : Nat) ≤ _; decide
theorem map_no {w : World} {R b : Nat} {L : List Int} (h : RcAt w R b L) : ∀ cs t, w.heap[b]? ≠ some (.cells cs t (0, 0)) := by
  intro cs t hc
  obtain ⟨_, _, D, ⟨es, clock, hb, _⟩, _⟩ := h.set
  exact obj_ne hb hc (by intro e; cases e) rfl
/-- The sender and the receiver, apart. -/
structure Duo (w0 w : World) (T : Nat → Prop) (s : Nat) (x : St) (R b : Nat) (L : List Int) : Prop where
  own : Snd.Own w0 w T s x
  rcv : OwnR w0 w R b L
  nR : ¬ T R
  nb : ¬ T b
theorem Duo.still {w0 w w' : World} {T : Nat → Prop} {s : Nat} {x : St} {R b : Nat} {L : List Int} (h : Duo w0 w T s x R b L) (t : Turn (fun _ => False) w w') : Duo w0 w' T s x R b L :=
  ⟨h.own.still t, h.rcv.still t, h.nR, h.nb⟩
theorem Duo.move {w0 w w' : World} {T T' : Nat → Prop} {s : Nat} {x x' : St} {R b : Nat} {L : List Int} (h : Duo w0 w T s x R b L) (o : Snd.Own w0 w' T' s x') (m : Moved T T' w w') : Duo w0 w' T' s x' R b L :=
  ⟨o, ⟨h.rcv.at_.turn m.1 h.nR h.nb, h.rcv.lo, o.bel⟩, fun hT => by
    rcases m.2 R hT with h1 | h1
    · exact h.nR h1
    · have := heap_lt h.rcv.at_.obj; omega, fun hT => by
    rcases m.2 b hT with h1 | h1
    · exact h.nb h1
    · have := h.rcv.at_.set.lt; omega⟩
theorem Duo.put {w0 w w' : World} {T S : Nat → Prop} {s : Nat} {x : St} {R b : Nat} {L : List Int} (h : Duo w0 w T s x R b L) (t : Turn S w w') (hT : ∀ k, T k → ¬ S k) (hl : ∀ k, k < w0.heap.size → ¬ S k) (h1 : ¬ S R) (h2 : ¬ S b) : Duo w0 w' T s x R b L :=
  ⟨h.own.put t hT hl, ⟨h.rcv.at_.turn t h1 h2, h.rcv.lo, t.belowTrans h.rcv.bel h.rcv.bel.size hl⟩, h.nR, h.nb⟩
/-- What lies in a row of packets is neither's. -/
theorem Duo.line {w0 w w' : World} {T : Nat → Prop} {s : Nat} {x : St} {R b : Nat} {L : List Int} {v : Value} {ps : List Pkt} (h : Duo w0 w T s x R b L) (p : PRow w v ps) (hlo : ∀ k, v.ownBlock = some k → w0.heap.size ≤ k) (t : Turn (fun j => v.ownBlock = some j) w w') : Duo w0 w' T s x R b L :=
  h.put t (fun k hk e => by
    obtain ⟨cur, hc⟩ := p.1.typ k e
    exact h.own.other k hk cur hc) (fun k hk e => by have := hlo k e; omega) (fun e => by
    obtain ⟨cur, hc⟩ := p.1.typ R e
    exact h.rcv.at_.pk.1 cur hc) (fun e => by
    obtain ⟨cur, hc⟩ := p.1.typ b e
    exact h.rcv.at_.pk.2 cur hc)
theorem Duo.got {w0 w w' : World} {T : Nat → Prop} {s : Nat} {x : St} {R b : Nat} {L : List Int} {v : Value} {M : List Msg} (h : Duo w0 w T s x R b L) (p : Want w0 w T v M) (t : Turn (fun j => v.ownBlock = some j) w w') : Duo w0 w' T s x R b L :=
  h.put t (fun k hk e => (p.2 k e).2 hk) (fun k hk e => by have := (p.2 k e).1; omega) (fun e => by
    obtain ⟨cur, hc⟩ := p.1.typ R e
    exact obj_ne h.rcv.at_.obj hc (cells_ne (by decide)) rfl) (fun e => by
    obtain ⟨cur, hc⟩ := p.1.typ b e
    exact map_no h.rcv.at_ _ _ hc)
theorem want_rcv {w0 w w' : World} {T : Nat → Prop} {s : Nat} {x : St} {R b : Nat} {L : List Int} {v : Value} {M : List Msg} (h : Want w0 w T v M) (d : Duo w0 w T s x R b L) (t : Turn (fun k => k = b) w w') : Want w0 w' T v M :=
  h.put t (fun k hk e => by
    subst e
    obtain ⟨cur, hc⟩ := h.1.typ _ hk
    exact map_no d.rcv.at_ _ _ hc)
theorem duo_next (w0 w : World) (T : Nat → Prop) (s : Nat) (x : St) (R b : Nat) (L : List Int) (h : Duo w0 w T s x R b L) : Calls Tryd.prog 21 #[.pointer (some ⟨s, 0, none⟩)] w fun e w' =>
    ∃ A c T', e = .returned (.tuple #[.slice A x.next.2.length c, .int .i64 0]) ∧ PRow w' (.slice A x.next.2.length c) x.next.2 ∧ (∀ k, (Value.slice A x.next.2.length c).ownBlock = some k → w0.heap.size ≤ k) ∧ Duo w0 w' T' s x.next.1 R b L ∧ Moved T T' w w' := by
  refine (own_next w0 w T s x h.own).mono ?_
  rintro e w' ⟨A, n, c, T', rfl, h1, h2, h3, h4⟩
  obtain rfl := h1.len
  exact ⟨A, c, T', rfl, h1, fun k hk => Nat.le_trans h.own.bel.size (h2 k hk), h.move h3 h4, h4⟩
theorem duo_again (w0 w : World) (T : Nat → Prop) (s : Nat) (x : St) (R b : Nat) (L : List Int) (h : Duo w0 w T s x R b L) : Calls Tryd.prog 22 #[.pointer (some ⟨s, 0, none⟩)] w fun e w' =>
    ∃ A c, e = .returned (.tuple #[.slice A x.again.length c, .int .i64 0]) ∧ PRow w' (.slice A x.again.length c) x.again ∧ (∀ k, (Value.slice A x.again.length c).ownBlock = some k → w0.heap.size ≤ k) ∧ Duo w0 w' T s x R b L ∧ Turn (fun _ => False) w w' := by
  refine (own_again w0 w T s x h.own).mono ?_
  rintro e w' ⟨⟨A, n, c, T', rfl, h1, h2, h3, h4⟩, ht⟩
  obtain rfl := h1.len
  exact ⟨A, c, rfl, h1, fun k hk => Nat.le_trans h.own.bel.size (h2 k hk), h.still ht, ht⟩
theorem duo_take (w0 w : World) (T : Nat → Prop) (s : Nat) (x : St) (R b : Nat) (L : List Int) (h : Duo w0 w T s x R b L) (p : Pkt) : Calls Tryd.prog 23 #[.pointer (some ⟨s, 0, none⟩), .agg p.cells] w fun e w' =>
    ∃ A c T', e = .returned (.tuple #[.slice A (x.take p.ty p.id).2.1.length c, .int .i64 (x.take p.ty p.id).2.2]) ∧ PRow w' (.slice A (x.take p.ty p.id).2.1.length c) (x.take p.ty p.id).2.1 ∧ Duo w0 w' T' s (x.take p.ty p.id).1 R b L ∧ Moved T T' w w' := by
  refine (Snd.own_take w0 w T s x h.own p).mono ?_
  rintro e w' ⟨A, n, c, T', rfl, h1, h2, h3, h4⟩
  obtain rfl := h1.len
  exact ⟨A, c, T', rfl, h1, h.move h3 h4, h4⟩
theorem duo_rtake (w0 w : World) (hT : Lib.Utf8Tabs 0 1 w0) (T : Nat → Prop) (s : Nat) (x : St) (R b : Nat) (L : List Int) (h : Duo w0 w T s x R b L) (p : Pkt) (on : Bool) (q : Pkt) (L' : List Int) (hr : rcv L p [] [] = (on, [q], 0, L')) (hb : Bare p) (hp : p.payload.size ≤ 268435455) : Calls Tryd.prog 14 #[.pointer (some ⟨R, 0, none⟩), .agg p.cells] w fun e w' =>
    ∃ A c, e = .returned (.tuple #[.bool on, .slice A 1 c, .int .i64 0]) ∧ PRow w' (.slice A 1 c) [q] ∧ Duo w0 w' T s x R b L' ∧ Turn (fun k => k = b) w w' ∧ ∀ v ps, PRow w v ps → PRow w' v ps := by
  refine (Rcv.own_take w0 w hT R b L h.rcv p [] [] (lies_ack w p hb) (fun hG => good_len (lies_ack w p hb) hG (by simp) (by simp) (fun _ => by omega))).mono ?_
  rw [hr]
  rintro e w' ⟨A, n, c, rfl, h1, h2, h3, h4, h5⟩
  obtain rfl := h1.len
  exact ⟨A, c, rfl, h1, ⟨h.own.put h4 (fun k hk e => h.nb (e ▸ hk)) (fun k hk e => by have := h.rcv.lo; omega), h3, h.nR, h.nb⟩, h4, h5⟩
def RunM (w wr : World) (s R b : Nat) (ms : List Msg) (n at_ : Nat) (gv : Value) (G : List Msg) (lv : Value) (ln : List Pkt) : Prop :=
  ∃ T x L d, Duo w wr T s x R b L ∧ Meet ms x L G d ∧ n ≤ d + min at_ 200 + ln.length ∧ at_ + 2 * mu x ≤ 456 ∧ mu x ≤ 128 ∧ Want w wr T gv G ∧ (ln ≠ [] → Line x ln) ∧ (∀ p ∈ ln, Fine p) ∧ PRow wr lv ln ∧ (∀ k, lv.ownBlock = some k → w.heap.size ≤ k)
end Rcv
end Go.Proofs.YtonemmdipmohgaaDoor

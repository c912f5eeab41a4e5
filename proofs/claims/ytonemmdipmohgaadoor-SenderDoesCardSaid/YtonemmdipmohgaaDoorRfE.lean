/- The reference: a packet's flags, its bytes. -/
import Derived.Test.YtonemmdipmohgaaDoorRfD
namespace Go.Proofs.YtonemmdipmohgaaDoor
open Go.RowKit Go.ChangeShapes
set_option linter.unusedVariables false
set_option linter.unusedSimpArgs false
namespace Ref
open Utf (nums nums_length nums_bytes IsStr nums_str)
open Var (BT info_byte GivesBytes digs digs_length)
open Pk

/-- 'append(out, more...)', and what else was turned. -/
theorem wp_out2 {ops : Array Oper} {rest : List Oper} {o : Oper} {a : Act} {W w : World} {Q : Exit → Act → World → Prop} {g : Nat} {p : Pkt} {A B : Option Addr} {n c m d : Nat} {X Y : List Int} (hgd : o.guard = none) (s x : Operand)
    (ho : o.op = .call { callee := .builtin .append, args := #[s, x], argTypes := #[82, 82] }) (hs : a.eval s = .slice A n c) (hx : a.eval x = .slice B m d) (hm : m = Y.length) (hN : B = none → d = 0) (hR : Reads .u8 W B Y)
    (H : Out w W g p A n c X) (hl : X.length + Y.length ≤ 140737488355328)
    (K : ∀ A1 n1 c1 W1, Hid (Out w W1 g p A1 n1 c1 (X ++ Y)) → Turn (fun j => (Value.slice A n c).ownBlock = some j) W W1 → wpList Tryd.prog ops Q rest (a.put o.dst (.slice A1 n1 c1)) W1) : wpList Tryd.prog ops Q (o :: rest) a W := by
  subst hm
  refine wp_append_row (W := W) (w.heap.size + 1) hgd s x 82 5 .u8 1 ho Tryd.underlying82 info_byte (.slice A n c) X Y B d hs hx hN hR H.own H.at_.lt1 (by omega) ?_
  intro A1 c1 W1 ho1 ht1
  exact K A1 _ c1 W1 ⟨H.at_.grow ht1 (fun j hj => (own_block_ge H.own j hj).1), ho1⟩ ht1

end Ref
end Go.Proofs.YtonemmdipmohgaaDoor

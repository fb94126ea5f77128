/- The shelf's Clone and Delete at ids, in this seat's words; a look-up in the map of ranks. -/
import Derived.Test.YtfjgfabochiflaaHKeyTc
import Derived.Test.YtfjgfabochiflaaHXSmallTc
import Derived.Test.YtfjgfabochiflaaShelf
import Derived.Lib.OwnBridge
namespace Go.Proofs.Ytfjgfabochiflaa.H14.R13
open Go.RowKit Go.Maps Go.WideMaps

theorem below_by {B : Nat} {w0 w w' : World} {g : Nat} (h : Below B w0 w) (hB : B ≤ w.heap.size) (hg : w.grownBy w' (some g)) (hb : B ≤ g) : Below B w0 w' :=
  h.grown hg hB (fun k hk => by cases hk; exact hb)

theorem map_keep {H : Type} {P : Program} {k : TypeId} {R : Value → Option (DataW H × List MemPlace)} {w w' : World} {b n : Nat} {D : DataW H} {B : Nat} (h : w.ownsMap P k R b n D) (hb : Below B w w') (hB : w.heap.size ≤ B) : w'.ownsMap P k R b n D :=
  h.kept (row := none) ⟨hb.os, hb.tape, hb.output, hb.size, fun k hk _ => hb.block k (by omega)⟩ (by simp)

theorem set_take_drop (out : List Int) (b t : Nat) (h : t + 1 < out.length) : (out.set t (256 + (b : Int))).take (t + 1) ++ (out.set t (256 + (b : Int))).drop (t + 2) = merged out b t := by
  rw [merged, List.take_succ_eq_append_getElem (by simp; omega), List.drop_set_of_lt (by omega)]
  simp only [List.take_set]
  rw [List.set_eq_of_length_le (by simp; omega)]
  simp

theorem intsV_set (l : List Int) (t : Nat) (x : Int) : (intsV l).set t (.int .i64 x) = intsV (l.set t x) := by simp [intsV, List.map_set]

/-- 'r, ok := ranks[m]' at the operation -/
theorem wpList_lookup_ranks (w : World) {ops : Array Oper} {rest : List Oper} {o : Oper} {a : Act} {Q : Exit → Act → World → Prop}
    (hgd : o.guard = none) (m x : Operand) (hop : o.op = Op.lookup 160 m x true) (g n : Nat) (D : DataW Unit) (F : Int → Int → Option Nat) (hm : a.eval m = .map (some g))
    (hown : w.ownsMap Try.prog 94 (plainElem Try.prog 3) g n D) (hR : Ranks D F) (p q : Int) (hp : I64 p) (hq : I64 q) (hx : a.eval x = .agg #[.int .i64 p, .int .i64 q])
    (iv : Int) (ok : Bool) (hiv : (match F p q with | some k => (k : Int) | none => 0) = iv) (hok : (F p q).isSome = ok)
    (h : wpList Try.prog ops Q rest (a.put o.dst (.tuple #[.int .i64 iv, .bool ok])) w) :
    wpList Try.prog ops Q (o :: rest) a w := by
  refine wpList_plain hgd fun K' hK' => ?_
  have hrun : (Instr.lookup 160 (.map (some g)) (.agg #[.int .i64 p, .int .i64 q]) true).run Try.prog w = .ok (.tuple #[.int .i64 iv, .bool ok]) w := by
    rw [← hiv, ← hok]
    exact ranks_lookup hown hR p q hp hq
  unfold Oper.wp
  simp [execOp, hop, hm, hx, hrun, Result.andThen]
  exact hK' _ _ h
end Go.Proofs.Ytfjgfabochiflaa.H14.R13

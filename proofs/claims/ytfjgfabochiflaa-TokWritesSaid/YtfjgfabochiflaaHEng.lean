/- heap.New: an engine of merges, some of them left out. -/
import Derived.Test.YtfjgfabochiflaaHMT
import Derived.Test.YtfjgfabochiflaaHKey
import Derived.Test.YtfjgfabochiflaaHCom
import Derived.OwnWalk
import Derived.Lib.OwnBridge
import Derived.Deep.RegionHeld3
namespace Go.Proofs.Ytfjgfabochiflaa.H14
open Go.RowKit Go.Maps Go.WideMaps

def PairC (l : List (Int × Int)) (k j : Nat) : Value := .int .i64 (if j = 0 then (l.getD k (0,0)).1 else (l.getD k (0,0)).2)
/-- a pair's rank, among the first k merges that are not left out -/
def rankTo (dr : Nat → Bool) (l : List (Int × Int)) (a b : Int) : Nat → Option Nat
  | 0 => none
  | n + 1 => match rankTo dr l a b n with
    | some k => some k
    | none => if dr n = false ∧ l.getD n (0, 0) = (a, b) then some n else none
theorem rankTo_out {dr : Nat → Bool} {l : List (Int × Int)} {k : Nat} (h : dr k = true) (a b : Int) : rankTo dr l a b (k + 1) = rankTo dr l a b k := by
  rw [rankTo]
  cases hr : rankTo dr l a b k with
  | some m => rfl
  | none => dsimp only; rw [if_neg (by rw [h]; simp)]
theorem rankTo_old {dr : Nat → Bool} {l : List (Int × Int)} {k : Nat} (h : (rankTo dr l (l.getD k (0,0)).1 (l.getD k (0,0)).2 k).isSome = true) (a b : Int) : rankTo dr l a b (k + 1) = rankTo dr l a b k := by
  rw [rankTo]
  cases hr : rankTo dr l a b k with
  | some m => rfl
  | none =>
    dsimp only
    rw [if_neg]
    rintro ⟨_, e⟩
    rw [e] at h
    dsimp only at h
    rw [hr] at h
    cases h
theorem rankTo_new {dr : Nat → Bool} {l : List (Int × Int)} {k : Nat} (hd : dr k = false) (h : (rankTo dr l (l.getD k (0,0)).1 (l.getD k (0,0)).2 k).isSome = false) (a b : Int) : rankTo dr l a b (k + 1) = if a = (l.getD k (0,0)).1 ∧ b = (l.getD k (0,0)).2 then some k else rankTo dr l a b k := by
  rw [rankTo]
  by_cases e : a = (l.getD k (0,0)).1 ∧ b = (l.getD k (0,0)).2
  · have : rankTo dr l a b k = none := by rw [e.1, e.2]; simpa using h
    rw [this]
    dsimp only
    rw [if_pos ⟨hd, by rw [e.1, e.2]⟩, if_pos e]
  · rw [if_neg e]
    cases hr : rankTo dr l a b k with
    | some m => rfl
    | none =>
      dsimp only
      rw [if_neg]
      rintro ⟨_, e2⟩
      exact e (by rw [e2]; exact ⟨rfl, rfl⟩)
set_option maxRecDepth 100000 in
theorem wpList_lookup_ranks (w : World) {ops : Array Oper} {rest : List Oper} {o : Oper} {a : Act} {Q : Exit → Act → World → Prop}
    (hgd : o.guard = none) (m x : Operand) (hop : o.op = Op.lookup 160 m x true) (g n : Nat) (D : DataW Unit) (F : Int → Int → Option Nat) (hm : a.eval m = .map (some g))
    (hown : w.ownsMap Try.prog 94 (plainElem Try.prog 3) g n D) (hR : Ranks D F) (p q : Int) (hp : I64 p) (hq : I64 q) (hx : a.eval x = .agg #[.int .i64 p, .int .i64 q])
    (iv : Int) (ok : Bool) (hiv : (match F p q with | some k => (k : Int) | none => 0) = iv) (hok : (F p q).isSome = ok)
    (h : wpList Try.prog ops Q rest (a.put o.dst (.tuple #[.int .i64 iv, .bool ok])) w) :
    wpList Try.prog ops Q (o :: rest) a w := by
  refine wpList_plain hgd fun K' hK' => ?_
  have hrun : (Instr.lookup 160 (.map (some g)) (.agg #[.int .i64 p, .int .i64 q]) true).run Try.prog w = .ok (.tuple #[.int .i64 iv, .bool ok]) w := by
    rw [← hiv, ← hok]
    exact ranks_lookup hown hR p q hp hq
  unfold Oper.wp
  simp [execOp, hop, hm, hx, hrun, Result.andThen]
  exact hK' _ _ h
theorem i64_of (a : Int) (h0 : 0 ≤ a) (h1 : a < 9223372036854775807) : I64 a := by
  unfold I64
  exact WalkArith.wf_i64 (by omega)
/-- merge.Right -/
theorem right_any (A : Option Addr) (n c : Nat) (l : List (Int × Int)) (w : World) (hl : l.length = n) (hn : n ≤ 140737488355328) (h1 : Arr w w.heap.size 2 A n (PairC l)) :
    Calls Try.prog 67 #[.slice A n c] w fun e w' => e = .returned (.int .i64 (texts l).2) ∧ Below w.heap.size w w' := by
  go_enter Try.func67, Try.ntmps67
  go_wp2_with fail
  refine (mtexts_any A n c l w hl hn h1).mono ?_
  rintro e w' ⟨v, rfl, _, hb⟩
  go_wp2_with fail
  go_returns
  exact ⟨by first | rfl | simp, hb⟩
/-- slices.BinarySearch in no numbers -/
theorem bs_nil (x : Int) (w : World) : Calls Try.prog 91 #[.slice none 0 0, .int .i64 x] w fun e w' => e = .returned (.tuple #[.int .i64 0, .bool false]) ∧ w' = w := by
  go_enter Try.func91, Try.ntmps91
  go_wp2_with fail
  refine wp_loop_rounds 1 ?_
  rw [rounds_succ]
  go_wp2_with fail
  go_returns
  exact ⟨by first | rfl | simp, rfl⟩
end Go.Proofs.Ytfjgfabochiflaa.H14

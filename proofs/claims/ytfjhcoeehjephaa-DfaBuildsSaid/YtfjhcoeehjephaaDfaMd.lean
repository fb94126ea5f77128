/- Automata: what one is, which may be, where one lies in memory. -/
import Derived.Test.YtfjhcoeehjephaaChecked
import Derived.Test.YtfjhcoeehjephaaNfaMd
import Derived.Deep.MidRow
import Derived.Handy
namespace Go.Proofs.Ytfjhcoeehjephaa
open Go.RowKit


def BoolC (xs : List Bool) : Nat → Nat → Value := fun k _ => .bool (xs.getD k false)
structure Dfa where
  cls : Nat → Nat
  next : List (List Int)
  acc : List Bool
/-- how many classes -/
def Dfa.many (D : Dfa) : Nat := (D.next.getD 0 []).length
/-- is any number below -1, or N or more? -/
def AnyOff (xs : List Int) (N : Int) (k : Nat) : Prop := ∃ j, j < k ∧ (xs.getD j 0 < -1 ∨ N ≤ xs.getD j 0)
def RowOff (D : Dfa) (i : Nat) : Prop := (D.next.getD i []).length ≠ D.many ∨ AnyOff (D.next.getD i []) D.next.length (D.next.getD i []).length
structure RightD (D : Dfa) : Prop where
  lo : 1 ≤ D.next.length
  hi : D.next.length ≤ 400
  alen : D.acc.length = D.next.length
  mlo : 1 ≤ D.many
  mhi : D.many ≤ 256
  cls : ¬ ∃ b, b < 256 ∧ D.many ≤ D.cls b
  rows : ¬ ∃ i, i < D.next.length ∧ RowOff D i
open Classical in
noncomputable def rightD (D : Dfa) : Bool := if RightD D then true else false
theorem rightD_yes {D : Dfa} (h : RightD D) : rightD D = true := by unfold rightD; rw [if_pos h]
theorem rightD_no {D : Dfa} (h : ¬ RightD D) : rightD D = false := by unfold rightD; rw [if_neg h]
open Classical in
noncomputable def offB (xs : List Int) (N : Int) (k : Nat) : Bool := if AnyOff xs N k then true else false
theorem offB_yes {xs : List Int} {N : Int} {k : Nat} (h : AnyOff xs N k) : offB xs N k = true := by unfold offB; rw [if_pos h]
theorem offB_no {xs : List Int} {N : Int} {k : Nat} (h : ¬ AnyOff xs N k) : offB xs N k = false := by unfold offB; rw [if_neg h]
open Classical in
noncomputable def rowsB (D : Dfa) (k : Nat) : Bool := if ∃ i, i < k ∧ RowOff D i then true else false
theorem rowsB_yes {D : Dfa} {k : Nat} (h : ∃ i, i < k ∧ RowOff D i) : rowsB D k = true := by unfold rowsB; rw [if_pos h]
theorem rowsB_no {D : Dfa} {k : Nat} (h : ¬ ∃ i, i < k ∧ RowOff D i) : rowsB D k = false := by unfold rowsB; rw [if_neg h]

/-- rows of a slice of slices -/
def RowC (RA : Nat → Option Addr) (rc : Nat → Nat) (rows : List (List Int)) : Nat → Nat → Value := fun k _ => .slice (RA k) (rows.getD k []).length (rc k)
structure RowsIn (w : World) (A : Option Addr) (n : Nat) (rows : List (List Int)) (RA : Nat → Option Addr) (rc : Nat → Nat) : Prop where
  len : rows.length = n
  le : n ≤ 140737488355328
  arr : Arr w w.heap.size 1 A n (RowC RA rc rows)
  row : ∀ k, k < n → Arr w w.heap.size 1 (RA k) (rows.getD k []).length (NumC .i64 (rows.getD k []))
  small : ∀ k, k < n → (rows.getD k []).length ≤ 140737488355328
theorem RowsIn.keep {w w' : World} {A : Option Addr} {n : Nat} {rows : List (List Int)} {RA : Nat → Option Addr} {rc : Nat → Nat} (h : RowsIn w A n rows RA rc) (hb : Below w.heap.size w w') : RowsIn w' A n rows RA rc :=
  ⟨h.len, h.le, (h.arr.below hb).more hb.size, fun k hk => ((h.row k hk).below hb).more hb.size, h.small⟩
/-- the automaton's 258 cells -/
structure Cells (ds : Array Value) (A1 A2 : Option Addr) (n1 n2 c1 c2 : Nat) (cls : Nat → Nat) : Prop where
  size : ds.size = 258
  cl : ∀ b, b < 256 → ds[b]? = some (.int .u8 (cls b))
  nx : ds[256]? = some (.slice A1 n1 c1)
  ac : ds[257]? = some (.slice A2 n2 c2)
  lt : ∀ b, b < 256 → cls b < 256
structure DfaIn (w : World) (ds : Array Value) (A1 A2 : Option Addr) (n1 n2 c1 c2 : Nat) (D : Dfa) (RA : Nat → Option Addr) (rc : Nat → Nat) : Prop where
  cells : Cells ds A1 A2 n1 n2 c1 c2 D.cls
  next : RowsIn w A1 n1 D.next RA rc
  alen : D.acc.length = n2
  ale : n2 ≤ 140737488355328
  aarr : Arr w w.heap.size 1 A2 n2 (BoolC D.acc)
theorem DfaIn.keep {w w' : World} {ds : Array Value} {A1 A2 : Option Addr} {n1 n2 c1 c2 : Nat} {D : Dfa} {RA : Nat → Option Addr} {rc : Nat → Nat}
    (h : DfaIn w ds A1 A2 n1 n2 c1 c2 D RA rc) (hb : Below w.heap.size w w') : DfaIn w' ds A1 A2 n1 n2 c1 c2 D RA rc :=
  ⟨h.cells, h.next.keep hb, h.alen, h.ale, (h.aarr.below hb).more hb.size⟩
end Go.Proofs.Ytfjhcoeehjephaa

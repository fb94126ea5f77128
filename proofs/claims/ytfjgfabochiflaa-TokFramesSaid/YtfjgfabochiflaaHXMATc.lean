/- The program's Apply: the ids, merged, or refused. -/
import Derived.Test.YtfjgfabochiflaaHKeyTc
import Derived.Test.YtfjgfabochiflaaHXSmallTc
import Derived.Test.YtfjgfabochiflaaShelf
import Derived.Test.YtfjgfabochiflaaHMTTc
import Derived.Lib.OwnBridge
namespace Go.Proofs.Ytfjgfabochiflaa.H14.R13
open Go.RowKit Go.Maps Go.WideMaps

theorem ret_bool {a b : Bool} (h : a = b) : Ending.returned (.bool a) = .returned (.bool b) := by rw [h]

def badId (n : Nat) (i : Int) : Bool := decide (i < 0) || decide (256 + (n : Int) ≤ i)
theorem badId_any (n : Nat) (ids : List Int) : ids.any (badId n) = ids.any (fun i => decide (i < 0) || decide (256 + (n : Int) ≤ i)) := rfl

def idxI (p : Int → Bool) (l : List Int) : Int := if l.any p then 0 else -1
def SomeIdx (b : Bool) (w : World) (e : Ending) (w' : World) : Prop := ∃ r : Int, e = .returned (.int .i64 r) ∧ (0 ≤ r ↔ b = true) ∧ -1 ≤ r ∧ w' = w
theorem any_take_succ (p : Int → Bool) (l : List Int) (k : Nat) (h : k < l.length) : (l.take (k + 1)).any p = ((l.take k).any p || p (l.getD k 0)) := by
  rw [getD_take l k h, List.any_append]; simp
end Go.Proofs.Ytfjgfabochiflaa.H14.R13

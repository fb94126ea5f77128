/- Facts on the program that each law's row wants. -/
import Derived.Test.YtgejpggbmgiocaaRow
import Derived.Test.YtgejpggbmgiocaaRows
import Derived.Test.YtgejpggbmgiocaaCom
import Derived.Lib.SmallJoins
import Derived.Deep.Strs
namespace Go.Proofs.Ytgejpggbmgiocaa
open Go.RowKit Go.ChangeShapes Go.WideShapes Go.ChangeAt Go.Deep Go.Joins

theorem Try.own : ownKnob Try.prog.godebug = none := by kernel_rfl
theorem Try.laidOut : laidOutB Try.prog = true := by kernel_rfl
end Go.Proofs.Ytgejpggbmgiocaa

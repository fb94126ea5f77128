/- Facts on the program that each law's row wants. -/
import Derived.Test.YtklklmaclaohaaaRow
import Derived.Test.YtklklmaclaohaaaRows
import Derived.Test.YtklklmaclaohaaaCom
import Derived.Test.YtklklmaclaohaaaKey
import Derived.Lib.SmallJoins
import Derived.Deep.Strs
namespace Go.Proofs.Ytklklmaclaohaaa
open Go.RowKit Go.ChangeShapes Go.WideShapes Go.ChangeAt Go.Deep Go.Joins

theorem Try.own : ownKnob Try.prog.godebug = none := by kernel_rfl
end Go.Proofs.Ytklklmaclaohaaa

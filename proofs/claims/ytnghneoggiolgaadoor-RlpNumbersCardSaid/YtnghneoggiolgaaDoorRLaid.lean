/- What the rows of this seat list: the tables of Go's library that the trimming of bytes could ask. No proof here looks at them. -/
import Derived.Test.YtnghneoggiolgaaDoorTie
import Derived.Test.YtnghneoggiolgaaDoorROpenB
import Derived.Lay
import Derived.MakeChecks
import Derived.FnData
namespace Go.Proofs.YtnghneoggiolgaaDoor
open Go.RowKit Go.ChangeShapes Go.WideShapes
theorem own : ownKnob Tryd.prog.godebug = none := by kernel_rfl
theorem laidOut : laidOutB Tryd.prog = true := by kernel_rfl
def seatLaid : List (String × DataW Unit) := [("unicode/utf8.acceptRanges", Rows.laid_unicode_utf8_acceptRanges), ("unicode/utf8.first", Rows.laid_unicode_utf8_first)]
end Go.Proofs.YtnghneoggiolgaaDoor

/- masonrybook.LentSpans, StaysSpans: a list with room behind it, in which a mark stands. -/
import Derived.Test.YtiocealhadlggaaBookSpans
import Derived.Test.YtiocealhadlggaaBundle2
namespace Go.Proofs.Ytiocealhadlggaa
open Go.RowKit
set_option linter.unusedVariables false

end Go.Proofs.Ytiocealhadlggaa

/- masonrybook.LentSpans, StaysSpans: a list with room behind it, in which a mark stands. -/
import Derived.Test.YtiocealhadlggaaGreatBookSpans
import Derived.Test.YtiocealhadlggaaGreatBundle2
namespace Go.Proofs.YtiocealhadlggaaGreat
open Go.RowKit
set_option linter.unusedVariables false

end Go.Proofs.YtiocealhadlggaaGreat

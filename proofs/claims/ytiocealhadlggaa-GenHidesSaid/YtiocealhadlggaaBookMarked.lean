/- masonrybook.markedSpans: each list holds its own marks. -/
import Derived.Test.YtiocealhadlggaaBookStill
namespace Go.Proofs.Ytiocealhadlggaa
open Go.RowKit
set_option linter.unusedVariables false

end Go.Proofs.Ytiocealhadlggaa

/- The reference's comparison of two lists of spans. -/
import Derived.Test.YtiocealhadlggaaGreatBookSpans
import Derived.BigQuiet
namespace Go.Proofs.YtiocealhadlggaaGreat
open Go.RowKit
set_option linter.unusedVariables false

end Go.Proofs.YtiocealhadlggaaGreat

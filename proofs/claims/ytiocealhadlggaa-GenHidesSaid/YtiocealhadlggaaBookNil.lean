/- The Book at a kind of which no list is kept. -/
import Derived.Test.YtiocealhadlggaaBundle1
namespace Go.Proofs.Ytiocealhadlggaa
open Go.RowKit
set_option linter.unusedVariables false
end Go.Proofs.Ytiocealhadlggaa


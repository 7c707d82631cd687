/- (*Book).stillSpans, markedSpans: lists of lists that are as they were, or as they were marked. -/
import Derived.Test.YtiocealhadlggaaBookSpans
import Derived.Test.YtiocealhadlggaaBundle2
import Derived.Deep.RegionHeld3
namespace Go.Proofs.Ytiocealhadlggaa
open Go.RowKit
set_option linter.unusedVariables false

theorem below_drew' {B : Nat} {w W : World} (h : Below B w W) : Below B w W.drew := ⟨h.os, h.tape, h.output, h.size, h.block⟩
theorem cell_lt {w : World} {a : Addr} {v : Value} (h : w.cell? a = some v) : a.block < w.heap.size := World.block_lt_of_cell? w _ h

end Go.Proofs.Ytiocealhadlggaa

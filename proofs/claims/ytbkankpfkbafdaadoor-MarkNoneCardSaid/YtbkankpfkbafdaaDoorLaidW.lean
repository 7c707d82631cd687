/- A world in which the two tables of unicode/utf8 lie as they are laid (for the rows that list them). -/
import Derived.Test.YtbkankpfkbafdaaDoorRows
import Derived.Test.YtbkankpfkbafdaaDoorRows0
import Derived.Deep.DeepHandedRow
import Derived.Deep.DeepWitnessRowRef
import Derived.Lib.LaidU8
import Derived.Deep.DeepLaidRun
namespace Go.Proofs.YtbkankpfkbafdaaDoor
open Go.ChangeShapes Go.WideShapes Go.ChangeAt Go.RowKit
set_option linter.unusedVariables false

noncomputable def laidWorld (os : Os) (obs : Array Obj) : World :=
  let w0 := World.holding Tryd.prog os ⟨obs, #[], []⟩
  let put (h : Array Obj) (g : Nat) (cs : Array Value) : Array Obj := h.modify g fun
    | .cells _ t frozen => .cells cs t frozen
    | o => o
  let h1 := put w0.heap ((Tryd.prog.globalNamed "unicode/utf8.first").getD 0) (Lib.firstTab.map fun z => Value.int .u8 z).toArray
  let h2 := put h1 ((Tryd.prog.globalNamed "unicode/utf8.acceptRanges").getD 0) ((List.range 16).flatMap fun i => [Value.int .u8 (Lib.accLo i), Value.int .u8 (Lib.accHi i)]).toArray
  { w0 with heap := h2 }
end Go.Proofs.YtbkankpfkbafdaaDoor

/- A world in which the two tables of unicode/utf8 lie as they are laid (for the rows that list them). -/
import Derived.Test.YtnakneabfnphkaaDoorRows
import Derived.Test.YtnakneabfnphkaaDoorRows0
import Derived.Deep.DeepHandedRow
import Derived.Deep.DeepWitnessRowRef
import Derived.Lib.LaidU8
import Derived.Deep.DeepLaidRun
namespace Go.Proofs.YtnakneabfnphkaaDoor
open Go.ChangeShapes Go.WideShapes Go.ChangeAt Go.RowKit

noncomputable def laidWorld (os : Os) (obs : Array Obj) : World :=
  let w0 := World.holding Tryd.prog os ⟨obs, #[], []⟩
  let put (h : Array Obj) (g : Nat) (cs : Array Value) : Array Obj := h.modify g fun
    | .cells _ t frozen => .cells cs t frozen
    | o => o
  let h1 := put w0.heap ((Tryd.prog.globalNamed "unicode/utf8.first").getD 0) (Lib.firstTab.map fun z => Value.int .u8 z).toArray
  let h2 := put h1 ((Tryd.prog.globalNamed "unicode/utf8.acceptRanges").getD 0) ((List.range 16).flatMap fun i => [Value.int .u8 (Lib.accLo i), Value.int .u8 (Lib.accHi i)]).toArray
  { w0 with heap := h2 }
theorem laid_met (os : Os) (args : Array Value) : laidMet Tryd.prog Rows.bitsNoneRow.laid ((laidWorld os #[]).forCall (fun _ _ => 0) ⟨#[], args, []⟩).memory :=
  laidMet_of_run3 10 (by kernel_rfl) (by kernel_rfl) (by kernel_rfl)
theorem witness_row (os : Os) {H : Type} (enc : TypeId × Value → H) :
    (OpenSpec.ofChange Rows.bitsNoneSpec).preRow enc Tryd.prog Tryd.f8 Rows.bitsNoneRow.domain false Rows.bitsNoneRow.laid ((laidWorld os #[]).forCall (fun _ _ => 0) ⟨#[], #[.int .i64 0, .string ⟨#[]⟩], []⟩).memory #[.int .i64 0, .string ⟨#[]⟩] := by
  have hw : (DataW.whole enc Tryd.prog ((laidWorld os #[]).forCall (fun _ _ => 0) ⟨#[], #[.int .i64 0, .string ⟨#[]⟩], []⟩).memory Tryd.f8.params.toList (OpenSpec.ofChange Rows.bitsNoneSpec).vars false #[Value.int .i64 0, Value.string ⟨#[]⟩].toList 8).map (fun x => (x.1, x.2.1)) =
      some ([.lit (.int .i64 0), .lit (.string [])], []) := by kernel_rfl
  obtain ⟨⟨x1, x2, x3⟩, hx, hx1⟩ := Option.map_eq_some_iff.1 hw
  simp only [Prod.mk.injEq] at hx1
  obtain ⟨rfl, rfl⟩ := hx1
  exact OpenSpec.preRow_of_cond 8 hx (by kernel_rfl) (fun k hk => by cases hk) (by kernel_rfl) (laid_met os _)
end Go.Proofs.YtnakneabfnphkaaDoor

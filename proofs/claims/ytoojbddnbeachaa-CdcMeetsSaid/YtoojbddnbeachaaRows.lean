/-
  No cell of these rows narrows 'for every input' (looked for: loops, veiled, ifaces, maps, wideKeys, modest, calm, conditions, laid).
  DERIVED. THE GIVEN ROWS OF THIS SEAT. 11 by the template 'for every input the law returns true; each argument reads behind the call as it read before'; 0 by the template 'total and deterministic' (their statements: YtoojbddnbeachaaTotals.lean).
  GIVEN WITH THE SEED: the statements are not yours to turn. If you find one false, say at which input.
  Laid BY PROGRAM, IN A SANDBOX (cutbox-rows.mjs): the forced cells as the released guide's own fill.sh prints them over the translation a5a9456fe1cdd93d… (all of the seat's roots in one cut). By AI agents, Wed Nov 11 2026. No macro, syntax, notation, axiom, sorry.
-/
import Derived.Test.YtoojbddnbeachaaChecked
import GoSem.Claim
import GoSem.ClaimJoined
import GoSem.ClaimMapViews
import Derived.JoinedTies
import Derived.KernelRfl
namespace Go.Proofs.Ytoojbddnbeachaa
/- THE CELL 'sum', in the pinned program and in every row, IS THE sha256 OF THE DUMP (.gsa) THAT YtoojbddnbeachaaProg.lean LOADS. Nothing in Lean hashes anything: it is a label: what it is worth is what the hold of that sum in a sandbox is worth. -/
noncomputable def Try.pinned : Pinned := { name := "ytoojbddnbeachaa", sum := "a5a9456fe1cdd93d0e7c2b5e66c4fde3fc71ff7ba942def1df64509185f19a3d", checked := Try.checked }
namespace Rows
def none {H : Type} : Left H := { results := [], args := [] }

/-- 'masonrylaw5.GearTells': WHATEVER THE INPUT: true; the input reads as it did. -/
def gearTellsSpec : ChangeSpec := { name := "gearTells", fn := fun _ => fun
  | [d1, d2, d3] => { results := [.lit (.bool true)], args := [d1, d2, d3] }
  | _ => none }
def gearTellsRow : OpenClaim := { program := "ytoojbddnbeachaa", sum := "a5a9456fe1cdd93d0e7c2b5e66c4fde3fc71ff7ba942def1df64509185f19a3d", func := "masonry/masonrylaw5.GearTells", spec := "gearTells", apart := false }
def GearTellsSaid : Prop := gearTellsRow.holds Try.pinned (OpenSpec.ofChange gearTellsSpec)

/-- ITS FALSE NEIGHBOUR: 'it returns false'. Refute it at one input. -/
def gearTellsWrong : ChangeSpec := { name := "gearTells", fn := fun _ => fun
  | [d1, d2, d3] => { results := [.lit (.bool false)], args := [d1, d2, d3] }
  | _ => none }
def GearTellsWrongFalsely : Prop := gearTellsRow.holds Try.pinned (OpenSpec.ofChange gearTellsWrong)

/-- 'masonrylaw5.GearForgets': WHATEVER THE INPUT: true; the input reads as it did. -/
def gearForgetsSpec : ChangeSpec := { name := "gearForgets", fn := fun _ => fun
  | [d1, d2, d3] => { results := [.lit (.bool true)], args := [d1, d2, d3] }
  | _ => none }
def gearForgetsRow : OpenClaim := { program := "ytoojbddnbeachaa", sum := "a5a9456fe1cdd93d0e7c2b5e66c4fde3fc71ff7ba942def1df64509185f19a3d", func := "masonry/masonrylaw5.GearForgets", spec := "gearForgets", apart := false }
def GearForgetsSaid : Prop := gearForgetsRow.holds Try.pinned (OpenSpec.ofChange gearForgetsSpec)

/-- ITS FALSE NEIGHBOUR: 'it returns false'. Refute it at one input. -/
def gearForgetsWrong : ChangeSpec := { name := "gearForgets", fn := fun _ => fun
  | [d1, d2, d3] => { results := [.lit (.bool false)], args := [d1, d2, d3] }
  | _ => none }
def GearForgetsWrongFalsely : Prop := gearForgetsRow.holds Try.pinned (OpenSpec.ofChange gearForgetsWrong)

/-- 'masonrylaw5.GearSteps': WHATEVER THE INPUT: true; the input reads as it did. -/
def gearStepsSpec : ChangeSpec := { name := "gearSteps", fn := fun _ => fun
  | [d1, d2] => { results := [.lit (.bool true)], args := [d1, d2] }
  | _ => none }
def gearStepsRow : OpenClaim := { program := "ytoojbddnbeachaa", sum := "a5a9456fe1cdd93d0e7c2b5e66c4fde3fc71ff7ba942def1df64509185f19a3d", func := "masonry/masonrylaw5.GearSteps", spec := "gearSteps", apart := false }
def GearStepsSaid : Prop := gearStepsRow.holds Try.pinned (OpenSpec.ofChange gearStepsSpec)

/-- ITS FALSE NEIGHBOUR: 'it returns false'. Refute it at one input. -/
def gearStepsWrong : ChangeSpec := { name := "gearSteps", fn := fun _ => fun
  | [d1, d2] => { results := [.lit (.bool false)], args := [d1, d2] }
  | _ => none }
def GearStepsWrongFalsely : Prop := gearStepsRow.holds Try.pinned (OpenSpec.ofChange gearStepsWrong)

/-- 'masonrylaw13.FixedTouches': WHATEVER THE INPUT: true; the input reads as it did. -/
def fixedTouchesSpec : ChangeSpec := { name := "fixedTouches", fn := fun _ => fun
  | [d1, d2, d3] => { results := [.lit (.bool true)], args := [d1, d2, d3] }
  | _ => none }
def fixedTouchesRow : OpenClaim := { program := "ytoojbddnbeachaa", sum := "a5a9456fe1cdd93d0e7c2b5e66c4fde3fc71ff7ba942def1df64509185f19a3d", func := "masonry/masonrylaw13.FixedTouches", spec := "fixedTouches", apart := false }
def FixedTouchesSaid : Prop := fixedTouchesRow.holds Try.pinned (OpenSpec.ofChange fixedTouchesSpec)

/-- ITS FALSE NEIGHBOUR: 'it returns false'. Refute it at one input. -/
def fixedTouchesWrong : ChangeSpec := { name := "fixedTouches", fn := fun _ => fun
  | [d1, d2, d3] => { results := [.lit (.bool false)], args := [d1, d2, d3] }
  | _ => none }
def FixedTouchesWrongFalsely : Prop := fixedTouchesRow.holds Try.pinned (OpenSpec.ofChange fixedTouchesWrong)

/-- 'masonrylaw13.FixedWhole': WHATEVER THE INPUT: true; the input reads as it did. -/
def fixedWholeSpec : ChangeSpec := { name := "fixedWhole", fn := fun _ => fun
  | [d1, d2, d3] => { results := [.lit (.bool true)], args := [d1, d2, d3] }
  | _ => none }
def fixedWholeRow : OpenClaim := { program := "ytoojbddnbeachaa", sum := "a5a9456fe1cdd93d0e7c2b5e66c4fde3fc71ff7ba942def1df64509185f19a3d", func := "masonry/masonrylaw13.FixedWhole", spec := "fixedWhole", inPlace := ["internal/abi.NoEscape"], apart := false }
def FixedWholeSaid : Prop := fixedWholeRow.holds Try.pinned (OpenSpec.ofChange fixedWholeSpec)

/-- ITS FALSE NEIGHBOUR: 'it returns false'. Refute it at one input. -/
def fixedWholeWrong : ChangeSpec := { name := "fixedWhole", fn := fun _ => fun
  | [d1, d2, d3] => { results := [.lit (.bool false)], args := [d1, d2, d3] }
  | _ => none }
def FixedWholeWrongFalsely : Prop := fixedWholeRow.holds Try.pinned (OpenSpec.ofChange fixedWholeWrong)

/-- 'masonrylaw13.FixedTells': WHATEVER THE INPUT: true; the input reads as it did. -/
def fixedTellsSpec : ChangeSpec := { name := "fixedTells", fn := fun _ => fun
  | [d1, d2, d3, d4, d5, d6, d7] => { results := [.lit (.bool true)], args := [d1, d2, d3, d4, d5, d6, d7] }
  | _ => none }
def fixedTellsRow : OpenClaim := { program := "ytoojbddnbeachaa", sum := "a5a9456fe1cdd93d0e7c2b5e66c4fde3fc71ff7ba942def1df64509185f19a3d", func := "masonry/masonrylaw13.FixedTells", spec := "fixedTells", inPlace := ["internal/abi.NoEscape"], apart := false }
def FixedTellsSaid : Prop := fixedTellsRow.holds Try.pinned (OpenSpec.ofChange fixedTellsSpec)

/-- ITS FALSE NEIGHBOUR: 'it returns false'. Refute it at one input. -/
def fixedTellsWrong : ChangeSpec := { name := "fixedTells", fn := fun _ => fun
  | [d1, d2, d3, d4, d5, d6, d7] => { results := [.lit (.bool false)], args := [d1, d2, d3, d4, d5, d6, d7] }
  | _ => none }
def FixedTellsWrongFalsely : Prop := fixedTellsRow.holds Try.pinned (OpenSpec.ofChange fixedTellsWrong)

/-- 'masonrylaw14.CdcTells': WHATEVER THE INPUT: true; the input reads as it did. -/
def cdcTellsSpec : ChangeSpec := { name := "cdcTells", fn := fun _ => fun
  | [d1, d2, d3] => { results := [.lit (.bool true)], args := [d1, d2, d3] }
  | _ => none }
def cdcTellsRow : OpenClaim := { program := "ytoojbddnbeachaa", sum := "a5a9456fe1cdd93d0e7c2b5e66c4fde3fc71ff7ba942def1df64509185f19a3d", func := "masonry/masonrylaw14.CdcTells", spec := "cdcTells", inPlace := ["internal/abi.NoEscape", "internal/bytealg.MakeNoZero"], apart := false }
def CdcTellsSaid : Prop := cdcTellsRow.holds Try.pinned (OpenSpec.ofChange cdcTellsSpec)

/-- ITS FALSE NEIGHBOUR: 'it returns false'. Refute it at one input. -/
def cdcTellsWrong : ChangeSpec := { name := "cdcTells", fn := fun _ => fun
  | [d1, d2, d3] => { results := [.lit (.bool false)], args := [d1, d2, d3] }
  | _ => none }
def CdcTellsWrongFalsely : Prop := cdcTellsRow.holds Try.pinned (OpenSpec.ofChange cdcTellsWrong)

/-- 'masonrylaw14.CdcBounds': WHATEVER THE INPUT: true; the input reads as it did. -/
def cdcBoundsSpec : ChangeSpec := { name := "cdcBounds", fn := fun _ => fun
  | [d1, d2, d3] => { results := [.lit (.bool true)], args := [d1, d2, d3] }
  | _ => none }
def cdcBoundsRow : OpenClaim := { program := "ytoojbddnbeachaa", sum := "a5a9456fe1cdd93d0e7c2b5e66c4fde3fc71ff7ba942def1df64509185f19a3d", func := "masonry/masonrylaw14.CdcBounds", spec := "cdcBounds", inPlace := ["internal/abi.NoEscape", "internal/bytealg.MakeNoZero"], apart := false }
def CdcBoundsSaid : Prop := cdcBoundsRow.holds Try.pinned (OpenSpec.ofChange cdcBoundsSpec)

/-- ITS FALSE NEIGHBOUR: 'it returns false'. Refute it at one input. -/
def cdcBoundsWrong : ChangeSpec := { name := "cdcBounds", fn := fun _ => fun
  | [d1, d2, d3] => { results := [.lit (.bool false)], args := [d1, d2, d3] }
  | _ => none }
def CdcBoundsWrongFalsely : Prop := cdcBoundsRow.holds Try.pinned (OpenSpec.ofChange cdcBoundsWrong)

/-- 'masonrylaw14.CdcMeets': WHATEVER THE INPUT: true; the input reads as it did. -/
def cdcMeetsSpec : ChangeSpec := { name := "cdcMeets", fn := fun _ => fun
  | [d1, d2, d3] => { results := [.lit (.bool true)], args := [d1, d2, d3] }
  | _ => none }
def cdcMeetsRow : OpenClaim := { program := "ytoojbddnbeachaa", sum := "a5a9456fe1cdd93d0e7c2b5e66c4fde3fc71ff7ba942def1df64509185f19a3d", func := "masonry/masonrylaw14.CdcMeets", spec := "cdcMeets", inPlace := ["internal/abi.NoEscape", "internal/bytealg.MakeNoZero"], apart := false }
def CdcMeetsSaid : Prop := cdcMeetsRow.holds Try.pinned (OpenSpec.ofChange cdcMeetsSpec)

/-- ITS FALSE NEIGHBOUR: 'it returns false'. Refute it at one input. -/
def cdcMeetsWrong : ChangeSpec := { name := "cdcMeets", fn := fun _ => fun
  | [d1, d2, d3] => { results := [.lit (.bool false)], args := [d1, d2, d3] }
  | _ => none }
def CdcMeetsWrongFalsely : Prop := cdcMeetsRow.holds Try.pinned (OpenSpec.ofChange cdcMeetsWrong)

/-- 'masonrylaw14.CdcAlone': WHATEVER THE INPUT: true; the input reads as it did. -/
def cdcAloneSpec : ChangeSpec := { name := "cdcAlone", fn := fun _ => fun
  | [d1, d2, d3] => { results := [.lit (.bool true)], args := [d1, d2, d3] }
  | _ => none }
def cdcAloneRow : OpenClaim := { program := "ytoojbddnbeachaa", sum := "a5a9456fe1cdd93d0e7c2b5e66c4fde3fc71ff7ba942def1df64509185f19a3d", func := "masonry/masonrylaw14.CdcAlone", spec := "cdcAlone", inPlace := ["internal/abi.NoEscape", "internal/bytealg.MakeNoZero"], apart := false }
def CdcAloneSaid : Prop := cdcAloneRow.holds Try.pinned (OpenSpec.ofChange cdcAloneSpec)

/-- ITS FALSE NEIGHBOUR: 'it returns false'. Refute it at one input. -/
def cdcAloneWrong : ChangeSpec := { name := "cdcAlone", fn := fun _ => fun
  | [d1, d2, d3] => { results := [.lit (.bool false)], args := [d1, d2, d3] }
  | _ => none }
def CdcAloneWrongFalsely : Prop := cdcAloneRow.holds Try.pinned (OpenSpec.ofChange cdcAloneWrong)

/-- 'masonrylaw14.CdcSame': WHATEVER THE INPUT: true; the input reads as it did. -/
def cdcSameSpec : ChangeSpec := { name := "cdcSame", fn := fun _ => fun
  | [d] => { results := [.lit (.bool true)], args := [d] }
  | _ => none }
def cdcSameRow : OpenClaim := { program := "ytoojbddnbeachaa", sum := "a5a9456fe1cdd93d0e7c2b5e66c4fde3fc71ff7ba942def1df64509185f19a3d", func := "masonry/masonrylaw14.CdcSame", spec := "cdcSame", inPlace := ["internal/abi.NoEscape", "internal/bytealg.MakeNoZero"], apart := false }
def CdcSameSaid : Prop := cdcSameRow.holds Try.pinned (OpenSpec.ofChange cdcSameSpec)

/-- ITS FALSE NEIGHBOUR: 'it returns false'. Refute it at one input. -/
def cdcSameWrong : ChangeSpec := { name := "cdcSame", fn := fun _ => fun
  | [d] => { results := [.lit (.bool false)], args := [d] }
  | _ => none }
def CdcSameWrongFalsely : Prop := cdcSameRow.holds Try.pinned (OpenSpec.ofChange cdcSameWrong)

/- THE SECOND FORM. 'bulk': how many values and letters a reading holds, each counted each time it is reached (what is shared counts as often as it is met; a slice's spare places count too). A statement '..UptoSaid' is the law's where the arguments, and the package variables that the reading takes, are together of bulk at most 1048576: NARROWER than '..Said'. Prove '..Said' where nothing that the law and all that it calls make is longer than what came in: it says more and counts as full. Else prove '..UptoSaid'. A law counts once. -/
mutual
def uptoBulk {H : Type} : DataW H → Nat
  | .lit (.string bytes) => bytes.length + 1
  | .lit _ => 1
  | .nil => 1
  | .ptr d => uptoBulk d + 1
  | .slice elems spare => uptoBulkAll elems + uptoBulkAll spare + 1
  | .agg parts => uptoBulkAll parts + 1
  | .iface _ d => uptoBulk d + 1
  | .map entries => uptoBulkEntries entries + 1
  | .held _ => 1
def uptoBulkAll {H : Type} : List (DataW H) → Nat
  | [] => 0
  | d :: r => uptoBulk d + uptoBulkAll r
def uptoBulkEntries {H : Type} : List (Lit × DataW H) → Nat
  | [] => 0
  | x :: r => uptoBulkEntry x + uptoBulkEntries r
def uptoBulkEntry {H : Type} : Lit × DataW H → Nat
  | (.string bytes, d) => bytes.length + uptoBulk d + 1
  | (_, d) => uptoBulk d + 1
 end
def uptoSmall : (H : Type) → List (DataW H) → Bool := fun _ ds => decide (uptoBulkAll ds ≤ 1048576)
def OpenSpec.upto (s : _root_.Go.ChangeSpec) : _root_.Go.OpenSpec := { _root_.Go.OpenSpec.ofChange s with cond := some uptoSmall }

/-- 'masonrylaw5.GearTells', WHERE WHAT IT READS IS OF BULK AT MOST 1048576: true; the input reads as it did. -/
def gearTellsUptoRow : OpenClaim := { program := "ytoojbddnbeachaa", sum := "a5a9456fe1cdd93d0e7c2b5e66c4fde3fc71ff7ba942def1df64509185f19a3d", func := "masonry/masonrylaw5.GearTells", spec := "gearTells", apart := false, narrowed := true }
def GearTellsUptoSaid : Prop := gearTellsUptoRow.holds Try.pinned (OpenSpec.upto gearTellsSpec)

/-- 'masonrylaw5.GearForgets', WHERE WHAT IT READS IS OF BULK AT MOST 1048576: true; the input reads as it did. -/
def gearForgetsUptoRow : OpenClaim := { program := "ytoojbddnbeachaa", sum := "a5a9456fe1cdd93d0e7c2b5e66c4fde3fc71ff7ba942def1df64509185f19a3d", func := "masonry/masonrylaw5.GearForgets", spec := "gearForgets", apart := false, narrowed := true }
def GearForgetsUptoSaid : Prop := gearForgetsUptoRow.holds Try.pinned (OpenSpec.upto gearForgetsSpec)

/-- 'masonrylaw5.GearSteps', WHERE WHAT IT READS IS OF BULK AT MOST 1048576: true; the input reads as it did. -/
def gearStepsUptoRow : OpenClaim := { program := "ytoojbddnbeachaa", sum := "a5a9456fe1cdd93d0e7c2b5e66c4fde3fc71ff7ba942def1df64509185f19a3d", func := "masonry/masonrylaw5.GearSteps", spec := "gearSteps", apart := false, narrowed := true }
def GearStepsUptoSaid : Prop := gearStepsUptoRow.holds Try.pinned (OpenSpec.upto gearStepsSpec)

/-- 'masonrylaw13.FixedTouches', WHERE WHAT IT READS IS OF BULK AT MOST 1048576: true; the input reads as it did. -/
def fixedTouchesUptoRow : OpenClaim := { program := "ytoojbddnbeachaa", sum := "a5a9456fe1cdd93d0e7c2b5e66c4fde3fc71ff7ba942def1df64509185f19a3d", func := "masonry/masonrylaw13.FixedTouches", spec := "fixedTouches", apart := false, narrowed := true }
def FixedTouchesUptoSaid : Prop := fixedTouchesUptoRow.holds Try.pinned (OpenSpec.upto fixedTouchesSpec)

/-- 'masonrylaw13.FixedWhole', WHERE WHAT IT READS IS OF BULK AT MOST 1048576: true; the input reads as it did. -/
def fixedWholeUptoRow : OpenClaim := { program := "ytoojbddnbeachaa", sum := "a5a9456fe1cdd93d0e7c2b5e66c4fde3fc71ff7ba942def1df64509185f19a3d", func := "masonry/masonrylaw13.FixedWhole", spec := "fixedWhole", inPlace := ["internal/abi.NoEscape"], apart := false, narrowed := true }
def FixedWholeUptoSaid : Prop := fixedWholeUptoRow.holds Try.pinned (OpenSpec.upto fixedWholeSpec)

/-- 'masonrylaw13.FixedTells', WHERE WHAT IT READS IS OF BULK AT MOST 1048576: true; the input reads as it did. -/
def fixedTellsUptoRow : OpenClaim := { program := "ytoojbddnbeachaa", sum := "a5a9456fe1cdd93d0e7c2b5e66c4fde3fc71ff7ba942def1df64509185f19a3d", func := "masonry/masonrylaw13.FixedTells", spec := "fixedTells", inPlace := ["internal/abi.NoEscape"], apart := false, narrowed := true }
def FixedTellsUptoSaid : Prop := fixedTellsUptoRow.holds Try.pinned (OpenSpec.upto fixedTellsSpec)

/-- 'masonrylaw14.CdcTells', WHERE WHAT IT READS IS OF BULK AT MOST 1048576: true; the input reads as it did. -/
def cdcTellsUptoRow : OpenClaim := { program := "ytoojbddnbeachaa", sum := "a5a9456fe1cdd93d0e7c2b5e66c4fde3fc71ff7ba942def1df64509185f19a3d", func := "masonry/masonrylaw14.CdcTells", spec := "cdcTells", inPlace := ["internal/abi.NoEscape", "internal/bytealg.MakeNoZero"], apart := false, narrowed := true }
def CdcTellsUptoSaid : Prop := cdcTellsUptoRow.holds Try.pinned (OpenSpec.upto cdcTellsSpec)

/-- 'masonrylaw14.CdcBounds', WHERE WHAT IT READS IS OF BULK AT MOST 1048576: true; the input reads as it did. -/
def cdcBoundsUptoRow : OpenClaim := { program := "ytoojbddnbeachaa", sum := "a5a9456fe1cdd93d0e7c2b5e66c4fde3fc71ff7ba942def1df64509185f19a3d", func := "masonry/masonrylaw14.CdcBounds", spec := "cdcBounds", inPlace := ["internal/abi.NoEscape", "internal/bytealg.MakeNoZero"], apart := false, narrowed := true }
def CdcBoundsUptoSaid : Prop := cdcBoundsUptoRow.holds Try.pinned (OpenSpec.upto cdcBoundsSpec)

/-- 'masonrylaw14.CdcMeets', WHERE WHAT IT READS IS OF BULK AT MOST 1048576: true; the input reads as it did. -/
def cdcMeetsUptoRow : OpenClaim := { program := "ytoojbddnbeachaa", sum := "a5a9456fe1cdd93d0e7c2b5e66c4fde3fc71ff7ba942def1df64509185f19a3d", func := "masonry/masonrylaw14.CdcMeets", spec := "cdcMeets", inPlace := ["internal/abi.NoEscape", "internal/bytealg.MakeNoZero"], apart := false, narrowed := true }
def CdcMeetsUptoSaid : Prop := cdcMeetsUptoRow.holds Try.pinned (OpenSpec.upto cdcMeetsSpec)

/-- 'masonrylaw14.CdcAlone', WHERE WHAT IT READS IS OF BULK AT MOST 1048576: true; the input reads as it did. -/
def cdcAloneUptoRow : OpenClaim := { program := "ytoojbddnbeachaa", sum := "a5a9456fe1cdd93d0e7c2b5e66c4fde3fc71ff7ba942def1df64509185f19a3d", func := "masonry/masonrylaw14.CdcAlone", spec := "cdcAlone", inPlace := ["internal/abi.NoEscape", "internal/bytealg.MakeNoZero"], apart := false, narrowed := true }
def CdcAloneUptoSaid : Prop := cdcAloneUptoRow.holds Try.pinned (OpenSpec.upto cdcAloneSpec)

/-- 'masonrylaw14.CdcSame', WHERE WHAT IT READS IS OF BULK AT MOST 1048576: true; the input reads as it did. -/
def cdcSameUptoRow : OpenClaim := { program := "ytoojbddnbeachaa", sum := "a5a9456fe1cdd93d0e7c2b5e66c4fde3fc71ff7ba942def1df64509185f19a3d", func := "masonry/masonrylaw14.CdcSame", spec := "cdcSame", inPlace := ["internal/abi.NoEscape", "internal/bytealg.MakeNoZero"], apart := false, narrowed := true }
def CdcSameUptoSaid : Prop := cdcSameUptoRow.holds Try.pinned (OpenSpec.upto cdcSameSpec)

end Rows
end Go.Proofs.Ytoojbddnbeachaa

/-
  No cell of these rows narrows 'for every input' (looked for: loops, veiled, ifaces, maps, wideKeys, modest, calm, conditions, laid).
  DERIVED. THE GIVEN ROWS OF THIS SEAT. 14 by the template 'for every input the law returns true; each argument reads behind the call as it read before'; 0 by the template 'total and deterministic' (their statements: YteokcbgaljhpgaaTotals.lean).
  GIVEN WITH THE SEED: the statements are not yours to turn. If you find one false, say at which input.
  Laid BY PROGRAM, IN A SANDBOX (cutbox-rows.mjs): the forced cells as the released guide's own fill.sh prints them over the translation ae6a6a49930c1c88… (all of the seat's roots in one cut). By AI agents, Wed Nov 11 2026. No macro, syntax, notation, axiom, sorry.
-/
import Derived.Test.YteokcbgaljhpgaaChecked
import GoSem.Claim
import GoSem.ClaimJoined
import GoSem.ClaimMapViews
import Derived.JoinedTies
import Derived.KernelRfl
namespace Go.Proofs.Yteokcbgaljhpgaa
/- THE CELL 'sum', in the pinned program and in every row, IS THE sha256 OF THE DUMP (.gsa) THAT YteokcbgaljhpgaaProg.lean LOADS. Nothing in Lean hashes anything: it is a label: what it is worth is what the hold of that sum in a sandbox is worth. -/
noncomputable def Try.pinned : Pinned := { name := "yteokcbgaljhpgaa", sum := "ae6a6a49930c1c883c6e5830a98c8da401876013ff2a6284028434234b787997", checked := Try.checked }
namespace Rows
def none {H : Type} : Left H := { results := [], args := [] }

/-- 'masonrylaw2.CrcParts': WHATEVER THE INPUT: true; the input reads as it did. -/
def crcPartsSpec : ChangeSpec := { name := "crcParts", fn := fun _ => fun
  | [d1, d2] => { results := [.lit (.bool true)], args := [d1, d2] }
  | _ => none }
def crcPartsRow : OpenClaim := { program := "yteokcbgaljhpgaa", sum := "ae6a6a49930c1c883c6e5830a98c8da401876013ff2a6284028434234b787997", func := "masonry/masonrylaw2.CrcParts", spec := "crcParts", apart := false }
def CrcPartsSaid : Prop := crcPartsRow.holds Try.pinned (OpenSpec.ofChange crcPartsSpec)

/-- ITS FALSE NEIGHBOUR: 'it returns false'. Refute it at one input. -/
def crcPartsWrong : ChangeSpec := { name := "crcParts", fn := fun _ => fun
  | [d1, d2] => { results := [.lit (.bool false)], args := [d1, d2] }
  | _ => none }
def CrcPartsWrongFalsely : Prop := crcPartsRow.holds Try.pinned (OpenSpec.ofChange crcPartsWrong)

/-- 'masonrylaw2.CrcTells': WHATEVER THE INPUT: true; the input reads as it did. -/
def crcTellsSpec : ChangeSpec := { name := "crcTells", fn := fun _ => fun
  | [d1, d2, d3] => { results := [.lit (.bool true)], args := [d1, d2, d3] }
  | _ => none }
def crcTellsRow : OpenClaim := { program := "yteokcbgaljhpgaa", sum := "ae6a6a49930c1c883c6e5830a98c8da401876013ff2a6284028434234b787997", func := "masonry/masonrylaw2.CrcTells", spec := "crcTells", apart := false }
def CrcTellsSaid : Prop := crcTellsRow.holds Try.pinned (OpenSpec.ofChange crcTellsSpec)

/-- ITS FALSE NEIGHBOUR: 'it returns false'. Refute it at one input. -/
def crcTellsWrong : ChangeSpec := { name := "crcTells", fn := fun _ => fun
  | [d1, d2, d3] => { results := [.lit (.bool false)], args := [d1, d2, d3] }
  | _ => none }
def CrcTellsWrongFalsely : Prop := crcTellsRow.holds Try.pinned (OpenSpec.ofChange crcTellsWrong)

/-- 'masonrylaw2.CrcChanged': WHATEVER THE INPUT: true; the input reads as it did. -/
def crcChangedSpec : ChangeSpec := { name := "crcChanged", fn := fun _ => fun
  | [d1, d2, d3, d4] => { results := [.lit (.bool true)], args := [d1, d2, d3, d4] }
  | _ => none }
def crcChangedRow : OpenClaim := { program := "yteokcbgaljhpgaa", sum := "ae6a6a49930c1c883c6e5830a98c8da401876013ff2a6284028434234b787997", func := "masonry/masonrylaw2.CrcChanged", spec := "crcChanged", apart := false }
def CrcChangedSaid : Prop := crcChangedRow.holds Try.pinned (OpenSpec.ofChange crcChangedSpec)

/-- ITS FALSE NEIGHBOUR: 'it returns false'. Refute it at one input. -/
def crcChangedWrong : ChangeSpec := { name := "crcChanged", fn := fun _ => fun
  | [d1, d2, d3, d4] => { results := [.lit (.bool false)], args := [d1, d2, d3, d4] }
  | _ => none }
def CrcChangedWrongFalsely : Prop := crcChangedRow.holds Try.pinned (OpenSpec.ofChange crcChangedWrong)

/-- 'masonrylaw2.CrcWithin': WHATEVER THE INPUT: true; the input reads as it did. -/
def crcWithinSpec : ChangeSpec := { name := "crcWithin", fn := fun _ => fun
  | [d1, d2] => { results := [.lit (.bool true)], args := [d1, d2] }
  | _ => none }
def crcWithinRow : OpenClaim := { program := "yteokcbgaljhpgaa", sum := "ae6a6a49930c1c883c6e5830a98c8da401876013ff2a6284028434234b787997", func := "masonry/masonrylaw2.CrcWithin", spec := "crcWithin", apart := false }
def CrcWithinSaid : Prop := crcWithinRow.holds Try.pinned (OpenSpec.ofChange crcWithinSpec)

/-- ITS FALSE NEIGHBOUR: 'it returns false'. Refute it at one input. -/
def crcWithinWrong : ChangeSpec := { name := "crcWithin", fn := fun _ => fun
  | [d1, d2] => { results := [.lit (.bool false)], args := [d1, d2] }
  | _ => none }
def CrcWithinWrongFalsely : Prop := crcWithinRow.holds Try.pinned (OpenSpec.ofChange crcWithinWrong)

/-- 'masonrylaw3.OneTells': WHATEVER THE INPUT: true; the input reads as it did. -/
def oneTellsSpec : ChangeSpec := { name := "oneTells", fn := fun _ => fun
  | [d1, d2] => { results := [.lit (.bool true)], args := [d1, d2] }
  | _ => none }
def oneTellsRow : OpenClaim := { program := "yteokcbgaljhpgaa", sum := "ae6a6a49930c1c883c6e5830a98c8da401876013ff2a6284028434234b787997", func := "masonry/masonrylaw3.OneTells", spec := "oneTells", inPlace := ["internal/abi.NoEscape", "internal/bytealg.MakeNoZero"], apart := false }
def OneTellsSaid : Prop := oneTellsRow.holds Try.pinned (OpenSpec.ofChange oneTellsSpec)

/-- ITS FALSE NEIGHBOUR: 'it returns false'. Refute it at one input. -/
def oneTellsWrong : ChangeSpec := { name := "oneTells", fn := fun _ => fun
  | [d1, d2] => { results := [.lit (.bool false)], args := [d1, d2] }
  | _ => none }
def OneTellsWrongFalsely : Prop := oneTellsRow.holds Try.pinned (OpenSpec.ofChange oneTellsWrong)

/-- 'masonrylaw3.OnePads': WHATEVER THE INPUT: true; the input reads as it did. -/
def onePadsSpec : ChangeSpec := { name := "onePads", fn := fun _ => fun
  | [d] => { results := [.lit (.bool true)], args := [d] }
  | _ => none }
def onePadsRow : OpenClaim := { program := "yteokcbgaljhpgaa", sum := "ae6a6a49930c1c883c6e5830a98c8da401876013ff2a6284028434234b787997", func := "masonry/masonrylaw3.OnePads", spec := "onePads", inPlace := ["internal/abi.NoEscape", "internal/bytealg.MakeNoZero"], apart := false }
def OnePadsSaid : Prop := onePadsRow.holds Try.pinned (OpenSpec.ofChange onePadsSpec)

/-- ITS FALSE NEIGHBOUR: 'it returns false'. Refute it at one input. -/
def onePadsWrong : ChangeSpec := { name := "onePads", fn := fun _ => fun
  | [d] => { results := [.lit (.bool false)], args := [d] }
  | _ => none }
def OnePadsWrongFalsely : Prop := onePadsRow.holds Try.pinned (OpenSpec.ofChange onePadsWrong)

/-- 'masonrylaw3.OneKnown': WHATEVER THE INPUT: true; the input reads as it did. -/
def oneKnownSpec : ChangeSpec := { name := "oneKnown", fn := fun _ => fun
  | [d] => { results := [.lit (.bool true)], args := [d] }
  | _ => none }
def oneKnownRow : OpenClaim := { program := "yteokcbgaljhpgaa", sum := "ae6a6a49930c1c883c6e5830a98c8da401876013ff2a6284028434234b787997", func := "masonry/masonrylaw3.OneKnown", spec := "oneKnown", inPlace := ["internal/abi.NoEscape", "internal/bytealg.MakeNoZero"], apart := false }
def OneKnownSaid : Prop := oneKnownRow.holds Try.pinned (OpenSpec.ofChange oneKnownSpec)

/-- ITS FALSE NEIGHBOUR: 'it returns false'. Refute it at one input. -/
def oneKnownWrong : ChangeSpec := { name := "oneKnown", fn := fun _ => fun
  | [d] => { results := [.lit (.bool false)], args := [d] }
  | _ => none }
def OneKnownWrongFalsely : Prop := oneKnownRow.holds Try.pinned (OpenSpec.ofChange oneKnownWrong)

/-- 'masonrylaw3.OneParts': WHATEVER THE INPUT: true; the input reads as it did. -/
def onePartsSpec : ChangeSpec := { name := "oneParts", fn := fun _ => fun
  | [d1, d2] => { results := [.lit (.bool true)], args := [d1, d2] }
  | _ => none }
def onePartsRow : OpenClaim := { program := "yteokcbgaljhpgaa", sum := "ae6a6a49930c1c883c6e5830a98c8da401876013ff2a6284028434234b787997", func := "masonry/masonrylaw3.OneParts", spec := "oneParts", inPlace := ["internal/abi.NoEscape", "internal/bytealg.MakeNoZero"], apart := false }
def OnePartsSaid : Prop := onePartsRow.holds Try.pinned (OpenSpec.ofChange onePartsSpec)

/-- ITS FALSE NEIGHBOUR: 'it returns false'. Refute it at one input. -/
def onePartsWrong : ChangeSpec := { name := "oneParts", fn := fun _ => fun
  | [d1, d2] => { results := [.lit (.bool false)], args := [d1, d2] }
  | _ => none }
def OnePartsWrongFalsely : Prop := onePartsRow.holds Try.pinned (OpenSpec.ofChange onePartsWrong)

/-- 'masonrylaw4.TwoKnown': WHATEVER THE INPUT: true; the input reads as it did. -/
def twoKnownSpec : ChangeSpec := { name := "twoKnown", fn := fun _ => fun
  | [d] => { results := [.lit (.bool true)], args := [d] }
  | _ => none }
def twoKnownRow : OpenClaim := { program := "yteokcbgaljhpgaa", sum := "ae6a6a49930c1c883c6e5830a98c8da401876013ff2a6284028434234b787997", func := "masonry/masonrylaw4.TwoKnown", spec := "twoKnown", inPlace := ["internal/abi.NoEscape", "internal/bytealg.MakeNoZero"], apart := false }
def TwoKnownSaid : Prop := twoKnownRow.holds Try.pinned (OpenSpec.ofChange twoKnownSpec)

/-- ITS FALSE NEIGHBOUR: 'it returns false'. Refute it at one input. -/
def twoKnownWrong : ChangeSpec := { name := "twoKnown", fn := fun _ => fun
  | [d] => { results := [.lit (.bool false)], args := [d] }
  | _ => none }
def TwoKnownWrongFalsely : Prop := twoKnownRow.holds Try.pinned (OpenSpec.ofChange twoKnownWrong)

/-- 'masonrylaw4.TwoParts': WHATEVER THE INPUT: true; the input reads as it did. -/
def twoPartsSpec : ChangeSpec := { name := "twoParts", fn := fun _ => fun
  | [d1, d2] => { results := [.lit (.bool true)], args := [d1, d2] }
  | _ => none }
def twoPartsRow : OpenClaim := { program := "yteokcbgaljhpgaa", sum := "ae6a6a49930c1c883c6e5830a98c8da401876013ff2a6284028434234b787997", func := "masonry/masonrylaw4.TwoParts", spec := "twoParts", inPlace := ["internal/abi.NoEscape", "internal/bytealg.MakeNoZero"], apart := false }
def TwoPartsSaid : Prop := twoPartsRow.holds Try.pinned (OpenSpec.ofChange twoPartsSpec)

/-- ITS FALSE NEIGHBOUR: 'it returns false'. Refute it at one input. -/
def twoPartsWrong : ChangeSpec := { name := "twoParts", fn := fun _ => fun
  | [d1, d2] => { results := [.lit (.bool false)], args := [d1, d2] }
  | _ => none }
def TwoPartsWrongFalsely : Prop := twoPartsRow.holds Try.pinned (OpenSpec.ofChange twoPartsWrong)

/-- 'masonrylaw4.TwoTells': WHATEVER THE INPUT: true; the input reads as it did. -/
def twoTellsSpec : ChangeSpec := { name := "twoTells", fn := fun _ => fun
  | [d1, d2] => { results := [.lit (.bool true)], args := [d1, d2] }
  | _ => none }
def twoTellsRow : OpenClaim := { program := "yteokcbgaljhpgaa", sum := "ae6a6a49930c1c883c6e5830a98c8da401876013ff2a6284028434234b787997", func := "masonry/masonrylaw4.TwoTells", spec := "twoTells", inPlace := ["internal/abi.NoEscape", "internal/bytealg.MakeNoZero"], apart := false }
def TwoTellsSaid : Prop := twoTellsRow.holds Try.pinned (OpenSpec.ofChange twoTellsSpec)

/-- ITS FALSE NEIGHBOUR: 'it returns false'. Refute it at one input. -/
def twoTellsWrong : ChangeSpec := { name := "twoTells", fn := fun _ => fun
  | [d1, d2] => { results := [.lit (.bool false)], args := [d1, d2] }
  | _ => none }
def TwoTellsWrongFalsely : Prop := twoTellsRow.holds Try.pinned (OpenSpec.ofChange twoTellsWrong)

/-- 'masonrylaw4.TwoKeys': WHATEVER THE INPUT: true; the input reads as it did. -/
def twoKeysSpec : ChangeSpec := { name := "twoKeys", fn := fun _ => fun
  | [d] => { results := [.lit (.bool true)], args := [d] }
  | _ => none }
def twoKeysRow : OpenClaim := { program := "yteokcbgaljhpgaa", sum := "ae6a6a49930c1c883c6e5830a98c8da401876013ff2a6284028434234b787997", func := "masonry/masonrylaw4.TwoKeys", spec := "twoKeys", inPlace := ["internal/abi.NoEscape", "internal/bytealg.MakeNoZero"], apart := false }
def TwoKeysSaid : Prop := twoKeysRow.holds Try.pinned (OpenSpec.ofChange twoKeysSpec)

/-- ITS FALSE NEIGHBOUR: 'it returns false'. Refute it at one input. -/
def twoKeysWrong : ChangeSpec := { name := "twoKeys", fn := fun _ => fun
  | [d] => { results := [.lit (.bool false)], args := [d] }
  | _ => none }
def TwoKeysWrongFalsely : Prop := twoKeysRow.holds Try.pinned (OpenSpec.ofChange twoKeysWrong)

/-- 'masonrylaw10.RoomFills': WHATEVER THE INPUT: true; the input reads as it did. -/
def roomFillsSpec : ChangeSpec := { name := "roomFills", fn := fun _ => fun
  | [d1, d2, d3] => { results := [.lit (.bool true)], args := [d1, d2, d3] }
  | _ => none }
def roomFillsRow : OpenClaim := { program := "yteokcbgaljhpgaa", sum := "ae6a6a49930c1c883c6e5830a98c8da401876013ff2a6284028434234b787997", func := "masonry/masonrylaw10.RoomFills", spec := "roomFills", apart := false }
def RoomFillsSaid : Prop := roomFillsRow.holds Try.pinned (OpenSpec.ofChange roomFillsSpec)

/-- ITS FALSE NEIGHBOUR: 'it returns false'. Refute it at one input. -/
def roomFillsWrong : ChangeSpec := { name := "roomFills", fn := fun _ => fun
  | [d1, d2, d3] => { results := [.lit (.bool false)], args := [d1, d2, d3] }
  | _ => none }
def RoomFillsWrongFalsely : Prop := roomFillsRow.holds Try.pinned (OpenSpec.ofChange roomFillsWrong)

/-- 'masonrylaw10.RoomPlays': WHATEVER THE INPUT: true; the input reads as it did. -/
def roomPlaysSpec : ChangeSpec := { name := "roomPlays", fn := fun _ => fun
  | [d1, d2, d3, d4, d5, d6] => { results := [.lit (.bool true)], args := [d1, d2, d3, d4, d5, d6] }
  | _ => none }
def roomPlaysRow : OpenClaim := { program := "yteokcbgaljhpgaa", sum := "ae6a6a49930c1c883c6e5830a98c8da401876013ff2a6284028434234b787997", func := "masonry/masonrylaw10.RoomPlays", spec := "roomPlays", apart := false }
def RoomPlaysSaid : Prop := roomPlaysRow.holds Try.pinned (OpenSpec.ofChange roomPlaysSpec)

/-- ITS FALSE NEIGHBOUR: 'it returns false'. Refute it at one input. -/
def roomPlaysWrong : ChangeSpec := { name := "roomPlays", fn := fun _ => fun
  | [d1, d2, d3, d4, d5, d6] => { results := [.lit (.bool false)], args := [d1, d2, d3, d4, d5, d6] }
  | _ => none }
def RoomPlaysWrongFalsely : Prop := roomPlaysRow.holds Try.pinned (OpenSpec.ofChange roomPlaysWrong)

/- THE SECOND FORM. 'bulk': how many values and letters a reading holds, each counted each time it is reached (what is shared counts as often as it is met; a slice's spare places count too). A statement '..UptoSaid' is the law's where the arguments, and the package variables that the reading takes, are together of bulk at most 1048576: NARROWER than '..Said'. Prove '..Said' where nothing that the law and all that it calls make is longer than what came in: it says more and counts as full. Else prove '..UptoSaid'. A law counts once. -/
mutual
def uptoBulk {H : Type} : DataW H → Nat
  | .lit (.string bytes) => bytes.length + 1
  | .lit _ => 1
  | .nil => 1
  | .ptr d => uptoBulk d + 1
  | .slice elems spare => uptoBulkAll elems + uptoBulkAll spare + 1
  | .agg parts => uptoBulkAll parts + 1
  | .iface _ d => uptoBulk d + 1
  | .map entries => uptoBulkEntries entries + 1
  | .held _ => 1
def uptoBulkAll {H : Type} : List (DataW H) → Nat
  | [] => 0
  | d :: r => uptoBulk d + uptoBulkAll r
def uptoBulkEntries {H : Type} : List (Lit × DataW H) → Nat
  | [] => 0
  | x :: r => uptoBulkEntry x + uptoBulkEntries r
def uptoBulkEntry {H : Type} : Lit × DataW H → Nat
  | (.string bytes, d) => bytes.length + uptoBulk d + 1
  | (_, d) => uptoBulk d + 1
 end
def uptoSmall : (H : Type) → List (DataW H) → Bool := fun _ ds => decide (uptoBulkAll ds ≤ 1048576)
def OpenSpec.upto (s : _root_.Go.ChangeSpec) : _root_.Go.OpenSpec := { _root_.Go.OpenSpec.ofChange s with cond := some uptoSmall }

/-- 'masonrylaw2.CrcParts', WHERE WHAT IT READS IS OF BULK AT MOST 1048576: true; the input reads as it did. -/
def crcPartsUptoRow : OpenClaim := { program := "yteokcbgaljhpgaa", sum := "ae6a6a49930c1c883c6e5830a98c8da401876013ff2a6284028434234b787997", func := "masonry/masonrylaw2.CrcParts", spec := "crcParts", apart := false, narrowed := true }
def CrcPartsUptoSaid : Prop := crcPartsUptoRow.holds Try.pinned (OpenSpec.upto crcPartsSpec)

/-- 'masonrylaw2.CrcTells', WHERE WHAT IT READS IS OF BULK AT MOST 1048576: true; the input reads as it did. -/
def crcTellsUptoRow : OpenClaim := { program := "yteokcbgaljhpgaa", sum := "ae6a6a49930c1c883c6e5830a98c8da401876013ff2a6284028434234b787997", func := "masonry/masonrylaw2.CrcTells", spec := "crcTells", apart := false, narrowed := true }
def CrcTellsUptoSaid : Prop := crcTellsUptoRow.holds Try.pinned (OpenSpec.upto crcTellsSpec)

/-- 'masonrylaw2.CrcChanged', WHERE WHAT IT READS IS OF BULK AT MOST 1048576: true; the input reads as it did. -/
def crcChangedUptoRow : OpenClaim := { program := "yteokcbgaljhpgaa", sum := "ae6a6a49930c1c883c6e5830a98c8da401876013ff2a6284028434234b787997", func := "masonry/masonrylaw2.CrcChanged", spec := "crcChanged", apart := false, narrowed := true }
def CrcChangedUptoSaid : Prop := crcChangedUptoRow.holds Try.pinned (OpenSpec.upto crcChangedSpec)

/-- 'masonrylaw2.CrcWithin', WHERE WHAT IT READS IS OF BULK AT MOST 1048576: true; the input reads as it did. -/
def crcWithinUptoRow : OpenClaim := { program := "yteokcbgaljhpgaa", sum := "ae6a6a49930c1c883c6e5830a98c8da401876013ff2a6284028434234b787997", func := "masonry/masonrylaw2.CrcWithin", spec := "crcWithin", apart := false, narrowed := true }
def CrcWithinUptoSaid : Prop := crcWithinUptoRow.holds Try.pinned (OpenSpec.upto crcWithinSpec)

/-- 'masonrylaw3.OneTells', WHERE WHAT IT READS IS OF BULK AT MOST 1048576: true; the input reads as it did. -/
def oneTellsUptoRow : OpenClaim := { program := "yteokcbgaljhpgaa", sum := "ae6a6a49930c1c883c6e5830a98c8da401876013ff2a6284028434234b787997", func := "masonry/masonrylaw3.OneTells", spec := "oneTells", inPlace := ["internal/abi.NoEscape", "internal/bytealg.MakeNoZero"], apart := false, narrowed := true }
def OneTellsUptoSaid : Prop := oneTellsUptoRow.holds Try.pinned (OpenSpec.upto oneTellsSpec)

/-- 'masonrylaw3.OnePads', WHERE WHAT IT READS IS OF BULK AT MOST 1048576: true; the input reads as it did. -/
def onePadsUptoRow : OpenClaim := { program := "yteokcbgaljhpgaa", sum := "ae6a6a49930c1c883c6e5830a98c8da401876013ff2a6284028434234b787997", func := "masonry/masonrylaw3.OnePads", spec := "onePads", inPlace := ["internal/abi.NoEscape", "internal/bytealg.MakeNoZero"], apart := false, narrowed := true }
def OnePadsUptoSaid : Prop := onePadsUptoRow.holds Try.pinned (OpenSpec.upto onePadsSpec)

/-- 'masonrylaw3.OneKnown', WHERE WHAT IT READS IS OF BULK AT MOST 1048576: true; the input reads as it did. -/
def oneKnownUptoRow : OpenClaim := { program := "yteokcbgaljhpgaa", sum := "ae6a6a49930c1c883c6e5830a98c8da401876013ff2a6284028434234b787997", func := "masonry/masonrylaw3.OneKnown", spec := "oneKnown", inPlace := ["internal/abi.NoEscape", "internal/bytealg.MakeNoZero"], apart := false, narrowed := true }
def OneKnownUptoSaid : Prop := oneKnownUptoRow.holds Try.pinned (OpenSpec.upto oneKnownSpec)

/-- 'masonrylaw3.OneParts', WHERE WHAT IT READS IS OF BULK AT MOST 1048576: true; the input reads as it did. -/
def onePartsUptoRow : OpenClaim := { program := "yteokcbgaljhpgaa", sum := "ae6a6a49930c1c883c6e5830a98c8da401876013ff2a6284028434234b787997", func := "masonry/masonrylaw3.OneParts", spec := "oneParts", inPlace := ["internal/abi.NoEscape", "internal/bytealg.MakeNoZero"], apart := false, narrowed := true }
def OnePartsUptoSaid : Prop := onePartsUptoRow.holds Try.pinned (OpenSpec.upto onePartsSpec)

/-- 'masonrylaw4.TwoKnown', WHERE WHAT IT READS IS OF BULK AT MOST 1048576: true; the input reads as it did. -/
def twoKnownUptoRow : OpenClaim := { program := "yteokcbgaljhpgaa", sum := "ae6a6a49930c1c883c6e5830a98c8da401876013ff2a6284028434234b787997", func := "masonry/masonrylaw4.TwoKnown", spec := "twoKnown", inPlace := ["internal/abi.NoEscape", "internal/bytealg.MakeNoZero"], apart := false, narrowed := true }
def TwoKnownUptoSaid : Prop := twoKnownUptoRow.holds Try.pinned (OpenSpec.upto twoKnownSpec)

/-- 'masonrylaw4.TwoParts', WHERE WHAT IT READS IS OF BULK AT MOST 1048576: true; the input reads as it did. -/
def twoPartsUptoRow : OpenClaim := { program := "yteokcbgaljhpgaa", sum := "ae6a6a49930c1c883c6e5830a98c8da401876013ff2a6284028434234b787997", func := "masonry/masonrylaw4.TwoParts", spec := "twoParts", inPlace := ["internal/abi.NoEscape", "internal/bytealg.MakeNoZero"], apart := false, narrowed := true }
def TwoPartsUptoSaid : Prop := twoPartsUptoRow.holds Try.pinned (OpenSpec.upto twoPartsSpec)

/-- 'masonrylaw4.TwoTells', WHERE WHAT IT READS IS OF BULK AT MOST 1048576: true; the input reads as it did. -/
def twoTellsUptoRow : OpenClaim := { program := "yteokcbgaljhpgaa", sum := "ae6a6a49930c1c883c6e5830a98c8da401876013ff2a6284028434234b787997", func := "masonry/masonrylaw4.TwoTells", spec := "twoTells", inPlace := ["internal/abi.NoEscape", "internal/bytealg.MakeNoZero"], apart := false, narrowed := true }
def TwoTellsUptoSaid : Prop := twoTellsUptoRow.holds Try.pinned (OpenSpec.upto twoTellsSpec)

/-- 'masonrylaw4.TwoKeys', WHERE WHAT IT READS IS OF BULK AT MOST 1048576: true; the input reads as it did. -/
def twoKeysUptoRow : OpenClaim := { program := "yteokcbgaljhpgaa", sum := "ae6a6a49930c1c883c6e5830a98c8da401876013ff2a6284028434234b787997", func := "masonry/masonrylaw4.TwoKeys", spec := "twoKeys", inPlace := ["internal/abi.NoEscape", "internal/bytealg.MakeNoZero"], apart := false, narrowed := true }
def TwoKeysUptoSaid : Prop := twoKeysUptoRow.holds Try.pinned (OpenSpec.upto twoKeysSpec)

/-- 'masonrylaw10.RoomFills', WHERE WHAT IT READS IS OF BULK AT MOST 1048576: true; the input reads as it did. -/
def roomFillsUptoRow : OpenClaim := { program := "yteokcbgaljhpgaa", sum := "ae6a6a49930c1c883c6e5830a98c8da401876013ff2a6284028434234b787997", func := "masonry/masonrylaw10.RoomFills", spec := "roomFills", apart := false, narrowed := true }
def RoomFillsUptoSaid : Prop := roomFillsUptoRow.holds Try.pinned (OpenSpec.upto roomFillsSpec)

/-- 'masonrylaw10.RoomPlays', WHERE WHAT IT READS IS OF BULK AT MOST 1048576: true; the input reads as it did. -/
def roomPlaysUptoRow : OpenClaim := { program := "yteokcbgaljhpgaa", sum := "ae6a6a49930c1c883c6e5830a98c8da401876013ff2a6284028434234b787997", func := "masonry/masonrylaw10.RoomPlays", spec := "roomPlays", apart := false, narrowed := true }
def RoomPlaysUptoSaid : Prop := roomPlaysUptoRow.holds Try.pinned (OpenSpec.upto roomPlaysSpec)

end Rows
end Go.Proofs.Yteokcbgaljhpgaa

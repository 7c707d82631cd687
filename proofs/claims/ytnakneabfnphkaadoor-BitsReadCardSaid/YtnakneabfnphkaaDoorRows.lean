/-
  NARROWER THAN 'FOR EVERY INPUT', by the rows' own cells (each row's printed sentence says how): BitsOrder: laid · BitsSizes: laid · BitsRead: laid · BitsShort: laid · BitsBack: laid · BitsNone: laid.
  DERIVED. THE GIVEN ROWS OF THIS SEAT. 6 by the template 'for every input the law returns true; each argument reads behind the call as it read before'; 0 by the template 'total and deterministic' (their statements: YtnakneabfnphkaaDoorTotals.lean).
  GIVEN WITH THE SEED: the statements are not yours to turn. If you find one false, say at which input.
  Laid BY PROGRAM, IN A SANDBOX (cutbox-rows.mjs): the forced cells as the released guide's own fill.sh prints them over the translation 69689b36d0f22a76… (all of the seat's roots in one cut). By AI agents, Wed Nov 11 2026. No macro, syntax, notation, axiom, sorry.
-/
import Derived.Test.YtnakneabfnphkaaDoorChecked
import GoSem.PinnedTables
import GoSem.Claim
import GoSem.ClaimJoined
import GoSem.ClaimMapViews
import Derived.JoinedTies
import Derived.KernelRfl
namespace Go.Proofs.YtnakneabfnphkaaDoor
/- THE CELL 'sum', in the pinned program and in every row, IS THE sha256 OF THE DUMP (.gsa) THAT YtnakneabfnphkaaDoorProg.lean LOADS. Nothing in Lean hashes anything: it is a label: what it is worth is what the hold of that sum in a sandbox is worth. -/
noncomputable def Tryd.pinned : Pinned := { name := "ytnakneabfnphkaadoor", sum := "69689b36d0f22a76c1b43fb6a9fd023567efab5c82765a819a68610a31121aed", checked := Tryd.checked }
namespace Rows
def none {H : Type} : Left H := { results := [], args := [] }

/- WHAT THE LISTED PACKAGE-LEVEL VARIABLES READ AS WHEN THE CALL BEGINS. Each datum BY PROGRAM (the guide's laid-datum.mjs) off the statement by which the dump's own 'gosem.cut.vars' lays the variable. In a bare row this is a premise. The card (YtnakneabfnphkaaDoorCards.lean) ties it to the program's text. -/
def laid_unicode_utf8_acceptRanges {H : Type} : DataW H := .agg [.agg [.lit (.int .u8 128), .lit (.int .u8 191)], .agg [.lit (.int .u8 160), .lit (.int .u8 191)], .agg [.lit (.int .u8 128), .lit (.int .u8 159)], .agg [.lit (.int .u8 144), .lit (.int .u8 191)], .agg [.lit (.int .u8 128), .lit (.int .u8 143)], .agg [.lit (.int .u8 0), .lit (.int .u8 0)], .agg [.lit (.int .u8 0), .lit (.int .u8 0)], .agg [.lit (.int .u8 0), .lit (.int .u8 0)], .agg [.lit (.int .u8 0), .lit (.int .u8 0)], .agg [.lit (.int .u8 0), .lit (.int .u8 0)], .agg [.lit (.int .u8 0), .lit (.int .u8 0)], .agg [.lit (.int .u8 0), .lit (.int .u8 0)], .agg [.lit (.int .u8 0), .lit (.int .u8 0)], .agg [.lit (.int .u8 0), .lit (.int .u8 0)], .agg [.lit (.int .u8 0), .lit (.int .u8 0)], .agg [.lit (.int .u8 0), .lit (.int .u8 0)]]
/-- One of Go's own tables, pinned by name: the form's constant. -/
def laid_unicode_utf8_first : DataW Unit := Go.Pinned.utf8First

/-- 'masonrylaw1.BitsOrder': WHATEVER THE INPUT: true; the input reads as it did. -/
def bitsOrderSpec : ChangeSpec := { name := "bitsOrder", fn := fun _ => fun
  | [d1, d2] => { results := [.lit (.bool true)], args := [d1, d2] }
  | _ => none }
def bitsOrderRow : OpenClaim := { program := "ytnakneabfnphkaadoor", sum := "69689b36d0f22a76c1b43fb6a9fd023567efab5c82765a819a68610a31121aed", func := "masonry/masonrylaw1.BitsOrder", spec := "bitsOrder", inPlace := ["internal/bytealg.IndexByteString", "internal/bytealg.IndexString"], named := ["unicode/utf8.first", "unicode/utf8.acceptRanges", "internal/bytealg.MaxLen"], apart := false, laid := [("unicode/utf8.acceptRanges", laid_unicode_utf8_acceptRanges), ("unicode/utf8.first", laid_unicode_utf8_first)] }
def BitsOrderSaid : Prop := bitsOrderRow.holds Tryd.pinned (OpenSpec.ofChange bitsOrderSpec)

/-- ITS FALSE NEIGHBOUR: 'it returns false'. Refute it at one input. -/
def bitsOrderWrong : ChangeSpec := { name := "bitsOrder", fn := fun _ => fun
  | [d1, d2] => { results := [.lit (.bool false)], args := [d1, d2] }
  | _ => none }
def BitsOrderWrongFalsely : Prop := bitsOrderRow.holds Tryd.pinned (OpenSpec.ofChange bitsOrderWrong)

/-- 'masonrylaw1.BitsSizes': WHATEVER THE INPUT: true; the input reads as it did. -/
def bitsSizesSpec : ChangeSpec := { name := "bitsSizes", fn := fun _ => fun
  | [d1, d2] => { results := [.lit (.bool true)], args := [d1, d2] }
  | _ => none }
def bitsSizesRow : OpenClaim := { program := "ytnakneabfnphkaadoor", sum := "69689b36d0f22a76c1b43fb6a9fd023567efab5c82765a819a68610a31121aed", func := "masonry/masonrylaw1.BitsSizes", spec := "bitsSizes", inPlace := ["internal/bytealg.IndexByteString", "internal/bytealg.IndexString"], named := ["unicode/utf8.first", "unicode/utf8.acceptRanges", "internal/bytealg.MaxLen"], apart := false, laid := [("unicode/utf8.acceptRanges", laid_unicode_utf8_acceptRanges), ("unicode/utf8.first", laid_unicode_utf8_first)] }
def BitsSizesSaid : Prop := bitsSizesRow.holds Tryd.pinned (OpenSpec.ofChange bitsSizesSpec)

/-- ITS FALSE NEIGHBOUR: 'it returns false'. Refute it at one input. -/
def bitsSizesWrong : ChangeSpec := { name := "bitsSizes", fn := fun _ => fun
  | [d1, d2] => { results := [.lit (.bool false)], args := [d1, d2] }
  | _ => none }
def BitsSizesWrongFalsely : Prop := bitsSizesRow.holds Tryd.pinned (OpenSpec.ofChange bitsSizesWrong)

/-- 'masonrylaw1.BitsRead': WHATEVER THE INPUT: true; the input reads as it did. -/
def bitsReadSpec : ChangeSpec := { name := "bitsRead", fn := fun _ => fun
  | [d1, d2] => { results := [.lit (.bool true)], args := [d1, d2] }
  | _ => none }
def bitsReadRow : OpenClaim := { program := "ytnakneabfnphkaadoor", sum := "69689b36d0f22a76c1b43fb6a9fd023567efab5c82765a819a68610a31121aed", func := "masonry/masonrylaw1.BitsRead", spec := "bitsRead", inPlace := ["internal/bytealg.IndexByteString", "internal/bytealg.IndexString"], named := ["unicode/utf8.first", "unicode/utf8.acceptRanges", "internal/bytealg.MaxLen"], apart := false, laid := [("unicode/utf8.acceptRanges", laid_unicode_utf8_acceptRanges), ("unicode/utf8.first", laid_unicode_utf8_first)] }
def BitsReadSaid : Prop := bitsReadRow.holds Tryd.pinned (OpenSpec.ofChange bitsReadSpec)

/-- ITS FALSE NEIGHBOUR: 'it returns false'. Refute it at one input. -/
def bitsReadWrong : ChangeSpec := { name := "bitsRead", fn := fun _ => fun
  | [d1, d2] => { results := [.lit (.bool false)], args := [d1, d2] }
  | _ => none }
def BitsReadWrongFalsely : Prop := bitsReadRow.holds Tryd.pinned (OpenSpec.ofChange bitsReadWrong)

/-- 'masonrylaw1.BitsShort': WHATEVER THE INPUT: true; the input reads as it did. -/
def bitsShortSpec : ChangeSpec := { name := "bitsShort", fn := fun _ => fun
  | [d1, d2, d3, d4] => { results := [.lit (.bool true)], args := [d1, d2, d3, d4] }
  | _ => none }
def bitsShortRow : OpenClaim := { program := "ytnakneabfnphkaadoor", sum := "69689b36d0f22a76c1b43fb6a9fd023567efab5c82765a819a68610a31121aed", func := "masonry/masonrylaw1.BitsShort", spec := "bitsShort", inPlace := ["internal/bytealg.IndexByteString", "internal/bytealg.IndexString"], named := ["unicode/utf8.first", "unicode/utf8.acceptRanges", "internal/bytealg.MaxLen"], apart := false, laid := [("unicode/utf8.acceptRanges", laid_unicode_utf8_acceptRanges), ("unicode/utf8.first", laid_unicode_utf8_first)] }
def BitsShortSaid : Prop := bitsShortRow.holds Tryd.pinned (OpenSpec.ofChange bitsShortSpec)

/-- ITS FALSE NEIGHBOUR: 'it returns false'. Refute it at one input. -/
def bitsShortWrong : ChangeSpec := { name := "bitsShort", fn := fun _ => fun
  | [d1, d2, d3, d4] => { results := [.lit (.bool false)], args := [d1, d2, d3, d4] }
  | _ => none }
def BitsShortWrongFalsely : Prop := bitsShortRow.holds Tryd.pinned (OpenSpec.ofChange bitsShortWrong)

/-- 'masonrylaw1.BitsBack': WHATEVER THE INPUT: true; the input reads as it did. -/
def bitsBackSpec : ChangeSpec := { name := "bitsBack", fn := fun _ => fun
  | [d1, d2, d3, d4, d5, d6] => { results := [.lit (.bool true)], args := [d1, d2, d3, d4, d5, d6] }
  | _ => none }
def bitsBackRow : OpenClaim := { program := "ytnakneabfnphkaadoor", sum := "69689b36d0f22a76c1b43fb6a9fd023567efab5c82765a819a68610a31121aed", func := "masonry/masonrylaw1.BitsBack", spec := "bitsBack", inPlace := ["internal/bytealg.IndexByteString", "internal/bytealg.IndexString"], named := ["unicode/utf8.first", "unicode/utf8.acceptRanges", "internal/bytealg.MaxLen"], apart := false, laid := [("unicode/utf8.acceptRanges", laid_unicode_utf8_acceptRanges), ("unicode/utf8.first", laid_unicode_utf8_first)] }
def BitsBackSaid : Prop := bitsBackRow.holds Tryd.pinned (OpenSpec.ofChange bitsBackSpec)

/-- ITS FALSE NEIGHBOUR: 'it returns false'. Refute it at one input. -/
def bitsBackWrong : ChangeSpec := { name := "bitsBack", fn := fun _ => fun
  | [d1, d2, d3, d4, d5, d6] => { results := [.lit (.bool false)], args := [d1, d2, d3, d4, d5, d6] }
  | _ => none }
def BitsBackWrongFalsely : Prop := bitsBackRow.holds Tryd.pinned (OpenSpec.ofChange bitsBackWrong)

/-- 'masonrylaw1.BitsNone': WHATEVER THE INPUT: true; the input reads as it did. -/
def bitsNoneSpec : ChangeSpec := { name := "bitsNone", fn := fun _ => fun
  | [d1, d2] => { results := [.lit (.bool true)], args := [d1, d2] }
  | _ => none }
def bitsNoneRow : OpenClaim := { program := "ytnakneabfnphkaadoor", sum := "69689b36d0f22a76c1b43fb6a9fd023567efab5c82765a819a68610a31121aed", func := "masonry/masonrylaw1.BitsNone", spec := "bitsNone", inPlace := ["internal/bytealg.IndexByteString", "internal/bytealg.IndexString"], named := ["unicode/utf8.first", "unicode/utf8.acceptRanges", "internal/bytealg.MaxLen"], apart := false, laid := [("unicode/utf8.acceptRanges", laid_unicode_utf8_acceptRanges), ("unicode/utf8.first", laid_unicode_utf8_first)] }
def BitsNoneSaid : Prop := bitsNoneRow.holds Tryd.pinned (OpenSpec.ofChange bitsNoneSpec)

/-- ITS FALSE NEIGHBOUR: 'it returns false'. Refute it at one input. -/
def bitsNoneWrong : ChangeSpec := { name := "bitsNone", fn := fun _ => fun
  | [d1, d2] => { results := [.lit (.bool false)], args := [d1, d2] }
  | _ => none }
def BitsNoneWrongFalsely : Prop := bitsNoneRow.holds Tryd.pinned (OpenSpec.ofChange bitsNoneWrong)

/- THE SECOND FORM. 'bulk': how many values and letters a reading holds, each counted each time it is reached (what is shared counts as often as it is met; a slice's spare places count too). A statement '..UptoSaid' is the law's where the arguments, and the package variables that the reading takes, are together of bulk at most 1048576: NARROWER than '..Said'. Prove '..Said' where nothing that the law and all that it calls make is longer than what came in: it says more and counts as full. Else prove '..UptoSaid'. A law counts once. -/
mutual
def uptoBulk {H : Type} : DataW H → Nat
  | .lit (.string bytes) => bytes.length + 1
  | .lit _ => 1
  | .nil => 1
  | .ptr d => uptoBulk d + 1
  | .slice elems spare => uptoBulkAll elems + uptoBulkAll spare + 1
  | .agg parts => uptoBulkAll parts + 1
  | .iface _ d => uptoBulk d + 1
  | .map entries => uptoBulkEntries entries + 1
  | .held _ => 1
def uptoBulkAll {H : Type} : List (DataW H) → Nat
  | [] => 0
  | d :: r => uptoBulk d + uptoBulkAll r
def uptoBulkEntries {H : Type} : List (Lit × DataW H) → Nat
  | [] => 0
  | x :: r => uptoBulkEntry x + uptoBulkEntries r
def uptoBulkEntry {H : Type} : Lit × DataW H → Nat
  | (.string bytes, d) => bytes.length + uptoBulk d + 1
  | (_, d) => uptoBulk d + 1
 end
def uptoSmall : (H : Type) → List (DataW H) → Bool := fun _ ds => decide (uptoBulkAll ds ≤ 1048576)
def OpenSpec.upto (s : _root_.Go.ChangeSpec) : _root_.Go.OpenSpec := { _root_.Go.OpenSpec.ofChange s with cond := some uptoSmall }

/-- 'masonrylaw1.BitsOrder', WHERE WHAT IT READS IS OF BULK AT MOST 1048576: true; the input reads as it did. -/
def bitsOrderUptoRow : OpenClaim := { program := "ytnakneabfnphkaadoor", sum := "69689b36d0f22a76c1b43fb6a9fd023567efab5c82765a819a68610a31121aed", func := "masonry/masonrylaw1.BitsOrder", spec := "bitsOrder", inPlace := ["internal/bytealg.IndexByteString", "internal/bytealg.IndexString"], named := ["unicode/utf8.first", "unicode/utf8.acceptRanges", "internal/bytealg.MaxLen"], apart := false, laid := [("unicode/utf8.acceptRanges", laid_unicode_utf8_acceptRanges), ("unicode/utf8.first", laid_unicode_utf8_first)], narrowed := true }
def BitsOrderUptoSaid : Prop := bitsOrderUptoRow.holds Tryd.pinned (OpenSpec.upto bitsOrderSpec)

/-- 'masonrylaw1.BitsSizes', WHERE WHAT IT READS IS OF BULK AT MOST 1048576: true; the input reads as it did. -/
def bitsSizesUptoRow : OpenClaim := { program := "ytnakneabfnphkaadoor", sum := "69689b36d0f22a76c1b43fb6a9fd023567efab5c82765a819a68610a31121aed", func := "masonry/masonrylaw1.BitsSizes", spec := "bitsSizes", inPlace := ["internal/bytealg.IndexByteString", "internal/bytealg.IndexString"], named := ["unicode/utf8.first", "unicode/utf8.acceptRanges", "internal/bytealg.MaxLen"], apart := false, laid := [("unicode/utf8.acceptRanges", laid_unicode_utf8_acceptRanges), ("unicode/utf8.first", laid_unicode_utf8_first)], narrowed := true }
def BitsSizesUptoSaid : Prop := bitsSizesUptoRow.holds Tryd.pinned (OpenSpec.upto bitsSizesSpec)

/-- 'masonrylaw1.BitsRead', WHERE WHAT IT READS IS OF BULK AT MOST 1048576: true; the input reads as it did. -/
def bitsReadUptoRow : OpenClaim := { program := "ytnakneabfnphkaadoor", sum := "69689b36d0f22a76c1b43fb6a9fd023567efab5c82765a819a68610a31121aed", func := "masonry/masonrylaw1.BitsRead", spec := "bitsRead", inPlace := ["internal/bytealg.IndexByteString", "internal/bytealg.IndexString"], named := ["unicode/utf8.first", "unicode/utf8.acceptRanges", "internal/bytealg.MaxLen"], apart := false, laid := [("unicode/utf8.acceptRanges", laid_unicode_utf8_acceptRanges), ("unicode/utf8.first", laid_unicode_utf8_first)], narrowed := true }
def BitsReadUptoSaid : Prop := bitsReadUptoRow.holds Tryd.pinned (OpenSpec.upto bitsReadSpec)

/-- 'masonrylaw1.BitsShort', WHERE WHAT IT READS IS OF BULK AT MOST 1048576: true; the input reads as it did. -/
def bitsShortUptoRow : OpenClaim := { program := "ytnakneabfnphkaadoor", sum := "69689b36d0f22a76c1b43fb6a9fd023567efab5c82765a819a68610a31121aed", func := "masonry/masonrylaw1.BitsShort", spec := "bitsShort", inPlace := ["internal/bytealg.IndexByteString", "internal/bytealg.IndexString"], named := ["unicode/utf8.first", "unicode/utf8.acceptRanges", "internal/bytealg.MaxLen"], apart := false, laid := [("unicode/utf8.acceptRanges", laid_unicode_utf8_acceptRanges), ("unicode/utf8.first", laid_unicode_utf8_first)], narrowed := true }
def BitsShortUptoSaid : Prop := bitsShortUptoRow.holds Tryd.pinned (OpenSpec.upto bitsShortSpec)

/-- 'masonrylaw1.BitsBack', WHERE WHAT IT READS IS OF BULK AT MOST 1048576: true; the input reads as it did. -/
def bitsBackUptoRow : OpenClaim := { program := "ytnakneabfnphkaadoor", sum := "69689b36d0f22a76c1b43fb6a9fd023567efab5c82765a819a68610a31121aed", func := "masonry/masonrylaw1.BitsBack", spec := "bitsBack", inPlace := ["internal/bytealg.IndexByteString", "internal/bytealg.IndexString"], named := ["unicode/utf8.first", "unicode/utf8.acceptRanges", "internal/bytealg.MaxLen"], apart := false, laid := [("unicode/utf8.acceptRanges", laid_unicode_utf8_acceptRanges), ("unicode/utf8.first", laid_unicode_utf8_first)], narrowed := true }
def BitsBackUptoSaid : Prop := bitsBackUptoRow.holds Tryd.pinned (OpenSpec.upto bitsBackSpec)

/-- 'masonrylaw1.BitsNone', WHERE WHAT IT READS IS OF BULK AT MOST 1048576: true; the input reads as it did. -/
def bitsNoneUptoRow : OpenClaim := { program := "ytnakneabfnphkaadoor", sum := "69689b36d0f22a76c1b43fb6a9fd023567efab5c82765a819a68610a31121aed", func := "masonry/masonrylaw1.BitsNone", spec := "bitsNone", inPlace := ["internal/bytealg.IndexByteString", "internal/bytealg.IndexString"], named := ["unicode/utf8.first", "unicode/utf8.acceptRanges", "internal/bytealg.MaxLen"], apart := false, laid := [("unicode/utf8.acceptRanges", laid_unicode_utf8_acceptRanges), ("unicode/utf8.first", laid_unicode_utf8_first)], narrowed := true }
def BitsNoneUptoSaid : Prop := bitsNoneUptoRow.holds Tryd.pinned (OpenSpec.upto bitsNoneSpec)

end Rows
end Go.Proofs.YtnakneabfnphkaaDoor

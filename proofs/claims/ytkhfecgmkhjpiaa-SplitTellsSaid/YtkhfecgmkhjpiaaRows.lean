/-
  No cell of these rows narrows 'for every input' (looked for: loops, veiled, ifaces, maps, wideKeys, modest, calm, conditions, laid).
  DERIVED. THE GIVEN ROWS OF THIS SEAT. 8 by the template 'for every input the law returns true; each argument reads behind the call as it read before'; 0 by the template 'total and deterministic' (their statements: YtkhfecgmkhjpiaaTotals.lean).
  GIVEN WITH THE SEED: the statements are not yours to turn. If you find one false, say at which input.
  Laid BY PROGRAM, IN A SANDBOX (cutbox-rows.mjs): the forced cells as the released guide's own fill.sh prints them over the translation ecd9c387c67f3365… (all of the seat's roots in one cut). By AI agents, Wed Nov 11 2026. No macro, syntax, notation, axiom, sorry.
-/
import Derived.Test.YtkhfecgmkhjpiaaChecked
import GoSem.Claim
import GoSem.ClaimJoined
import GoSem.ClaimMapViews
import Derived.JoinedTies
import Derived.KernelRfl
namespace Go.Proofs.Ytkhfecgmkhjpiaa
/- THE CELL 'sum', in the pinned program and in every row, IS THE sha256 OF THE DUMP (.gsa) THAT YtkhfecgmkhjpiaaProg.lean LOADS. Nothing in Lean hashes anything: it is a label: what it is worth is what the hold of that sum in a sandbox is worth. -/
noncomputable def Try.pinned : Pinned := { name := "ytkhfecgmkhjpiaa", sum := "ecd9c387c67f3365ed737666d97ec8b33353e2b04ca786d8cca1a961f1fe54df", checked := Try.checked }
namespace Rows
def none {H : Type} : Left H := { results := [], args := [] }

/-- 'masonrylaw13.FixedTells': WHATEVER THE INPUT: true; the input reads as it did. -/
def fixedTellsSpec : ChangeSpec := { name := "fixedTells", fn := fun _ => fun
  | [d1, d2, d3, d4, d5, d6, d7] => { results := [.lit (.bool true)], args := [d1, d2, d3, d4, d5, d6, d7] }
  | _ => none }
def fixedTellsRow : OpenClaim := { program := "ytkhfecgmkhjpiaa", sum := "ecd9c387c67f3365ed737666d97ec8b33353e2b04ca786d8cca1a961f1fe54df", func := "masonry/masonrylaw13.FixedTells", spec := "fixedTells", inPlace := ["internal/abi.NoEscape"], apart := false }
def FixedTellsSaid : Prop := fixedTellsRow.holds Try.pinned (OpenSpec.ofChange fixedTellsSpec)

/-- ITS FALSE NEIGHBOUR: 'it returns false'. Refute it at one input. -/
def fixedTellsWrong : ChangeSpec := { name := "fixedTells", fn := fun _ => fun
  | [d1, d2, d3, d4, d5, d6, d7] => { results := [.lit (.bool false)], args := [d1, d2, d3, d4, d5, d6, d7] }
  | _ => none }
def FixedTellsWrongFalsely : Prop := fixedTellsRow.holds Try.pinned (OpenSpec.ofChange fixedTellsWrong)

/-- 'masonrylaw14.CdcTells': WHATEVER THE INPUT: true; the input reads as it did. -/
def cdcTellsSpec : ChangeSpec := { name := "cdcTells", fn := fun _ => fun
  | [d1, d2, d3] => { results := [.lit (.bool true)], args := [d1, d2, d3] }
  | _ => none }
def cdcTellsRow : OpenClaim := { program := "ytkhfecgmkhjpiaa", sum := "ecd9c387c67f3365ed737666d97ec8b33353e2b04ca786d8cca1a961f1fe54df", func := "masonry/masonrylaw14.CdcTells", spec := "cdcTells", inPlace := ["internal/abi.NoEscape", "internal/bytealg.MakeNoZero"], apart := false }
def CdcTellsSaid : Prop := cdcTellsRow.holds Try.pinned (OpenSpec.ofChange cdcTellsSpec)

/-- ITS FALSE NEIGHBOUR: 'it returns false'. Refute it at one input. -/
def cdcTellsWrong : ChangeSpec := { name := "cdcTells", fn := fun _ => fun
  | [d1, d2, d3] => { results := [.lit (.bool false)], args := [d1, d2, d3] }
  | _ => none }
def CdcTellsWrongFalsely : Prop := cdcTellsRow.holds Try.pinned (OpenSpec.ofChange cdcTellsWrong)

/-- 'masonrylaw15.SplitTells': WHATEVER THE INPUT: true; the input reads as it did. -/
def splitTellsSpec : ChangeSpec := { name := "splitTells", fn := fun _ => fun
  | [d1, d2, d3, d4] => { results := [.lit (.bool true)], args := [d1, d2, d3, d4] }
  | _ => none }
def splitTellsRow : OpenClaim := { program := "ytkhfecgmkhjpiaa", sum := "ecd9c387c67f3365ed737666d97ec8b33353e2b04ca786d8cca1a961f1fe54df", func := "masonry/masonrylaw15.SplitTells", spec := "splitTells", inPlace := ["internal/abi.NoEscape", "internal/bytealg.MakeNoZero"], unfollowed := true, recurses := true, apart := false }
def SplitTellsSaid : Prop := splitTellsRow.holds Try.pinned (OpenSpec.ofChange splitTellsSpec)

/-- ITS FALSE NEIGHBOUR: 'it returns false'. Refute it at one input. -/
def splitTellsWrong : ChangeSpec := { name := "splitTells", fn := fun _ => fun
  | [d1, d2, d3, d4] => { results := [.lit (.bool false)], args := [d1, d2, d3, d4] }
  | _ => none }
def SplitTellsWrongFalsely : Prop := splitTellsRow.holds Try.pinned (OpenSpec.ofChange splitTellsWrong)

/-- 'masonrylaw15.SplitAgain': WHATEVER THE INPUT: true; the input reads as it did. -/
def splitAgainSpec : ChangeSpec := { name := "splitAgain", fn := fun _ => fun
  | [d1, d2, d3, d4, d5] => { results := [.lit (.bool true)], args := [d1, d2, d3, d4, d5] }
  | _ => none }
def splitAgainRow : OpenClaim := { program := "ytkhfecgmkhjpiaa", sum := "ecd9c387c67f3365ed737666d97ec8b33353e2b04ca786d8cca1a961f1fe54df", func := "masonry/masonrylaw15.SplitAgain", spec := "splitAgain", unfollowed := true, recurses := true, apart := false }
def SplitAgainSaid : Prop := splitAgainRow.holds Try.pinned (OpenSpec.ofChange splitAgainSpec)

/-- ITS FALSE NEIGHBOUR: 'it returns false'. Refute it at one input. -/
def splitAgainWrong : ChangeSpec := { name := "splitAgain", fn := fun _ => fun
  | [d1, d2, d3, d4, d5] => { results := [.lit (.bool false)], args := [d1, d2, d3, d4, d5] }
  | _ => none }
def SplitAgainWrongFalsely : Prop := splitAgainRow.holds Try.pinned (OpenSpec.ofChange splitAgainWrong)

/-- 'masonrylaw15.SplitRaw': WHATEVER THE INPUT: true; the input reads as it did. -/
def splitRawSpec : ChangeSpec := { name := "splitRaw", fn := fun _ => fun
  | [d1, d2, d3, d4, d5, d6] => { results := [.lit (.bool true)], args := [d1, d2, d3, d4, d5, d6] }
  | _ => none }
def splitRawRow : OpenClaim := { program := "ytkhfecgmkhjpiaa", sum := "ecd9c387c67f3365ed737666d97ec8b33353e2b04ca786d8cca1a961f1fe54df", func := "masonry/masonrylaw15.SplitRaw", spec := "splitRaw", unfollowed := true, recurses := true, apart := false }
def SplitRawSaid : Prop := splitRawRow.holds Try.pinned (OpenSpec.ofChange splitRawSpec)

/-- ITS FALSE NEIGHBOUR: 'it returns false'. Refute it at one input. -/
def splitRawWrong : ChangeSpec := { name := "splitRaw", fn := fun _ => fun
  | [d1, d2, d3, d4, d5, d6] => { results := [.lit (.bool false)], args := [d1, d2, d3, d4, d5, d6] }
  | _ => none }
def SplitRawWrongFalsely : Prop := splitRawRow.holds Try.pinned (OpenSpec.ofChange splitRawWrong)

/-- 'masonrylaw15.SplitFew': WHATEVER THE INPUT: true; the input reads as it did. -/
def splitFewSpec : ChangeSpec := { name := "splitFew", fn := fun _ => fun
  | [d1, d2, d3] => { results := [.lit (.bool true)], args := [d1, d2, d3] }
  | _ => none }
def splitFewRow : OpenClaim := { program := "ytkhfecgmkhjpiaa", sum := "ecd9c387c67f3365ed737666d97ec8b33353e2b04ca786d8cca1a961f1fe54df", func := "masonry/masonrylaw15.SplitFew", spec := "splitFew", unfollowed := true, recurses := true, apart := false }
def SplitFewSaid : Prop := splitFewRow.holds Try.pinned (OpenSpec.ofChange splitFewSpec)

/-- ITS FALSE NEIGHBOUR: 'it returns false'. Refute it at one input. -/
def splitFewWrong : ChangeSpec := { name := "splitFew", fn := fun _ => fun
  | [d1, d2, d3] => { results := [.lit (.bool false)], args := [d1, d2, d3] }
  | _ => none }
def SplitFewWrongFalsely : Prop := splitFewRow.holds Try.pinned (OpenSpec.ofChange splitFewWrong)

/-- 'masonrylaw15.SplitTwice': WHATEVER THE INPUT: true; the input reads as it did. -/
def splitTwiceSpec : ChangeSpec := { name := "splitTwice", fn := fun _ => fun
  | [d1, d2, d3, d4, d5] => { results := [.lit (.bool true)], args := [d1, d2, d3, d4, d5] }
  | _ => none }
def splitTwiceRow : OpenClaim := { program := "ytkhfecgmkhjpiaa", sum := "ecd9c387c67f3365ed737666d97ec8b33353e2b04ca786d8cca1a961f1fe54df", func := "masonry/masonrylaw15.SplitTwice", spec := "splitTwice", unfollowed := true, recurses := true, apart := false }
def SplitTwiceSaid : Prop := splitTwiceRow.holds Try.pinned (OpenSpec.ofChange splitTwiceSpec)

/-- ITS FALSE NEIGHBOUR: 'it returns false'. Refute it at one input. -/
def splitTwiceWrong : ChangeSpec := { name := "splitTwice", fn := fun _ => fun
  | [d1, d2, d3, d4, d5] => { results := [.lit (.bool false)], args := [d1, d2, d3, d4, d5] }
  | _ => none }
def SplitTwiceWrongFalsely : Prop := splitTwiceRow.holds Try.pinned (OpenSpec.ofChange splitTwiceWrong)

/-- 'masonrylaw15.SplitStays': WHATEVER THE INPUT: true; the input reads as it did. -/
def splitStaysSpec : ChangeSpec := { name := "splitStays", fn := fun _ => fun
  | [d1, d2, d3, d4] => { results := [.lit (.bool true)], args := [d1, d2, d3, d4] }
  | _ => none }
def splitStaysRow : OpenClaim := { program := "ytkhfecgmkhjpiaa", sum := "ecd9c387c67f3365ed737666d97ec8b33353e2b04ca786d8cca1a961f1fe54df", func := "masonry/masonrylaw15.SplitStays", spec := "splitStays", unfollowed := true, recurses := true, apart := false }
def SplitStaysSaid : Prop := splitStaysRow.holds Try.pinned (OpenSpec.ofChange splitStaysSpec)

/-- ITS FALSE NEIGHBOUR: 'it returns false'. Refute it at one input. -/
def splitStaysWrong : ChangeSpec := { name := "splitStays", fn := fun _ => fun
  | [d1, d2, d3, d4] => { results := [.lit (.bool false)], args := [d1, d2, d3, d4] }
  | _ => none }
def SplitStaysWrongFalsely : Prop := splitStaysRow.holds Try.pinned (OpenSpec.ofChange splitStaysWrong)

/- THE SECOND FORM. 'bulk': how many values and letters a reading holds, each counted each time it is reached (what is shared counts as often as it is met; a slice's spare places count too). A statement '..UptoSaid' is the law's where the arguments, and the package variables that the reading takes, are together of bulk at most 1048576: NARROWER than '..Said'. Prove '..Said' where nothing that the law and all that it calls make is longer than what came in: it says more and counts as full. Else prove '..UptoSaid'. A law counts once. -/
mutual
def uptoBulk {H : Type} : DataW H → Nat
  | .lit (.string bytes) => bytes.length + 1
  | .lit _ => 1
  | .nil => 1
  | .ptr d => uptoBulk d + 1
  | .slice elems spare => uptoBulkAll elems + uptoBulkAll spare + 1
  | .agg parts => uptoBulkAll parts + 1
  | .iface _ d => uptoBulk d + 1
  | .map entries => uptoBulkEntries entries + 1
  | .held _ => 1
def uptoBulkAll {H : Type} : List (DataW H) → Nat
  | [] => 0
  | d :: r => uptoBulk d + uptoBulkAll r
def uptoBulkEntries {H : Type} : List (Lit × DataW H) → Nat
  | [] => 0
  | x :: r => uptoBulkEntry x + uptoBulkEntries r
def uptoBulkEntry {H : Type} : Lit × DataW H → Nat
  | (.string bytes, d) => bytes.length + uptoBulk d + 1
  | (_, d) => uptoBulk d + 1
 end
def uptoSmall : (H : Type) → List (DataW H) → Bool := fun _ ds => decide (uptoBulkAll ds ≤ 1048576)
def OpenSpec.upto (s : _root_.Go.ChangeSpec) : _root_.Go.OpenSpec := { _root_.Go.OpenSpec.ofChange s with cond := some uptoSmall }

/-- 'masonrylaw13.FixedTells', WHERE WHAT IT READS IS OF BULK AT MOST 1048576: true; the input reads as it did. -/
def fixedTellsUptoRow : OpenClaim := { program := "ytkhfecgmkhjpiaa", sum := "ecd9c387c67f3365ed737666d97ec8b33353e2b04ca786d8cca1a961f1fe54df", func := "masonry/masonrylaw13.FixedTells", spec := "fixedTells", inPlace := ["internal/abi.NoEscape"], apart := false, narrowed := true }
def FixedTellsUptoSaid : Prop := fixedTellsUptoRow.holds Try.pinned (OpenSpec.upto fixedTellsSpec)

/-- 'masonrylaw14.CdcTells', WHERE WHAT IT READS IS OF BULK AT MOST 1048576: true; the input reads as it did. -/
def cdcTellsUptoRow : OpenClaim := { program := "ytkhfecgmkhjpiaa", sum := "ecd9c387c67f3365ed737666d97ec8b33353e2b04ca786d8cca1a961f1fe54df", func := "masonry/masonrylaw14.CdcTells", spec := "cdcTells", inPlace := ["internal/abi.NoEscape", "internal/bytealg.MakeNoZero"], apart := false, narrowed := true }
def CdcTellsUptoSaid : Prop := cdcTellsUptoRow.holds Try.pinned (OpenSpec.upto cdcTellsSpec)

/-- 'masonrylaw15.SplitTells', WHERE WHAT IT READS IS OF BULK AT MOST 1048576: true; the input reads as it did. -/
def splitTellsUptoRow : OpenClaim := { program := "ytkhfecgmkhjpiaa", sum := "ecd9c387c67f3365ed737666d97ec8b33353e2b04ca786d8cca1a961f1fe54df", func := "masonry/masonrylaw15.SplitTells", spec := "splitTells", inPlace := ["internal/abi.NoEscape", "internal/bytealg.MakeNoZero"], unfollowed := true, recurses := true, apart := false, narrowed := true }
def SplitTellsUptoSaid : Prop := splitTellsUptoRow.holds Try.pinned (OpenSpec.upto splitTellsSpec)

/-- 'masonrylaw15.SplitAgain', WHERE WHAT IT READS IS OF BULK AT MOST 1048576: true; the input reads as it did. -/
def splitAgainUptoRow : OpenClaim := { program := "ytkhfecgmkhjpiaa", sum := "ecd9c387c67f3365ed737666d97ec8b33353e2b04ca786d8cca1a961f1fe54df", func := "masonry/masonrylaw15.SplitAgain", spec := "splitAgain", unfollowed := true, recurses := true, apart := false, narrowed := true }
def SplitAgainUptoSaid : Prop := splitAgainUptoRow.holds Try.pinned (OpenSpec.upto splitAgainSpec)

/-- 'masonrylaw15.SplitRaw', WHERE WHAT IT READS IS OF BULK AT MOST 1048576: true; the input reads as it did. -/
def splitRawUptoRow : OpenClaim := { program := "ytkhfecgmkhjpiaa", sum := "ecd9c387c67f3365ed737666d97ec8b33353e2b04ca786d8cca1a961f1fe54df", func := "masonry/masonrylaw15.SplitRaw", spec := "splitRaw", unfollowed := true, recurses := true, apart := false, narrowed := true }
def SplitRawUptoSaid : Prop := splitRawUptoRow.holds Try.pinned (OpenSpec.upto splitRawSpec)

/-- 'masonrylaw15.SplitFew', WHERE WHAT IT READS IS OF BULK AT MOST 1048576: true; the input reads as it did. -/
def splitFewUptoRow : OpenClaim := { program := "ytkhfecgmkhjpiaa", sum := "ecd9c387c67f3365ed737666d97ec8b33353e2b04ca786d8cca1a961f1fe54df", func := "masonry/masonrylaw15.SplitFew", spec := "splitFew", unfollowed := true, recurses := true, apart := false, narrowed := true }
def SplitFewUptoSaid : Prop := splitFewUptoRow.holds Try.pinned (OpenSpec.upto splitFewSpec)

/-- 'masonrylaw15.SplitTwice', WHERE WHAT IT READS IS OF BULK AT MOST 1048576: true; the input reads as it did. -/
def splitTwiceUptoRow : OpenClaim := { program := "ytkhfecgmkhjpiaa", sum := "ecd9c387c67f3365ed737666d97ec8b33353e2b04ca786d8cca1a961f1fe54df", func := "masonry/masonrylaw15.SplitTwice", spec := "splitTwice", unfollowed := true, recurses := true, apart := false, narrowed := true }
def SplitTwiceUptoSaid : Prop := splitTwiceUptoRow.holds Try.pinned (OpenSpec.upto splitTwiceSpec)

/-- 'masonrylaw15.SplitStays', WHERE WHAT IT READS IS OF BULK AT MOST 1048576: true; the input reads as it did. -/
def splitStaysUptoRow : OpenClaim := { program := "ytkhfecgmkhjpiaa", sum := "ecd9c387c67f3365ed737666d97ec8b33353e2b04ca786d8cca1a961f1fe54df", func := "masonry/masonrylaw15.SplitStays", spec := "splitStays", unfollowed := true, recurses := true, apart := false, narrowed := true }
def SplitStaysUptoSaid : Prop := splitStaysUptoRow.holds Try.pinned (OpenSpec.upto splitStaysSpec)

end Rows
end Go.Proofs.Ytkhfecgmkhjpiaa

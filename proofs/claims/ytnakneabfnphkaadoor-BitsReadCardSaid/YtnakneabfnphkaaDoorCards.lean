/-
  DERIVED. GIVEN WITH THE SEED: THE CARDS: each row of YtnakneabfnphkaaDoorRows.lean that lists a variable, with what it lists TIED to the program's text (the seventh form; the later family's looks); each row that meets fmt, with fmt's text TOLD by the authors' own Lean function (tested against real Go, not proved from fmt's source: count such statements apart). THE CARD IS WHAT COUNTS. Prove the row's statement (the work); the ties are given (YtnakneabfnphkaaDoorTie.lean); close each card by the builder's one call (the guide's Derived/Test/ToyasCard.lean, 'card_holds'). Laid BY PROGRAM, IN A SANDBOX (cutbox-door.mjs). By AI agents, Wed Nov 11 2026. No macro, syntax, notation, axiom, sorry.
-/
import Derived.Test.YtnakneabfnphkaaDoorRows
import GoSem.ClaimSeven
namespace Go.Proofs.YtnakneabfnphkaaDoor
namespace Rows

/-- THE TIED CARD OF 'masonrylaw1.BitsOrder'. -/
def bitsOrderCard : Claim7 := { stood := { row := bitsOrderRow, standIns := [], harness := (true, "0041b9479500a2202b155139031d0cf4f90b37744db6ac3cc4e055c392bc5280"), looks := false }, kinds := [], alts := [], laidByText := true, laidKinds := [.data, .pinned], laidTests := true, laidLooks := .later }
def BitsOrderCardSaid : Prop := Claim7.holds Tryd.pinned (.plain (OpenSpec.ofChange bitsOrderSpec)) bitsOrderCard

/-- THE TIED CARD OF 'masonrylaw1.BitsSizes'. -/
def bitsSizesCard : Claim7 := { stood := { row := bitsSizesRow, standIns := [], harness := (true, "0041b9479500a2202b155139031d0cf4f90b37744db6ac3cc4e055c392bc5280"), looks := false }, kinds := [], alts := [], laidByText := true, laidKinds := [.data, .pinned], laidTests := true, laidLooks := .later }
def BitsSizesCardSaid : Prop := Claim7.holds Tryd.pinned (.plain (OpenSpec.ofChange bitsSizesSpec)) bitsSizesCard

/-- THE TIED CARD OF 'masonrylaw1.BitsRead'. -/
def bitsReadCard : Claim7 := { stood := { row := bitsReadRow, standIns := [], harness := (true, "0041b9479500a2202b155139031d0cf4f90b37744db6ac3cc4e055c392bc5280"), looks := false }, kinds := [], alts := [], laidByText := true, laidKinds := [.data, .pinned], laidTests := true, laidLooks := .later }
def BitsReadCardSaid : Prop := Claim7.holds Tryd.pinned (.plain (OpenSpec.ofChange bitsReadSpec)) bitsReadCard

/-- THE TIED CARD OF 'masonrylaw1.BitsShort'. -/
def bitsShortCard : Claim7 := { stood := { row := bitsShortRow, standIns := [], harness := (true, "0041b9479500a2202b155139031d0cf4f90b37744db6ac3cc4e055c392bc5280"), looks := false }, kinds := [], alts := [], laidByText := true, laidKinds := [.data, .pinned], laidTests := true, laidLooks := .later }
def BitsShortCardSaid : Prop := Claim7.holds Tryd.pinned (.plain (OpenSpec.ofChange bitsShortSpec)) bitsShortCard

/-- THE TIED CARD OF 'masonrylaw1.BitsBack'. -/
def bitsBackCard : Claim7 := { stood := { row := bitsBackRow, standIns := [], harness := (true, "0041b9479500a2202b155139031d0cf4f90b37744db6ac3cc4e055c392bc5280"), looks := false }, kinds := [], alts := [], laidByText := true, laidKinds := [.data, .pinned], laidTests := true, laidLooks := .later }
def BitsBackCardSaid : Prop := Claim7.holds Tryd.pinned (.plain (OpenSpec.ofChange bitsBackSpec)) bitsBackCard

/-- THE TIED CARD OF 'masonrylaw1.BitsNone'. -/
def bitsNoneCard : Claim7 := { stood := { row := bitsNoneRow, standIns := [], harness := (true, "0041b9479500a2202b155139031d0cf4f90b37744db6ac3cc4e055c392bc5280"), looks := false }, kinds := [], alts := [], laidByText := true, laidKinds := [.data, .pinned], laidTests := true, laidLooks := .later }
def BitsNoneCardSaid : Prop := Claim7.holds Tryd.pinned (.plain (OpenSpec.ofChange bitsNoneSpec)) bitsNoneCard

/-- THE SECOND FORM's CARD OF 'masonrylaw1.BitsOrder'. -/
def bitsOrderUptoCard : Claim7 := { stood := { row := bitsOrderUptoRow, standIns := [], harness := (true, "0041b9479500a2202b155139031d0cf4f90b37744db6ac3cc4e055c392bc5280"), looks := false }, kinds := [], alts := [], laidByText := true, laidKinds := [.data, .pinned], laidTests := true, laidLooks := .later }
def BitsOrderUptoCardSaid : Prop := Claim7.holds Tryd.pinned (.plain (OpenSpec.upto bitsOrderSpec)) bitsOrderUptoCard

/-- THE SECOND FORM's CARD OF 'masonrylaw1.BitsSizes'. -/
def bitsSizesUptoCard : Claim7 := { stood := { row := bitsSizesUptoRow, standIns := [], harness := (true, "0041b9479500a2202b155139031d0cf4f90b37744db6ac3cc4e055c392bc5280"), looks := false }, kinds := [], alts := [], laidByText := true, laidKinds := [.data, .pinned], laidTests := true, laidLooks := .later }
def BitsSizesUptoCardSaid : Prop := Claim7.holds Tryd.pinned (.plain (OpenSpec.upto bitsSizesSpec)) bitsSizesUptoCard

/-- THE SECOND FORM's CARD OF 'masonrylaw1.BitsRead'. -/
def bitsReadUptoCard : Claim7 := { stood := { row := bitsReadUptoRow, standIns := [], harness := (true, "0041b9479500a2202b155139031d0cf4f90b37744db6ac3cc4e055c392bc5280"), looks := false }, kinds := [], alts := [], laidByText := true, laidKinds := [.data, .pinned], laidTests := true, laidLooks := .later }
def BitsReadUptoCardSaid : Prop := Claim7.holds Tryd.pinned (.plain (OpenSpec.upto bitsReadSpec)) bitsReadUptoCard

/-- THE SECOND FORM's CARD OF 'masonrylaw1.BitsShort'. -/
def bitsShortUptoCard : Claim7 := { stood := { row := bitsShortUptoRow, standIns := [], harness := (true, "0041b9479500a2202b155139031d0cf4f90b37744db6ac3cc4e055c392bc5280"), looks := false }, kinds := [], alts := [], laidByText := true, laidKinds := [.data, .pinned], laidTests := true, laidLooks := .later }
def BitsShortUptoCardSaid : Prop := Claim7.holds Tryd.pinned (.plain (OpenSpec.upto bitsShortSpec)) bitsShortUptoCard

/-- THE SECOND FORM's CARD OF 'masonrylaw1.BitsBack'. -/
def bitsBackUptoCard : Claim7 := { stood := { row := bitsBackUptoRow, standIns := [], harness := (true, "0041b9479500a2202b155139031d0cf4f90b37744db6ac3cc4e055c392bc5280"), looks := false }, kinds := [], alts := [], laidByText := true, laidKinds := [.data, .pinned], laidTests := true, laidLooks := .later }
def BitsBackUptoCardSaid : Prop := Claim7.holds Tryd.pinned (.plain (OpenSpec.upto bitsBackSpec)) bitsBackUptoCard

/-- THE SECOND FORM's CARD OF 'masonrylaw1.BitsNone'. -/
def bitsNoneUptoCard : Claim7 := { stood := { row := bitsNoneUptoRow, standIns := [], harness := (true, "0041b9479500a2202b155139031d0cf4f90b37744db6ac3cc4e055c392bc5280"), looks := false }, kinds := [], alts := [], laidByText := true, laidKinds := [.data, .pinned], laidTests := true, laidLooks := .later }
def BitsNoneUptoCardSaid : Prop := Claim7.holds Tryd.pinned (.plain (OpenSpec.upto bitsNoneSpec)) bitsNoneUptoCard
end Rows
end Go.Proofs.YtnakneabfnphkaaDoor

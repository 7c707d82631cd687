/-
  DERIVED. GIVEN WITH THE SEED: THE CARDS: each row of YtbkankpfkbafdaaDoorRows.lean that lists a variable, with what it lists TIED to the program's text (the seventh form; the later family's looks); each row that meets fmt, with fmt's text TOLD by the authors' own Lean function (tested against real Go, not proved from fmt's source: count such statements apart). THE CARD IS WHAT COUNTS. Prove the row's statement (the work); the ties are given (YtbkankpfkbafdaaDoorTie.lean); close each card by the builder's one call (the guide's Derived/Test/ToyasCard.lean, 'card_holds'). Laid BY PROGRAM, IN A SANDBOX (cutbox-door.mjs). By AI agents, Wed Nov 11 2026. No macro, syntax, notation, axiom, sorry.
-/
import Derived.Test.YtbkankpfkbafdaaDoorRows
import GoSem.ClaimSeven
namespace Go.Proofs.YtbkankpfkbafdaaDoor
namespace Rows

/-- THE TIED CARD OF 'masonrylaw6.MarkNone'. -/
def markNoneCard : Claim7 := { stood := { row := markNoneRow, standIns := [], harness := (true, "f8ba98d00b9eb3e62dbfb7aa5d4d059ea772ba9d8dc6426af3d46ce900ad6550"), looks := false }, kinds := [], alts := [], laidByText := true, laidKinds := [.data, .pinned], laidTests := true, laidLooks := .later }
def MarkNoneCardSaid : Prop := Claim7.holds Tryd.pinned (.plain (OpenSpec.ofChange markNoneSpec)) markNoneCard

/-- THE TIED CARD OF 'masonrylaw6.MarkBack'. -/
def markBackCard : Claim7 := { stood := { row := markBackRow, standIns := [], harness := (true, "f8ba98d00b9eb3e62dbfb7aa5d4d059ea772ba9d8dc6426af3d46ce900ad6550"), looks := false }, kinds := [], alts := [], laidByText := true, laidKinds := [.data, .pinned], laidTests := true, laidLooks := .later }
def MarkBackCardSaid : Prop := Claim7.holds Tryd.pinned (.plain (OpenSpec.ofChange markBackSpec)) markBackCard

/-- THE TIED CARD OF 'masonrylaw6.MarkTells'. -/
def markTellsCard : Claim7 := { stood := { row := markTellsRow, standIns := [], harness := (true, "f8ba98d00b9eb3e62dbfb7aa5d4d059ea772ba9d8dc6426af3d46ce900ad6550"), looks := false }, kinds := [], alts := [], laidByText := true, laidKinds := [.data, .pinned], laidTests := true, laidLooks := .later }
def MarkTellsCardSaid : Prop := Claim7.holds Tryd.pinned (.plain (OpenSpec.ofChange markTellsSpec)) markTellsCard

/-- THE SECOND FORM's CARD OF 'masonrylaw6.MarkNone'. -/
def markNoneUptoCard : Claim7 := { stood := { row := markNoneUptoRow, standIns := [], harness := (true, "f8ba98d00b9eb3e62dbfb7aa5d4d059ea772ba9d8dc6426af3d46ce900ad6550"), looks := false }, kinds := [], alts := [], laidByText := true, laidKinds := [.data, .pinned], laidTests := true, laidLooks := .later }
def MarkNoneUptoCardSaid : Prop := Claim7.holds Tryd.pinned (.plain (OpenSpec.upto markNoneSpec)) markNoneUptoCard

/-- THE SECOND FORM's CARD OF 'masonrylaw6.MarkBack'. -/
def markBackUptoCard : Claim7 := { stood := { row := markBackUptoRow, standIns := [], harness := (true, "f8ba98d00b9eb3e62dbfb7aa5d4d059ea772ba9d8dc6426af3d46ce900ad6550"), looks := false }, kinds := [], alts := [], laidByText := true, laidKinds := [.data, .pinned], laidTests := true, laidLooks := .later }
def MarkBackUptoCardSaid : Prop := Claim7.holds Tryd.pinned (.plain (OpenSpec.upto markBackSpec)) markBackUptoCard

/-- THE SECOND FORM's CARD OF 'masonrylaw6.MarkTells'. -/
def markTellsUptoCard : Claim7 := { stood := { row := markTellsUptoRow, standIns := [], harness := (true, "f8ba98d00b9eb3e62dbfb7aa5d4d059ea772ba9d8dc6426af3d46ce900ad6550"), looks := false }, kinds := [], alts := [], laidByText := true, laidKinds := [.data, .pinned], laidTests := true, laidLooks := .later }
def MarkTellsUptoCardSaid : Prop := Claim7.holds Tryd.pinned (.plain (OpenSpec.upto markTellsSpec)) markTellsUptoCard
end Rows
end Go.Proofs.YtbkankpfkbafdaaDoor

/-
  DERIVED. GIVEN WITH THE SEED: THE CARDS: each row of YtninoogbkaeihaaDoorRows.lean that lists a variable, with what it lists TIED to the program's text (the seventh form; the later family's looks); each row that meets fmt, with fmt's text TOLD by the authors' own Lean function (tested against real Go, not proved from fmt's source: count such statements apart). THE CARD IS WHAT COUNTS. Prove the row's statement (the work); the ties are given (YtninoogbkaeihaaDoorTie.lean); close each card by the builder's one call (the guide's Derived/Test/ToyasCard.lean, 'card_holds'). Laid BY PROGRAM, IN A SANDBOX (cutbox-door.mjs). By AI agents, Wed Nov 11 2026. No macro, syntax, notation, axiom, sorry.
-/
import Derived.Test.YtninoogbkaeihaaDoorRows
import GoSem.ClaimSeven
namespace Go.Proofs.YtninoogbkaeihaaDoor
namespace Rows

/-- THE TIED CARD OF 'masonrylaw1.BitsSizes'. -/
def bitsSizesCard : Claim7 := { stood := { row := bitsSizesRow, standIns := [], harness := (true, "af39f3bcf65a112a56b549789634e99077ebe3089df86581d860fade1e3e504d"), looks := false }, kinds := [], alts := [], laidByText := true, laidKinds := [.data, .pinned], laidTests := true, laidLooks := .later }
def BitsSizesCardSaid : Prop := Claim7.holds Tryd.pinned (.plain (OpenSpec.ofChange bitsSizesSpec)) bitsSizesCard

/-- THE SECOND FORM's CARD OF 'masonrylaw1.BitsSizes'. -/
def bitsSizesUptoCard : Claim7 := { stood := { row := bitsSizesUptoRow, standIns := [], harness := (true, "af39f3bcf65a112a56b549789634e99077ebe3089df86581d860fade1e3e504d"), looks := false }, kinds := [], alts := [], laidByText := true, laidKinds := [.data, .pinned], laidTests := true, laidLooks := .later }
def BitsSizesUptoCardSaid : Prop := Claim7.holds Tryd.pinned (.plain (OpenSpec.upto bitsSizesSpec)) bitsSizesUptoCard
end Rows
end Go.Proofs.YtninoogbkaeihaaDoor

/-
  DERIVED. GIVEN WITH THE SEED: THE CARDS: each row of YtfkjeopbkmoajaaDoorRows.lean that lists a variable, with what it lists TIED to the program's text (the seventh form; the later family's looks); each row that meets fmt, with fmt's text TOLD by the authors' own Lean function (tested against real Go, not proved from fmt's source: count such statements apart). THE CARD IS WHAT COUNTS. Prove the row's statement (the work); the ties are given (YtfkjeopbkmoajaaDoorTie.lean); close each card by the builder's one call (the guide's Derived/Test/ToyasCard.lean, 'card_holds'). Laid BY PROGRAM, IN A SANDBOX (cutbox-door.mjs). By AI agents, Wed Nov 11 2026. No macro, syntax, notation, axiom, sorry.
-/
import Derived.Test.YtfkjeopbkmoajaaDoorRows
import GoSem.ClaimSeven
namespace Go.Proofs.YtfkjeopbkmoajaaDoor
namespace Rows

/-- THE TIED CARD OF 'libevolutionlaw11.ValueNumbers'. -/
def valueNumbersCard : Claim7 := { stood := { row := valueNumbersRow, standIns := [], harness := (true, "ec40dc8ca9d5bfefba33ab1af27c4ca172a5816a4c6890faad1d3c6ab3b7da99"), looks := false }, kinds := [], alts := [], laidByText := true, laidKinds := [.data, .data, .data], laidTests := true, laidLooks := .later }
def ValueNumbersCardSaid : Prop := Claim7.holds Tryd.pinned (.plain (OpenSpec.ofChange valueNumbersSpec)) valueNumbersCard

/-- THE SECOND FORM's CARD OF 'libevolutionlaw11.ValueNumbers'. -/
def valueNumbersUptoCard : Claim7 := { stood := { row := valueNumbersUptoRow, standIns := [], harness := (true, "ec40dc8ca9d5bfefba33ab1af27c4ca172a5816a4c6890faad1d3c6ab3b7da99"), looks := false }, kinds := [], alts := [], laidByText := true, laidKinds := [.data, .data, .data], laidTests := true, laidLooks := .later }
def ValueNumbersUptoCardSaid : Prop := Claim7.holds Tryd.pinned (.plain (OpenSpec.upto valueNumbersSpec)) valueNumbersUptoCard
end Rows
end Go.Proofs.YtfkjeopbkmoajaaDoor

/-
  DERIVED. GIVEN WITH THE SEED: THE CARDS: each row of YtpknkifmjokhgaaDoorRows.lean that lists a variable, with what it lists TIED to the program's text (the seventh form; the later family's looks); each row that meets fmt, with fmt's text TOLD by the authors' own Lean function (tested against real Go, not proved from fmt's source: count such statements apart). THE CARD IS WHAT COUNTS. Prove the row's statement (the work); the ties are given (YtpknkifmjokhgaaDoorTie.lean); close each card by the builder's one call (the guide's Derived/Test/ToyasCard.lean, 'card_holds'). Laid BY PROGRAM, IN A SANDBOX (cutbox-door.mjs). By AI agents, Wed Nov 11 2026. No macro, syntax, notation, axiom, sorry.
-/
import Derived.Test.YtpknkifmjokhgaaDoorRows
import GoSem.ClaimSeven
namespace Go.Proofs.YtpknkifmjokhgaaDoor
namespace Rows

/-- THE TIED CARD OF 'ferrylaw27.RunTells'. -/
def runTellsCard : Claim7 := { stood := { row := runTellsRow, standIns := [], harness := (true, "8ddabb475ba1f01c92a9715c8d3fe578683ce351984fe36bd363b6201123dc61"), looks := true }, kinds := [], alts := [], laidByText := true, laidKinds := [.data, .data, .data], laidTests := true, laidLooks := .later }
def RunTellsCardSaid : Prop := Claim7.holds Tryd.pinned (.plain (OpenSpec.ofChange runTellsSpec)) runTellsCard

/-- THE SECOND FORM's CARD OF 'ferrylaw27.RunTells'. -/
def runTellsUptoCard : Claim7 := { stood := { row := runTellsUptoRow, standIns := [], harness := (true, "8ddabb475ba1f01c92a9715c8d3fe578683ce351984fe36bd363b6201123dc61"), looks := true }, kinds := [], alts := [], laidByText := true, laidKinds := [.data, .data, .data], laidTests := true, laidLooks := .later }
def RunTellsUptoCardSaid : Prop := Claim7.holds Tryd.pinned (.plain (OpenSpec.upto runTellsSpec)) runTellsUptoCard
end Rows
end Go.Proofs.YtpknkifmjokhgaaDoor

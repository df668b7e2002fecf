/-
  DERIVED. GIVEN WITH THE SEED: THE CARDS: each row of YtjnejkmcmmablaaGreatDoorRows.lean that lists a variable, with what it lists TIED to the program's text (the seventh form; the later family's looks); each row that meets fmt, with fmt's text TOLD by the authors' own Lean function (tested against real Go, not proved from fmt's source: count such statements apart). THE CARD IS WHAT COUNTS. Prove the row's statement (the work); the ties are given (YtjnejkmcmmablaaGreatDoorTie.lean); close each card by the builder's one call (the guide's Derived/Test/ToyasCard.lean, 'card_holds'). Laid BY PROGRAM, IN A SANDBOX (cutbox-door.mjs). By AI agents, Wed Nov 11 2026. No macro, syntax, notation, axiom, sorry.
-/
import Derived.Test.YtjnejkmcmmablaaGreatDoorRows
import GoSem.ClaimSeven
namespace Go.Proofs.YtjnejkmcmmablaaGreatDoor
namespace Rows

/-- THE TIED CARD OF 'dragomanlaw09.StreamHolds'. -/
def streamHoldsCard : Claim7 := { stood := { row := streamHoldsRow, standIns := [], harness := (true, "31f82c77fcce093c79c8dea4b3bf451438777243c6cd7d01c9694073c60641c5"), looks := true }, kinds := [], alts := [], laidByText := true, laidKinds := [.data, .data, .data, .data, .sentinel, .sentinel, .pinned], laidTests := true, laidLooks := .later }
def StreamHoldsCardSaid : Prop := Claim7.holds Tryz.pinned (.plain (OpenSpec.ofChange streamHoldsSpec)) streamHoldsCard

/-- THE SECOND FORM's CARD OF 'dragomanlaw09.StreamHolds'. -/
def streamHoldsUptoCard : Claim7 := { stood := { row := streamHoldsUptoRow, standIns := [], harness := (true, "31f82c77fcce093c79c8dea4b3bf451438777243c6cd7d01c9694073c60641c5"), looks := true }, kinds := [], alts := [], laidByText := true, laidKinds := [.data, .data, .data, .data, .sentinel, .sentinel, .pinned], laidTests := true, laidLooks := .later }
def StreamHoldsUptoCardSaid : Prop := Claim7.holds Tryz.pinned (.plain (OpenSpec.upto streamHoldsSpec)) streamHoldsUptoCard
end Rows
end Go.Proofs.YtjnejkmcmmablaaGreatDoor

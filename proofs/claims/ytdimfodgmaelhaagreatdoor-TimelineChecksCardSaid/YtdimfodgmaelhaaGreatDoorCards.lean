/-
  DERIVED. GIVEN WITH THE SEED: THE CARDS: each row of YtdimfodgmaelhaaGreatDoorRows.lean that lists a variable, with what it lists TIED to the program's text (the seventh form; the later family's looks); each row that meets fmt, with fmt's text TOLD by the authors' own Lean function (tested against real Go, not proved from fmt's source: count such statements apart). THE CARD IS WHAT COUNTS. Prove the row's statement (the work); the ties are given (YtdimfodgmaelhaaGreatDoorTie.lean); close each card by the builder's one call (the guide's Derived/Test/ToyasCard.lean, 'card_holds'). Laid BY PROGRAM, IN A SANDBOX (cutbox-door.mjs). By AI agents, Wed Nov 11 2026. No macro, syntax, notation, axiom, sorry.
-/
import Derived.Test.YtdimfodgmaelhaaGreatDoorRows
import GoSem.ClaimSeven
namespace Go.Proofs.YtdimfodgmaelhaaGreatDoor
namespace Rows

/-- THE TIED CARD OF 'nurserylaw58.TimelineChecks'. -/
def timelineChecksCard : Claim7 := { stood := { row := timelineChecksRow, standIns := [], harness := (true, "30508b87ea6747ffcb98fb14d877b938c1bc04f2b2ec7b10c61c77bc3b79e010"), looks := true }, kinds := [], alts := [], laidByText := true, laidKinds := [.data, .data, .data], laidTests := true, laidLooks := .later }
def TimelineChecksCardSaid : Prop := Claim7.holds Tryz.pinned (.plain (OpenSpec.ofChange timelineChecksSpec)) timelineChecksCard
end Rows
end Go.Proofs.YtdimfodgmaelhaaGreatDoor

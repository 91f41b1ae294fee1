/-
  DERIVED. GIVEN WITH THE SEED: THE CARDS: each row of YtnpljilhnnkbaaaGreatDoorRows.lean that lists a variable, with what it lists TIED to the program's text (the seventh form; the later family's looks); each row that meets fmt, with fmt's text TOLD by the authors' own Lean function (tested against real Go, not proved from fmt's source: count such statements apart). THE CARD IS WHAT COUNTS. Prove the row's statement (the work); the ties are given (YtnpljilhnnkbaaaGreatDoorTie.lean); close each card by the builder's one call (the guide's Derived/Test/ToyasCard.lean, 'card_holds'). Laid BY PROGRAM, IN A SANDBOX (cutbox-door.mjs). By AI agents, Wed Nov 11 2026. No macro, syntax, notation, axiom, sorry.
-/
import Derived.Test.YtnpljilhnnkbaaaGreatDoorRows
import GoSem.ClaimSeven
namespace Go.Proofs.YtnpljilhnnkbaaaGreatDoor
namespace Rows

/-- THE TIED CARD OF 'nurserylaw57.MetricsTexts'. -/
def metricsTextsCard : Claim7 := { stood := { row := metricsTextsRow, standIns := [], harness := (true, "0224e12b676656a55014bb4d5e5bcc38ca2c6a8c903b9b2e719991d1146c6b41"), looks := true }, kinds := [], alts := [], laidByText := true, laidKinds := [.data, .data, .data, .pinned, .data, .sentinel, .sentinel], laidTests := true, laidLooks := .later }
def MetricsTextsCardSaid : Prop := Claim7.holds Tryz.pinned (.plain (OpenSpec.ofChange metricsTextsSpec)) metricsTextsCard

/-- THE TIED CARD OF 'nurserylaw57.MetricsLists'. -/
def metricsListsCard : Claim7 := { stood := { row := metricsListsRow, standIns := [], harness := (true, "0224e12b676656a55014bb4d5e5bcc38ca2c6a8c903b9b2e719991d1146c6b41"), looks := true }, kinds := [], alts := [], laidByText := true, laidKinds := [.data, .data, .data, .pinned, .data, .sentinel, .sentinel], laidTests := true, laidLooks := .later }
def MetricsListsCardSaid : Prop := Claim7.holds Tryz.pinned (.plain (OpenSpec.ofChange metricsListsSpec)) metricsListsCard

/-- THE SECOND FORM's CARD OF 'nurserylaw57.MetricsTexts'. -/
def metricsTextsUptoCard : Claim7 := { stood := { row := metricsTextsUptoRow, standIns := [], harness := (true, "0224e12b676656a55014bb4d5e5bcc38ca2c6a8c903b9b2e719991d1146c6b41"), looks := true }, kinds := [], alts := [], laidByText := true, laidKinds := [.data, .data, .data, .pinned, .data, .sentinel, .sentinel], laidTests := true, laidLooks := .later }
def MetricsTextsUptoCardSaid : Prop := Claim7.holds Tryz.pinned (.plain (OpenSpec.upto metricsTextsSpec)) metricsTextsUptoCard
end Rows
end Go.Proofs.YtnpljilhnnkbaaaGreatDoor

/-
  DERIVED. GIVEN WITH THE SEED: THE CARDS: each row of YtfekipocjifehaaGreatDoorRows.lean that lists a variable, with what it lists TIED to the program's text (the seventh form; the later family's looks); each row that meets fmt, with fmt's text TOLD by the authors' own Lean function (tested against real Go, not proved from fmt's source: count such statements apart). THE CARD IS WHAT COUNTS. Prove the row's statement (the work); the ties are given (YtfekipocjifehaaGreatDoorTie.lean); close each card by the builder's one call (the guide's Derived/Test/ToyasCard.lean, 'card_holds'). Laid BY PROGRAM, IN A SANDBOX (cutbox-door.mjs). By AI agents, Wed Nov 11 2026. No macro, syntax, notation, axiom, sorry.
-/
import Derived.Test.YtfekipocjifehaaGreatDoorRows
import GoSem.ClaimSeven
namespace Go.Proofs.YtfekipocjifehaaGreatDoor
namespace Rows

/-- THE TIED CARD OF 'nurserylaw57.MetricsMerge'. -/
def metricsMergeCard : Claim7 := { stood := { row := metricsMergeRow, standIns := [], harness := (true, "15d3547d405906cb8da694e6e0db6e26522d460bc3f1f1d09bc11c1a6643567e"), looks := true }, kinds := [], alts := [], laidByText := true, laidKinds := [.data, .data, .data], laidTests := true, laidLooks := .later }
def MetricsMergeCardSaid : Prop := Claim7.holds Tryz.pinned (.plain (OpenSpec.ofChange metricsMergeSpec)) metricsMergeCard

/-- THE TIED CARD OF 'nurserylaw57.MetricsUnion'. -/
def metricsUnionCard : Claim7 := { stood := { row := metricsUnionRow, standIns := [], harness := (true, "15d3547d405906cb8da694e6e0db6e26522d460bc3f1f1d09bc11c1a6643567e"), looks := true }, kinds := [], alts := [], laidByText := true, laidKinds := [.data, .data, .data], laidTests := true, laidLooks := .later }
def MetricsUnionCardSaid : Prop := Claim7.holds Tryz.pinned (.plain (OpenSpec.ofChange metricsUnionSpec)) metricsUnionCard
end Rows
end Go.Proofs.YtfekipocjifehaaGreatDoor

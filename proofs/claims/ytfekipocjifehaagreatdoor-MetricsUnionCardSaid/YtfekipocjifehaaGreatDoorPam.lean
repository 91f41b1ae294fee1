/- A part of the proof. -/
import Derived.Test.YtfekipocjifehaaGreatDoorRows
import Derived.KernelRfl
import GoSem.ClaimSeven
set_option linter.all false
namespace Go.Proofs.YtfekipocjifehaaGreatDoor
open Go
theorem wf4 : Rows.metricsUnionRow.wfByText (OpenSpec.ofChange Rows.metricsUnionSpec) = true := by kernel_rfl
theorem named4 : Tryz.prog.funcNamed "nursery/nurserylaw57.MetricsUnion" = some 4 := by kernel_rfl
end Go.Proofs.YtfekipocjifehaaGreatDoor

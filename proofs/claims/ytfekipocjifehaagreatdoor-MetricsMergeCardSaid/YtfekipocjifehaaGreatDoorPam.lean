/- A part of the proof. -/
import Derived.Test.YtfekipocjifehaaGreatDoorRows
import Derived.KernelRfl
import GoSem.ClaimSeven
set_option linter.all false
namespace Go.Proofs.YtfekipocjifehaaGreatDoor
open Go
theorem wf3 : Rows.metricsMergeRow.wfByText (OpenSpec.ofChange Rows.metricsMergeSpec) = true := by kernel_rfl
theorem named3 : Tryz.prog.funcNamed "nursery/nurserylaw57.MetricsMerge" = some 3 := by kernel_rfl
end Go.Proofs.YtfekipocjifehaaGreatDoor

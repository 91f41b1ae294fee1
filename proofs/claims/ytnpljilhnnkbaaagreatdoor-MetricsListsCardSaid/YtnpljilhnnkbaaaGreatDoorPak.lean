/- A part of the proof. -/
import Derived.Test.YtnpljilhnnkbaaaGreatDoorRows
import Derived.KernelRfl
import GoSem.ClaimSeven
set_option linter.all false
namespace Go.Proofs.YtnpljilhnnkbaaaGreatDoor
open Go
theorem wf4 : Rows.metricsListsRow.wfByText (OpenSpec.ofChange Rows.metricsListsSpec) = true := by kernel_rfl
theorem named4 : Tryz.prog.funcNamed "nursery/nurserylaw57.MetricsLists" = some 4 := by kernel_rfl
end Go.Proofs.YtnpljilhnnkbaaaGreatDoor

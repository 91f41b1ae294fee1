/- A part of the proof. -/
import Derived.Test.YtnpljilhnnkbaaaGreatDoorRows
import Derived.KernelRfl
import GoSem.ClaimSeven
set_option linter.all false
namespace Go.Proofs.YtnpljilhnnkbaaaGreatDoor
open Go
theorem wf3 : Rows.metricsTextsRow.wfByText (OpenSpec.ofChange Rows.metricsTextsSpec) = true := by kernel_rfl
theorem named3 : Tryz.prog.funcNamed "nursery/nurserylaw57.MetricsTexts" = some 3 := by kernel_rfl
end Go.Proofs.YtnpljilhnnkbaaaGreatDoor

/- A part of the proof. -/
import Derived.Test.YtdimfodgmaelhaaGreatDoorRows
import Derived.KernelRfl
import GoSem.ClaimSeven
set_option linter.all false
section
namespace Go.Proofs.YtdimfodgmaelhaaGreatDoor
open Go
theorem wf3 : Rows.timelineChecksRow.wfByText (OpenSpec.ofChange Rows.timelineChecksSpec) = true := by kernel_rfl
theorem named3 : Tryz.prog.funcNamed "nursery/nurserylaw58.TimelineChecks" = some 3 := by kernel_rfl
end Go.Proofs.YtdimfodgmaelhaaGreatDoor
end
section
namespace Go.Proofs.YtdimfodgmaelhaaGreatDoor
open Go
theorem looks_all : true = Tryz.pinned.checked.prog.looks [] := by kernel_rfl
end Go.Proofs.YtdimfodgmaelhaaGreatDoor
end

/- A part of the proof. -/
import Derived.Test.YtdimfodgmaelhaaGreatDoorRows
import Derived.LaidByTextLater
import Derived.SevenTiedAt
import Derived.KernelRfl
import GoSem.ClaimSeven
set_option linter.all false
section
namespace Go.Proofs.YtdimfodgmaelhaaGreatDoor
open Go
set_option maxRecDepth 100000
theorem ti3 : Tryz.prog.worded rootWordLater = true := by kernel_rfl
end Go.Proofs.YtdimfodgmaelhaaGreatDoor
end
section
namespace Go.Proofs.YtdimfodgmaelhaaGreatDoor
open Go
set_option maxRecDepth 100000
theorem ti5 : (Tryz.prog.funcNamed "gosem.cut.vars").isSome = true := by kernel_rfl
end Go.Proofs.YtdimfodgmaelhaaGreatDoor
end
section
namespace Go.Proofs.YtdimfodgmaelhaaGreatDoor
open Go
theorem main_is : Tryz.pinned.checked.prog.mainIs = some (true, "30508b87ea6747ffcb98fb14d877b938c1bc04f2b2ec7b10c61c77bc3b79e010".toList) := by kernel_rfl
end Go.Proofs.YtdimfodgmaelhaaGreatDoor
end

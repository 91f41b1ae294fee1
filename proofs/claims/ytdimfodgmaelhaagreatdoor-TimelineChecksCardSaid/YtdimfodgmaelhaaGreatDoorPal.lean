/- A part of the proof. -/
import Derived.Test.YtdimfodgmaelhaaGreatDoorRows
import Derived.JoinedOf
import Derived.KernelRfl
set_option linter.all false
namespace Go.Proofs.YtdimfodgmaelhaaGreatDoor
open Go
theorem fact2 : (laidOutB Tryz.prog) = true := by kernel_rfl
end Go.Proofs.YtdimfodgmaelhaaGreatDoor

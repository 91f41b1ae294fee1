/- A part of the proof. -/
import Derived.Test.YtdimfodgmaelhaaGreatDoorPbg
import Derived.Test.YtdimfodgmaelhaaGreatDoorRows
import Derived.KernelRfl
set_option linter.all false
namespace Go.Proofs.YtdimfodgmaelhaaGreatDoor
open Go
theorem goes_all : Tryz.prog.funcs.any Func.goes = false := by kernel_rfl
end Go.Proofs.YtdimfodgmaelhaaGreatDoor

/- A part of the proof. -/
import Derived.Test.YtnpljilhnnkbaaaGreatDoorPbk
import Derived.Test.YtnpljilhnnkbaaaGreatDoorRows
import Derived.KernelRfl
set_option linter.all false
namespace Go.Proofs.YtnpljilhnnkbaaaGreatDoor
open Go
theorem goes_all : Tryz.prog.funcs.any Func.goes = false := by kernel_rfl
end Go.Proofs.YtnpljilhnnkbaaaGreatDoor

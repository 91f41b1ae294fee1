/- A part of the proof. -/
import Derived.Test.YtnpljilhnnkbaaaGreatDoorRows
import Derived.JoinedOf
import Derived.KernelRfl
set_option linter.all false
namespace Go.Proofs.YtnpljilhnnkbaaaGreatDoor
open Go
theorem fact3 : (mapsRowed Tryz.prog) = true := by kernel_rfl
theorem fact25 : (Tryz.prog.stopsHeard) = true := by kernel_rfl
theorem fact26 : (Tryz.prog.mayEnter) = true := by kernel_rfl
end Go.Proofs.YtnpljilhnnkbaaaGreatDoor

/- A part of the proof. -/
import Derived.Test.YtnpljilhnnkbaaaGreatDoorRows
import Derived.JoinedOf
import Derived.KernelRfl
set_option linter.all false
namespace Go.Proofs.YtnpljilhnnkbaaaGreatDoor
open Go
theorem fact2 : (laidOutB Tryz.prog) = true := by kernel_rfl
end Go.Proofs.YtnpljilhnnkbaaaGreatDoor

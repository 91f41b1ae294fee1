/- A part of the proof. -/
import Derived.Test.YtnpljilhnnkbaaaGreatDoorRows
import Derived.KernelRfl
import GoSem.ClaimSeven
set_option linter.all false
namespace Go.Proofs.YtnpljilhnnkbaaaGreatDoor
open Go
theorem looks_all : true = Tryz.pinned.checked.prog.looks [] := by kernel_rfl
end Go.Proofs.YtnpljilhnnkbaaaGreatDoor

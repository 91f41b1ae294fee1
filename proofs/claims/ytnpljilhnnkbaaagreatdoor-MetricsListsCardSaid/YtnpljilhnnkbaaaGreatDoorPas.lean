/- A part of the proof. -/
import Derived.Test.YtnpljilhnnkbaaaGreatDoorRows
import Derived.KernelRfl
import GoSem.ClaimSeven
set_option linter.all false
namespace Go.Proofs.YtnpljilhnnkbaaaGreatDoor
open Go
theorem main_is : Tryz.pinned.checked.prog.mainIs = some (true, "0224e12b676656a55014bb4d5e5bcc38ca2c6a8c903b9b2e719991d1146c6b41".toList) := by kernel_rfl
end Go.Proofs.YtnpljilhnnkbaaaGreatDoor

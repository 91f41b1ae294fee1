/- A part of the proof. -/
import Derived.Test.YtfekipocjifehaaGreatDoorRows
import Derived.KernelRfl
import GoSem.ClaimSeven
set_option linter.all false
namespace Go.Proofs.YtfekipocjifehaaGreatDoor
open Go
theorem main_is : Tryz.pinned.checked.prog.mainIs = some (true, "15d3547d405906cb8da694e6e0db6e26522d460bc3f1f1d09bc11c1a6643567e".toList) := by kernel_rfl
end Go.Proofs.YtfekipocjifehaaGreatDoor

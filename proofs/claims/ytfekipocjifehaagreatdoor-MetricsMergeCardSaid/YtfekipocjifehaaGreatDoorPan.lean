/- A part of the proof. -/
import Derived.Test.YtfekipocjifehaaGreatDoorRows
import Derived.KernelRfl
import GoSem.ClaimSeven
set_option linter.all false
namespace Go.Proofs.YtfekipocjifehaaGreatDoor
open Go
theorem looks_all : true = Tryz.pinned.checked.prog.looks [] := by kernel_rfl
end Go.Proofs.YtfekipocjifehaaGreatDoor

/- A part of the proof. -/
import Derived.Test.YtfekipocjifehaaGreatDoorRows
import Derived.JoinedOf
import Derived.KernelRfl
set_option linter.all false
namespace Go.Proofs.YtfekipocjifehaaGreatDoor
open Go
theorem fact2 : (laidOutB Tryz.prog) = true := by kernel_rfl
end Go.Proofs.YtfekipocjifehaaGreatDoor

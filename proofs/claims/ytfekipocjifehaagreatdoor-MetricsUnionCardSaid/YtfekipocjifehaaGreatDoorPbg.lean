/- A part of the proof. -/
import Derived.Test.YtfekipocjifehaaGreatDoorPas
import Derived.Test.YtfekipocjifehaaGreatDoorRows
import Derived.KernelRfl
set_option linter.all false
namespace Go.Proofs.YtfekipocjifehaaGreatDoor
open Go
theorem goes_all : Tryz.prog.funcs.any Func.goes = false := by kernel_rfl
end Go.Proofs.YtfekipocjifehaaGreatDoor

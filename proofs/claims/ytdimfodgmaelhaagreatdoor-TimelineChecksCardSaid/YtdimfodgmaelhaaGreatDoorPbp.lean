/- A part of the proof. -/
import Derived.Test.YtdimfodgmaelhaaGreatDoorPbk
set_option linter.all false
namespace AvT
open Av
set_option maxRecDepth 100000
theorem aw_true : isT (e3.call 0 4 [] ⟨.e, .h, 0, .e⟩) = true := by decide +kernel
end AvT

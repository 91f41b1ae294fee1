/- A part of the proof. -/
import Derived.Test.YtnpljilhnnkbaaaGreatDoorPbm
set_option linter.all false
namespace AvT
open Av
set_option maxRecDepth 100000
theorem aw_true : isT (e2.call 0 6 [] ⟨.e, .h, 0, .e⟩) = true := by decide +kernel
end AvT

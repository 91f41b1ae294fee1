/- A part of the proof. -/
import Derived.Test.YtnpljilhnnkbaaaGreatDoorPbm
set_option linter.all false
namespace AvT
open Av
set_option maxRecDepth 100000
theorem mS4_ok : entB e0 91 mS4 = true := by decide +kernel
theorem mS5_ok : entB e0 91 mS5 = true := by decide +kernel
end AvT

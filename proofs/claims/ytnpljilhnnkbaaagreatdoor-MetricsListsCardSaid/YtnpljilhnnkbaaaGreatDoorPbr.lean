/- A part of the proof. -/
import Derived.Test.YtnpljilhnnkbaaaGreatDoorPbm
set_option linter.all false
namespace AvT
open Av
set_option maxRecDepth 100000
theorem mS6_ok : entB e0 91 mS6 = true := by decide +kernel
theorem mS7_ok : entB e0 91 mS7 = true := by decide +kernel
end AvT

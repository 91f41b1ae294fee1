/- A part of the proof. -/
import Derived.Test.YtnpljilhnnkbaaaGreatDoorPbm
set_option linter.all false
namespace AvT
open Av
set_option maxRecDepth 100000
theorem mS0_ok : entB e0 91 mS0 = true := by decide +kernel
theorem mS1_ok : entB e0 91 mS1 = true := by decide +kernel
end AvT

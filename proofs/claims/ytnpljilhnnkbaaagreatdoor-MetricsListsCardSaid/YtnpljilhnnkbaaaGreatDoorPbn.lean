/- A part of the proof. -/
import Derived.Test.YtnpljilhnnkbaaaGreatDoorPbm
set_option linter.all false
namespace AvT
open Av
set_option maxRecDepth 100000
theorem mI_ok : entB e0 57 mI = true := by decide +kernel
end AvT

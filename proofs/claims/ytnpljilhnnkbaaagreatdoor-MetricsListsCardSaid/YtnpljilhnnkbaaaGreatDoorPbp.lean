/- A part of the proof. -/
import Derived.Test.YtnpljilhnnkbaaaGreatDoorPbm
set_option linter.all false
namespace AvT
open Av
set_option maxRecDepth 100000
theorem mS2_ok : entB e0 91 mS2 = true := by decide +kernel
theorem mS3_ok : entB e0 91 mS3 = true := by decide +kernel
end AvT

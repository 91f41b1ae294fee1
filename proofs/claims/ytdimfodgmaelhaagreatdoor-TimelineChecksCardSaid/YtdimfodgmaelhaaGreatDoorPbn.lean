/- A part of the proof. -/
import Derived.Test.YtdimfodgmaelhaaGreatDoorPbk
set_option linter.all false
section
namespace AvT
open Av
set_option maxRecDepth 100000
theorem sF0_ok : entB e1 217 sF0 = true := by decide +kernel
theorem sF1_ok : entB e1 217 sF1 = true := by decide +kernel
end AvT
end
section
namespace AvT
open Av
set_option maxRecDepth 100000
theorem sF2_ok : entB e1 217 sF2 = true := by decide +kernel
theorem sF3_ok : entB e1 217 sF3 = true := by decide +kernel
end AvT
end

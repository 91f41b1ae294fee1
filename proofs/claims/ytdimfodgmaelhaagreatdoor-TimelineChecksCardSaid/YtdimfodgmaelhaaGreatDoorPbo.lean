/- A part of the proof. -/
import Derived.Test.YtdimfodgmaelhaaGreatDoorPbk
set_option linter.all false
section
namespace AvT
open Av
set_option maxRecDepth 100000
theorem sF4_ok : entB e1 217 sF4 = true := by decide +kernel
theorem sF5_ok : entB e1 217 sF5 = true := by decide +kernel
end AvT
end
section
namespace AvT
open Av
set_option maxRecDepth 100000
theorem sF6_ok : entB e1 217 sF6 = true := by decide +kernel
end AvT
end

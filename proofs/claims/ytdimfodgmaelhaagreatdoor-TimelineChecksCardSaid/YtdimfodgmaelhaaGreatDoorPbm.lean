/- A part of the proof. -/
import Derived.Test.YtdimfodgmaelhaaGreatDoorPbk
set_option linter.all false
section
namespace AvT
open Av
set_option maxRecDepth 100000
theorem sS4_ok : entB e0 35 sS4 = true := by decide +kernel
theorem sS5_ok : entB e0 35 sS5 = true := by decide +kernel
end AvT
end
section
namespace AvT
open Av
set_option maxRecDepth 100000
theorem sS6_ok : entB e0 35 sS6 = true := by decide +kernel
end AvT
end

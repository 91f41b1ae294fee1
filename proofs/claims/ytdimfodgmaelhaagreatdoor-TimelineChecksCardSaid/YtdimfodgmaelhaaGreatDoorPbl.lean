/- A part of the proof. -/
import Derived.Test.YtdimfodgmaelhaaGreatDoorPbk
set_option linter.all false
section
namespace AvT
open Av
set_option maxRecDepth 100000
theorem sI_ok : entB e0 33 sI = true := by decide +kernel
end AvT
end
section
namespace AvT
open Av
set_option maxRecDepth 100000
theorem sS0_ok : entB e0 35 sS0 = true := by decide +kernel
theorem sS1_ok : entB e0 35 sS1 = true := by decide +kernel
end AvT
end
section
namespace AvT
open Av
set_option maxRecDepth 100000
theorem sS2_ok : entB e0 35 sS2 = true := by decide +kernel
theorem sS3_ok : entB e0 35 sS3 = true := by decide +kernel
end AvT
end

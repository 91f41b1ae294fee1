/- A part of the proof that nurserylaw36.HappensBefore returns true for every input. -/
import Derived.Test.YtbaakaaimolagaaGreatDoorEna
namespace AvT
open Av
set_option maxRecDepth 100000
theorem eF0_ok : entB e1 25 eF0 = true := by decide +kernel
theorem eF1_ok : entB e1 25 eF1 = true := by decide +kernel
theorem eF2_ok : entB e1 25 eF2 = true := by decide +kernel
theorem eF3_ok : entB e1 25 eF3 = true := by decide +kernel
theorem eF4_ok : entB e1 25 eF4 = true := by decide +kernel
theorem yF0_ok : entB e1 25 yF0 = true := by decide +kernel
theorem yF1_ok : entB e1 25 yF1 = true := by decide +kernel
theorem yF2_ok : entB e1 25 yF2 = true := by decide +kernel
theorem yF3_ok : entB e1 25 yF3 = true := by decide +kernel
theorem yF4_ok : entB e1 25 yF4 = true := by decide +kernel
end AvT

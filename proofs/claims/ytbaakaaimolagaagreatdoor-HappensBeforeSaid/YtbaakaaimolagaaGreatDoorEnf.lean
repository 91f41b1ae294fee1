/- A part of the proof that nurserylaw36.HappensBefore returns true for every input. -/
import Derived.Test.YtbaakaaimolagaaGreatDoorEna
namespace AvT
open Av
set_option maxRecDepth 100000
theorem yS1_ok : entB e0 26 yS1 = true := by decide +kernel
theorem yS2_ok : entB e0 26 yS2 = true := by decide +kernel
end AvT

/- A part of the proof that nurserylaw36.HappensBefore returns true for every input. -/
import Derived.Test.YtbaakaaimolagaaGreatDoorEna
namespace AvT
open Av
set_option maxRecDepth 100000
theorem yS3_ok : entB e0 26 yS3 = true := by decide +kernel
theorem yS4_ok : entB e0 26 yS4 = true := by decide +kernel
end AvT

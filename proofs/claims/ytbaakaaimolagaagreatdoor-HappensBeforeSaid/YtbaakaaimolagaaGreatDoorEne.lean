/- A part of the proof that nurserylaw36.HappensBefore returns true for every input. -/
import Derived.Test.YtbaakaaimolagaaGreatDoorEna
namespace AvT
open Av
set_option maxRecDepth 100000
theorem eS4_ok : entB e0 26 eS4 = true := by decide +kernel
theorem yS0_ok : entB e0 26 yS0 = true := by decide +kernel
end AvT

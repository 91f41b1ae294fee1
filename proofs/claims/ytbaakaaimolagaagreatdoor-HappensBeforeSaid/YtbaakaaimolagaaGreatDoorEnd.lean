/- A part of the proof that nurserylaw36.HappensBefore returns true for every input. -/
import Derived.Test.YtbaakaaimolagaaGreatDoorEna
namespace AvT
open Av
set_option maxRecDepth 100000
theorem eS2_ok : entB e0 26 eS2 = true := by decide +kernel
theorem eS3_ok : entB e0 26 eS3 = true := by decide +kernel
end AvT

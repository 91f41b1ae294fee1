/- A part of the proof that nurserylaw36.HappensBefore returns true for every input. -/
import Derived.Test.YtbaakaaimolagaaGreatDoorEna
namespace AvT
open Av
set_option maxRecDepth 100000
theorem eI_ok : entB e0 24 eI = true := by decide +kernel
theorem yI_ok : entB e0 24 yI = true := by decide +kernel
end AvT

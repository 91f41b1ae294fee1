/- A part of the proof that nurserylaw36.HappensBefore returns true for every input. -/
import Derived.Test.YtbaakaaimolagaaGreatDoorEna
namespace AvT
open Av
set_option maxRecDepth 100000
theorem eS0_ok : entB e0 26 eS0 = true := by decide +kernel
theorem eS1_ok : entB e0 26 eS1 = true := by decide +kernel
end AvT

/- A part of the proof. -/
import Derived.Test.YtdimfodgmaelhaaGreatDoorPas
import Derived.Test.YtdimfodgmaelhaaGreatDoorPar
import Derived.Test.YtdimfodgmaelhaaGreatDoorPat
import Derived.Test.YtdimfodgmaelhaaGreatDoorPau
import Derived.Test.YtdimfodgmaelhaaGreatDoorPav
import Derived.Test.YtdimfodgmaelhaaGreatDoorPaw
import Derived.Test.YtdimfodgmaelhaaGreatDoorRows
import Derived.LaidByTextLater
import Derived.SevenTiedAt
set_option linter.all false
namespace Go.Proofs.YtdimfodgmaelhaaGreatDoor
open Go
set_option maxRecDepth 100000
theorem tie : Tryz.prog.laidByTextLater [("internal/strconv.uint64pow10", Rows.laid_internal_strconv_uint64pow10), ("math/bits.deBruijn32tab", Rows.laid_math_bits_deBruijn32tab), ("math/bits.deBruijn64tab", Rows.laid_math_bits_deBruijn64tab)] [.data, .data, .data] true :=
 Program.laidByTextLater_by_run 400 8 ti1 ti2 ti3 ti4 ti5 ti6 ti7 ti8 ti9
theorem timelineChecks_row_tie : Rows.timelineChecksRow.laidByTextAt .later Tryz.pinned [.data, .data, .data] true :=
 OpenClaim.laidByTextAt_later rfl rfl tie noOwnUnsafe
end Go.Proofs.YtdimfodgmaelhaaGreatDoor

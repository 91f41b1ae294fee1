/- A part of the proof. -/
import Derived.Test.YtdimfodgmaelhaaGreatDoorRows
import Derived.LaidByTextLater
import Derived.SevenTiedAt
set_option linter.all false
section
namespace Go.Proofs.YtdimfodgmaelhaaGreatDoor
open Go
set_option maxRecDepth 100000
theorem noOwnUnsafe : Tryz.pinned.checked.prog.headLifts.contains "ownunsafe" = false := by kernel_rfl
end Go.Proofs.YtdimfodgmaelhaaGreatDoor
end
section
namespace Go.Proofs.YtdimfodgmaelhaaGreatDoor
open Go
set_option maxRecDepth 100000
theorem ti6 : varsNamedLaterB Tryz.prog (varsId Tryz.prog) [("internal/strconv.uint64pow10", Rows.laid_internal_strconv_uint64pow10), ("math/bits.deBruijn32tab", Rows.laid_math_bits_deBruijn32tab), ("math/bits.deBruijn64tab", Rows.laid_math_bits_deBruijn64tab)] = true := by kernel_rfl
end Go.Proofs.YtdimfodgmaelhaaGreatDoor
end

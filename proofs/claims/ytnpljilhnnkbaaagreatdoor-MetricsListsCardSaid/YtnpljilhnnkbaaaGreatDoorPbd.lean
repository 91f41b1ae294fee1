/- A part of the proof. -/
import Derived.Test.YtnpljilhnnkbaaaGreatDoorPat
import Derived.Test.YtnpljilhnnkbaaaGreatDoorPau
import Derived.Test.YtnpljilhnnkbaaaGreatDoorPav
import Derived.Test.YtnpljilhnnkbaaaGreatDoorPaw
import Derived.Test.YtnpljilhnnkbaaaGreatDoorPax
import Derived.Test.YtnpljilhnnkbaaaGreatDoorPay
import Derived.Test.YtnpljilhnnkbaaaGreatDoorPaz
import Derived.Test.YtnpljilhnnkbaaaGreatDoorPba
import Derived.Test.YtnpljilhnnkbaaaGreatDoorPbb
import Derived.Test.YtnpljilhnnkbaaaGreatDoorPbc
import Derived.Test.YtnpljilhnnkbaaaGreatDoorRows
import Derived.LaidByTextLater
import Derived.SevenTiedAt
set_option linter.all false
namespace Go.Proofs.YtnpljilhnnkbaaaGreatDoor
open Go
set_option maxRecDepth 100000
theorem tie4 : Tryz.prog.laidByTextLater [("internal/strconv.uint64pow10", Rows.laid_internal_strconv_uint64pow10), ("math/bits.deBruijn32tab", Rows.laid_math_bits_deBruijn32tab), ("math/bits.deBruijn64tab", Rows.laid_math_bits_deBruijn64tab), ("unicode/utf8.acceptRanges", Rows.laid_unicode_utf8_acceptRanges), ("strconv.ErrSyntax", Rows.laid_strconv_ErrSyntax), ("strconv.ErrRange", Rows.laid_strconv_ErrRange)] [.data, .data, .data, .data, .sentinel, .sentinel] true :=
  Program.laidByTextLater_by_run 400 8 ti1 ti2 ti3 ti4 ti5 ti6 ti7 ti8 ti9
theorem metricsLists_row_tie : Rows.metricsListsRow.laidByTextAt .later Tryz.pinned [.data, .data, .data, .pinned, .data, .sentinel, .sentinel] true :=
  OpenClaim.laidByTextAt_pinned rfl rfl tie4 rfl rfl rfl rfl (fun y hy _e => by
    simp only [Rows.metricsListsRow, List.zip_cons_cons, List.zip_nil_right, List.mem_cons, List.mem_nil_iff, or_false] at hy
    rcases hy with rfl | rfl | rfl | rfl | rfl | rfl | rfl
    · cases _e
    · cases _e
    · cases _e
    · exact ⟨pin_laid_unicode_utf8_first, by kernel_rfl⟩
    · cases _e
    · cases _e
    · cases _e) fits1
end Go.Proofs.YtnpljilhnnkbaaaGreatDoor

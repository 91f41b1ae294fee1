/- nurserylaw36.HappensBefore returns true for every input, and its arguments read behind the call as before; the row's conditions: calm, time passes, the variable nursery selector possible is left open. -/
import Derived.Test.YtbaakaaimolagaaGreatDoorRow
import Derived.Test.YtbaakaaimolagaaGreatDoorFcf
namespace Go.Proofs.YtbaakaaimolagaaGreatDoor
open Go Go.ChangeShapes Go.WideShapes Go.ChangeAt Go.RowKit Go.Clock Go.Deep
theorem happensBefore_holds : Rows.HappensBeforeSaid :=
  holds_of_wide_time 3 Tryz.f3 rfl rfl rfl rfl rfl rfl rfl ⟨rfl, rfl, rfl, rfl, rfl⟩ rfl rfl rfl rfl rfl (by kernel_rfl) Tryz.func3 closed3
    (of_decide_eq_true (by kernel_rfl)) (by unfold Func.isWrapper; first | (rw [if_pos (by decide +kernel)]; kernel_rfl) | (rw [if_neg (by decide +kernel)]; exact ⟨rfl, rfl⟩))
    (fun os started H enc _ F => by rw [pre_unlisted rfl]; exact happensBefore_lifted os started H enc F)
#print axioms happensBefore_holds
end Go.Proofs.YtbaakaaimolagaaGreatDoor

/- A part of the proof. -/
import Derived.Test.YtdimfodgmaelhaaGreatDoorPbs
import Derived.Test.YtdimfodgmaelhaaGreatDoorPap
set_option linter.all false
namespace Go.Proofs.YtdimfodgmaelhaaGreatDoor
open Go Go.Joins Go.ChangeShapes Go.WideShapes Go.ChangeAt Go.RowKit Go.Clock Go.Deep Go.Proofs.Seat9
theorem timelineChecks_holds : Rows.TimelineChecksSaid :=
 holds_of_wide_time 3 Tryz.f3 rfl rfl rfl rfl rfl rfl rfl ⟨rfl, rfl, rfl, rfl, rfl⟩ rfl rfl rfl rfl rfl (by kernel_rfl) Tryz.func3 closed3
  (of_decide_eq_true (by kernel_rfl)) (by unfold Func.isWrapper; first | (rw [if_pos (by decide +kernel)]; kernel_rfl) | (rw [if_neg (by decide +kernel)]; exact ⟨rfl, rfl⟩))
  (fun os started H enc _ F => by rw [pre_listed rfl]; exact timelineChecks_lifted os started H enc F)
end Go.Proofs.YtdimfodgmaelhaaGreatDoor

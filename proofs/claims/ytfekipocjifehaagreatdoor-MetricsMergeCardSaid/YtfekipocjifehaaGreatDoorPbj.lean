/- A part of the proof. -/
import Derived.Test.YtfekipocjifehaaGreatDoorPbi
import Derived.Test.YtfekipocjifehaaGreatDoorPbf
set_option linter.all false
namespace Go.Proofs.YtfekipocjifehaaGreatDoor
open Go Go.Joins Go.ChangeShapes Go.WideShapes Go.ChangeAt Go.RowKit Go.Clock Go.Deep Go.Proofs.Seat7
theorem metricsMerge_holds : Rows.MetricsMergeSaid :=
  holds_of_wide_time 3 Tryz.f3 rfl rfl rfl rfl rfl rfl rfl ⟨rfl, rfl, rfl, rfl, rfl⟩ rfl rfl rfl rfl rfl (by kernel_rfl) Tryz.func3 closed3
    (of_decide_eq_true (by kernel_rfl)) (by unfold Func.isWrapper; first | (rw [if_pos (by decide +kernel)]; kernel_rfl) | (rw [if_neg (by decide +kernel)]; exact ⟨rfl, rfl⟩))
    (fun os started H enc _ F => by rw [pre_listed rfl]; exact metricsMerge_lifted os started H enc F)
end Go.Proofs.YtfekipocjifehaaGreatDoor

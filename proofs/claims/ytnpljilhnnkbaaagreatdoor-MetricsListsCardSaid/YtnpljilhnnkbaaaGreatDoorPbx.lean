/- A part of the proof. -/
import Derived.Test.YtnpljilhnnkbaaaGreatDoorPbw
import Derived.Test.YtnpljilhnnkbaaaGreatDoorPak
import Derived.Test.YtnpljilhnnkbaaaGreatDoorPaq
set_option linter.all false
namespace Go.Proofs.YtnpljilhnnkbaaaGreatDoor
open Go Go.Joins Go.ChangeShapes Go.WideShapes Go.ChangeAt Go.RowKit Go.Clock Go.Deep Go.Proofs.Seat8
open Go.ChangeMaps (open_string shut_string)
theorem metricsLists_holds : Rows.MetricsListsSaid :=
  holds_of_wide_time 4 Tryz.f4 rfl rfl rfl rfl rfl rfl rfl ⟨rfl, rfl, rfl, rfl, rfl⟩ rfl rfl rfl rfl rfl named4 Tryz.func4 closed4
    (of_decide_eq_true (by kernel_rfl)) (by unfold Func.isWrapper; first | (rw [if_pos (by decide +kernel)]; kernel_rfl) | (rw [if_neg (by decide +kernel)]; exact ⟨rfl, rfl⟩))
    (fun os started H enc _ F => by rw [pre_listed rfl]; exact metricsLists_lifted os started H enc F)
end Go.Proofs.YtnpljilhnnkbaaaGreatDoor

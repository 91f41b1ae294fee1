/- A part of the proof. -/
import Derived.Test.YtnpljilhnnkbaaaGreatDoorPbu
import Derived.Test.YtnpljilhnnkbaaaGreatDoorPak
import Derived.Test.YtnpljilhnnkbaaaGreatDoorPaq
set_option linter.all false
namespace Go.Proofs.YtnpljilhnnkbaaaGreatDoor
open Go Go.Joins Go.ChangeShapes Go.WideShapes Go.ChangeAt Go.RowKit Go.Deep Go.Proofs.Seat8
open Go.ChangeMaps (open_string shut_string)
theorem metricsTexts_holds : Rows.MetricsTextsSaid :=
  OpenClaim.holds_of_wide 3 Tryz.f3 rfl rfl rfl rfl rfl rfl rfl ⟨rfl, rfl, rfl, rfl, rfl⟩ rfl rfl rfl rfl rfl named3 Tryz.func3 closed3
    (of_decide_eq_true (by kernel_rfl)) (by unfold Func.isWrapper; first | (rw [if_pos (by decide +kernel)]; kernel_rfl) | (rw [if_neg (by decide +kernel)]; exact ⟨rfl, rfl⟩))
    (fun os started H enc _ => metricsTexts_lifted os started H enc)
end Go.Proofs.YtnpljilhnnkbaaaGreatDoor

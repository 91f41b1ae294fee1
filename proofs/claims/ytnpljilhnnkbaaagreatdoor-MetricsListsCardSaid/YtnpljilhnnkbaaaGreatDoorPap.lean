/- A part of the proof. -/
import Derived.Test.YtnpljilhnnkbaaaGreatDoorPao
import Derived.Test.YtnpljilhnnkbaaaGreatDoorRows
import Derived.JoinedOf
import Derived.KernelRfl
set_option linter.all false
namespace Go.Proofs.YtnpljilhnnkbaaaGreatDoor
open Go
theorem fact4_10 : ((Rows.metricsListsRow.inPlace == Tryz.prog.inPlace 4)) = true := by
  show (_ == Tryz.prog.inPlace 4) = true
  unfold Program.inPlace
  rw [closure4]
  kernel_rfl
theorem fact4_11 : ((Rows.metricsListsRow.unfollowed == Tryz.prog.unfollowed 4)) = true := by
  show (_ == Tryz.prog.unfollowed 4) = true
  unfold Program.unfollowed
  rw [closure4]
  kernel_rfl
theorem fact4_12 : ((Rows.metricsListsRow.recurses == Tryz.prog.recurses 4)) = true := by
  show (_ == Tryz.prog.recurses 4) = true
  unfold Program.recurses Program.unfollowed
  rw [closure4]
  kernel_rfl
theorem fact4_13 : ((Rows.metricsListsRow.named == Tryz.prog.varsNamed 4)) = true := by
  show (_ == Tryz.prog.varsNamed 4) = true
  unfold Program.varsNamed
  rw [closure4]
  kernel_rfl
end Go.Proofs.YtnpljilhnnkbaaaGreatDoor

/- A part of the proof. -/
import Derived.Test.YtnpljilhnnkbaaaGreatDoorPao
import Derived.Test.YtnpljilhnnkbaaaGreatDoorRows
import Derived.JoinedOf
import Derived.KernelRfl
set_option linter.all false
namespace Go.Proofs.YtnpljilhnnkbaaaGreatDoor
open Go
theorem fact3_10 : ((Rows.metricsTextsRow.inPlace == Tryz.prog.inPlace 3)) = true := by
  show (_ == Tryz.prog.inPlace 3) = true
  unfold Program.inPlace
  rw [closure3]
  kernel_rfl
theorem fact3_11 : ((Rows.metricsTextsRow.unfollowed == Tryz.prog.unfollowed 3)) = true := by
  show (_ == Tryz.prog.unfollowed 3) = true
  unfold Program.unfollowed
  rw [closure3]
  kernel_rfl
theorem fact3_12 : ((Rows.metricsTextsRow.recurses == Tryz.prog.recurses 3)) = true := by
  show (_ == Tryz.prog.recurses 3) = true
  unfold Program.recurses Program.unfollowed
  rw [closure3]
  kernel_rfl
theorem fact3_13 : ((Rows.metricsTextsRow.named == Tryz.prog.varsNamed 3)) = true := by
  show (_ == Tryz.prog.varsNamed 3) = true
  unfold Program.varsNamed
  rw [closure3]
  kernel_rfl
end Go.Proofs.YtnpljilhnnkbaaaGreatDoor

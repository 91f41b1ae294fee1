/- A part of the proof that nurserylaw36.HappensBefore returns true for every input. -/
import Derived.Test.YtbaakaaimolagaaGreatDoorFcb
import Derived.Test.YtbaakaaimolagaaGreatDoorRows
import Derived.JoinedOf
import Derived.KernelRfl
namespace Go.Proofs.YtbaakaaimolagaaGreatDoor
open Go
theorem fact10 : ((Rows.happensBeforeRow.inPlace == Tryz.prog.inPlace 3)) = true := by
  show (_ == Tryz.prog.inPlace 3) = true
  unfold Program.inPlace
  rw [closure3]
  kernel_rfl
theorem fact11 : ((Rows.happensBeforeRow.unfollowed == Tryz.prog.unfollowed 3)) = true := by
  show (_ == Tryz.prog.unfollowed 3) = true
  unfold Program.unfollowed
  rw [closure3]
  kernel_rfl
theorem fact12 : ((Rows.happensBeforeRow.recurses == Tryz.prog.recurses 3)) = true := by
  show (_ == Tryz.prog.recurses 3) = true
  unfold Program.recurses Program.unfollowed
  rw [closure3]
  kernel_rfl
theorem fact13 : ((Rows.happensBeforeRow.named == Tryz.prog.varsNamed 3)) = true := by
  show (_ == Tryz.prog.varsNamed 3) = true
  unfold Program.varsNamed
  rw [closure3]
  kernel_rfl
end Go.Proofs.YtbaakaaimolagaaGreatDoor

/- A part of the proof. -/
import Derived.Test.YtdimfodgmaelhaaGreatDoorRows
import Derived.JoinedOf
import Derived.KernelRfl
import Derived.Test.YtdimfodgmaelhaaGreatDoorPan
set_option linter.all false
section
namespace Go.Proofs.YtdimfodgmaelhaaGreatDoor
open Go
theorem fact3 : (mapsRowed Tryz.prog) = true := by kernel_rfl
theorem fact25 : (Tryz.prog.stopsHeard) = true := by kernel_rfl
theorem fact26 : (Tryz.prog.mayEnter) = true := by kernel_rfl
end Go.Proofs.YtdimfodgmaelhaaGreatDoor
end
section
namespace Go.Proofs.YtdimfodgmaelhaaGreatDoor
open Go
theorem fact3_10 : ((Rows.timelineChecksRow.inPlace == Tryz.prog.inPlace 3)) = true := by
 show (_ == Tryz.prog.inPlace 3) = true
 unfold Program.inPlace
 rw [closure3]
 kernel_rfl
theorem fact3_11 : ((Rows.timelineChecksRow.unfollowed == Tryz.prog.unfollowed 3)) = true := by
 show (_ == Tryz.prog.unfollowed 3) = true
 unfold Program.unfollowed
 rw [closure3]
 kernel_rfl
theorem fact3_12 : ((Rows.timelineChecksRow.recurses == Tryz.prog.recurses 3)) = true := by
 show (_ == Tryz.prog.recurses 3) = true
 unfold Program.recurses Program.unfollowed
 rw [closure3]
 kernel_rfl
theorem fact3_13 : ((Rows.timelineChecksRow.named == Tryz.prog.varsNamed 3)) = true := by
 show (_ == Tryz.prog.varsNamed 3) = true
 unfold Program.varsNamed
 rw [closure3]
 kernel_rfl
end Go.Proofs.YtdimfodgmaelhaaGreatDoor
end

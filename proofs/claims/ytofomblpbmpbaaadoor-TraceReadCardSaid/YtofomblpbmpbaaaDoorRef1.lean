/- The reference's words of the kinds of events. -/
import Derived.Test.YtofomblpbmpbaaaDoorProg
import Derived.WalkKit
import Derived.WalkSpells
import Derived.WalkLawsBesides
import Derived.Deep.Light
namespace Go.Proofs.YtofomblpbmpbaaaDoor
open Go.RowKit
def visB (k : Int) : Bool := decide (30 ≤ k ∧ k ≤ 43 ∨ 50 ≤ k ∧ k ≤ 74)
def RolesPost (k : Int) (w : World) (e : Ending) (w' : World) : Prop := ∃ s : ByteArray, e = .returned (.string s) ∧ s.toList.isEmpty = !visB k ∧ w = w'
set_option maxRecDepth 100000 in
set_option maxHeartbeats 4000000 in
theorem roles78 (k : Int) (w : World) (hk : 30 ≤ k) : Calls Tryd.prog 78 #[.int .i64 k] w (RolesPost k w) := by
  go_enter Tryd.func78, Tryd.ntmps78
  go_wp2
  all_goals
    go_ret
    refine ⟨_, rfl, ?_, rfl⟩
    go_light
    simp [visB] at *
    try omega
end Go.Proofs.YtofomblpbmpbaaaDoor

/- 'nurserylaw58.TimelineChecks' returns true for any spans and numbers: the tied card. -/
import Derived.Test.YtdimfodgmaelhaaGreatDoorPbt
import Derived.Test.YtdimfodgmaelhaaGreatDoorPaq
import Derived.Test.YtdimfodgmaelhaaGreatDoorPbi
import Derived.Test.YtdimfodgmaelhaaGreatDoorPar
import Derived.Test.YtdimfodgmaelhaaGreatDoorPax
import Derived.Test.YtdimfodgmaelhaaGreatDoorCards
import Derived.SevenTiedAt
set_option linter.all false
namespace Go.Proofs.YtdimfodgmaelhaaGreatDoor
open Go Go.Joins Go.ChangeShapes Go.WideShapes Go.ChangeAt Go.RowKit Go.Clock Go.Deep Go.Proofs.Seat9
theorem timelineChecks_card : Rows.TimelineChecksCardSaid :=
 Claim7.holds_tied_plain_at .later [] [.data, .data, .data] true (true, "30508b87ea6747ffcb98fb14d877b938c1bc04f2b2ec7b10c61c77bc3b79e010") true
  timelineChecks_holds (fun _ h => by cases h) wf3 (fun _ h => by cases h) timelineChecks_row_tie rfl ⟨rfl, rfl⟩ main_is rfl
  (fun f fn hf hfn => by
    obtain rfl : f = 3 := Option.some.inj (named3.symm.trans hf) |>.symm
    obtain rfl : fn = Tryz.f3 := (Option.some.inj (Tryz.func3.symm.trans hfn)).symm
    exact ⟨looks_all, fun j t ht => by
     rw [Tryz.params3] at ht
     have hm : t ∈ [22, 3, 3] := by simpa using Array.mem_of_getElem? ht
     have hall : ([22, 3, 3].all fun u => !Tryz.prog.wantsStandIn u) = true := by kernel_rfl
     exact (show Tryz.prog.wantsStandIn t = false by simpa using List.all_eq_true.1 hall t hm)⟩)
  (goesBy_none _ goes_all)
end Go.Proofs.YtdimfodgmaelhaaGreatDoor

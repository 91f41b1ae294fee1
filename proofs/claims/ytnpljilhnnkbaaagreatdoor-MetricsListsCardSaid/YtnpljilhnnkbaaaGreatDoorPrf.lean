/- MetricsLists: Check, Find, Print and Parse are those of the reference. -/
import Derived.Test.YtnpljilhnnkbaaaGreatDoorPbx
import Derived.Test.YtnpljilhnnkbaaaGreatDoorPak
import Derived.Test.YtnpljilhnnkbaaaGreatDoorPbu
import Derived.Test.YtnpljilhnnkbaaaGreatDoorPar
import Derived.Test.YtnpljilhnnkbaaaGreatDoorPas
import Derived.Test.YtnpljilhnnkbaaaGreatDoorPbd
import Derived.Test.YtnpljilhnnkbaaaGreatDoorCards
import Derived.SevenTiedAt
set_option linter.all false
namespace Go.Proofs.YtnpljilhnnkbaaaGreatDoor
open Go Go.Joins Go.ChangeShapes Go.WideShapes Go.ChangeAt Go.RowKit Go.Clock Go.Deep Go.Proofs.Seat8
theorem metricsLists_card : Rows.MetricsListsCardSaid :=
  Claim7.holds_tied_plain_at .later [] [.data, .data, .data, .pinned, .data, .sentinel, .sentinel] true (true, "0224e12b676656a55014bb4d5e5bcc38ca2c6a8c903b9b2e719991d1146c6b41") true
    metricsLists_holds (fun _ h => by cases h) wf4 (fun _ h => by cases h) metricsLists_row_tie rfl ⟨rfl, rfl⟩ main_is rfl
    (fun f fn hf hfn => by
      obtain rfl : f = 4 := Option.some.inj (named4.symm.trans hf) |>.symm
      obtain rfl : fn = Tryz.f4 := (Option.some.inj (Tryz.func4.symm.trans hfn)).symm
      exact ⟨looks_all, fun j t ht => by
        rw [Tryz.params4] at ht
        have hm : t ∈ [22, 9, 3, 9] := by simpa using Array.mem_of_getElem? ht
        have hall : ([22, 9, 3, 9].all fun u => !Tryz.prog.wantsStandIn u) = true := by kernel_rfl
        exact (show Tryz.prog.wantsStandIn t = false by simpa using List.all_eq_true.1 hall t hm)⟩)
    (goesBy_none _ goes_all)
end Go.Proofs.YtnpljilhnnkbaaaGreatDoor

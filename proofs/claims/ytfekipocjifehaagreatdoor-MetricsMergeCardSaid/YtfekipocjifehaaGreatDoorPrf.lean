/- nurserylaw57.MetricsMerge returns true for every input, and its arguments read behind the call as before; the row is calm, time passes, the variable nursery selector possible is left open; laid: three tables of the library, tied to the text. -/
import Derived.Test.YtfekipocjifehaaGreatDoorPbj
import Derived.Test.YtfekipocjifehaaGreatDoorPam
import Derived.Test.YtfekipocjifehaaGreatDoorPbg
import Derived.Test.YtfekipocjifehaaGreatDoorPan
import Derived.Test.YtfekipocjifehaaGreatDoorPao
import Derived.Test.YtfekipocjifehaaGreatDoorTie
import Derived.Test.YtfekipocjifehaaGreatDoorCards
import Derived.SevenTiedAt
set_option linter.all false
namespace Go.Proofs.YtfekipocjifehaaGreatDoor
open Go Go.Joins Go.ChangeShapes Go.WideShapes Go.ChangeAt Go.RowKit Go.Clock Go.Deep Go.Proofs.Seat7
theorem metricsMerge_card : Rows.MetricsMergeCardSaid :=
  Claim7.holds_tied_plain_at .later [] [.data, .data, .data] true (true, "15d3547d405906cb8da694e6e0db6e26522d460bc3f1f1d09bc11c1a6643567e") true
    metricsMerge_holds (fun _ h => by cases h) wf3 (fun _ h => by cases h) metricsMerge_row_tie rfl ⟨rfl, rfl⟩ main_is rfl
    (fun f fn hf hfn => by
      obtain rfl : f = 3 := Option.some.inj (named3.symm.trans hf) |>.symm
      obtain rfl : fn = Tryz.f3 := (Option.some.inj (Tryz.func3.symm.trans hfn)).symm
      exact ⟨looks_all, fun j t ht => by
        rw [Tryz.params3] at ht
        have hm : t ∈ [22, 22] := by simpa using Array.mem_of_getElem? ht
        have hall : ([22, 22].all fun u => !Tryz.prog.wantsStandIn u) = true := by kernel_rfl
        exact (show Tryz.prog.wantsStandIn t = false by simpa using List.all_eq_true.1 hall t hm)⟩)
    (goesBy_none _ goes_all)
end Go.Proofs.YtfekipocjifehaaGreatDoor

/- A part of the proof. -/
import Derived.Test.YtdimfodgmaelhaaGreatDoorPal
import Derived.Test.YtdimfodgmaelhaaGreatDoorPao
import Derived.Test.YtdimfodgmaelhaaGreatDoorRows
import Derived.JoinedOf
import Derived.KernelRfl
set_option linter.all false
namespace Go.Proofs.YtdimfodgmaelhaaGreatDoor
open Go
theorem fact3_1 : (Rows.timelineChecksRow.wf (OpenSpec.ofChange Rows.timelineChecksSpec)) = true := by kernel_rfl
theorem fact3_4 : (Tryz.f3.params.all (Tryz.prog.readableRec ·)) = true := by kernel_rfl
theorem fact3_5 : (namedTie Tryz.prog Rows.timelineChecksRow.named Rows.timelineChecksSpec.vars) = true := by kernel_rfl
theorem fact3_6 : ((Rows.timelineChecksRow.stops == [])) = true := by kernel_rfl
theorem fact3_7 : ((Tryz.prog.stops == [])) = true := by kernel_rfl
theorem fact3_8 : ((Rows.timelineChecksRow.knobs == [])) = true := by kernel_rfl
theorem fact3_9 : ((Tryz.prog.stopKnobs == [])) = true := by kernel_rfl
theorem fact3_14 : ((Rows.timelineChecksRow.maps == (Tryz.f3.params.toList ++ Rows.timelineChecksSpec.plain.varTypes Tryz.prog).any (Tryz.prog.mapsRec ·))) = true := by kernel_rfl
theorem fact3_15 : ((Rows.timelineChecksRow.ifaces == (Tryz.f3.params.toList ++ Rows.timelineChecksSpec.plain.varTypes Tryz.prog).any (Tryz.prog.ifacesRec ·))) = true := by kernel_rfl
theorem fact3_16 : ((Rows.timelineChecksRow.mapsOut == Tryz.prog.mapsAmong Tryz.f3.resultTypes.toList)) = true := by kernel_rfl
theorem fact3_17 : ((Rows.timelineChecksRow.loops == (Tryz.f3.params.toList ++ Rows.timelineChecksSpec.plain.varTypes Tryz.prog).any (Tryz.prog.loopsFrom ·))) = true := by kernel_rfl
theorem fact3_18 : ((Rows.timelineChecksRow.wideKeys == (Tryz.f3.params.toList ++ Rows.timelineChecksSpec.plain.varTypes Tryz.prog ++ Tryz.f3.resultTypes.toList).any (Tryz.prog.wideKeysFrom ·))) = true := by kernel_rfl
theorem fact3_19 : (Rows.timelineChecksSpec.vars.all (Tryz.prog.varReadable ·)) = true := by kernel_rfl
theorem fact3_20 : (Tryz.f3.resultTypes.all (fun t => Tryz.prog.readableRec t && decide (t < Tryz.prog.types.size))) = true := by kernel_rfl
theorem fact3_21 : ((Rows.timelineChecksRow.ifacesOut == Tryz.f3.resultTypes.toList.any (Tryz.prog.ifacesRec ·))) = true := by kernel_rfl
theorem fact3_22 : ((Rows.timelineChecksRow.loopsOut == Tryz.f3.resultTypes.toList.any (Tryz.prog.loopsFrom ·))) = true := by kernel_rfl
theorem fact3_23 : ((Rows.timelineChecksRow.plainKeys == Tryz.prog.plainKeys)) = true := by kernel_rfl
theorem fact3_24 : (Rows.timelineChecksRow.shortTexts.isNone) = true := by kernel_rfl
theorem fact3_27 : ((Rows.timelineChecksRow.lifted == Tryz.prog.liftsFinal)) = true := by kernel_rfl
theorem fact3_28 : ((Tryz.prog.make == some Rows.timelineChecksRow.make)) = true := by kernel_rfl
theorem fact3_29 : ((Rows.timelineChecksRow.kinds == (if Rows.timelineChecksRow.domain.isEmpty then [] else Tryz.f3.params.toList.map fun t => match Tryz.prog.underlying t with | some (.int k) => some k | _ => none))) = true := by kernel_rfl
theorem fact3_30 : ((Rows.timelineChecksRow.pinned == Rows.timelineChecksRow.pinnedBy)) = true := by kernel_rfl
theorem fact3_31 : ((Rows.timelineChecksRow.veiled == (Tryz.f3.params.toList ++ Rows.timelineChecksSpec.plain.varTypes Tryz.prog ++ Tryz.f3.resultTypes.toList).any (Tryz.prog.veiledRec ·))) = true := by kernel_rfl
theorem fact3_32 : (Rows.timelineChecksRow.veiledFits Tryz.prog Tryz.f3.params.toList (Tryz.f3.params.toList ++ Rows.timelineChecksSpec.plain.varTypes Tryz.prog ++ Tryz.f3.resultTypes.toList)) = true := by kernel_rfl
private theorem and_t {a b : Bool} (h : a = true) (h2 : b = true) : (a && b) = true := by rw [h, h2]; rfl
set_option maxRecDepth 100000 in
theorem closed3 : joinedFacts Tryz.prog 3 Tryz.f3 Rows.timelineChecksSpec Rows.timelineChecksRow = true := by
 unfold joinedFacts
 exact (and_t (and_t (and_t (and_t (and_t (and_t (and_t (and_t (and_t (and_t (and_t (and_t (and_t (and_t (and_t (and_t (and_t (and_t (and_t (and_t (and_t (and_t (and_t (and_t (and_t (and_t (and_t (and_t (and_t (and_t (and_t fact3_1 fact2) fact3) fact3_4) fact3_5) fact3_6) fact3_7) fact3_8) fact3_9) fact3_10) fact3_11) fact3_12) fact3_13) fact3_14) fact3_15) fact3_16) fact3_17) fact3_18) fact3_19) fact3_20) fact3_21) fact3_22) fact3_23) fact3_24) fact25) fact26) fact3_27) fact3_28) fact3_29) fact3_30) fact3_31) fact3_32)
end Go.Proofs.YtdimfodgmaelhaaGreatDoor

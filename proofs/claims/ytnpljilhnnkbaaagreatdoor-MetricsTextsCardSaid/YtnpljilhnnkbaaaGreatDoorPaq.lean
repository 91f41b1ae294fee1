/- A part of the proof. -/
import Derived.Test.YtnpljilhnnkbaaaGreatDoorPal
import Derived.Test.YtnpljilhnnkbaaaGreatDoorPam
import Derived.Test.YtnpljilhnnkbaaaGreatDoorPap
import Derived.Test.YtnpljilhnnkbaaaGreatDoorRows
import Derived.JoinedOf
import Derived.KernelRfl
set_option linter.all false
namespace Go.Proofs.YtnpljilhnnkbaaaGreatDoor
open Go
theorem fact3_1 : (Rows.metricsTextsRow.wf (OpenSpec.ofChange Rows.metricsTextsSpec)) = true := by kernel_rfl
theorem fact3_4 : (Tryz.f3.params.all (Tryz.prog.readableRec ·)) = true := by kernel_rfl
theorem fact3_5 : (namedTie Tryz.prog Rows.metricsTextsRow.named Rows.metricsTextsSpec.vars) = true := by kernel_rfl
theorem fact3_6 : ((Rows.metricsTextsRow.stops == [])) = true := by kernel_rfl
theorem fact3_7 : ((Tryz.prog.stops == [])) = true := by kernel_rfl
theorem fact3_8 : ((Rows.metricsTextsRow.knobs == [])) = true := by kernel_rfl
theorem fact3_9 : ((Tryz.prog.stopKnobs == [])) = true := by kernel_rfl
theorem fact3_14 : ((Rows.metricsTextsRow.maps == (Tryz.f3.params.toList ++ Rows.metricsTextsSpec.plain.varTypes Tryz.prog).any (Tryz.prog.mapsRec ·))) = true := by kernel_rfl
theorem fact3_15 : ((Rows.metricsTextsRow.ifaces == (Tryz.f3.params.toList ++ Rows.metricsTextsSpec.plain.varTypes Tryz.prog).any (Tryz.prog.ifacesRec ·))) = true := by kernel_rfl
theorem fact3_16 : ((Rows.metricsTextsRow.mapsOut == Tryz.prog.mapsAmong Tryz.f3.resultTypes.toList)) = true := by kernel_rfl
theorem fact3_17 : ((Rows.metricsTextsRow.loops == (Tryz.f3.params.toList ++ Rows.metricsTextsSpec.plain.varTypes Tryz.prog).any (Tryz.prog.loopsFrom ·))) = true := by kernel_rfl
theorem fact3_18 : ((Rows.metricsTextsRow.wideKeys == (Tryz.f3.params.toList ++ Rows.metricsTextsSpec.plain.varTypes Tryz.prog ++ Tryz.f3.resultTypes.toList).any (Tryz.prog.wideKeysFrom ·))) = true := by kernel_rfl
theorem fact3_19 : (Rows.metricsTextsSpec.vars.all (Tryz.prog.varReadable ·)) = true := by kernel_rfl
theorem fact3_20 : (Tryz.f3.resultTypes.all (fun t => Tryz.prog.readableRec t && decide (t < Tryz.prog.types.size))) = true := by kernel_rfl
theorem fact3_21 : ((Rows.metricsTextsRow.ifacesOut == Tryz.f3.resultTypes.toList.any (Tryz.prog.ifacesRec ·))) = true := by kernel_rfl
theorem fact3_22 : ((Rows.metricsTextsRow.loopsOut == Tryz.f3.resultTypes.toList.any (Tryz.prog.loopsFrom ·))) = true := by kernel_rfl
theorem fact3_23 : ((Rows.metricsTextsRow.plainKeys == Tryz.prog.plainKeys)) = true := by kernel_rfl
theorem fact3_24 : (Rows.metricsTextsRow.shortTexts.isNone) = true := by kernel_rfl
theorem fact3_27 : ((Rows.metricsTextsRow.lifted == Tryz.prog.liftsFinal)) = true := by kernel_rfl
theorem fact3_28 : ((Tryz.prog.make == some Rows.metricsTextsRow.make)) = true := by kernel_rfl
theorem fact3_29 : ((Rows.metricsTextsRow.kinds == (if Rows.metricsTextsRow.domain.isEmpty then [] else Tryz.f3.params.toList.map fun t => match Tryz.prog.underlying t with | some (.int k) => some k | _ => none))) = true := by kernel_rfl
theorem fact3_30 : ((Rows.metricsTextsRow.pinned == Rows.metricsTextsRow.pinnedBy)) = true := by kernel_rfl
theorem fact3_31 : ((Rows.metricsTextsRow.veiled == (Tryz.f3.params.toList ++ Rows.metricsTextsSpec.plain.varTypes Tryz.prog ++ Tryz.f3.resultTypes.toList).any (Tryz.prog.veiledRec ·))) = true := by kernel_rfl
theorem fact3_32 : (Rows.metricsTextsRow.veiledFits Tryz.prog Tryz.f3.params.toList (Tryz.f3.params.toList ++ Rows.metricsTextsSpec.plain.varTypes Tryz.prog ++ Tryz.f3.resultTypes.toList)) = true := by kernel_rfl
private theorem and_t {a b : Bool} (h : a = true) (h2 : b = true) : (a && b) = true := by rw [h, h2]; rfl
set_option maxRecDepth 100000 in
theorem closed3 : joinedFacts Tryz.prog 3 Tryz.f3 Rows.metricsTextsSpec Rows.metricsTextsRow = true := by
  unfold joinedFacts
  exact (and_t (and_t (and_t (and_t (and_t (and_t (and_t (and_t (and_t (and_t (and_t (and_t (and_t (and_t (and_t (and_t (and_t (and_t (and_t (and_t (and_t (and_t (and_t (and_t (and_t (and_t (and_t (and_t (and_t (and_t (and_t fact3_1 fact2) fact3) fact3_4) fact3_5) fact3_6) fact3_7) fact3_8) fact3_9) fact3_10) fact3_11) fact3_12) fact3_13) fact3_14) fact3_15) fact3_16) fact3_17) fact3_18) fact3_19) fact3_20) fact3_21) fact3_22) fact3_23) fact3_24) fact25) fact26) fact3_27) fact3_28) fact3_29) fact3_30) fact3_31) fact3_32)
end Go.Proofs.YtnpljilhnnkbaaaGreatDoor

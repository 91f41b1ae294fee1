/- A part of the proof. -/
import Derived.Test.YtnpljilhnnkbaaaGreatDoorPal
import Derived.Test.YtnpljilhnnkbaaaGreatDoorPam
import Derived.Test.YtnpljilhnnkbaaaGreatDoorPap
import Derived.Test.YtnpljilhnnkbaaaGreatDoorRows
import Derived.JoinedOf
import Derived.KernelRfl
set_option linter.all false
namespace Go.Proofs.YtnpljilhnnkbaaaGreatDoor
open Go
theorem fact4_1 : (Rows.metricsListsRow.wf (OpenSpec.ofChange Rows.metricsListsSpec)) = true := by kernel_rfl
theorem fact4_4 : (Tryz.f4.params.all (Tryz.prog.readableRec ·)) = true := by kernel_rfl
theorem fact4_5 : (namedTie Tryz.prog Rows.metricsListsRow.named Rows.metricsListsSpec.vars) = true := by kernel_rfl
theorem fact4_6 : ((Rows.metricsListsRow.stops == [])) = true := by kernel_rfl
theorem fact4_7 : ((Tryz.prog.stops == [])) = true := by kernel_rfl
theorem fact4_8 : ((Rows.metricsListsRow.knobs == [])) = true := by kernel_rfl
theorem fact4_9 : ((Tryz.prog.stopKnobs == [])) = true := by kernel_rfl
theorem fact4_14 : ((Rows.metricsListsRow.maps == (Tryz.f4.params.toList ++ Rows.metricsListsSpec.plain.varTypes Tryz.prog).any (Tryz.prog.mapsRec ·))) = true := by kernel_rfl
theorem fact4_15 : ((Rows.metricsListsRow.ifaces == (Tryz.f4.params.toList ++ Rows.metricsListsSpec.plain.varTypes Tryz.prog).any (Tryz.prog.ifacesRec ·))) = true := by kernel_rfl
theorem fact4_16 : ((Rows.metricsListsRow.mapsOut == Tryz.prog.mapsAmong Tryz.f4.resultTypes.toList)) = true := by kernel_rfl
theorem fact4_17 : ((Rows.metricsListsRow.loops == (Tryz.f4.params.toList ++ Rows.metricsListsSpec.plain.varTypes Tryz.prog).any (Tryz.prog.loopsFrom ·))) = true := by kernel_rfl
theorem fact4_18 : ((Rows.metricsListsRow.wideKeys == (Tryz.f4.params.toList ++ Rows.metricsListsSpec.plain.varTypes Tryz.prog ++ Tryz.f4.resultTypes.toList).any (Tryz.prog.wideKeysFrom ·))) = true := by kernel_rfl
theorem fact4_19 : (Rows.metricsListsSpec.vars.all (Tryz.prog.varReadable ·)) = true := by kernel_rfl
theorem fact4_20 : (Tryz.f4.resultTypes.all (fun t => Tryz.prog.readableRec t && decide (t < Tryz.prog.types.size))) = true := by kernel_rfl
theorem fact4_21 : ((Rows.metricsListsRow.ifacesOut == Tryz.f4.resultTypes.toList.any (Tryz.prog.ifacesRec ·))) = true := by kernel_rfl
theorem fact4_22 : ((Rows.metricsListsRow.loopsOut == Tryz.f4.resultTypes.toList.any (Tryz.prog.loopsFrom ·))) = true := by kernel_rfl
theorem fact4_23 : ((Rows.metricsListsRow.plainKeys == Tryz.prog.plainKeys)) = true := by kernel_rfl
theorem fact4_24 : (Rows.metricsListsRow.shortTexts.isNone) = true := by kernel_rfl
theorem fact4_27 : ((Rows.metricsListsRow.lifted == Tryz.prog.liftsFinal)) = true := by kernel_rfl
theorem fact4_28 : ((Tryz.prog.make == some Rows.metricsListsRow.make)) = true := by kernel_rfl
theorem fact4_29 : ((Rows.metricsListsRow.kinds == (if Rows.metricsListsRow.domain.isEmpty then [] else Tryz.f4.params.toList.map fun t => match Tryz.prog.underlying t with | some (.int k) => some k | _ => none))) = true := by kernel_rfl
theorem fact4_30 : ((Rows.metricsListsRow.pinned == Rows.metricsListsRow.pinnedBy)) = true := by kernel_rfl
theorem fact4_31 : ((Rows.metricsListsRow.veiled == (Tryz.f4.params.toList ++ Rows.metricsListsSpec.plain.varTypes Tryz.prog ++ Tryz.f4.resultTypes.toList).any (Tryz.prog.veiledRec ·))) = true := by kernel_rfl
theorem fact4_32 : (Rows.metricsListsRow.veiledFits Tryz.prog Tryz.f4.params.toList (Tryz.f4.params.toList ++ Rows.metricsListsSpec.plain.varTypes Tryz.prog ++ Tryz.f4.resultTypes.toList)) = true := by kernel_rfl
private theorem and_t {a b : Bool} (h : a = true) (h2 : b = true) : (a && b) = true := by rw [h, h2]; rfl
set_option maxRecDepth 100000 in
theorem closed4 : joinedFacts Tryz.prog 4 Tryz.f4 Rows.metricsListsSpec Rows.metricsListsRow = true := by
  unfold joinedFacts
  exact (and_t (and_t (and_t (and_t (and_t (and_t (and_t (and_t (and_t (and_t (and_t (and_t (and_t (and_t (and_t (and_t (and_t (and_t (and_t (and_t (and_t (and_t (and_t (and_t (and_t (and_t (and_t (and_t (and_t (and_t (and_t fact4_1 fact2) fact3) fact4_4) fact4_5) fact4_6) fact4_7) fact4_8) fact4_9) fact4_10) fact4_11) fact4_12) fact4_13) fact4_14) fact4_15) fact4_16) fact4_17) fact4_18) fact4_19) fact4_20) fact4_21) fact4_22) fact4_23) fact4_24) fact25) fact26) fact4_27) fact4_28) fact4_29) fact4_30) fact4_31) fact4_32)
end Go.Proofs.YtnpljilhnnkbaaaGreatDoor

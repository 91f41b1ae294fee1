/-
  DERIVED. GIVEN WITH THE SEED: THE CARDS: each row of YtofomblpbmpbaaaDoorRows.lean that lists a variable, with what it lists TIED to the program's text (the seventh form; the later family's looks); each row that meets fmt, with fmt's text TOLD by the authors' own Lean function (tested against real Go, not proved from fmt's source: count such statements apart). THE CARD IS WHAT COUNTS. Prove the row's statement (the work); the ties are given (YtofomblpbmpbaaaDoorTie.lean); close each card by the builder's one call (the guide's Derived/Test/ToyasCard.lean, 'card_holds'). Laid BY PROGRAM, IN A SANDBOX (cutbox-door.mjs). By AI agents, Wed Nov 11 2026. No macro, syntax, notation, axiom, sorry.
-/
import Derived.Test.YtofomblpbmpbaaaDoorRows
import GoSem.ClaimSeven
namespace Go.Proofs.YtofomblpbmpbaaaDoor
namespace Rows

/-- THE TIED CARD OF 'nurserylaw31.TraceText'. -/
def traceTextCard : Claim7 := { stood := { row := traceTextRow, standIns := [], harness := (true, "4731f5a8e6efe5ca5c269c3e7f84aa01aa4f79047547291b0f2eb0f2dba631ab"), looks := true }, kinds := [], alts := [], laidByText := true, laidKinds := [.data, .data, .data, .data, .sentinel, .sentinel, .pinned], laidTests := true, laidLooks := .later }
def TraceTextCardSaid : Prop := Claim7.holds Tryd.pinned (.plain (OpenSpec.ofChange traceTextSpec)) traceTextCard

/-- THE TIED CARD OF 'nurserylaw31.TraceBack'. -/
def traceBackCard : Claim7 := { stood := { row := traceBackRow, standIns := [], harness := (true, "4731f5a8e6efe5ca5c269c3e7f84aa01aa4f79047547291b0f2eb0f2dba631ab"), looks := true }, kinds := [], alts := [], laidByText := true, laidKinds := [.data, .data, .data, .data, .sentinel, .sentinel, .pinned], laidTests := true, laidLooks := .later }
def TraceBackCardSaid : Prop := Claim7.holds Tryd.pinned (.plain (OpenSpec.ofChange traceBackSpec)) traceBackCard

/-- THE TIED CARD OF 'nurserylaw31.TraceTasks'. -/
def traceTasksCard : Claim7 := { stood := { row := traceTasksRow, standIns := [], harness := (true, "4731f5a8e6efe5ca5c269c3e7f84aa01aa4f79047547291b0f2eb0f2dba631ab"), looks := true }, kinds := [], alts := [], laidByText := true, laidKinds := [.data, .data, .data, .data, .sentinel, .sentinel, .pinned], laidTests := true, laidLooks := .later }
def TraceTasksCardSaid : Prop := Claim7.holds Tryd.pinned (.plain (OpenSpec.ofChange traceTasksSpec)) traceTasksCard

/-- THE TIED CARD OF 'nurserylaw31.TraceLines'. -/
def traceLinesCard : Claim7 := { stood := { row := traceLinesRow, standIns := [], harness := (true, "4731f5a8e6efe5ca5c269c3e7f84aa01aa4f79047547291b0f2eb0f2dba631ab"), looks := true }, kinds := [], alts := [], laidByText := true, laidKinds := [.data, .data, .data, .data, .sentinel, .sentinel, .pinned], laidTests := true, laidLooks := .later }
def TraceLinesCardSaid : Prop := Claim7.holds Tryd.pinned (.plain (OpenSpec.ofChange traceLinesSpec)) traceLinesCard

/-- THE TIED CARD OF 'nurserylaw31.TraceRead'. -/
def traceReadCard : Claim7 := { stood := { row := traceReadRow, standIns := [], harness := (true, "4731f5a8e6efe5ca5c269c3e7f84aa01aa4f79047547291b0f2eb0f2dba631ab"), looks := true }, kinds := [], alts := [], laidByText := true, laidKinds := [.data, .data, .data, .data, .sentinel, .sentinel, .pinned], laidTests := true, laidLooks := .later }
def TraceReadCardSaid : Prop := Claim7.holds Tryd.pinned (.plain (OpenSpec.ofChange traceReadSpec)) traceReadCard

/-- THE TIED CARD OF 'nurserylaw31.TracePrefix'. -/
def tracePrefixCard : Claim7 := { stood := { row := tracePrefixRow, standIns := [], harness := (true, "4731f5a8e6efe5ca5c269c3e7f84aa01aa4f79047547291b0f2eb0f2dba631ab"), looks := true }, kinds := [], alts := [], laidByText := true, laidKinds := [.data, .data, .data, .data, .sentinel, .sentinel, .pinned], laidTests := true, laidLooks := .later }
def TracePrefixCardSaid : Prop := Claim7.holds Tryd.pinned (.plain (OpenSpec.ofChange tracePrefixSpec)) tracePrefixCard

/-- THE TIED CARD OF 'nurserylaw31.TraceLives'. -/
def traceLivesCard : Claim7 := { stood := { row := traceLivesRow, standIns := [], harness := (true, "4731f5a8e6efe5ca5c269c3e7f84aa01aa4f79047547291b0f2eb0f2dba631ab"), looks := true }, kinds := [], alts := [], laidByText := true, laidKinds := [.data, .data, .data, .data, .sentinel, .sentinel, .pinned], laidTests := true, laidLooks := .later }
def TraceLivesCardSaid : Prop := Claim7.holds Tryd.pinned (.plain (OpenSpec.ofChange traceLivesSpec)) traceLivesCard

/-- THE TIED CARD OF 'nurserylaw31.TraceCheck'. -/
def traceCheckCard : Claim7 := { stood := { row := traceCheckRow, standIns := [], harness := (true, "4731f5a8e6efe5ca5c269c3e7f84aa01aa4f79047547291b0f2eb0f2dba631ab"), looks := true }, kinds := [], alts := [], laidByText := true, laidKinds := [.data, .data, .data, .data, .sentinel, .sentinel, .pinned], laidTests := true, laidLooks := .later }
def TraceCheckCardSaid : Prop := Claim7.holds Tryd.pinned (.plain (OpenSpec.ofChange traceCheckSpec)) traceCheckCard

/-- THE SECOND FORM's CARD OF 'nurserylaw31.TraceText'. -/
def traceTextUptoCard : Claim7 := { stood := { row := traceTextUptoRow, standIns := [], harness := (true, "4731f5a8e6efe5ca5c269c3e7f84aa01aa4f79047547291b0f2eb0f2dba631ab"), looks := true }, kinds := [], alts := [], laidByText := true, laidKinds := [.data, .data, .data, .data, .sentinel, .sentinel, .pinned], laidTests := true, laidLooks := .later }
def TraceTextUptoCardSaid : Prop := Claim7.holds Tryd.pinned (.plain (OpenSpec.upto traceTextSpec)) traceTextUptoCard

/-- THE SECOND FORM's CARD OF 'nurserylaw31.TraceBack'. -/
def traceBackUptoCard : Claim7 := { stood := { row := traceBackUptoRow, standIns := [], harness := (true, "4731f5a8e6efe5ca5c269c3e7f84aa01aa4f79047547291b0f2eb0f2dba631ab"), looks := true }, kinds := [], alts := [], laidByText := true, laidKinds := [.data, .data, .data, .data, .sentinel, .sentinel, .pinned], laidTests := true, laidLooks := .later }
def TraceBackUptoCardSaid : Prop := Claim7.holds Tryd.pinned (.plain (OpenSpec.upto traceBackSpec)) traceBackUptoCard

/-- THE SECOND FORM's CARD OF 'nurserylaw31.TraceTasks'. -/
def traceTasksUptoCard : Claim7 := { stood := { row := traceTasksUptoRow, standIns := [], harness := (true, "4731f5a8e6efe5ca5c269c3e7f84aa01aa4f79047547291b0f2eb0f2dba631ab"), looks := true }, kinds := [], alts := [], laidByText := true, laidKinds := [.data, .data, .data, .data, .sentinel, .sentinel, .pinned], laidTests := true, laidLooks := .later }
def TraceTasksUptoCardSaid : Prop := Claim7.holds Tryd.pinned (.plain (OpenSpec.upto traceTasksSpec)) traceTasksUptoCard

/-- THE SECOND FORM's CARD OF 'nurserylaw31.TraceLines'. -/
def traceLinesUptoCard : Claim7 := { stood := { row := traceLinesUptoRow, standIns := [], harness := (true, "4731f5a8e6efe5ca5c269c3e7f84aa01aa4f79047547291b0f2eb0f2dba631ab"), looks := true }, kinds := [], alts := [], laidByText := true, laidKinds := [.data, .data, .data, .data, .sentinel, .sentinel, .pinned], laidTests := true, laidLooks := .later }
def TraceLinesUptoCardSaid : Prop := Claim7.holds Tryd.pinned (.plain (OpenSpec.upto traceLinesSpec)) traceLinesUptoCard

/-- THE SECOND FORM's CARD OF 'nurserylaw31.TraceRead'. -/
def traceReadUptoCard : Claim7 := { stood := { row := traceReadUptoRow, standIns := [], harness := (true, "4731f5a8e6efe5ca5c269c3e7f84aa01aa4f79047547291b0f2eb0f2dba631ab"), looks := true }, kinds := [], alts := [], laidByText := true, laidKinds := [.data, .data, .data, .data, .sentinel, .sentinel, .pinned], laidTests := true, laidLooks := .later }
def TraceReadUptoCardSaid : Prop := Claim7.holds Tryd.pinned (.plain (OpenSpec.upto traceReadSpec)) traceReadUptoCard

/-- THE SECOND FORM's CARD OF 'nurserylaw31.TracePrefix'. -/
def tracePrefixUptoCard : Claim7 := { stood := { row := tracePrefixUptoRow, standIns := [], harness := (true, "4731f5a8e6efe5ca5c269c3e7f84aa01aa4f79047547291b0f2eb0f2dba631ab"), looks := true }, kinds := [], alts := [], laidByText := true, laidKinds := [.data, .data, .data, .data, .sentinel, .sentinel, .pinned], laidTests := true, laidLooks := .later }
def TracePrefixUptoCardSaid : Prop := Claim7.holds Tryd.pinned (.plain (OpenSpec.upto tracePrefixSpec)) tracePrefixUptoCard

/-- THE SECOND FORM's CARD OF 'nurserylaw31.TraceLives'. -/
def traceLivesUptoCard : Claim7 := { stood := { row := traceLivesUptoRow, standIns := [], harness := (true, "4731f5a8e6efe5ca5c269c3e7f84aa01aa4f79047547291b0f2eb0f2dba631ab"), looks := true }, kinds := [], alts := [], laidByText := true, laidKinds := [.data, .data, .data, .data, .sentinel, .sentinel, .pinned], laidTests := true, laidLooks := .later }
def TraceLivesUptoCardSaid : Prop := Claim7.holds Tryd.pinned (.plain (OpenSpec.upto traceLivesSpec)) traceLivesUptoCard

/-- THE SECOND FORM's CARD OF 'nurserylaw31.TraceCheck'. -/
def traceCheckUptoCard : Claim7 := { stood := { row := traceCheckUptoRow, standIns := [], harness := (true, "4731f5a8e6efe5ca5c269c3e7f84aa01aa4f79047547291b0f2eb0f2dba631ab"), looks := true }, kinds := [], alts := [], laidByText := true, laidKinds := [.data, .data, .data, .data, .sentinel, .sentinel, .pinned], laidTests := true, laidLooks := .later }
def TraceCheckUptoCardSaid : Prop := Claim7.holds Tryd.pinned (.plain (OpenSpec.upto traceCheckSpec)) traceCheckUptoCard
end Rows
end Go.Proofs.YtofomblpbmpbaaaDoor

/-
  DERIVED. GIVEN WITH THE SEED: THE CARDS: each row of YtgeclafcbgocgaaDoorRows.lean that lists a variable, with what it lists TIED to the program's text (the seventh form; the later family's looks); each row that meets fmt, with fmt's text TOLD by the authors' own Lean function (tested against real Go, not proved from fmt's source: count such statements apart). THE CARD IS WHAT COUNTS. Prove the row's statement (the work); the ties are given (YtgeclafcbgocgaaDoorTie.lean); close each card by the builder's one call (the guide's Derived/Test/ToyasCard.lean, 'card_holds'). Laid BY PROGRAM, IN A SANDBOX (cutbox-door.mjs). By AI agents, Wed Nov 11 2026. No macro, syntax, notation, axiom, sorry.
-/
import Derived.Test.YtgeclafcbgocgaaDoorRows
import GoSem.ClaimSeven
namespace Go.Proofs.YtgeclafcbgocgaaDoor
namespace Rows

/-- THE TIED CARD OF 'nurserylaw43.HistoryText'. -/
def historyTextCard : Claim7 := { stood := { row := historyTextRow, standIns := [], harness := (true, "138c48475260061d2af8542e89b58a5f2e7d0f14ec7ee5a3a6d49832947b5767"), looks := true }, kinds := [], alts := [], laidByText := true, laidKinds := [.data, .data, .data, .data, .sentinel, .sentinel, .pinned], laidTests := true, laidLooks := .later }
def HistoryTextCardSaid : Prop := Claim7.holds Tryd.pinned (.plain (OpenSpec.ofChange historyTextSpec)) historyTextCard

/-- THE TIED CARD OF 'nurserylaw43.HistoryBack'. -/
def historyBackCard : Claim7 := { stood := { row := historyBackRow, standIns := [], harness := (true, "138c48475260061d2af8542e89b58a5f2e7d0f14ec7ee5a3a6d49832947b5767"), looks := true }, kinds := [], alts := [], laidByText := true, laidKinds := [.data, .data, .data, .data, .sentinel, .sentinel, .pinned], laidTests := true, laidLooks := .later }
def HistoryBackCardSaid : Prop := Claim7.holds Tryd.pinned (.plain (OpenSpec.ofChange historyBackSpec)) historyBackCard

/-- THE TIED CARD OF 'nurserylaw43.HistoryOrder'. -/
def historyOrderCard : Claim7 := { stood := { row := historyOrderRow, standIns := [], harness := (true, "138c48475260061d2af8542e89b58a5f2e7d0f14ec7ee5a3a6d49832947b5767"), looks := true }, kinds := [], alts := [], laidByText := true, laidKinds := [.data, .data, .data, .data, .sentinel, .sentinel, .pinned], laidTests := true, laidLooks := .later }
def HistoryOrderCardSaid : Prop := Claim7.holds Tryd.pinned (.plain (OpenSpec.ofChange historyOrderSpec)) historyOrderCard

/-- THE TIED CARD OF 'nurserylaw43.HistoryCheck'. -/
def historyCheckCard : Claim7 := { stood := { row := historyCheckRow, standIns := [], harness := (true, "138c48475260061d2af8542e89b58a5f2e7d0f14ec7ee5a3a6d49832947b5767"), looks := true }, kinds := [], alts := [], laidByText := true, laidKinds := [.data, .data, .data, .data, .sentinel, .sentinel, .pinned], laidTests := true, laidLooks := .later }
def HistoryCheckCardSaid : Prop := Claim7.holds Tryd.pinned (.plain (OpenSpec.ofChange historyCheckSpec)) historyCheckCard

/-- THE TIED CARD OF 'nurserylaw43.HistoryTasks'. -/
def historyTasksCard : Claim7 := { stood := { row := historyTasksRow, standIns := [], harness := (true, "138c48475260061d2af8542e89b58a5f2e7d0f14ec7ee5a3a6d49832947b5767"), looks := true }, kinds := [], alts := [], laidByText := true, laidKinds := [.data, .data, .data, .data, .sentinel, .sentinel, .pinned], laidTests := true, laidLooks := .later }
def HistoryTasksCardSaid : Prop := Claim7.holds Tryd.pinned (.plain (OpenSpec.ofChange historyTasksSpec)) historyTasksCard

/-- THE SECOND FORM's CARD OF 'nurserylaw43.HistoryText'. -/
def historyTextUptoCard : Claim7 := { stood := { row := historyTextUptoRow, standIns := [], harness := (true, "138c48475260061d2af8542e89b58a5f2e7d0f14ec7ee5a3a6d49832947b5767"), looks := true }, kinds := [], alts := [], laidByText := true, laidKinds := [.data, .data, .data, .data, .sentinel, .sentinel, .pinned], laidTests := true, laidLooks := .later }
def HistoryTextUptoCardSaid : Prop := Claim7.holds Tryd.pinned (.plain (OpenSpec.upto historyTextSpec)) historyTextUptoCard

/-- THE SECOND FORM's CARD OF 'nurserylaw43.HistoryBack'. -/
def historyBackUptoCard : Claim7 := { stood := { row := historyBackUptoRow, standIns := [], harness := (true, "138c48475260061d2af8542e89b58a5f2e7d0f14ec7ee5a3a6d49832947b5767"), looks := true }, kinds := [], alts := [], laidByText := true, laidKinds := [.data, .data, .data, .data, .sentinel, .sentinel, .pinned], laidTests := true, laidLooks := .later }
def HistoryBackUptoCardSaid : Prop := Claim7.holds Tryd.pinned (.plain (OpenSpec.upto historyBackSpec)) historyBackUptoCard

/-- THE SECOND FORM's CARD OF 'nurserylaw43.HistoryOrder'. -/
def historyOrderUptoCard : Claim7 := { stood := { row := historyOrderUptoRow, standIns := [], harness := (true, "138c48475260061d2af8542e89b58a5f2e7d0f14ec7ee5a3a6d49832947b5767"), looks := true }, kinds := [], alts := [], laidByText := true, laidKinds := [.data, .data, .data, .data, .sentinel, .sentinel, .pinned], laidTests := true, laidLooks := .later }
def HistoryOrderUptoCardSaid : Prop := Claim7.holds Tryd.pinned (.plain (OpenSpec.upto historyOrderSpec)) historyOrderUptoCard

/-- THE SECOND FORM's CARD OF 'nurserylaw43.HistoryCheck'. -/
def historyCheckUptoCard : Claim7 := { stood := { row := historyCheckUptoRow, standIns := [], harness := (true, "138c48475260061d2af8542e89b58a5f2e7d0f14ec7ee5a3a6d49832947b5767"), looks := true }, kinds := [], alts := [], laidByText := true, laidKinds := [.data, .data, .data, .data, .sentinel, .sentinel, .pinned], laidTests := true, laidLooks := .later }
def HistoryCheckUptoCardSaid : Prop := Claim7.holds Tryd.pinned (.plain (OpenSpec.upto historyCheckSpec)) historyCheckUptoCard

/-- THE SECOND FORM's CARD OF 'nurserylaw43.HistoryTasks'. -/
def historyTasksUptoCard : Claim7 := { stood := { row := historyTasksUptoRow, standIns := [], harness := (true, "138c48475260061d2af8542e89b58a5f2e7d0f14ec7ee5a3a6d49832947b5767"), looks := true }, kinds := [], alts := [], laidByText := true, laidKinds := [.data, .data, .data, .data, .sentinel, .sentinel, .pinned], laidTests := true, laidLooks := .later }
def HistoryTasksUptoCardSaid : Prop := Claim7.holds Tryd.pinned (.plain (OpenSpec.upto historyTasksSpec)) historyTasksUptoCard
end Rows
end Go.Proofs.YtgeclafcbgocgaaDoor

/-
  NARROWER THAN 'FOR EVERY INPUT', by the rows' own cells (each row's printed sentence says how): HappensBefore: calm.
  DERIVED. THE GIVEN ROWS OF THIS SEAT. 1 by the template 'for every input the law returns true; each argument reads behind the call as it read before'; 0 by the template 'total and deterministic' (their statements: YtbaakaaimolagaaGreatDoorTotals.lean).
  GIVEN WITH THE SEED: the statements are not yours to turn. If you find one false, say at which input.
  Laid BY PROGRAM, IN A SANDBOX (cutbox-rows.mjs): the forced cells as the released guide's own fill.sh prints them over the translation a78de8ee0be5eb39… (all of the seat's roots in one cut). By AI agents, Wed Nov 11 2026. No macro, syntax, notation, axiom, sorry.
-/
import Derived.Test.YtbaakaaimolagaaGreatDoorChecked
import GoSem.Claim
import GoSem.ClaimJoined
import GoSem.ClaimMapViews
import Derived.JoinedTies
import Derived.KernelRfl
namespace Go.Proofs.YtbaakaaimolagaaGreatDoor
/- THE CELL 'sum', in the pinned program and in every row, IS THE sha256 OF THE DUMP (.gsa) THAT YtbaakaaimolagaaGreatDoorProg.lean LOADS. Nothing in Lean hashes anything: it is a label: what it is worth is what the hold of that sum in a sandbox is worth. -/
noncomputable def Tryz.pinned : Pinned := { name := "ytbaakaaimolagaagreatdoor", sum := "a78de8ee0be5eb39504e841409a3e0a16516a96361281e0d78eb1ea7992af39a", checked := Tryz.checked }
namespace Rows
def none {H : Type} : Left H := { results := [], args := [] }

/-- 'nurserylaw36.HappensBefore': WHATEVER THE INPUT: true; the input reads as it did. -/
def happensBeforeSpec : ChangeSpec := { name := "happensBefore", fn := fun _ => fun
  | [d1, d2, d3, d4] => { results := [.lit (.bool true)], args := [d1, d2, d3, d4] }
  | _ => none }
def happensBeforeRow : OpenClaim := { program := "ytbaakaaimolagaagreatdoor", sum := "a78de8ee0be5eb39504e841409a3e0a16516a96361281e0d78eb1ea7992af39a", func := "nursery/nurserylaw36.HappensBefore", spec := "happensBefore", inPlace := ["slices.overlaps[nursery/api.Waiter]", "slices.overlaps[int]", "slices.overlaps[nursery/api.Cursor]", "slices.overlaps[nursery/api.Timer]"], unfollowed := true, recurses := true, named := ["nursery/selector.possible"], plainKeys := false, apart := false, calm := true, outside := [.timePasses] }
def HappensBeforeSaid : Prop := happensBeforeRow.holds Tryz.pinned (OpenSpec.ofChange happensBeforeSpec)

/-- ITS FALSE NEIGHBOUR: 'it returns false'. Refute it at one input. -/
def happensBeforeWrong : ChangeSpec := { name := "happensBefore", fn := fun _ => fun
  | [d1, d2, d3, d4] => { results := [.lit (.bool false)], args := [d1, d2, d3, d4] }
  | _ => none }
def HappensBeforeWrongFalsely : Prop := happensBeforeRow.holds Tryz.pinned (OpenSpec.ofChange happensBeforeWrong)

end Rows
end Go.Proofs.YtbaakaaimolagaaGreatDoor

/- The validity of an event: what the two functions check return. -/
import Derived.Test.YtofomblpbmpbaaaDoorWord
import Derived.Deep.Light
namespace Go.Proofs.YtofomblpbmpbaaaDoor
open Go.RowKit
def inB (n lo hi : Int) : Bool := decide (lo ≤ n) && decide (n ≤ hi)
theorem within60' (n lo hi : Int) (w : World) :
    Calls Tryd.prog 60 #[.int .i64 n, .int .i64 lo, .int .i64 hi] w fun e w' => e = .returned (.bool (inB n lo hi)) ∧ w = w' := within60 n lo hi w
theorem within63' (n lo hi : Int) (w : World) :
    Calls Tryd.prog 63 #[.int .i64 n, .int .i64 lo, .int .i64 hi] w fun e w' => e = .returned (.bool (inB n lo hi)) ∧ w = w' := within63 n lo hi w
def rangesB (e : Ev) : Bool := inB e.step 1 2000 && inB e.time 0 1099511627776 && inB e.task (-1) 15 && inB e.object (-1) 15 && inB e.scope (-1) 31 && inB e.value (-1099511627776) 1099511627776 && inB e.other (-1) 99
/-- Why an event is not valid: 0 if it is. -/
def evErr (e : Ev) : Int := if wordOf e.kind = [] then 8 else if rangesB e then 0 else 2
set_option maxRecDepth 100000 in
set_option maxHeartbeats 800000 in
theorem check33 (v : Ev) (w : World) :
    Calls Tryd.prog 33 #[.agg (evCells v).toArray] w fun e w' => e = .returned (.int .i64 (evErr v)) ∧ Below w.heap.size w w' := by
  unfold evCells
  go_enter Tryd.func33, Tryd.ntmps33
  go_wp2_with fail
  refine (words_any _).mono ?_
  rintro e w1 ⟨m, rfl, hm0, hs1, hM, hb1⟩
  have hb : Below w.heap.size w w1 := ((Below.refl _ _).alloc (Nat.le_refl _) _).trans (hb1.mono (by simp))
  obtain ⟨hc, _⟩ := bcell hb1
  clear hb1 hs1 hm0
  go_wp2_with (first | (at_lookup; refine wpList_lookup_mk rfl 65 3 9 _ _ rfl Tryd.underlying65 Tryd.underlying3 _ zero9 _ rfl _ hM _ rfl ?_; rw [lookV_words]) | (go_at_call 60; refine (within60' _ _ _ _).mono ?_; rintro e w' ⟨rfl, rfl⟩))
  all_goals
    go_ret
    refine ⟨?_, hb⟩
    clear hb hM hc
    go_light
    simp_all [evErr, rangesB]
end Go.Proofs.YtofomblpbmpbaaaDoor

/- The words of the kinds of events: the map that the program makes, and what a look-up in it finds; the validity of an event. -/
import Derived.Test.YtofomblpbmpbaaaDoorMap
namespace Go.Proofs.YtofomblpbmpbaaaDoor
open Go.RowKit
structure Ev where
  step : Int
  time : Int
  task : Int
  kind : Int
  object : Int
  scope : Int
  value : Int
  other : Int
  deriving DecidableEq
def evCells (e : Ev) : List Value := [.int .i64 e.step, .int .i64 e.time, .int .i64 e.task, .int .i64 e.kind, .int .i64 e.object, .int .i64 e.scope, .int .i64 e.value, .int .i64 e.other]
theorem evCells_one (e : Ev) : ∀ u ∈ evCells e, u.oneCell' = true := by intro u hu; simp only [evCells, List.mem_cons, List.not_mem_nil, or_false] at hu; rcases hu with rfl | rfl | rfl | rfl | rfl | rfl | rfl | rfl <;> rfl
def wordsL : List (Int × List UInt8) := [(30, [108, 111, 97, 100]), (31, [115, 116, 111, 114, 101]), (32, [102, 101, 116, 99, 104, 97, 100, 100]), (33, [99, 111, 109, 112, 97, 114, 101, 115, 119, 97, 112]), (34, [115, 112, 97, 119, 110]), (35, [111, 112, 101, 110]), (36, [99, 108, 111, 115, 101]), (37, [99, 97, 110, 99, 101, 108]), (38, [99, 104, 101, 99, 107, 112, 111, 105, 110, 116]), (39, [121, 105, 101, 108, 100]), (40, [115, 108, 101, 101, 112]), (41, [101, 109, 105, 116]), (42, [98, 101, 103, 105, 110]), (43, [101, 110, 100]), (50, [108, 111, 99, 107]), (51, [116, 114, 121, 108, 111, 99, 107]), (52, [117, 110, 108, 111, 99, 107]), (53, [114, 101, 97, 100, 108, 111, 99, 107]), (54, [114, 101, 97, 100, 117, 110, 108, 111, 99, 107]), (55, [119, 114, 105, 116, 101, 108, 111, 99, 107]), (56, [119, 114, 105, 116, 101, 117, 110, 108, 111, 99, 107]), (57, [119, 97, 105, 116]), (58, [115, 105, 103, 110, 97, 108]), (59, [98, 114, 111, 97, 100, 99, 97, 115, 116]), (60, [97, 99, 113, 117, 105, 114, 101]), (61, [116, 114, 121, 97, 99, 113, 117, 105, 114, 101]), (62, [114, 101, 108, 101, 97, 115, 101]), (63, [97, 114, 114, 105, 118, 101]), (64, [115, 101, 110, 100]), (65, [114, 101, 99, 101, 105, 118, 101]), (66, [99, 108, 111, 115, 101, 99, 104, 97, 110, 110, 101, 108]), (67, [115, 101, 108, 101, 99, 116]), (68, [112, 117, 98, 108, 105, 115, 104]), (69, [115, 117, 98, 115, 99, 114, 105, 98, 101]), (70, [110, 101, 120, 116]), (71, [117, 110, 115, 117, 98, 115, 99, 114, 105, 98, 101]), (72, [116, 97, 107, 101]), (73, [99, 111, 109, 112, 108, 101, 116, 101]), (74, [97, 119, 97, 105, 116]), (201, [116, 105, 99, 107]), (202, [112, 97, 114, 107, 101, 100]), (203, [119, 111, 107, 101, 110]), (204, [115, 116, 97, 114, 116, 101, 100]), (205, [101, 110, 100, 101, 100]), (206, [102, 97, 105, 108, 101, 100]), (207, [99, 97, 110, 99, 101, 108, 108, 101, 100]), (208, [100, 101, 108, 105, 118, 101, 114, 101, 100]), (209, [99, 108, 101, 97, 110, 105, 110, 103]), (210, [99, 108, 101, 97, 110, 101, 100]), (211, [114, 101, 115, 117, 109, 101, 100]), (212, [99, 108, 111, 115, 101, 100])]
def wordsKV : List (Int × Value) := wordsL.map (fun p => (p.1, Value.string ⟨p.2.toArray⟩))
/-- The word of a kind; empty if there is none. -/
def wordOf (k : Int) : List UInt8 := ((wordsL.find? (fun p => p.1 == k)).map (·.2)).getD []
theorem lookV_words (k : Int) : (lookV wordsKV k).getD (.string ⟨#[]⟩) = .string ⟨(wordOf k).toArray⟩ := by
  unfold lookV wordsKV wordOf
  rw [List.find?_map]
  generalize wordsL = l
  have : ((fun p : Int × Value => p.1 == k) ∘ fun p : Int × List UInt8 => (p.1, Value.string ⟨p.2.toArray⟩)) = fun p => p.1 == k := rfl
  rw [this]
  cases l.find? (fun p => p.1 == k) <;> rfl
set_option maxRecDepth 100000 in
set_option maxHeartbeats 800000 in
theorem words_any (w : World) :
    Calls Tryd.prog 38 #[] w fun e w' => ∃ m, e = .returned (.map (some m)) ∧ w.heap.size ≤ m ∧ w'.heap.size = m + 1 ∧ MapIs w' m wordsKV ∧ Below w.heap.size w w' := by
  have hmm := @run_makeMap Tryd.prog
  have hM : MapIs (w.alloc (.map #[] 0)) w.heap.size [] ∧ Below w.heap.size w (w.alloc (.map #[] 0)) ∧ (w.alloc (.map #[] 0)).heap.size = w.heap.size + 1 :=
    ⟨heap_alloc_new w _, (Below.refl _ _).alloc (Nat.le_refl _) _, by simp⟩
  go_enter Tryd.func38, Tryd.ntmps38
  go_wp2_with ((with_reducible refine wpList_insert_acc (o := ⟨none, .insert 65 (.tmp 1) (.const (.int .i64 _)) (.const _), _, _, _, none⟩) rfl 65 3 9 (.tmp 1) _ _ rfl Tryd.underlying65 Tryd.underlying3 w.heap.size ?_ _ w.heap.size w (Nat.le_refl _) hM ?_ ?_); (focus rfl); (focus rfl); clear hM; intro w' hM)
  go_ret
  exact ⟨_, rfl, Nat.le_refl _, hM.2.2, hM.1, hM.2.1⟩
theorem zero9 (w : World) : (zeroValue 9).run Tryd.prog w = .ok (.string ⟨#[]⟩) w := by kernel_rfl
theorem within60 (n lo hi : Int) (w : World) :
    Calls Tryd.prog 60 #[.int .i64 n, .int .i64 lo, .int .i64 hi] w fun e w' => e = .returned (.bool (decide (lo ≤ n) && decide (n ≤ hi))) ∧ w = w' := by
  by_cases h : lo ≤ n
  · go_enter Tryd.func60, Tryd.ntmps60
    go_wp2
    go_ret
    exact ⟨by simp [h], rfl⟩
  · go_enter Tryd.func60, Tryd.ntmps60
    go_wp2
    go_ret
    exact ⟨by simp; omega, rfl⟩
theorem within63 (n lo hi : Int) (w : World) :
    Calls Tryd.prog 63 #[.int .i64 n, .int .i64 lo, .int .i64 hi] w fun e w' => e = .returned (.bool (decide (lo ≤ n) && decide (n ≤ hi))) ∧ w = w' := by
  by_cases h : lo ≤ n
  · go_enter Tryd.func63, Tryd.ntmps63
    go_wp2
    go_ret
    exact ⟨by simp [h], rfl⟩
  · go_enter Tryd.func63, Tryd.ntmps63
    go_wp2
    go_ret
    exact ⟨by simp; omega, rfl⟩
end Go.Proofs.YtofomblpbmpbaaaDoor

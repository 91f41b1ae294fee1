/- The reference's behind. -/
import Derived.Test.YtofomblpbmpbaaaDoorNum
import Derived.Test.YtofomblpbmpbaaaDoorPln2
namespace Go.Proofs.YtofomblpbmpbaaaDoor
open Go.RowKit
theorem take_str (s : List UInt8) (k : Nat) : (ByteArray.mk s.toArray).extract 0 k = ByteArray.mk (s.take k).toArray := by
  apply ByteArray.ext
  apply Array.toList_inj.1
  rw [Lib.extract_data]
  simp
theorem drop_str (s : List UInt8) (k n : Nat) (hn : n = s.length) : (ByteArray.mk s.toArray).extract k n = ByteArray.mk (s.drop k).toArray := by
  subst hn
  apply ByteArray.ext
  apply Array.toList_inj.1
  rw [Lib.extract_data]
  show List.take (s.length - k) (s.drop k) = s.drop k
  rw [List.take_of_length_le (by simp)]
theorem cmp_str (s word : List UInt8) : (((ByteArray.mk s.toArray).extract 0 (word.length + 1)).toList == (ByteArray.mk word.toArray ++ ByteArray.mk #[61]).toList) = decide (s.take (word.length + 1) = word ++ [61]) := by
  rw [take_str, ByteArray.mk_append_mk word [61], ByteArray.toList_eq, ByteArray.toList_eq, beq_dec]
set_option maxRecDepth 100000 in
set_option maxHeartbeats 1000000 in
theorem behind52 (s word : List UInt8) (w : World) (hs : s.length ≤ 100000) (hw : word.length ≤ 100) :
    Calls Tryd.prog 52 #[.string ⟨s.toArray⟩, .string ⟨word.toArray⟩] w fun e w' => e = .returned (.tuple #[.int .i64 (behindR s word).1, .bool (behindR s word).2]) ∧ Below w.heap.size w w' := by
  by_cases h1 : s.length < word.length + 1
  · have hr : behindR s word = (0, false) := by unfold behindR; rw [if_pos h1]
    rw [hr]
    clear hr
    go_enter Tryd.func52, Tryd.ntmps52
    go_wp2_with fail
    go_ret2
    exact ⟨rfl, Below.refl _ _⟩
  · by_cases h2 : s.take (word.length + 1) = word ++ [61]
    · have hr : behindR s word = numR (s.drop (word.length + 1)) := by unfold behindR; rw [if_neg h1, if_pos h2]
      rw [hr]
      clear hr
      have hcmp := cmp_str s word
      rw [h2, decide_eq_true rfl] at hcmp
      clear h2
      go_enter Tryd.func52, Tryd.ntmps52
      go_wp2_with fail
      rw [drop_str s _ _ rfl]
      refine (number51 _ _ (by simp; omega)).mono ?_
      rintro e w1 ⟨rfl, hb1⟩
      go_wp2_with fail
      go_ret2
      exact ⟨rfl, hb1⟩
    · have hr : behindR s word = (0, false) := by unfold behindR; rw [if_neg h1, if_neg h2]
      rw [hr]
      clear hr
      have hcmp := cmp_str s word
      rw [decide_eq_false h2] at hcmp
      clear h2
      go_enter Tryd.func52, Tryd.ntmps52
      go_wp2_with fail
      go_ret2
      exact ⟨rfl, Below.refl _ _⟩
end Go.Proofs.YtofomblpbmpbaaaDoor

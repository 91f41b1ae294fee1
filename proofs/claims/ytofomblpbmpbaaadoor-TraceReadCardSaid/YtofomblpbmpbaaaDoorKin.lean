/- The program's kind: a loop over the map of the words, in any order. -/
import Derived.Test.YtofomblpbmpbaaaDoorText2
import Derived.Test.YtofomblpbmpbaaaDoorPln2
import Derived.Test.YtofomblpbmpbaaaDoorFld
namespace Go.Proofs.YtofomblpbmpbaaaDoor
open Go.RowKit
theorem filter_lt {p q : Nat → Bool} (h : ∀ x, q x = true → p x = true) (j : Nat) (hp : p j = true) (hq : q j = false) : ∀ l : List Nat, j ∈ l → (l.filter q).length < (l.filter p).length := by
  have hle : ∀ l : List Nat, (l.filter q).length ≤ (l.filter p).length := by
    intro l
    induction l with
    | nil => simp
    | cons x l ih =>
      rw [List.filter_cons, List.filter_cons]
      by_cases hx : q x = true
      · rw [if_pos hx, if_pos (h x hx)]
        simpa using ih
      · rw [if_neg hx]
        split
        · simp; omega
        · exact ih
  intro l
  induction l with
  | nil => intro hj; cases hj
  | cons x l ih =>
    intro hj
    rw [List.filter_cons, List.filter_cons]
    rcases List.mem_cons.1 hj with rfl | hj
    · rw [if_pos hp, if_neg (by simp [hq])]
      have := hle l
      simp
      omega
    · have := ih hj
      by_cases hx : q x = true
      · rw [if_pos hx, if_pos (h x hx)]
        simpa using this
      · rw [if_neg hx]
        split
        · simp; omega
        · exact this
/-- How many entries a walk over a map has still to show. -/
def leftOf (w : World) (r n : Nat) : Nat :=
  match w.heap[r]? with
  | some (.mapIter _ _ seen _) => ((List.range n).filter (fun j => !seen.contains j)).length
  | _ => 0
theorem leftOf_push {w w' : World} {r m n j : Nat} {seen : Array Nat} (h : IterIs w r m n seen) (h' : IterIs w' r m n (seen.push j)) (hj : j < n) (hn : j ∉ seen) : leftOf w' r n < leftOf w r n := by
  unfold IterIs at h h'
  unfold leftOf
  rw [h, h']
  refine filter_lt (fun x hx => ?_) j (by simpa using hn) (by simp) _ (by simpa using hj)
  simp at hx ⊢
  exact hx.1
theorem kindOf_hit (j : Nat) (hj : j < wordsL.length) (s : List UInt8) (h : wordsL[j].2 = s) : kindOf s = wordsL[j].1 := by
  have hall : ∀ p ∈ wordsL, kindOf p.2 = p.1 := by decide
  rw [← h]
  exact hall _ (List.getElem_mem hj)
theorem kindOf_miss (s : List UInt8) (h : ∀ j (hj : j < wordsL.length), wordsL[j].2 ≠ s) : kindOf s = 0 := by
  unfold kindOf
  rw [List.find?_eq_none.2]
  · rfl
  · intro x hx
    obtain ⟨j, hj, rfl⟩ := List.getElem_of_mem hx
    simpa using h j hj
theorem kv_len : wordsKV.length = wordsL.length := by simp [wordsKV]
theorem kv_at (j : Nat) (hj : j < wordsKV.length) : wordsKV[j] = ((wordsL[j]'(by simpa [wordsKV] using hj)).1, strV (wordsL[j]'(by simpa [wordsKV] using hj)).2) := by simp [wordsKV, strV]
/-- While the words are walked: the map at m, the walk at r; none of the shown ones is s. -/
structure KS (w0 w : World) (m r : Nat) (seen : Array Nat) (s : List UInt8) : Prop where
  map : MapIs w m wordsKV
  iter : IterIs w r m wordsKV.length seen
  no : ∀ j ∈ seen, ∀ hj : j < wordsL.length, wordsL[j].2 ≠ s
  below : Below w0.heap.size w0 w
  m0 : w0.heap.size ≤ m
  mr : m < r
set_option maxRecDepth 100000 in
set_option maxHeartbeats 1000000 in
theorem kind46 (s : List UInt8) (w : World) : Calls Tryd.prog 46 #[.string ⟨s.toArray⟩] w fun e w' => e = .returned (.int .i64 (kindOf s)) ∧ Below w.heap.size w w' := by
  go_enter Tryd.func46, Tryd.ntmps46
  go_wp2_with fail
  refine (words_any _).mono ?_
  rintro e w1 ⟨m, rfl, hm0, hm1, hmap, hb1⟩
  go_wp2_with ((with_reducible refine wpList_range_mk (o := ⟨some 6, .range 65 (.tmp 5), _, _, _, none⟩) rfl 65 3 9 (.tmp 5) rfl Tryd.underlying65 m ?_ wordsKV hmap ?_); (focus rfl); intro hI)
  have ks : KS w (w1.alloc (.mapIter (some m) wordsKV.length #[] wordsKV.length)) m w1.heap.size #[] s :=
    ⟨hmap.below ((Below.refl _ _).alloc (Nat.le_refl _) _) (by omega), hI, by simp, hb1.alloc hb1.size _, hm0, by omega⟩
  have Ks := Lib.hid ks
  clear ks hI hmap
  have hm : m < w1.heap.size := by omega
  clear hm1
  generalize w1.heap.size = r at *
  go_frame
  go_loopw [] (fun wr => ∃ seen, KS w wr m r seen s) (fun w => leftOf w r wordsKV.length)
  case atStart => exact ⟨_, Ks.out⟩
  case round =>
    obtain ⟨seen, ks⟩ := hrel
    clear Ks
    have hM := ks.map
    have hI := ks.iter
    have Ks := Lib.hid ks
    have HI := Lib.hid hI
    clear ks
    go_wp2_with (first | ((with_reducible refine wpList_next_mk (o := ⟨some 7, .next (.tmp 6) false, _, _, _, none⟩) rfl (.tmp 6) rfl r m ?_ wordsKV hM seen hI ?_ ?_); (focus rfl); (focus (intro w' hall hsame hb'; clear hM hI; go_wp2_with fail; go_ret; exact ⟨(by rw [kindOf_miss s (fun j hj => Ks.out.no j (hall j (by rw [kv_len]; exact hj)) hj)]; rfl), Ks.out.below.trans (hb'.mono Ks.out.below.size)⟩)); intro j hj w' hnew hI' hb' hs' hsame; have hM' := hM.below hb' Ks.out.mr; clear hM hI hs'; rw [kv_at j hj]) | ((with_reducible refine wpList_entry_mk (o := ⟨some 9, .entry (.tmp 6), _, _, _, none⟩) rfl (.tmp 6) rfl r m ?_ wordsKV hM' seen j hj hI' ?_); (focus rfl); rw [kv_at j hj]; clear hM'; have Hs := Lib.hid hsame; clear hsame; generalize hW : wordsL[j]'(by simpa [wordsKV] using hj) = W; have HW := Lib.hid hW; clear hW; have HI' := Lib.hid hI'; clear hI'; unfold strV; have Hn := Lib.hid hnew; have Hb := Lib.hid hb'; clear hnew hb'; rcases Bool.eq_false_or_eq_true (W.2 == s) with ht | ht))
    · go_ret
      have hlt : j < wordsL.length := by rw [← kv_len]; exact hj
      refine ⟨?_, Ks.out.below.trans (Hb.out.mono (Nat.le_trans Ks.out.m0 (Nat.le_of_lt Ks.out.mr)))⟩
      rw [kindOf_hit j hlt s (by rw [HW.out]; simpa using ht), HW.out]
      rfl
    · go_roundw
      case rel =>
        refine ⟨seen.push j, Ks.out.map.below Hb.out Ks.out.mr, HI'.out, ?_, Ks.out.below.trans (Hb.out.mono (Nat.le_trans Ks.out.m0 (Nat.le_of_lt Ks.out.mr))), Ks.out.m0, Ks.out.mr⟩
        intro i hi hil
        rcases Array.mem_push.1 hi with hi | rfl
        · exact Ks.out.no i hi hil
        · rw [HW.out]
          simpa using ht
      case measure => exact leftOf_push HI.out HI'.out hj Hn.out
end Go.Proofs.YtofomblpbmpbaaaDoor

/- The law of the text of an event: the program and the reference write and read alike. -/
import Derived.Test.YtofomblpbmpbaaaDoorPar
import Derived.Test.YtofomblpbmpbaaaDoorRPar
namespace Go.Proofs.YtofomblpbmpbaaaDoor
open Go.RowKit
def awA : Ev := ⟨3, 20, 1, 64, 2, -1, 5, -1⟩
def awB : Ev := ⟨2, 20, -1, 201, -1, -1, 20, -1⟩
theorem awA_text : textR awA = [51, 32, 50, 48, 32, 49, 32, 115, 101, 110, 100, 32, 111, 98, 106, 101, 99, 116, 61, 50, 32, 118, 97, 108, 117, 101, 61, 53] := by decide +kernel
theorem awA_err : evErr awA = 0 := by decide +kernel
theorem awB_err : evErr awB = 0 := by decide +kernel
theorem awB_text : textB awB = [50, 32, 50, 48, 32, 45, 49, 32, 116, 105, 99, 107, 32, 118, 97, 108, 117, 101, 61, 50, 48] := by decide +kernel
theorem parse_back (e : Ev) (h : evErr e = 0) : parseR (pParse (textB e)) (textB e) = (e, 0) := by
  rw [pParse_text e h]
  exact if_pos ⟨h, rfl⟩
set_option maxRecDepth 100000 in
set_option maxHeartbeats 1000000 in
theorem awake11 (w : World) (hE : Env w) : Calls Tryd.prog 11 #[] w fun e w' => e = .returned (.bool true) ∧ Below w.heap.size w w' := by
  go_enter Tryd.func11, Tryd.ntmps11
  go_wp2_with fail
  have n0 := text12 awA w hE
  unfold TextPost at n0
  rw [awA_text, awA_err] at n0
  refine n0.mono ?_
  rintro e w1 ⟨rfl, hb1⟩
  have hE1 := hE.below hb1
  clear n0
  go_wp2_with fail
  have n0 := parse14 [50, 32, 50, 48, 32, 45, 49, 32, 116, 105, 99, 107, 32, 118, 97, 108, 117, 101, 61, 50, 48] w1 hE1 (by decide)
  unfold PPost at n0
  rw [← awB_text, parse_back awB awB_err, awB_text] at n0
  refine n0.mono ?_
  rintro e w2 ⟨rfl, hb2⟩
  have hb := hb1.trans (hb2.mono hb1.size)
  clear n0 hb1 hb2 hE1 hE
  unfold awB evCells
  go_wp2_with fail
  go_ret
  exact ⟨rfl, hb.alloc hb.size _⟩
def LPost (w : World) (e : Ending) (w' : World) : Prop := e = .returned (.bool true) ∧ Below w.heap.size w w'
set_option maxRecDepth 100000 in
set_option maxHeartbeats 2000000 in
theorem traceText3 (v : Ev) (s : List UInt8) (w : World) (hE : Env w) : Calls Tryd.prog 3 #[.agg (evCells v).toArray, .string ⟨s.toArray⟩] w (LPost w) := by
  have hE1 := hE.alloc (.cells (evCells v).toArray 23)
  unfold evCells at hE1 ⊢
  by_cases hs : 200 < s.length
  · go_enter Tryd.func3, Tryd.ntmps3
    go_wp2_with fail
    refine (awake11 _ hE1).mono ?_
    rintro e w1 ⟨rfl, hb1⟩
    go_wp2_with fail
    go_ret
    exact ⟨rfl, ((Below.refl _ _).alloc (Nat.le_refl _) _).trans (hb1.mono (by simp))⟩
  · go_enter Tryd.func3, Tryd.ntmps3
    go_wp2_with fail
    refine (text12 v _ hE1).mono ?_
    rintro e w1 ⟨rfl, hb1⟩
    have hv1 : EvAt w1 w.heap.size v := by
      unfold EvAt
      rw [hb1.block _ (by simp)]
      exact Array.getElem?_push_size
    have hE2 := hE1.below hb1
    have hB : Below w.heap.size w w1 := ((Below.refl _ _).alloc (Nat.le_refl _) _).trans (hb1.mono (by simp))
    clear hb1 hE1
    obtain ⟨q0, q1, q2, q3, q4, q5, q6, q7⟩ := hv1.cells
    go_wp2_with fail
    refine (text13 v w1).mono ?_
    rintro e w2 ⟨rfl, hb2⟩
    have hE3 := hE2.below hb2
    have hB2 := hB.trans (hb2.mono hB.size)
    clear hE2 hB hb2 hv1 q0 q1 q2 q3 q4 q5 q6 q7
    go_wp2_with fail
    refine (parse14 s w2 hE3 (by omega)).mono ?_
    rintro e w3 ⟨rfl, hb3⟩
    have hE4 := hE3.below hb3
    have hB3 := hB2.trans (hb3.mono hB2.size)
    have hpa := parsers_agree s
    generalize hr : parseR (pParse s) s = r at *
    obtain ⟨x, n⟩ := r
    have Hpa := Lib.hid hpa
    clear hE3 hB2 hb3 hr hpa
    unfold evCells
    go_wp2_with fail
    have hE5 := hE4.alloc (.cells (evCells x).toArray 23)
    have n0 := rparse15 s (w3.alloc (.cells (evCells x).toArray 23)) (by omega)
    unfold RPost at n0
    rw [← Hpa.out] at n0
    unfold evCells at n0 hE5
    refine n0.mono ?_
    rintro e w4 ⟨rfl, hb4⟩
    have hv : EvAt w4 w3.heap.size x := by
      unfold EvAt
      rw [hb4.block _ (by simp)]
      exact Array.getElem?_push_size
    obtain ⟨q0, q1, q2, q3, q4, q5, q6, q7⟩ := hv.cells
    have hE6 := hE5.below hb4
    have hB4 := (hB3.alloc hB3.size _).trans (hb4.mono (Nat.le_trans hB3.size (by simp)))
    have hlt := hv.lt
    clear hE4 hE5 n0 hb4 hB3 hv Hpa
    go_wp2_with fail
    refine (awake11 _ (hE6.alloc _)).mono ?_
    rintro e w5 ⟨rfl, hb5⟩
    go_wp2_with fail
    go_ret
    exact ⟨rfl, (hB4.alloc hB4.size _).trans (hb5.mono (Nat.le_trans hB4.size (by simp)))⟩
end Go.Proofs.YtofomblpbmpbaaaDoor

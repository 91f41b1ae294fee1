/- The error of a single call, by the program. -/
import Derived.Test.YtgeclafcbgocgaaDoorLst
import Derived.Test.YtgeclafcbgocgaaDoorNum
import Derived.Deep.QuietTactic
import Derived.BigQuiet
namespace Go.Proofs.YtgeclafcbgocgaaDoor
open Go.RowKit
theorem _root_.Go.RowKit.Below.dn {B : Nat} {w w' : World} (h : Below B w w') (n : Nat) : Below B w (w'.drewN n) := ⟨h.1, h.2, h.3, h.4, h.5⟩
set_option maxRecDepth 100000 in
set_option maxHeartbeats 4000000 in
theorem call34 (l : List Cl) (v : Value) (i : Nat) (w : World) (hv : ClV w v l) (hi : i < l.length) (hl : l.length ≤ 65536) :
    Calls Tryd.prog 34 #[v, .int .i64 i] w fun e w' => e = .returned (.int .i64 (callAt l i)) ∧ Below w.heap.size w w' := by
  rcases hv.split with ⟨A, c, rfl, rfl⟩ | ⟨b, off, cap, rfl, hcap, hbw, hrow⟩
  · simp at hi
  have hr : Row w b (off + i * 6) (clCells l[i]) := hrow i hi
  have hp : 0 < i → w.cell? ⟨b, off + (i - 1) * 6 + 4, none⟩ = some (.int .i64 (l.getD (i - 1) zCl).begin_) := fun h0 => by
    have := hrow (i - 1) (by omega) 4 _ rfl
    rwa [getD_lt l (i - 1) (by omega)]
  have hP : callAt l i = callErr i (l.getD (i - 1) zCl) l[i] := by unfold callAt; rw [getD_lt l i hi]
  rw [hP]
  clear hP hrow hv
  generalize hpb : (l.getD (i - 1) zCl) = p at *
  obtain ⟨x, hx⟩ : ∃ x, l[i] = x := ⟨_, rfl⟩
  rw [hx] at hr ⊢
  clear hx hpb
  obtain ⟨a0, a1, a2, a3, a4, a5⟩ := x
  obtain ⟨p0, p1, p2, p3, p4, p5⟩ := p
  simp only at hp
  have hP : ∀ x w', callErr i ⟨p0, p1, p2, p3, p4, p5⟩ ⟨a0, a1, a2, a3, a4, a5⟩ = x → Below w.heap.size w w' →
      (Ending.returned (.int .i64 x) = Ending.returned (.int .i64 (callErr i ⟨p0, p1, p2, p3, p4, p5⟩ ⟨a0, a1, a2, a3, a4, a5⟩)) ∧ Below w.heap.size w w') := fun x w' h hb => ⟨by rw [h], hb⟩
  have hbl : Below w.heap.size w (w.alloc (.cells #[.int .i64 a0, .int .i64 a1, .int .i64 a2, .int .i64 a3, .int .i64 a4, .int .i64 a5] 32)) := (Below.refl _ _).alloc (Nat.le_refl _) _
  have HP := Lib.hid hP
  have Hb := Lib.hid hbl
  clear hP hbl
  simp only [clCells] at hr
  go_enter Tryd.func34, Tryd.ntmps34
  go_wp2_with ((with_reducible refine wpList_load_agg (o := ⟨some 9, .load 32 (.tmp 8), _, _, _, none⟩) rfl 32 _ rfl b (off + i * 6) ?_ _ hr _ Tryd.underlying32 rfl ?_ ?_); (focus rfl); (focus kernel_rfl))
  clear hr
  refine (within53 _ _ _ _).mono ?_
  rintro e w2 ⟨rfl, rfl⟩
  rcases Bool.eq_false_or_eq_true (inB a0 0 15) with h0 | h0
  rotate_left
  · go_wp2_with fail
    go_ret
    exact HP.out 2 _ (by simp [callErr, rangeOk, h0]) Hb.out
  go_wp2_with fail
  refine (within53 _ _ _ _).mono ?_
  rintro e w2 ⟨rfl, rfl⟩
  rcases Bool.eq_false_or_eq_true (inB a1 0 99) with h1 | h1
  rotate_left
  · go_wp2_with fail
    go_ret
    exact HP.out 2 _ (by simp [callErr, rangeOk, h1]) Hb.out
  go_wp2_with fail
  refine (within53 _ _ _ _).mono ?_
  rintro e w2 ⟨rfl, rfl⟩
  rcases Bool.eq_false_or_eq_true (inB a2 (-1099511627776) 1099511627776) with h2 | h2
  rotate_left
  · go_wp2_with fail
    go_ret
    exact HP.out 2 _ (by simp [callErr, rangeOk, h2]) Hb.out
  go_wp2_with fail
  refine (within53 _ _ _ _).mono ?_
  rintro e w2 ⟨rfl, rfl⟩
  rcases Bool.eq_false_or_eq_true (inB a3 (-1099511627776) 1099511627776) with h3 | h3
  rotate_left
  · go_wp2_with fail
    go_ret
    exact HP.out 2 _ (by simp [callErr, rangeOk, h3]) Hb.out
  have hR : rangeOk ⟨a0, a1, a2, a3, a4, a5⟩ = true := by simp [rangeOk, h0, h1, h2, h3]
  have HR := Lib.hid hR
  clear hR
  clear h0 h1 h2
  by_cases t1 : a4 < 0
  · go_wp2_with fail
    go_ret
    exact HP.out 2 _ (by unfold callErr; rw [if_neg (by rw [HR.out]; simp), if_pos (by simp [timesBad, t1])]) Hb.out
  by_cases t2 : a5 < -1
  · go_wp2_with fail
    go_ret
    exact HP.out 2 _ (by unfold callErr; rw [if_neg (by rw [HR.out]; simp), if_pos (by simp [timesBad, t2])]) Hb.out
  rcases Bool.eq_false_or_eq_true (a5 == -1) with t3 | t3
  · rcases Bool.eq_false_or_eq_true (a3 != 0) with t4 | t4
    · go_wp2_with fail
      go_ret
      exact HP.out 2 _ (by unfold callErr; rw [if_neg (by rw [HR.out]; simp), if_pos (by simp only [timesBad, t3, t4]; simp)]) Hb.out
    · have hT : timesBad ⟨a0, a1, a2, a3, a4, a5⟩ = false := by simp only [timesBad, t3, t4]; simp; omega
      have HT := Lib.hid hT
      clear hT
      have t5 : (a5 != -1) = false := by simpa using t3
      by_cases hi0 : 0 < i
      · have hpc := hp hi0
        have hib : (0 : Int) < (i : Int) := by omega
        rcases Bool.eq_false_or_eq_true (decide (a4 ≤ p4)) with t6 | t6
        · have hO : orderBad i ⟨p0, p1, p2, p3, p4, p5⟩ ⟨a0, a1, a2, a3, a4, a5⟩ = true := by unfold orderBad; simp only [hi0, decide_true, decide_false, Bool.true_and, Bool.false_and, Bool.false_or, Bool.true_or, t6, t5]
          have HO := Lib.hid hO
          clear hO
          replace t6 := of_decide_eq_true t6
          go_wp2_with fail
          go_quiet (fail)
          go_wp2_with fail
          go_ret
          exact HP.out 9 _ (by unfold callErr; rw [if_neg (by rw [HR.out]; simp), if_neg (by rw [HT.out]; simp), if_pos (by rw [HO.out])]) (Hb.out.dn _)
        · have hO : orderBad i ⟨p0, p1, p2, p3, p4, p5⟩ ⟨a0, a1, a2, a3, a4, a5⟩ = false := by unfold orderBad; simp only [hi0, decide_true, decide_false, Bool.true_and, Bool.false_and, Bool.false_or, Bool.true_or, t6, t5, Bool.and_false, Bool.or_false, Bool.and_self]
          have HO := Lib.hid hO
          clear hO
          go_wp2_with fail
          go_quiet (fail)
          go_wp2_with fail
          go_ret
          exact HP.out 0 _ (by unfold callErr; rw [if_neg (by rw [HR.out]; simp), if_neg (by rw [HT.out]; simp), if_neg (by rw [HO.out]; simp)]) (Hb.out.dn _)
      · have hib : decide ((0 : Int) < (i : Int)) = false := by simp; omega
        have hO : orderBad i ⟨p0, p1, p2, p3, p4, p5⟩ ⟨a0, a1, a2, a3, a4, a5⟩ = false := by unfold orderBad; simp only [hi0, decide_true, decide_false, Bool.true_and, Bool.false_and, Bool.false_or, Bool.true_or, t5, Bool.and_false, Bool.or_false, Bool.and_self]
        have HO := Lib.hid hO
        clear hO
        go_wp2_with fail
        go_quiet (fail)
        go_wp2_with fail
        go_ret
        exact HP.out 0 _ (by unfold callErr; rw [if_neg (by rw [HR.out]; simp), if_neg (by rw [HT.out]; simp), if_neg (by rw [HO.out]; simp)]) (Hb.out.dn _)
  · have hT : timesBad ⟨a0, a1, a2, a3, a4, a5⟩ = false := by simp only [timesBad, t3]; simp; omega
    have HT := Lib.hid hT
    clear hT
    have t5 : (a5 != -1) = true := by simpa using t3
    by_cases hi0 : 0 < i
    · have hpc := hp hi0
      have hib : (0 : Int) < (i : Int) := by omega
      rcases Bool.eq_false_or_eq_true (decide (a4 ≤ p4)) with t6 | t6
      · have hO : orderBad i ⟨p0, p1, p2, p3, p4, p5⟩ ⟨a0, a1, a2, a3, a4, a5⟩ = true := by unfold orderBad; simp only [hi0, decide_true, decide_false, Bool.true_and, Bool.false_and, Bool.false_or, Bool.true_or, t6, t5]
        have HO := Lib.hid hO
        clear hO
        replace t6 := of_decide_eq_true t6
        go_wp2_with fail
        go_quiet (fail)
        go_wp2_with fail
        go_ret
        exact HP.out 9 _ (by unfold callErr; rw [if_neg (by rw [HR.out]; simp), if_neg (by rw [HT.out]; simp), if_pos (by rw [HO.out])]) (Hb.out.dn _)
      · rcases Bool.eq_false_or_eq_true (decide (a5 ≤ a4)) with t7 | t7
        · have hO : orderBad i ⟨p0, p1, p2, p3, p4, p5⟩ ⟨a0, a1, a2, a3, a4, a5⟩ = true := by unfold orderBad; simp only [hi0, decide_true, decide_false, Bool.true_and, Bool.false_and, Bool.false_or, Bool.true_or, t6, t5, t7]
          have HO := Lib.hid hO
          clear hO
          replace t7 := of_decide_eq_true t7
          go_wp2_with fail
          go_quiet (fail)
          go_wp2_with fail
          go_ret
          exact HP.out 9 _ (by unfold callErr; rw [if_neg (by rw [HR.out]; simp), if_neg (by rw [HT.out]; simp), if_pos (by rw [HO.out])]) (Hb.out.dn _)
        · have hO : orderBad i ⟨p0, p1, p2, p3, p4, p5⟩ ⟨a0, a1, a2, a3, a4, a5⟩ = false := by unfold orderBad; simp only [hi0, decide_true, decide_false, Bool.true_and, Bool.false_and, Bool.false_or, Bool.true_or, t6, t5, t7, Bool.and_false, Bool.or_false, Bool.and_self]
          have HO := Lib.hid hO
          clear hO
          go_wp2_with fail
          go_quiet (fail)
          go_wp2_with fail
          go_ret
          exact HP.out 0 _ (by unfold callErr; rw [if_neg (by rw [HR.out]; simp), if_neg (by rw [HT.out]; simp), if_neg (by rw [HO.out]; simp)]) (Hb.out.dn _)
    · have hib : decide ((0 : Int) < (i : Int)) = false := by simp; omega
      rcases Bool.eq_false_or_eq_true (decide (a5 ≤ a4)) with t7 | t7
      · have hO : orderBad i ⟨p0, p1, p2, p3, p4, p5⟩ ⟨a0, a1, a2, a3, a4, a5⟩ = true := by unfold orderBad; simp only [hi0, decide_true, decide_false, Bool.true_and, Bool.false_and, Bool.false_or, Bool.true_or, t5, t7]
        have HO := Lib.hid hO
        clear hO
        replace t7 := of_decide_eq_true t7
        go_wp2_with fail
        go_quiet (fail)
        go_wp2_with fail
        go_ret
        exact HP.out 9 _ (by unfold callErr; rw [if_neg (by rw [HR.out]; simp), if_neg (by rw [HT.out]; simp), if_pos (by rw [HO.out])]) (Hb.out.dn _)
      · have hO : orderBad i ⟨p0, p1, p2, p3, p4, p5⟩ ⟨a0, a1, a2, a3, a4, a5⟩ = false := by unfold orderBad; simp only [hi0, decide_true, decide_false, Bool.true_and, Bool.false_and, Bool.false_or, Bool.true_or, t5, t7, Bool.and_false, Bool.or_false, Bool.and_self]
        have HO := Lib.hid hO
        clear hO
        go_wp2_with fail
        go_quiet (fail)
        go_wp2_with fail
        go_ret
        exact HP.out 0 _ (by unfold callErr; rw [if_neg (by rw [HR.out]; simp), if_neg (by rw [HT.out]; simp), if_neg (by rw [HO.out]; simp)]) (Hb.out.dn _)
end Go.Proofs.YtgeclafcbgocgaaDoor

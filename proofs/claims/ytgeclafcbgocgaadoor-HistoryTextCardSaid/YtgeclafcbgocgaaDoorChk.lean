/- Check, by the program. -/
import Derived.Test.YtgeclafcbgocgaaDoorCal
import Derived.Test.YtgeclafcbgocgaaDoorPos
namespace Go.Proofs.YtgeclafcbgocgaaDoor
open Go.RowKit
/-- The number of the last call of a task among the first k, counted from 1; 0 if there is none. -/
def lastN (l : List Cl) (t : Int) : Nat → Nat
  | 0 => 0
  | k + 1 => if (l.getD k zCl).task = t then k + 1 else lastN l t k
theorem lastN_le (l : List Cl) (t : Int) : ∀ k, lastN l t k ≤ k
  | 0 => Nat.le_refl _
  | k + 1 => by
    unfold lastN
    split
    · exact Nat.le_refl _
    · exact Nat.le_succ_of_le (lastN_le l t k)
theorem lastN_is {l : List Cl} (t : Int) : ∀ {k : Nat}, k ≤ l.length → (lastN l t k = 0 ∧ ((l.take k).filter (fun y => y.task == t)).getLast? = none) ∨ ∃ j, lastN l t k = j + 1 ∧ j < k ∧ ((l.take k).filter (fun y => y.task == t)).getLast? = some (l.getD j zCl)
  | 0, _ => .inl ⟨rfl, by simp⟩
  | k + 1, hk => by
    rw [take_snoc' l k (by omega), List.filter_append]
    unfold lastN
    by_cases h : (l.getD k zCl).task = t
    · rw [if_pos h]
      refine .inr ⟨k, rfl, Nat.lt_succ_self k, ?_⟩
      have h' : l[k].task = t := by rw [getD_lt l k (by omega)] at h; exact h
      rw [List.filter_cons, if_pos (by simpa using h'), getD_lt l k (by omega)]
      simp
    · rw [if_neg h]
      have h' : ¬ l[k].task = t := by rw [getD_lt l k (by omega)] at h; exact h
      rw [List.filter_cons, if_neg (by simpa using h')]
      simp only [List.filter_nil, List.append_nil]
      rcases lastN_is (l := l) t (k := k) (by omega) with ⟨h1, h2⟩ | ⟨j, h1, h2, h3⟩
      · exact .inl ⟨h1, h2⟩
      · exact .inr ⟨j, h1, by omega, h3⟩
def lastA (l : List Cl) (k : Nat) : List Value := (List.range 16).map (fun t : Nat => Value.int .i64 (lastN l (t : Int) k))
theorem lastA_len (l : List Cl) (k : Nat) : (lastA l k).length = 16 := by simp [lastA]
theorem lastA_at (l : List Cl) (k T : Nat) (h : T < 16) : (lastA l k)[T]? = some (.int .i64 (lastN l (T : Int) k)) := by simp [lastA, h]
theorem lastA_set (l : List Cl) (k T : Nat) (h : T < 16) (ht : (l.getD k zCl).task = T) : (lastA l k).set T (.int .i64 ((k : Int) + 1)) = lastA l (k + 1) := by
  refine List.ext_getElem? fun i => ?_
  by_cases hi : i < 16
  · rw [lastA_at _ _ _ hi]
    by_cases hij : T = i
    · subst hij
      rw [List.getElem?_set_self (by rw [lastA_len]; exact h)]
      unfold lastN
      rw [if_pos ht]
      simp
    · rw [List.getElem?_set_ne hij, lastA_at _ _ _ hi]
      have e : lastN l (i : Int) (k + 1) = lastN l (i : Int) k := by
        show (if (l.getD k zCl).task = (i : Int) then k + 1 else lastN l (i : Int) k) = _
        rw [if_neg (by rw [ht]; omega)]
      rw [e]
  · rw [List.getElem?_eq_none (by rw [List.length_set, lastA_len]; omega), List.getElem?_eq_none (by rw [lastA_len]; omega)]
theorem chkH_calls {l : List Cl} {x : Int} (h0 : l.length ≤ 100) (h1 : callsErr l = x) (h2 : x ≠ 0) : chkH l = x := by
  unfold chkH
  rw [if_neg (by omega), if_pos (by rw [h1]; exact h2), h1]
theorem chkH_pos {l : List Cl} (h0 : l.length ≤ 100) (h1 : callsErr l = 0) (h2 : posOk l = false) : chkH l = 16 := by
  unfold chkH
  rw [if_neg (by omega), if_neg (by simpa using h1), if_pos h2]
theorem chkH_st {l : List Cl} (h0 : l.length ≤ 100) (h1 : callsErr l = 0) (h2 : posOk l = true) : chkH l = if stOk l = false then 17 else 0 := by
  unfold chkH
  rw [if_neg (by omega), if_neg (by simpa using h1), if_neg (by rw [h2]; simp)]
theorem stAt_none {l : List Cl} {k : Nat} (hk : k < l.length) (h : lastN l (l.getD k zCl).task k = 0) : stAt l k = true := by
  unfold stAt predOf
  rcases lastN_is (l := l) (l.getD k zCl).task (k := k) (by omega) with ⟨-, h2⟩ | ⟨j, h1, -, -⟩
  · rw [h2]
  · omega
theorem stAt_some {l : List Cl} {k j : Nat} (hk : k < l.length) (h : lastN l (l.getD k zCl).task k = j + 1) : j < k ∧ stAt l k = ((l.getD j zCl).end_ != -1 && decide ((l.getD j zCl).end_ < (l.getD k zCl).begin_)) := by
  unfold stAt predOf
  rcases lastN_is (l := l) (l.getD k zCl).task (k := k) (by omega) with ⟨h1, -⟩ | ⟨i, h1, h2, h3⟩
  · omega
  · obtain rfl : i = j := by omega
    exact ⟨h2, by rw [h3]⟩
theorem stOk_bad {l : List Cl} {i : Nat} (hi : i < l.length) (h : stAt l i = false) : stOk l = false := by
  unfold stOk
  rw [List.all_eq_false]
  exact ⟨i, List.mem_range.2 hi, by simp [h]⟩
theorem stOk_good {l : List Cl} (h : ∀ i, i < l.length → stAt l i = true) : stOk l = true := stOk_iff.2 h
set_option maxRecDepth 100000 in
set_option maxHeartbeats 4000000 in
theorem check15 (l : List Cl) (v : Value) (w : World) (hv : ClV w v l) (hl : l.length ≤ 65536) :
    Calls Tryd.prog 15 #[v] w fun e w' => e = .returned (.int .i64 (chkH l)) ∧ Below w.heap.size w w' := by
  have HP : ∀ x w', chkH l = x → Below w.heap.size w w' → (Ending.returned (.int .i64 x) = Ending.returned (.int .i64 (chkH l)) ∧ Below w.heap.size w w') := fun x w' h hb => ⟨by rw [h], hb⟩
  rcases hv.split with ⟨A, c, rfl, rfl⟩ | ⟨b, off, cap, rfl, hcap, hbw, hrow⟩
  · have n0 := fun W => positions35 [] (.slice A 0 c) W (LV.nil_ _ _ _ _) (by simp) (by simp [marks])
    go_enter Tryd.func15, Tryd.ntmps15
    go_wp2_with fail
    refine wp_loop_rounds 1 ?_
    rw [rounds_succ]
    go_wp2_with fail
    refine (n0 _).mono ?_
    rintro e w1 ⟨rfl, hb⟩
    rw [show posOk [] = true from rfl]
    clear n0
    go_wp2_with fail
    refine wp_loop_rounds 1 ?_
    rw [rounds_succ]
    go_wp2_with fail
    go_ret
    exact HP 0 _ rfl (hb.alloc hb.size _)
  · by_cases hl0 : 100 < l.length
    · clear hv
      go_enter Tryd.func15, Tryd.ntmps15
      go_wp2_with fail
      go_ret
      exact HP 4 _ (by unfold chkH; rw [if_pos hl0]) (Below.refl _ _)
    · have Hv := Lib.hid hv
      clear hv
      have Hl := Lib.hid (show l.length ≤ 100 by omega)
      go_enter Tryd.func15, Tryd.ntmps15
      go_wp2_with fail
      go_loopw [14] (fun i wr => ∃ k : Nat, k ≤ l.length ∧ i = .int .i64 k ∧ Hid (firstErr (callAt l) k = 0) ∧ Below w.heap.size w wr) (fun i _ => l.length - (intOf i).toNat)
      case atStart => exact ⟨0, Nat.zero_le _, rfl, rfl, Below.refl _ _⟩
      case round =>
        obtain ⟨k, hk, rfl, hz, hb⟩ := hrel
        by_cases hlt : k < l.length
        · have n0 := call34 l _ k wr (Hv.out.below hb) hlt hl
          obtain ⟨x, hx⟩ : ∃ x, callAt l k = x := ⟨_, rfl⟩
          rw [hx] at n0
          have Hx := Lib.hid hx
          clear hx
          rcases Bool.eq_false_or_eq_true (x != 0) with ht | ht
          · have hfin : chkH l = x := by
              refine chkH_calls Hl.out ?_ (by simpa using ht)
              unfold callsErr
              rw [firstErr_at hlt (firstErr_zero.1 hz.out) (by rw [Hx.out]; simpa using ht), Hx.out]
            have HF := Lib.hid hfin
            clear hfin
            go_wp2_with fail
            refine n0.mono ?_
            rintro e w1 ⟨rfl, hb1⟩
            clear n0
            go_wp2_with fail
            go_ret
            exact HP _ _ HF.out (hb.trans (hb1.mono hb.size))
          · have hz2 : firstErr (callAt l) (k + 1) = 0 := by
              show (if firstErr (callAt l) k ≠ 0 then _ else callAt l k) = 0
              rw [if_neg (by rw [hz.out]; simp), Hx.out]
              simpa using ht
            have HZ := Lib.hid hz2
            clear hz2
            go_wp2_with fail
            refine n0.mono ?_
            rintro e w1 ⟨rfl, hb1⟩
            clear n0
            go_wp2_with fail
            go_roundw
            case rel => exact ⟨k + 1, by omega, by go_num, HZ, hb.trans (hb1.mono hb.size)⟩
            case measure => simp [intOf]; omega
        · have hk' : k = l.length := by omega
          subst hk'
          have hc0 : Calls0 l := callsErr_zero.1 hz.out
          have n0 := positions35 l _ wr (Hv.out.below hb) hl (marks_nonneg hc0)
          have Hc0 := Lib.hid hc0
          clear hc0
          obtain ⟨wm, hwm⟩ : ∃ x, x = wr := ⟨_, rfl⟩
          subst hwm
          rcases Bool.eq_false_or_eq_true (posOk l) with hp | hp
          · rw [hp] at n0
            have Hp := Lib.hid hp
            clear hp
            go_wp2_with fail
            refine n0.mono ?_
            rintro e w1 ⟨rfl, hb1⟩
            clear n0
            have hbb := hb.trans (hb1.mono hb.size)
            clear hb hb1
            go_wp2_with fail
            have hL0 : (w1.alloc (.cells #[.int .i64 0, .int .i64 0, .int .i64 0, .int .i64 0, .int .i64 0, .int .i64 0, .int .i64 0, .int .i64 0, .int .i64 0, .int .i64 0, .int .i64 0, .int .i64 0, .int .i64 0, .int .i64 0, .int .i64 0, .int .i64 0] 67)).heap[w1.heap.size]? = some (.cells (lastA l 0).toArray 67 (0, 0)) := heap_alloc_new _ _
            go_loopw [29] (fun i wr => ∃ k : Nat, k ≤ l.length ∧ i = .int .i64 k ∧ wr.heap[w1.heap.size]? = some (.cells (lastA l k).toArray 67 (0, 0)) ∧ Hid (∀ j, j < k → stAt l j = true) ∧ Below w.heap.size w wr) (fun i _ => l.length - (intOf i).toNat)
            case atStart => exact ⟨0, Nat.zero_le _, rfl, hL0, fun j hj => absurd hj (Nat.not_lt_zero _), hbb.alloc hbb.size _⟩
            case round =>
              clear hL0 hk hlt
              obtain ⟨k, hk, rfl, hL, hS, hb⟩ := hrel
              by_cases hlt : k < l.length
              · have hr' : Row wr b (off + k * 6) (clCells l[k]) := (hrow k hlt).below hb hbw
                have hsz2 := hb.size
                have hszm := hbb.size
                have hbr : b < wr.heap.size := by omega
                have hLb : w1.heap.size < wr.heap.size := (Array.getElem?_eq_some_iff.1 hL).1
                have hrg := Hc0.out.rng _ (List.getElem_mem hlt)
                obtain ⟨T, hT, hT16⟩ : ∃ T : Nat, l[k].task = T ∧ T < 16 := by
                  simp only [rangeOk, inB, Bool.and_eq_true, decide_eq_true_eq] at hrg
                  exact ⟨l[k].task.toNat, by omega, by omega⟩
                have hgT : (l.getD k zCl).task = T := by rw [getD_lt l k hlt]; exact hT
                have hcT : wr.cell? ⟨w1.heap.size, T, none⟩ = some (.int .i64 (lastN l (T : Int) k)) := by
                  rw [cell_heap hL T]; simpa using lastA_at l k T hT16
                have hfT : wr.frozen? ⟨w1.heap.size, T, none⟩ = false := frozen_heap hL T
                have hst : (lastN l (T : Int) k = 0 ∧ stAt l k = true) ∨ ∃ m, lastN l (T : Int) k = m ∧ 0 < m ∧ m ≤ k ∧ stAt l k = ((l.getD (m - 1) zCl).end_ != -1 && decide ((l.getD (m - 1) zCl).end_ < (l.getD k zCl).begin_)) ∧ wr.cell? ⟨b, off + (m - 1) * 6 + 5, none⟩ = some (.int .i64 (l.getD (m - 1) zCl).end_) := by
                  rcases Nat.eq_zero_or_pos (lastN l (T : Int) k) with h0 | h0
                  · exact .inl ⟨h0, stAt_none hlt (by rw [hgT]; exact h0)⟩
                  · refine .inr ⟨lastN l (T : Int) k, rfl, h0, lastN_le _ _ _, ?_⟩
                    obtain ⟨h1, h2⟩ := stAt_some (l := l) (k := k) (j := lastN l (T : Int) k - 1) hlt (by rw [hgT]; omega)
                    refine ⟨h2, ?_⟩
                    have := ((hrow (lastN l (T : Int) k - 1) (by omega)).below hb hbw) 5 _ rfl
                    rwa [getD_lt l _ (by omega)]
                have hnew : ∀ (o : Obj) (n : Nat), (((wr.alloc o).drewN n).setCell ⟨w1.heap.size, T, none⟩ (.int .i64 ((k : Int) + 1))).heap[w1.heap.size]? = some (.cells (lastA l (k + 1)).toArray 67 (0, 0)) := fun o n => by
                  rw [setCell_heap (w := (wr.alloc o).drewN n) ((heap_alloc_lt wr o hLb).trans hL) T _, ← lastA_set l k T hT16 hgT]
                  simp
                have hbn : ∀ (o : Obj) (n : Nat), Below w.heap.size w (((wr.alloc o).drewN n).setCell ⟨w1.heap.size, T, none⟩ (.int .i64 ((k : Int) + 1))) := fun o n => ((hb.alloc hsz2 o).dn n).setCell (by exact hszm) _
                have hba : ∀ (o : Obj) (n : Nat), Below w.heap.size w ((wr.alloc o).drewN n) := fun o n => (hb.alloc hsz2 o).dn n
                have Hnew := Lib.hid hnew
                have Hbn := Lib.hid hbn
                have Hba := Lib.hid hba
                have HS := Lib.hid hS.out
                have hgb : (l.getD k zCl).begin_ = l[k].begin_ := by rw [getD_lt l k hlt]
                rw [hgb] at hst
                clear hnew hbn hba hL hS hb hgb hgT hrg hbb
                obtain ⟨x, hx⟩ : ∃ x, l[k] = x := ⟨_, rfl⟩
                rw [hx] at hst hr' hT
                clear hx
                obtain ⟨a0, a1, a2, a3, a4, a5⟩ := x
                simp only at hst hT
                subst hT
                rcases hst with ⟨h0, h1⟩ | ⟨m, h0, hm0, hmk, h1, hy⟩
                · rw [h0] at hcT
                  have HS2 : Hid (∀ j, j < k + 1 → stAt l j = true) := fun j hj => by
                    rcases Nat.lt_succ_iff_lt_or_eq.1 hj with h | rfl
                    · exact HS.out j h
                    · exact h1
                  clear h0 h1
                  go_wp2_with ((with_reducible refine wpList_load_agg (o := ⟨some 33, .load 32 (.tmp 32), _, _, _, none⟩) rfl 32 _ rfl b (off + k * 6) ?_ _ hr' _ Tryd.underlying32 rfl ?_ ?_); (focus rfl); (focus kernel_rfl); simp only [clCells])
                  go_quiet (fail)
                  go_wp2_with fail
                  go_roundw
                  case rel => exact ⟨k + 1, by omega, by go_num, Hnew.out _ _, HS2, Hbn.out _ _⟩
                  case measure => simp [intOf]; omega
                · rw [h0] at hcT
                  have hmi : (0 : Int) < (m : Int) := by omega
                  generalize l.getD (m - 1) zCl = y at h1 hy
                  obtain ⟨y0, y1, y2, y3, y4, y5⟩ := y
                  simp only at h1 hy
                  rcases Bool.eq_false_or_eq_true (y5 == -1) with e1 | e1
                  · have e2 : (y5 != -1) = false := by simpa using e1
                    rw [e2, Bool.false_and] at h1
                    clear e2
                    have HF := Lib.hid (show chkH l = 17 by rw [chkH_st Hl.out hz.out Hp.out, if_pos (stOk_bad hlt h1)])
                    clear h0 h1
                    go_wp2_with ((with_reducible refine wpList_load_agg (o := ⟨some 33, .load 32 (.tmp 32), _, _, _, none⟩) rfl 32 _ rfl b (off + k * 6) ?_ _ hr' _ Tryd.underlying32 rfl ?_ ?_); (focus rfl); (focus kernel_rfl); simp only [clCells])
                    go_quiet (fail)
                    go_wp2_with fail
                    go_ret
                    exact HP _ _ HF.out (Hba.out _ _)
                  · have e2 : (y5 != -1) = true := by simpa using e1
                    rw [e2, Bool.true_and] at h1
                    clear e2
                    rcases Bool.eq_false_or_eq_true (decide (a4 ≤ y5)) with e3 | e3
                    · have e4 := of_decide_eq_true e3
                      rw [decide_eq_false (by omega)] at h1
                      clear e3
                      have HF := Lib.hid (show chkH l = 17 by rw [chkH_st Hl.out hz.out Hp.out, if_pos (stOk_bad hlt h1)])
                      clear h0 h1
                      go_wp2_with ((with_reducible refine wpList_load_agg (o := ⟨some 33, .load 32 (.tmp 32), _, _, _, none⟩) rfl 32 _ rfl b (off + k * 6) ?_ _ hr' _ Tryd.underlying32 rfl ?_ ?_); (focus rfl); (focus kernel_rfl); simp only [clCells])
                      go_quiet (fail)
                      go_wp2_with fail
                      go_ret
                      exact HP _ _ HF.out (Hba.out _ _)
                    · have e4 := of_decide_eq_false e3
                      rw [decide_eq_true (by omega)] at h1
                      have HS2 : Hid (∀ j, j < k + 1 → stAt l j = true) := fun j hj => by
                        rcases Nat.lt_succ_iff_lt_or_eq.1 hj with h | rfl
                        · exact HS.out j h
                        · exact h1
                      clear h0 h1 e4
                      go_wp2_with ((with_reducible refine wpList_load_agg (o := ⟨some 33, .load 32 (.tmp 32), _, _, _, none⟩) rfl 32 _ rfl b (off + k * 6) ?_ _ hr' _ Tryd.underlying32 rfl ?_ ?_); (focus rfl); (focus kernel_rfl); simp only [clCells])
                      go_quiet (fail)
                      go_wp2_with fail
                      go_roundw
                      case rel => exact ⟨k + 1, by omega, by go_num, Hnew.out _ _, HS2, Hbn.out _ _⟩
                      case measure => simp [intOf]; omega
              · have hk' : k = l.length := by omega
                subst hk'
                have HF := Lib.hid (show chkH l = 0 by rw [chkH_st Hl.out hz.out Hp.out, stOk_good hS.out]; rfl)
                have Hb := Lib.hid hb
                clear hL hS hb hbb
                go_wp2_with fail
                go_ret
                exact HP _ _ HF.out Hb.out
          · rw [hp] at n0
            have Hp := Lib.hid hp
            clear hp
            go_wp2_with fail
            refine n0.mono ?_
            rintro e w1 ⟨rfl, hb1⟩
            clear n0
            go_wp2_with fail
            go_ret
            exact HP _ _ (chkH_pos Hl.out hz.out Hp.out) (hb.trans (hb1.mono hb.size))
end Go.Proofs.YtgeclafcbgocgaaDoor

/- The law of what precedes what: the walk. -/
import Derived.Test.YtgeclafcbgocgaaDoorAwk
import Derived.Test.YtgeclafcbgocgaaDoorRck
import Derived.Test.YtgeclafcbgocgaaDoorLawb
import Derived.Test.YtgeclafcbgocgaaDoorEdm
namespace Go.Proofs.YtgeclafcbgocgaaDoor
open Go.RowKit
theorem wf_nat {n : Nat} (h : n ≤ 1000000) : (Lit.int .i64 (n : Int)).wf = true := wf_small (by omega) (by omega)
theorem notin_take {E : List (Int × Int)} (h : E.Nodup) {k : Nat} (hk : k < E.length) : E[k] ∉ E.take k := by
  intro hm
  obtain ⟨j, hj, he⟩ := List.getElem_of_mem hm
  rw [List.getElem_take] at he
  have hj' : j < k := by rw [List.length_take] at hj; omega
  have := (List.nodup_iff_pairwise_ne.1 h)
  rw [List.pairwise_iff_getElem] at this
  exact this j k (by omega) hk hj' he
set_option maxRecDepth 100000 in
set_option maxHeartbeats 4000000 in
theorem historyOrder5 (l : List Cl) (v : Value) (w : World) (hE : Env w) (hv : ClV w v l) : Calls Tryd.prog 5 #[v] w (YPost w) := by
  have hmk : ∀ W : World, (Instr.makeMap 38 none).run Tryd.prog W = .ok (.map (some W.heap.size)) (W.alloc (.map #[] 0)) := fun W => by simp [Instr.makeMap, run_underlying Tryd.underlying38, go_sem]
  have n0 := great8 w v l hv
  rcases Bool.eq_false_or_eq_true (decide (20 < l.length ∧ l.length ≤ 100) || decide (110 < l.length)) with hg | hg
  · rw [hg] at n0
    clear hmk
    go_enter Tryd.func5, Tryd.ntmps5
    go_wp2_with fail
    refine n0.mono ?_
    rintro e w1 ⟨rfl, rfl⟩
    clear n0
    go_wp2_with fail
    refine (awake9 _ hE).mono ?_
    rintro e w1 ⟨rfl, hb1⟩
    go_wp2_with fail
    go_ret
    exact ⟨rfl, hb1⟩
  · have hlen := great_small hg
    rw [hg] at n0
    clear hg
    have n1 := rcheck16 l v w hv (by omega)
    by_cases hc : chkH l = 0
    · have hH := hist_iff.1 hc
      have hl20 : l.length ≤ 20 := by have := hH.len; omega
      have HH := Lib.hid hH
      have Hv := Lib.hid hv
      have n2 := fun W hW => before17 l v W hW (by omega)
      rw [show befR l = befE l l.length from if_pos hc] at n2
      have HO := Lib.hid (ord_ok hH)
      have hEl : (befE l l.length).length ≤ 10000 := HO.out.len
      generalize befE l l.length = E at *
      rw [hc] at n1 n2
      obtain ⟨A, cap, rfl, hcap, hr⟩ := hv
      have N2 := Lib.hid n2
      clear hc hH hlen n2
      go_enter Tryd.func5, Tryd.ntmps5
      go_wp2_with fail
      refine n0.mono ?_
      rintro e w1 ⟨rfl, rfl⟩
      clear n0
      go_wp2_with fail
      refine n1.mono ?_
      rintro e w1 ⟨rfl, hb1⟩
      clear n1
      go_wp2_with fail
      refine (N2.out w1 (Hv.out.below hb1)).mono ?_
      rintro e w3 ⟨v3, rfl, hown, hb3⟩
      have hcl := lv_own hown
      have hB3 := hb1.trans (hb3.mono hb1.size)
      obtain ⟨A6, c6, rfl, hc6, hr6⟩ := hcl
      clear hown hb1 hb3 N2
      go_upto_region 6 with fail
      have hmk2 := hmk w3
      clear hmk
      have hM0 := mapE_made w3
      have hb4 : Below w3.heap.size w3 (w3.alloc (.map #[] 0)) := (Below.refl _ _).alloc (Nat.le_refl _) _
      generalize w3.alloc (.map #[] 0) = w4 at *
      go_wp2_with fail
      go_loopw [34] (fun i wr => ∃ k : Nat, k ≤ E.length ∧ i = .int .i64 k ∧ MapE w3.heap.size (E.take k) wr ∧ Below w3.heap.size w3 wr) (fun i _ => E.length - (intOf i).toNat)
      case atStart => exact ⟨0, Nat.zero_le _, rfl, hM0, hb4⟩
      case round =>
        clear hM0 hb4 hmk2
        obtain ⟨k, hk, rfl, hM, hb⟩ := hrel
        by_cases hkt : k < E.length
        · obtain ⟨b6, off6, rfl, hb6, hrow6⟩ := hr6 (fun e => by rw [e] at hkt; simp at hkt)
          have hr' : Row wr b6 (off6 + k * 2) (edCells E[k]) := (hrow6 k hkt).below hb hb6
          obtain ⟨a, c, he, ha, hc, hac, hend⟩ := HO.out.each E[k] (List.getElem_mem hkt)
          have hnt := notin_take HO.out.nd hkt
          have htk : E.take (k + 1) = E.take k ++ [E[k]] := List.take_succ_eq_append_getElem hkt
          rw [he] at hr' hnt htk
          obtain ⟨b, off, rfl, hbw, hrow⟩ := hr (fun e => by rw [e] at ha; simp at ha)
          have h5 := ((hrow a ha).below (hB3.trans (hb.mono hB3.size)) hbw) 5 _ rfl
          rw [getD_lt l a ha] at hend
          have h5' : wr.cell? ⟨b, off + a * 6 + 5, none⟩ = some (.int .i64 l[a].end_) := h5
          obtain ⟨x, hx⟩ : ∃ x, l[a].end_ = x := ⟨_, rfl⟩
          rw [hx] at h5' hend
          have H5 := Lib.hid h5'
          have hbw' : b < wr.heap.size := by have := hB3.size; have := hb.size; omega
          have f1 : ((a : Int) == (c : Int)) = false := by simp; omega
          have f2 : decide ((a : Int) < 0) = false := decide_eq_false (by omega)
          have f3 : decide ((l.length : Int) ≤ (a : Int)) = false := decide_eq_false (by omega)
          have f4 : decide ((c : Int) < 0) = false := decide_eq_false (by omega)
          have f5 : decide ((l.length : Int) ≤ (c : Int)) = false := decide_eq_false (by omega)
          have f6 : decide (x < 0) = false := decide_eq_false (by omega)
          have Htk := Lib.hid htk
          have HM := Lib.hid hM
          clear h5 h5' hx hrow hrow6 he hM htk
          go_upto_region 10 with ((with_reducible refine wpList_load_agg (o := ⟨some 37, .load 40 (.tmp 36), _, _, _, none⟩) rfl 40 _ rfl b6 (off6 + k * 2) ?_ _ hr' _ Tryd.underlying40 rfl ?_ ?_); (focus rfl); (focus kernel_rfl); simp only [edCells])
          have hN : (wr.alloc (.cells #[.int .i64 a, .int .i64 c] 40)).heap[wr.heap.size]? = some (.cells #[.int .i64 a, .int .i64 c] 40 (0, 0)) := heap_alloc_new _ _
          have hbA := hb.alloc hb.size (.cells #[.int .i64 a, .int .i64 c] 40)
          have hlb : Below wr.heap.size wr (wr.alloc (.cells #[.int .i64 a, .int .i64 c] 40)) := (Below.refl _ _).alloc (Nat.le_refl _) _
          have hMA := HM.out.below hlb
          have h5A := (hlb.cell (p := ⟨b, off + a * 6 + 5, none⟩) hbw').trans H5.out
          have hMlt := HM.out.lt
          obtain ⟨w6, hrun, hM6, hg6⟩ := hMA.put (wf_nat (n := a) (by omega)) (wf_nat (n := c) (by omega)) hnt (by rw [List.length_take]; omega)
          have hrA : Row (wr.alloc (.cells #[.int .i64 a, .int .i64 c] 40)) wr.heap.size 0 (edCells ((a : Int), (c : Int))) := Row.new _ _ _ _ rfl
          have hsz : wr.heap.size < (wr.alloc (.cells #[.int .i64 a, .int .i64 c] 40)).heap.size := by simp
          generalize wr.alloc (.cells #[.int .i64 a, .int .i64 c] 40) = w5 at *
          have hb6b := hbA.grown hg6 hbA.size (fun j hj => by cases hj; exact Nat.le_refl _)
          have h5B : w6.cell? ⟨b, off + a * 6 + 5, none⟩ = some (.int .i64 x) := by
            have hne : b ≠ w3.heap.size := by have := hB3.size; omega
            have := hg6.block b (by omega) (fun e => hne (Option.some.inj e))
            unfold World.cell? at h5A ⊢
            rw [this]
            exact h5A
          have hNB : w6.heap[wr.heap.size]? = some (.cells #[.int .i64 a, .int .i64 c] 40 (0, 0)) := (hg6.block _ hsz (fun e => by have := Option.some.inj e; omega)).trans hN
          have c0 : w6.cell? ⟨wr.heap.size, 0, none⟩ = some (.int .i64 a) := cell_heap hNB 0
          have c1 : w6.cell? ⟨wr.heap.size, 1, none⟩ = some (.int .i64 c) := cell_heap hNB 1
          rw [← Htk.out] at hM6
          have HM6 := Lib.hid hM6
          have Hb6b := Lib.hid hb6b
          have hrun' := hrun
          simp only [edCells] at hrA
          generalize wr.heap.size = N at *
          clear hMA hg6 hM6 hb6b h5A hN hbA hlb hNB HM Htk hb hr' H5
          go_upto_region 11 with ((with_reducible refine wpList_load_agg (o := ⟨some 39, .load 40 (.tmp 7), _, _, _, none⟩) rfl 40 _ rfl N 0 ?_ _ hrA _ Tryd.underlying40 rfl ?_ ?_); (focus rfl); (focus kernel_rfl))
          clear hrun hrun'
          go_wp2_with fail
          go_roundw
          case rel => exact ⟨k + 1, by omega, by go_num, HM6.out, Hb6b.out⟩
          case measure => simp [intOf]; omega
        · have hk' : k = E.length := by omega
          subst hk'
          rw [List.take_length] at hM
          obtain ⟨wm, hwm⟩ : ∃ x, x = wr := ⟨_, rfl⟩
          subst hwm
          go_wp2_with fail
          go_loopw [81] (fun i wr => ∃ k : Nat, k ≤ E.length ∧ i = .int .i64 k ∧ MapE w3.heap.size E wr ∧ Below w3.heap.size w3 wr) (fun i _ => E.length - (intOf i).toNat)
          case atStart => exact ⟨0, Nat.zero_le _, rfl, hM, hb⟩
          case round =>
            clear hM hb
            obtain ⟨k, hk, rfl, hM, hb⟩ := hrel
            by_cases hkt : k < E.length
            · obtain ⟨b6, off6, rfl, hb6, hrow6⟩ := hr6 (fun e => by rw [e] at hkt; simp at hkt)
              have hr' : Row wr b6 (off6 + k * 2) (edCells E[k]) := (hrow6 k hkt).below hb hb6
              obtain ⟨a, c, he, ha, hc, -, -⟩ := HO.out.each E[k] (List.getElem_mem hkt)
              have hEk := List.getElem_mem hkt
              rw [he] at hr' hEk
              have HEk := Lib.hid hEk
              have HM := Lib.hid hM
              have Hrow6 := Lib.hid hrow6
              have hMlt := hM.lt
              clear he hM hEk hrow6
              go_upto_region 17 with ((with_reducible refine wpList_load_agg (o := ⟨some 84, .load 40 (.tmp 83), _, _, _, none⟩) rfl 40 _ rfl b6 (off6 + k * 2) ?_ _ hr' _ Tryd.underlying40 rfl ?_ ?_); (focus rfl); (focus kernel_rfl); simp only [edCells])
              have hN : (wr.alloc (.cells #[.int .i64 a, .int .i64 c] 40)).heap[wr.heap.size]? = some (.cells #[.int .i64 a, .int .i64 c] 40 (0, 0)) := heap_alloc_new _ _
              have hbA := hb.alloc hb.size (.cells #[.int .i64 a, .int .i64 c] 40)
              have hlb : Below wr.heap.size wr (wr.alloc (.cells #[.int .i64 a, .int .i64 c] 40)) := (Below.refl _ _).alloc (Nat.le_refl _) _
              have hMA := HM.out.below hlb
              have hsz : wr.heap.size < (wr.alloc (.cells #[.int .i64 a, .int .i64 c] 40)).heap.size := by simp
              generalize wr.alloc (.cells #[.int .i64 a, .int .i64 c] 40) = w5 at *
              generalize wr.heap.size = N at *
              have HN := Lib.hid hN
              clear hr' hlb hb hN
              obtain ⟨wm2, hwm2⟩ : ∃ x, x = wr := ⟨_, rfl⟩
              subst hwm2
              go_wp2_with fail
              go_loopw [87] (fun i wr => ∃ j : Nat, j ≤ E.length ∧ i = .int .i64 j ∧ MapE w3.heap.size E wr ∧ Below w5.heap.size w5 wr) (fun i _ => E.length - (intOf i).toNat)
              case atStart => exact ⟨0, Nat.zero_le _, rfl, hMA, Below.refl _ _⟩
              case round =>
                clear hMA
                obtain ⟨j, hj, rfl, hM, hb⟩ := hrel
                by_cases hjt : j < E.length
                · have hr' : Row wr b6 (off6 + j * 2) (edCells E[j]) := (Hrow6.out j hjt).below (hbA.trans (hb.mono hbA.size)) hb6
                  obtain ⟨a2, c2, he, ha2, hc2, -, -⟩ := HO.out.each E[j] (List.getElem_mem hjt)
                  have hEj := List.getElem_mem hjt
                  rw [he] at hr' hEj
                  have h2 := HO.out.two _ HEk.out _ hEj
                  have c0 : wr.cell? ⟨N, 0, none⟩ = some (.int .i64 a) := (hb.cell (p := ⟨N, 0, none⟩) hsz).trans (cell_heap HN.out 0)
                  have c1 : wr.cell? ⟨N, 1, none⟩ = some (.int .i64 c) := (hb.cell (p := ⟨N, 1, none⟩) hsz).trans (cell_heap HN.out 1)
                  have hNw : N < wr.heap.size := Nat.lt_of_lt_of_le hsz hb.size
                  have HM := Lib.hid hM
                  clear he hM hEj
                  simp only at h2
                  go_upto_region 20 with ((with_reducible refine wpList_load_agg (o := ⟨some 90, .load 40 (.tmp 89), _, _, _, none⟩) rfl 40 _ rfl b6 (off6 + j * 2) ?_ _ hr' _ Tryd.underlying40 rfl ?_ ?_); (focus rfl); (focus kernel_rfl); simp only [edCells])
                  have hN2 : (wr.alloc (.cells #[.int .i64 a2, .int .i64 c2] 40)).heap[wr.heap.size]? = some (.cells #[.int .i64 a2, .int .i64 c2] 40 (0, 0)) := heap_alloc_new _ _
                  have hbB := hb.alloc hb.size (.cells #[.int .i64 a2, .int .i64 c2] 40)
                  have hlb : Below wr.heap.size wr (wr.alloc (.cells #[.int .i64 a2, .int .i64 c2] 40)) := (Below.refl _ _).alloc (Nat.le_refl _) _
                  have hMB := HM.out.below hlb
                  have d0 := (hlb.cell (p := ⟨N, 0, none⟩) hNw).trans c0
                  have d1 := (hlb.cell (p := ⟨N, 1, none⟩) hNw).trans c1
                  generalize wr.alloc (.cells #[.int .i64 a2, .int .i64 c2] 40) = w7 at *
                  generalize wr.heap.size = N2 at *
                  have e0 : w7.cell? ⟨N2, 0, none⟩ = some (.int .i64 a2) := cell_heap hN2 0
                  have e1 : w7.cell? ⟨N2, 1, none⟩ = some (.int .i64 c2) := cell_heap hN2 1
                  have l1 := hMB.look (wf_nat (n := a) (by omega)) (wf_nat (n := c2) (by omega))
                  have l2 := hMB.look (wf_nat (n := a2) (by omega)) (wf_nat (n := c) (by omega))
                  have HMB := Lib.hid hMB
                  have HbB := Lib.hid hbB
                  clear hMB hbB hlb hb hr' HM hN2 c0 c1
                  rcases Bool.eq_false_or_eq_true (decide (((a : Int), (c2 : Int)) ∈ E)) with t1 | t1
                  · rw [t1] at l1
                    clear l2 h2 t1
                    go_wp2_with fail
                    go_roundw
                    case rel => exact ⟨j + 1, by omega, by go_num, HMB.out, HbB.out⟩
                    case measure => simp [intOf]; omega
                  · have t2 : decide (((a2 : Int), (c : Int)) ∈ E) = true := decide_eq_true (h2.resolve_left (of_decide_eq_false t1))
                    rw [t1] at l1
                    rw [t2] at l2
                    clear h2 t1 t2
                    go_wp2_with fail
                    go_roundw
                    case rel => exact ⟨j + 1, by omega, by go_num, HMB.out, HbB.out⟩
                    case measure => simp [intOf]; omega
                · have hj' : j = E.length := by omega
                  subst hj'
                  go_wp2_with fail
                  go_roundw
                  case rel => exact ⟨k + 1, by omega, by go_num, hM, hbA.trans (hb.mono hbA.size)⟩
                  case measure => simp [intOf]; omega
            · have hk' : k = E.length := by omega
              subst hk'
              obtain ⟨wm2, hwm2⟩ : ∃ x, x = wr := ⟨_, rfl⟩
              subst hwm2
              go_wp2_with fail
              go_loopw [113] (fun i wr => ∃ k : Nat, k ≤ l.length ∧ i = .int .i64 k ∧ MapE w3.heap.size E wr ∧ Below w3.heap.size w3 wr) (fun i _ => l.length - (intOf i).toNat)
              case atStart => exact ⟨0, Nat.zero_le _, rfl, hM, hb⟩
              case round =>
                clear hM hb
                obtain ⟨k, hk, rfl, hM, hb⟩ := hrel
                by_cases hkt : k < l.length
                · obtain ⟨b, off, rfl, hbw, hrow⟩ := hr (fun e => by rw [e] at hkt; simp at hkt)
                  have hBw := hB3.trans (hb.mono hB3.size)
                  have hr' : Row wr b (off + k * 6) (clCells l[k]) := (hrow k hkt).below hBw hbw
                  have hS := HO.out.same k
                  rw [getD_lt l k hkt] at hS
                  obtain ⟨x, hx⟩ : ∃ x, l[k] = x := ⟨_, rfl⟩
                  rw [hx] at hr' hS
                  obtain ⟨x0, x1, x2, x3, x4, x5⟩ := x
                  simp only at hS
                  have HM := Lib.hid hM
                  have Hrow := Lib.hid hrow
                  have HS := Lib.hid hS
                  clear hM hrow hx hBw hS
                  go_upto_region 27 with ((with_reducible refine wpList_load_agg (o := ⟨some 117, .load 32 (.tmp 116), _, _, _, none⟩) rfl 32 _ rfl b (off + k * 6) ?_ _ hr' _ Tryd.underlying32 rfl ?_ ?_); (focus rfl); (focus kernel_rfl); simp only [clCells])
                  have hN : (wr.alloc (.cells #[.int .i64 x0, .int .i64 x1, .int .i64 x2, .int .i64 x3, .int .i64 x4, .int .i64 x5] 32)).heap[wr.heap.size]? = some (.cells #[.int .i64 x0, .int .i64 x1, .int .i64 x2, .int .i64 x3, .int .i64 x4, .int .i64 x5] 32 (0, 0)) := heap_alloc_new _ _
                  have hbA := hb.alloc hb.size (.cells #[.int .i64 x0, .int .i64 x1, .int .i64 x2, .int .i64 x3, .int .i64 x4, .int .i64 x5] 32)
                  have hlb : Below wr.heap.size wr (wr.alloc (.cells #[.int .i64 x0, .int .i64 x1, .int .i64 x2, .int .i64 x3, .int .i64 x4, .int .i64 x5] 32)) := (Below.refl _ _).alloc (Nat.le_refl _) _
                  have hMA := HM.out.below hlb
                  have hsz : wr.heap.size < (wr.alloc (.cells #[.int .i64 x0, .int .i64 x1, .int .i64 x2, .int .i64 x3, .int .i64 x4, .int .i64 x5] 32)).heap.size := by simp
                  generalize wr.alloc (.cells #[.int .i64 x0, .int .i64 x1, .int .i64 x2, .int .i64 x3, .int .i64 x4, .int .i64 x5] 32) = w5 at *
                  generalize wr.heap.size = N at *
                  have HN := Lib.hid hN
                  clear hr' hlb hb hN HM
                  obtain ⟨wm3, hwm3⟩ : ∃ x, x = wr := ⟨_, rfl⟩
                  subst hwm3
                  go_wp2_with fail
                  go_loopw [120] (fun i wr => ∃ j : Nat, j ≤ l.length ∧ i = .int .i64 j ∧ MapE w3.heap.size E wr ∧ Below w5.heap.size w5 wr) (fun i _ => l.length - (intOf i).toNat)
                  case atStart => exact ⟨0, Nat.zero_le _, rfl, hMA, Below.refl _ _⟩
                  case round =>
                    clear hMA
                    obtain ⟨j, hj, rfl, hM, hb⟩ := hrel
                    by_cases hjt : j < l.length
                    · have hr' : Row wr b (off + j * 6) (clCells l[j]) := (Hrow.out j hjt).below (hB3.trans ((hbA.trans (hb.mono hbA.size)).mono hB3.size)) hbw
                      have hS := fun hkj => HS.out j hkj hjt
                      rw [getD_lt l j hjt] at hS
                      obtain ⟨y, hy⟩ : ∃ y, l[j] = y := ⟨_, rfl⟩
                      rw [hy] at hr' hS
                      obtain ⟨y0, y1, y2, y3, y4, y5⟩ := y
                      simp only at hS
                      have c0 : wr.cell? ⟨N, 0, none⟩ = some (.int .i64 x0) := (hb.cell (p := ⟨N, 0, none⟩) hsz).trans (cell_heap HN.out 0)
                      have hNw : N < wr.heap.size := Nat.lt_of_lt_of_le hsz hb.size
                      have HM := Lib.hid hM
                      have HS2 := Lib.hid hS
                      clear hM hy hS
                      go_upto_region 30 with ((with_reducible refine wpList_load_agg (o := ⟨some 124, .load 32 (.tmp 123), _, _, _, none⟩) rfl 32 _ rfl b (off + j * 6) ?_ _ hr' _ Tryd.underlying32 rfl ?_ ?_); (focus rfl); (focus kernel_rfl); simp only [clCells])
                      have hN2 : (wr.alloc (.cells #[.int .i64 y0, .int .i64 y1, .int .i64 y2, .int .i64 y3, .int .i64 y4, .int .i64 y5] 32)).heap[wr.heap.size]? = some (.cells #[.int .i64 y0, .int .i64 y1, .int .i64 y2, .int .i64 y3, .int .i64 y4, .int .i64 y5] 32 (0, 0)) := heap_alloc_new _ _
                      have hbB := hb.alloc hb.size (.cells #[.int .i64 y0, .int .i64 y1, .int .i64 y2, .int .i64 y3, .int .i64 y4, .int .i64 y5] 32)
                      have hlb : Below wr.heap.size wr (wr.alloc (.cells #[.int .i64 y0, .int .i64 y1, .int .i64 y2, .int .i64 y3, .int .i64 y4, .int .i64 y5] 32)) := (Below.refl _ _).alloc (Nat.le_refl _) _
                      have hMB := HM.out.below hlb
                      have d0 := (hlb.cell (p := ⟨N, 0, none⟩) hNw).trans c0
                      generalize wr.alloc (.cells #[.int .i64 y0, .int .i64 y1, .int .i64 y2, .int .i64 y3, .int .i64 y4, .int .i64 y5] 32) = w7 at *
                      generalize wr.heap.size = N2 at *
                      have e0 : w7.cell? ⟨N2, 0, none⟩ = some (.int .i64 y0) := cell_heap hN2 0
                      have l1 := hMB.look (wf_nat (n := k) (by omega)) (wf_nat (n := j) (by omega))
                      have HMB := Lib.hid hMB
                      have HbB := Lib.hid hbB
                      clear hMB hbB hlb hb hr' HM hN2 c0
                      by_cases hkj : k < j
                      · have f1 : (k : Int) < (j : Int) := by omega
                        rcases Bool.eq_false_or_eq_true (x0 == y0) with t1 | t1
                        · rw [decide_eq_true (HS2.out hkj (by simpa using t1))] at l1
                          go_wp2_with fail
                          go_roundw
                          case rel => exact ⟨j + 1, by omega, by go_num, HMB.out, HbB.out⟩
                          case measure => simp [intOf]; omega
                        · clear l1
                          go_wp2_with fail
                          go_roundw
                          case rel => exact ⟨j + 1, by omega, by go_num, HMB.out, HbB.out⟩
                          case measure => simp [intOf]; omega
                      · have f1 : decide ((k : Int) < (j : Int)) = false := decide_eq_false (by omega)
                        clear l1
                        go_wp2_with fail
                        go_roundw
                        case rel => exact ⟨j + 1, by omega, by go_num, HMB.out, HbB.out⟩
                        case measure => simp [intOf]; omega
                    · have hj' : j = l.length := by omega
                      subst hj'
                      go_wp2_with fail
                      go_roundw
                      case rel => exact ⟨k + 1, by omega, by go_num, hM, hbA.trans (hb.mono hbA.size)⟩
                      case measure => simp [intOf]; omega
                · have hk' : k = l.length := by omega
                  subst hk'
                  have hln := hM.len
                  have hBw := hB3.trans (hb.mono hB3.size)
                  clear hM hb
                  go_wp2_with fail
                  refine (awake9 _ (hE.below hBw)).mono ?_
                  rintro e w9 ⟨rfl, hb9⟩
                  go_wp2_with fail
                  go_ret
                  exact ⟨rfl, hBw.trans (hb9.mono hBw.size)⟩
    · obtain ⟨x, hx⟩ : ∃ x, chkH l = x := ⟨_, rfl⟩
      rw [hx] at n1 hc
      have hx1 : (x != 0) = true := by simpa using hc
      clear hx hc hmk
      go_enter Tryd.func5, Tryd.ntmps5
      go_wp2_with fail
      refine n0.mono ?_
      rintro e w1 ⟨rfl, rfl⟩
      clear n0
      go_wp2_with fail
      refine n1.mono ?_
      rintro e w1 ⟨rfl, hb1⟩
      clear n1
      go_wp2_with fail
      refine (awake9 _ (hE.below hb1)).mono ?_
      rintro e w2 ⟨rfl, hb2⟩
      go_wp2_with fail
      go_ret
      exact ⟨rfl, hb1.trans (hb2.mono hb1.size)⟩
end Go.Proofs.YtgeclafcbgocgaaDoor

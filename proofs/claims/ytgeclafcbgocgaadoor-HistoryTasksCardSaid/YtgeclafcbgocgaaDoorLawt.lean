/- The law of the calls of each task: the walk. -/
import Derived.Test.YtgeclafcbgocgaaDoorAwk
import Derived.Test.YtgeclafcbgocgaaDoorCtn
import Derived.Test.YtgeclafcbgocgaaDoorRck
import Derived.Test.YtgeclafcbgocgaaDoorLawb
namespace Go.Proofs.YtgeclafcbgocgaaDoor
open Go.RowKit
theorem act_put_self (a : Act) (d : Nat) (v : Value) (h : a.tmps[d]? = some v) : a = a.put (some d) v := by
  cases a with
  | mk t df =>
    have : t.setIfInBounds d v = t := by
      apply Array.ext (by simp)
      intro i h1 h2
      by_cases e : d = i
      · subst e
        rw [Array.getElem_setIfInBounds_self]
        exact (Option.some.inj ((Array.getElem?_eq_getElem h2).symm.trans h)).symm
      · rw [Array.getElem_setIfInBounds_ne _ e]
    simp only [Act.put, this]
theorem wpList_load_aggW {P : Program} {ops : Array Oper} {rest : List Oper} {o : Oper} {a : Act} {w : World} {Q : Exit → Act → World → Prop} (hgd : Region.wanted o (yielded ops a.tmps) = true) (ty : TypeId) (x : Operand) (ho : o.op = .load ty x)
    (b off : Nat) (hx : a.eval x = .pointer (some ⟨b, off, none⟩)) (cs : List Value) (hc : Row w b off cs) (d : TypeDesc)
    (hu : P.underlying ty = some d) (hd : (match d with | .struct _ | .array _ _ => true | _ => false) = true) (hi : (P.info? ty).map (·.size) = some cs.length)
    (h : wpList P ops Q rest (a.put o.dst (.agg cs.toArray)) w) : wpList P ops Q (o :: rest) a w :=
  wpList_step fun K hK => by
    rw [if_pos hgd]
    unfold Oper.wp execOp
    simp only [ho, hx, Instr.loadAt, Instr.sureAddr, Sem.run_bind, Sem.run_pure, Result.andThen_ok, run_loadVar_agg w b off ty cs d hc hu hd hi]
    exact hK _ _ h
theorem opens_snoc (l : List Cl) (k : Nat) (h : k < l.length) : opens (l.take (k + 1)) = opens (l.take k) + if isOpen l[k] then 1 else 0 := by
  unfold opens
  rw [take_snoc l k h, List.filter_append, List.length_append]
  congr 1
  rw [List.filter_cons]
  split <;> rfl
theorem opens_le (l : List Cl) : opens l ≤ l.length := List.length_filter_le _ _
theorem sumTo_ofF_le (l : List Cl) (h : l.length ≤ 100) : ∀ n, n ≤ 16 → sumTo (fun t => (ofF l (t : Int)).length) n ≤ n * 100 ∧ sumTo (fun t => opens (ofF l (t : Int))) n ≤ n * 100
  | 0, _ => ⟨Nat.le_refl _, Nat.le_refl _⟩
  | n + 1, hn => by
    obtain ⟨h1, h2⟩ := sumTo_ofF_le l h n (by omega)
    have h3 := ofF_le l (n : Int)
    have h4 := opens_le (ofF l (n : Int))
    simp only [sumTo]
    omega
set_option maxRecDepth 100000 in
set_option maxHeartbeats 4000000 in
theorem historyTasks7 (l : List Cl) (v : Value) (w : World) (hE : Env w) (hv : ClV w v l) : Calls Tryd.prog 7 #[v] w (YPost w) := by
  have n0 := great8 w v l hv
  rcases Bool.eq_false_or_eq_true (decide (20 < l.length ∧ l.length ≤ 100) || decide (110 < l.length)) with hg | hg
  · rw [hg] at n0
    go_enter Tryd.func7, Tryd.ntmps7
    go_wp2_with fail
    refine n0.mono ?_
    rintro e w1 ⟨rfl, rfl⟩
    clear n0
    go_wp2_with fail
    refine (awake9 _ hE).mono ?_
    rintro e w1 ⟨rfl, hb1⟩
    go_wp2_with fail
    go_ret
    exact ⟨rfl, hb1⟩
  · have hlen := great_small hg
    rw [hg] at n0
    clear hg
    have n1 := rcheck16 l v w hv (by omega)
    by_cases hc : chkH l = 0
    · have hH := hist_iff.1 hc
      have hl20 : l.length ≤ 20 := by have := hH.len; omega
      have HH := Lib.hid hH
      have Hv := Lib.hid hv
      rw [hc] at n1
      obtain ⟨A, cap, rfl, hcap, hr⟩ := hv
      clear hc hH hlen
      go_enter Tryd.func7, Tryd.ntmps7
      go_wp2_with fail
      refine n0.mono ?_
      rintro e w1 ⟨rfl, rfl⟩
      clear n0
      go_wp2_with fail
      refine n1.mono ?_
      rintro e w1 ⟨rfl, hb1⟩
      clear n1
      go_wp2_with fail
      go_loopw [3, 4, 20] (fun a o i wr => ∃ t : Nat, t ≤ 16 ∧ i = .int .i64 t ∧ a = .int .i64 (sumTo (fun u => (ofF l (u : Int)).length) t : Nat) ∧ o = .int .i64 (sumTo (fun u => opens (ofF l (u : Int))) t : Nat) ∧ Below w.heap.size w wr) (fun _ _ i _ => 16 - (intOf i).toNat)
      case atStart => exact ⟨0, Nat.zero_le _, rfl, rfl, rfl, hb1⟩
      case round =>
        obtain ⟨t, ht, rfl, rfl, rfl, hb⟩ := hrel
        by_cases htt : t < 16
        · have n2 := tasks23 l _ (t : Int) wr (Hv.out.below hb) (by omega)
          have htk := task_ok HH.out (t : Int)
          obtain ⟨hs1, hs2⟩ := sumTo_ofF_le l (by omega) t (by omega)
          have Hs1 := Lib.hid (show sumTo (fun u => (ofF l (u : Int)).length) (t + 1) = sumTo (fun u => (ofF l (u : Int)).length) t + (ofF l (t : Int)).length from rfl)
          have Hs2 := Lib.hid (show sumTo (fun u => opens (ofF l (u : Int))) (t + 1) = sumTo (fun u => opens (ofF l (u : Int))) t + opens (ofF l (t : Int)) from rfl)
          generalize sumTo (fun u => (ofF l (u : Int)).length) t = q1 at *
          generalize sumTo (fun u => opens (ofF l (u : Int))) t = q2 at *
          generalize ofF l (t : Int) = m at *
          have hml := htk.len
          go_wp2_with fail
          refine n2.mono ?_
          rintro e w2 ⟨v2, rfl, hown, hb2⟩
          clear n2
          have hcl := lv_own hown
          have hB2 := hb.trans (hb2.mono hb.size)
          clear hown hb2
          obtain ⟨A6, c6, rfl, hc6, hr6⟩ := hcl
          have Hcl := Lib.hid (show ClV w2 (.slice A6 m.length c6) m from ⟨A6, c6, rfl, hc6, hr6⟩)
          have Hr6 := Lib.hid hr6
          have Htk := Lib.hid htk
          clear hr6 htk
          go_wp2_with fail
          obtain ⟨wm, hwm⟩ : ∃ x, x = wr := ⟨_, rfl⟩
          subst hwm
          go_loopw [4, 32] (fun o i wr => ∃ k : Nat, k ≤ m.length ∧ i = .int .i64 k ∧ o = .int .i64 (q2 + opens (m.take k) : Nat) ∧ Below w2.heap.size w2 wr) (fun _ i _ => m.length - (intOf i).toNat)
          case atStart => exact ⟨0, Nat.zero_le _, rfl, by simp [opens], Below.refl _ _⟩
          case round =>
            obtain ⟨k, hk, rfl, rfl, hb3⟩ := hrel
            have hB3 : Below w.heap.size w wr := hB2.trans (hb3.mono hB2.size)
            by_cases hkt : k < m.length
            · obtain ⟨b6, off6, rfl, hb6, hrow6⟩ := Hr6.out (fun e => by rw [e] at hkt; simp at hkt)
              have hr' : Row wr b6 (off6 + k * 6) (clCells m[k]) := (hrow6 k hkt).below hb3 hb6
              have hprev : 0 < k → wr.cell? ⟨b6, off6 + (k - 1) * 6 + 4, none⟩ = some (.int .i64 (m.getD (k - 1) zCl).begin_) ∧ (m.getD (k - 1) zCl).begin_ < m[k].begin_ := fun h0 => by
                have h1 := ((hrow6 (k - 1) (by omega)).below hb3 hb6) 4 _ rfl
                obtain ⟨j, rfl⟩ : ∃ j, k = j + 1 := ⟨k - 1, by omega⟩
                have h2 := (Htk.out.up j hkt).1
                have e : m.getD (j + 1 - 1) zCl = m[j] := by simp [List.getD_eq_getElem?_getD, show j < m.length by omega]
                rw [e]
                exact ⟨h1, h2⟩
              have hnext : k + 1 < m.length → 0 ≤ m[k].end_ := fun h => (Htk.out.up k h).2
              obtain ⟨hxt, hxl⟩ := Htk.out.mem k hkt
              have hos := opens_snoc m k hkt
              have hol : opens (m.take k) ≤ 100 := by have := opens_le (m.take k); have := List.length_take_le k m; omega
              have hclV : ClV wr (.slice A l.length cap) l := Hv.out.below hB3
              generalize m.getD (k - 1) zCl = p at hprev
              obtain ⟨x, hx⟩ : ∃ x, m[k] = x := ⟨_, rfl⟩
              rw [hx] at hr' hprev hnext hxt hxl hos
              clear hx hrow6
              have Hos := Lib.hid hos
              clear hos
              generalize opens (m.take k) = q at *
              have hbw6 : b6 < wr.heap.size := Nat.lt_of_lt_of_le hb6 hb3.size
              have hn1 := fun W hW => contains25 l (.slice A l.length cap) x W hW hxl (by omega)
              have Hn1 := Lib.hid hn1
              clear hn1 hxl
              obtain ⟨a0, a1, a2, a3, a4, a5⟩ := x
              simp only at hxt hnext hprev
              subst hxt
              have hN : (wr.alloc (.cells #[.int .i64 t, .int .i64 a1, .int .i64 a2, .int .i64 a3, .int .i64 a4, .int .i64 a5] 32)).heap[wr.heap.size]? = some (.cells #[.int .i64 t, .int .i64 a1, .int .i64 a2, .int .i64 a3, .int .i64 a4, .int .i64 a5] 32 (0, 0)) := heap_alloc_new _ _
              have Hc0 := Lib.hid (cell_heap hN 0)
              have Hc1 := Lib.hid (cell_heap hN 1)
              have Hc2 := Lib.hid (cell_heap hN 2)
              have Hc3 := Lib.hid (cell_heap hN 3)
              have Hc4 := Lib.hid (cell_heap hN 4)
              have Hc5 := Lib.hid (cell_heap hN 5)
              have HNlt := Lib.hid (show wr.heap.size < (wr.alloc (.cells #[.int .i64 t, .int .i64 a1, .int .i64 a2, .int .i64 a3, .int .i64 a4, .int .i64 a5] 32)).heap.size by simp)
              have HRX := Lib.hid (show Row (wr.alloc (.cells #[.int .i64 t, .int .i64 a1, .int .i64 a2, .int .i64 a3, .int .i64 a4, .int .i64 a5] 32)) wr.heap.size 0 (clCells ⟨(t : Int), a1, a2, a3, a4, a5⟩) from Row.new _ _ _ _ rfl)
              have hbA : Below wr.heap.size wr (wr.alloc (.cells #[.int .i64 t, .int .i64 a1, .int .i64 a2, .int .i64 a3, .int .i64 a4, .int .i64 a5] 32)) := (Below.refl _ _).alloc (Nat.le_refl _) _
              have HclA := Lib.hid (hclV.below hbA)
              have HbA := Lib.hid (hb3.trans (hbA.mono hb3.size))
              have Hb6A := Lib.hid (show b6 < (wr.alloc (.cells #[.int .i64 t, .int .i64 a1, .int .i64 a2, .int .i64 a3, .int .i64 a4, .int .i64 a5] 32)).heap.size by simp; omega)
              have hprevA : 0 < k → (wr.alloc (.cells #[.int .i64 t, .int .i64 a1, .int .i64 a2, .int .i64 a3, .int .i64 a4, .int .i64 a5] 32)).cell? ⟨b6, off6 + (k - 1) * 6 + 4, none⟩ = some (.int .i64 p.begin_) ∧ p.begin_ < a4 := fun h => ⟨(hbA.cell (p := ⟨b6, off6 + (k - 1) * 6 + 4, none⟩) hbw6).trans (hprev h).1, (hprev h).2⟩
              clear hN hbA hclV hprev hb3 hB3 hB2 hb Hcl Hr6 hr hb1 hE
              rcases Nat.eq_zero_or_pos k with rfl | hk0
              · clear hprevA
                go_upto_region 12 with ((with_reducible refine wpList_load_agg (o := ⟨some 36, .load 32 (.tmp 35), _, _, _, none⟩) rfl 32 _ rfl b6 (off6 + 0 * 6) ?_ _ hr' _ Tryd.underlying32 rfl ?_ ?_); (focus rfl); (focus kernel_rfl); simp only [clCells])
                generalize wr.alloc (.cells #[.int .i64 t, .int .i64 a1, .int .i64 a2, .int .i64 a3, .int .i64 a4, .int .i64 a5] 32) = W0 at *
                generalize wr.heap.size = N at *
                clear hr'
                by_cases hnx : 0 + 1 < m.length
                · have h0 := hnext hnx
                  have h1 : (0 : Int) < (m.length : Int) - 1 := by omega
                  have h1b : (1 : Int) < (m.length : Int) := by omega
                  have h2 : decide (a5 < 0) = false := decide_eq_false (by omega)
                  refine wp_region_det (by kernel_rfl) (by kernel_rfl) (fun wx => Below W0.heap.size W0 wx) ((Below.refl _ _).drew) ?_
                  iterate 37
                    apply wpDet_cons
                    · intro wx hx
                      have c0 : wx.cell? ⟨N, 0, none⟩ = some (.int .i64 t) := (hx.cell (p := ⟨N, 0, none⟩) HNlt.out).trans Hc0.out
                      have c4 : wx.cell? ⟨N, 4, none⟩ = some (.int .i64 a4) := (hx.cell (p := ⟨N, 4, none⟩) HNlt.out).trans Hc4.out
                      have c5 : wx.cell? ⟨N, 5, none⟩ = some (.int .i64 a5) := (hx.cell (p := ⟨N, 5, none⟩) HNlt.out).trans Hc5.out
                      have gX := HRX.out.below hx HNlt.out
                      have hcx := HclA.out.below hx
                      simp only [clCells] at gX
                      first
                        | ((with_reducible refine wpList_load_aggW (o := ⟨some 43, .load 32 (.tmp 8), _, _, _, _⟩) ?_ 32 _ rfl N 0 ?_ _ gX _ Tryd.underlying32 rfl ?_ ?_); (focus rfl); (focus rfl); (focus kernel_rfl); exact ⟨rfl, rfl, hx⟩)
                        | (go_wp2_with (go_at_call 25; refine (Hn1.out _ hcx).mono ?_; rintro e w' ⟨rfl, hbk⟩)
                           first
                             | exact ⟨rfl, rfl, hx⟩
                             | exact ⟨rfl, rfl, hx.trans (hbk.mono hx.size)⟩)
                    go_frame
                  intro w3 hx
                  have hB4 : Below w2.heap.size w2 w3 := (HbA.out).trans (hx.mono HbA.out.size)
                  have c5 : w3.cell? ⟨N, 5, none⟩ = some (.int .i64 a5) := (hx.cell (p := ⟨N, 5, none⟩) HNlt.out).trans Hc5.out
                  clear hx
                  rcases Bool.eq_false_or_eq_true (decide (a5 < 0)) with hop | hop
                  · exact absurd (of_decide_eq_true hop) (by omega)
                  · have Hq := Lib.hid (show opens (m.take (0 + 1)) = q by rw [Hos.out, if_neg (show ¬ isOpen ⟨(t : Int), a1, a2, a3, a4, a5⟩ = true from fun h => by have h' : decide (a5 < 0) = true := h; rw [hop] at h'; cases h')]; rfl)
                    go_wp2_with fail
                    go_roundw
                    case rel => exact ⟨0 + 1, by omega, by go_num, by rw [Hq.out]; simp, hB4⟩
                    case measure => simp [intOf]; omega
                · have h1 : decide ((0 : Int) < (m.length : Int) - 1) = false := decide_eq_false (by omega)
                  have h1b : decide ((1 : Int) < (m.length : Int)) = false := decide_eq_false (by omega)
                  refine wp_region_det (by kernel_rfl) (by kernel_rfl) (fun wx => Below W0.heap.size W0 wx) ((Below.refl _ _).drew) ?_
                  iterate 37
                    apply wpDet_cons
                    · intro wx hx
                      have c0 : wx.cell? ⟨N, 0, none⟩ = some (.int .i64 t) := (hx.cell (p := ⟨N, 0, none⟩) HNlt.out).trans Hc0.out
                      have c4 : wx.cell? ⟨N, 4, none⟩ = some (.int .i64 a4) := (hx.cell (p := ⟨N, 4, none⟩) HNlt.out).trans Hc4.out
                      have c5 : wx.cell? ⟨N, 5, none⟩ = some (.int .i64 a5) := (hx.cell (p := ⟨N, 5, none⟩) HNlt.out).trans Hc5.out
                      have gX := HRX.out.below hx HNlt.out
                      have hcx := HclA.out.below hx
                      simp only [clCells] at gX
                      first
                        | ((with_reducible refine wpList_load_aggW (o := ⟨some 43, .load 32 (.tmp 8), _, _, _, _⟩) ?_ 32 _ rfl N 0 ?_ _ gX _ Tryd.underlying32 rfl ?_ ?_); (focus rfl); (focus rfl); (focus kernel_rfl); exact ⟨rfl, rfl, hx⟩)
                        | (go_wp2_with (go_at_call 25; refine (Hn1.out _ hcx).mono ?_; rintro e w' ⟨rfl, hbk⟩)
                           first
                             | exact ⟨rfl, rfl, hx⟩
                             | exact ⟨rfl, rfl, hx.trans (hbk.mono hx.size)⟩)
                    go_frame
                  intro w3 hx
                  have hB4 : Below w2.heap.size w2 w3 := (HbA.out).trans (hx.mono HbA.out.size)
                  have c5 : w3.cell? ⟨N, 5, none⟩ = some (.int .i64 a5) := (hx.cell (p := ⟨N, 5, none⟩) HNlt.out).trans Hc5.out
                  clear hx
                  rcases Bool.eq_false_or_eq_true (decide (a5 < 0)) with hop | hop
                  · have Hq := Lib.hid (show opens (m.take (0 + 1)) = q + 1 by rw [Hos.out, if_pos (show isOpen ⟨(t : Int), a1, a2, a3, a4, a5⟩ = true from hop)])
                    replace hop := of_decide_eq_true hop
                    go_wp2_with fail
                    go_roundw
                    case rel => exact ⟨0 + 1, by omega, by go_num, by rw [Hq.out]; simp; omega, hB4⟩
                    case measure => simp [intOf]; omega
                  · have Hq := Lib.hid (show opens (m.take (0 + 1)) = q by rw [Hos.out, if_neg (show ¬ isOpen ⟨(t : Int), a1, a2, a3, a4, a5⟩ = true from fun h => by have h' : decide (a5 < 0) = true := h; rw [hop] at h'; cases h')]; rfl)
                    go_wp2_with fail
                    go_roundw
                    case rel => exact ⟨0 + 1, by omega, by go_num, by rw [Hq.out]; simp, hB4⟩
                    case measure => simp [intOf]; omega
              · obtain ⟨j, rfl⟩ : ∃ j, k = j + 1 := ⟨k - 1, by omega⟩
                obtain ⟨hcp, hpl⟩ := hprevA hk0
                simp only [Nat.add_sub_cancel] at hcp
                have Hcp := Lib.hid hcp
                have h3 : decide (a4 ≤ p.begin_) = false := decide_eq_false (by omega)
                have h4 : (0 : Int) < ((j + 1 : Nat) : Int) := by omega
                have h5 : ((j + 1 : Nat) : Int) - 1 = (j : Int) := by omega
                clear hprevA hcp
                go_upto_region 12 with ((with_reducible refine wpList_load_agg (o := ⟨some 36, .load 32 (.tmp 35), _, _, _, none⟩) rfl 32 _ rfl b6 (off6 + (j + 1) * 6) ?_ _ hr' _ Tryd.underlying32 rfl ?_ ?_); (focus rfl); (focus kernel_rfl); simp only [clCells])
                generalize wr.alloc (.cells #[.int .i64 t, .int .i64 a1, .int .i64 a2, .int .i64 a3, .int .i64 a4, .int .i64 a5] 32) = W0 at *
                generalize wr.heap.size = N at *
                clear hr'
                by_cases hnx : j + 1 + 1 < m.length
                · have h0 := hnext hnx
                  have h1 : ((j + 1 : Nat) : Int) < (m.length : Int) - 1 := by omega
                  have h1b : (j : Int) + 1 < (m.length : Int) - 1 := by omega
                  have h2 : decide (a5 < 0) = false := decide_eq_false (by omega)
                  refine wp_region_det (by kernel_rfl) (by kernel_rfl) (fun wx => Below W0.heap.size W0 wx) ((Below.refl _ _).drew) ?_
                  iterate 37
                    apply wpDet_cons
                    · intro wx hx
                      have c0 : wx.cell? ⟨N, 0, none⟩ = some (.int .i64 t) := (hx.cell (p := ⟨N, 0, none⟩) HNlt.out).trans Hc0.out
                      have c4 : wx.cell? ⟨N, 4, none⟩ = some (.int .i64 a4) := (hx.cell (p := ⟨N, 4, none⟩) HNlt.out).trans Hc4.out
                      have c5 : wx.cell? ⟨N, 5, none⟩ = some (.int .i64 a5) := (hx.cell (p := ⟨N, 5, none⟩) HNlt.out).trans Hc5.out
                      have gX := HRX.out.below hx HNlt.out
                      have hcx := HclA.out.below hx
                      have cp := (hx.cell (p := ⟨b6, off6 + j * 6 + 4, none⟩) Hb6A.out).trans Hcp.out
                      simp only [clCells] at gX
                      first
                        | ((with_reducible refine wpList_load_aggW (o := ⟨some 43, .load 32 (.tmp 8), _, _, _, _⟩) ?_ 32 _ rfl N 0 ?_ _ gX _ Tryd.underlying32 rfl ?_ ?_); (focus rfl); (focus rfl); (focus kernel_rfl); exact ⟨rfl, rfl, hx⟩)
                        | (go_wp2_with (go_at_call 25; refine (Hn1.out _ hcx).mono ?_; rintro e w' ⟨rfl, hbk⟩)
                           first
                             | exact ⟨rfl, rfl, hx⟩
                             | exact ⟨rfl, rfl, hx.trans (hbk.mono hx.size)⟩)
                    go_frame
                  intro w3 hx
                  have hB4 : Below w2.heap.size w2 w3 := (HbA.out).trans (hx.mono HbA.out.size)
                  have c5 : w3.cell? ⟨N, 5, none⟩ = some (.int .i64 a5) := (hx.cell (p := ⟨N, 5, none⟩) HNlt.out).trans Hc5.out
                  clear hx
                  rcases Bool.eq_false_or_eq_true (decide (a5 < 0)) with hop | hop
                  · exact absurd (of_decide_eq_true hop) (by omega)
                  · have Hq := Lib.hid (show opens (m.take ((j + 1) + 1)) = q by rw [Hos.out, if_neg (show ¬ isOpen ⟨(t : Int), a1, a2, a3, a4, a5⟩ = true from fun h => by have h' : decide (a5 < 0) = true := h; rw [hop] at h'; cases h')]; rfl)
                    go_wp2_with fail
                    go_roundw
                    case rel => exact ⟨(j + 1) + 1, by omega, by go_num, by rw [Hq.out]; simp, hB4⟩
                    case measure => simp [intOf]; omega
                · have h1 : decide (((j + 1 : Nat) : Int) < (m.length : Int) - 1) = false := decide_eq_false (by omega)
                  have h1b : decide ((j : Int) + 1 < (m.length : Int) - 1) = false := decide_eq_false (by omega)
                  refine wp_region_det (by kernel_rfl) (by kernel_rfl) (fun wx => Below W0.heap.size W0 wx) ((Below.refl _ _).drew) ?_
                  iterate 37
                    apply wpDet_cons
                    · intro wx hx
                      have c0 : wx.cell? ⟨N, 0, none⟩ = some (.int .i64 t) := (hx.cell (p := ⟨N, 0, none⟩) HNlt.out).trans Hc0.out
                      have c4 : wx.cell? ⟨N, 4, none⟩ = some (.int .i64 a4) := (hx.cell (p := ⟨N, 4, none⟩) HNlt.out).trans Hc4.out
                      have c5 : wx.cell? ⟨N, 5, none⟩ = some (.int .i64 a5) := (hx.cell (p := ⟨N, 5, none⟩) HNlt.out).trans Hc5.out
                      have gX := HRX.out.below hx HNlt.out
                      have hcx := HclA.out.below hx
                      have cp := (hx.cell (p := ⟨b6, off6 + j * 6 + 4, none⟩) Hb6A.out).trans Hcp.out
                      simp only [clCells] at gX
                      first
                        | ((with_reducible refine wpList_load_aggW (o := ⟨some 43, .load 32 (.tmp 8), _, _, _, _⟩) ?_ 32 _ rfl N 0 ?_ _ gX _ Tryd.underlying32 rfl ?_ ?_); (focus rfl); (focus rfl); (focus kernel_rfl); exact ⟨rfl, rfl, hx⟩)
                        | (go_wp2_with (go_at_call 25; refine (Hn1.out _ hcx).mono ?_; rintro e w' ⟨rfl, hbk⟩)
                           first
                             | exact ⟨rfl, rfl, hx⟩
                             | exact ⟨rfl, rfl, hx.trans (hbk.mono hx.size)⟩)
                    go_frame
                  intro w3 hx
                  have hB4 : Below w2.heap.size w2 w3 := (HbA.out).trans (hx.mono HbA.out.size)
                  have c5 : w3.cell? ⟨N, 5, none⟩ = some (.int .i64 a5) := (hx.cell (p := ⟨N, 5, none⟩) HNlt.out).trans Hc5.out
                  clear hx
                  rcases Bool.eq_false_or_eq_true (decide (a5 < 0)) with hop | hop
                  · have Hq := Lib.hid (show opens (m.take ((j + 1) + 1)) = q + 1 by rw [Hos.out, if_pos (show isOpen ⟨(t : Int), a1, a2, a3, a4, a5⟩ = true from hop)])
                    replace hop := of_decide_eq_true hop
                    go_wp2_with fail
                    go_roundw
                    case rel => exact ⟨(j + 1) + 1, by omega, by go_num, by rw [Hq.out]; simp; omega, hB4⟩
                    case measure => simp [intOf]; omega
                  · have Hq := Lib.hid (show opens (m.take ((j + 1) + 1)) = q by rw [Hos.out, if_neg (show ¬ isOpen ⟨(t : Int), a1, a2, a3, a4, a5⟩ = true from fun h => by have h' : decide (a5 < 0) = true := h; rw [hop] at h'; cases h')]; rfl)
                    go_wp2_with fail
                    go_roundw
                    case rel => exact ⟨(j + 1) + 1, by omega, by go_num, by rw [Hq.out]; simp, hB4⟩
                    case measure => simp [intOf]; omega
            · have hk' : k = m.length := by omega
              subst hk'
              rw [List.take_length]
              go_wp2_with fail
              go_roundw
              case rel => exact ⟨t + 1, by omega, by go_num, by rw [Hs1.out]; simp, by rw [Hs2.out], hB3⟩
              case measure => simp [intOf]; omega
        · have ht' : t = 16 := by omega
          subst ht'
          rw [tasks_total HH.out, tasks_open HH.out]
          have n2 := pending21 l _ wr (Hv.out.below hb) (by omega)
          have hP := pend_ok HH.out
          have hpl : (pendI l l.length).length ≤ 20 := by have := pendI_le l l.length; omega
          generalize pendI l l.length = P at *
          have HP := Lib.hid hP
          have hcnt := hP.cnt
          generalize opens l = q at *
          clear hP
          go_wp2_with fail
          refine n2.mono ?_
          rintro e w2 ⟨v2, rfl, hown, hb2⟩
          clear n2
          have hcl := lv_own hown
          have hB2 := hb.trans (hb2.mono hb.size)
          clear hown hb2
          obtain ⟨A6, c6, rfl, hc6, hr6⟩ := hcl
          have Hcl := Lib.hid (show LV IE w2 (.slice A6 P.length c6) P from ⟨A6, c6, rfl, hc6, hr6⟩)
          have Hr6 := Lib.hid hr6
          clear hr6
          go_wp2_with fail
          obtain ⟨wm, hwm⟩ : ∃ x, x = wr := ⟨_, rfl⟩
          subst hwm
          go_loopw [85] (fun i wr => ∃ k : Nat, k ≤ P.length ∧ i = .int .i64 k ∧ Below w2.heap.size w2 wr) (fun i _ => P.length - (intOf i).toNat)
          case atStart => exact ⟨0, Nat.zero_le _, rfl, Below.refl _ _⟩
          case round =>
            obtain ⟨k, hk, rfl, hb3⟩ := hrel
            have hB3 : Below w.heap.size w wr := hB2.trans (hb3.mono hB2.size)
            by_cases hkt : k < P.length
            · obtain ⟨b6, off6, rfl, hb6, hrow6⟩ := Hr6.out (fun e => by rw [e] at hkt; simp at hkt)
              have h0 : wr.cell? ⟨b6, off6 + k, none⟩ = some (.int .i64 P[k]) := by
                have := ((hrow6 k hkt).below hb3 hb6) 0 _ rfl
                simpa [IE] using this
              obtain ⟨j, hj1, hj2, hj3⟩ := HP.out.each P[k] (List.getElem_mem hkt)
              rw [hj1] at h0
              obtain ⟨b, off, rfl, hbw, hrow⟩ := hr (fun e => by rw [e] at hj2; simp at hj2)
              have h5 : wr.cell? ⟨b, off + j * 6 + 5, none⟩ = some (.int .i64 l[j].end_) := ((hrow j hj2).below hB3 hbw) 5 _ rfl
              rw [getD_lt l j hj2] at hj3
              obtain ⟨x, hx⟩ : ∃ x, l[j].end_ = x := ⟨_, rfl⟩
              rw [hx] at h5 hj3
              have h6 : decide ((0 : Int) ≤ x) = false := decide_eq_false (by omega)
              have h7 : decide ((j : Int) < 0) = false := decide_eq_false (by omega)
              have h8 : decide ((l.length : Int) ≤ (j : Int)) = false := decide_eq_false (by omega)
              clear hj1 hx hrow hrow6
              go_wp2_with fail
              go_roundw
              case rel => exact ⟨k + 1, by omega, by go_num, hb3⟩
              case measure => simp [intOf]; omega
            · have hk' : k = P.length := by omega
              subst hk'
              have n3 := sorted26 P _ wr (Hcl.out.below hb3) HP.out.up (by omega)
              rw [hcnt] at n3 ⊢
              go_wp2_with fail
              refine n3.mono ?_
              rintro e w4 ⟨rfl, hb4⟩
              clear n3
              have hB4 := hB3.trans (hb4.mono hB3.size)
              go_wp2_with fail
              refine (awake9 _ (hE.below hB4)).mono ?_
              rintro e w5 ⟨rfl, hb5⟩
              go_wp2_with fail
              go_ret
              exact ⟨rfl, hB4.trans (hb5.mono hB4.size)⟩
    · obtain ⟨x, hx⟩ : ∃ x, chkH l = x := ⟨_, rfl⟩
      rw [hx] at n1 hc
      have hx1 : (x != 0) = true := by simpa using hc
      clear hx hc
      go_enter Tryd.func7, Tryd.ntmps7
      go_wp2_with fail
      refine n0.mono ?_
      rintro e w1 ⟨rfl, rfl⟩
      clear n0
      go_wp2_with fail
      refine n1.mono ?_
      rintro e w1 ⟨rfl, hb1⟩
      clear n1
      go_wp2_with fail
      refine (awake9 _ (hE.below hb1)).mono ?_
      rintro e w2 ⟨rfl, hb2⟩
      go_wp2_with fail
      go_ret
      exact ⟨rfl, hb1.trans (hb2.mono hb1.size)⟩
end Go.Proofs.YtgeclafcbgocgaaDoor

/- Pending, Tasks and Before, by the reference. -/
import Derived.Test.YtgeclafcbgocgaaDoorBef
import Derived.Test.YtgeclafcbgocgaaDoorRck
import Derived.Test.YtgeclafcbgocgaaDoorDet
namespace Go.Proofs.YtgeclafcbgocgaaDoor
open Go.RowKit
theorem grownBy_below' {w w' : World} (h : Below w.heap.size w w') : w.grownBy w' none := ⟨h.os, h.tape, h.output, h.size, fun i hi _ => h.block i hi⟩
set_option maxRecDepth 100000 in
set_option maxHeartbeats 1000000 in
theorem rtasks24 (l : List Cl) (v : Value) (t : Int) (w : World) (hv : ClV w v l) (hl : l.length ≤ 65536) :
    Calls Tryd.prog 24 #[v, .int .i64 t] w fun e w' => ∃ v', e = .returned v' ∧ ClV w' v' (ofF l t) ∧ Below w.heap.size w w' := by
  rcases hv.split with ⟨A, c, rfl, rfl⟩ | ⟨b, off, cap, rfl, hcap, hbw, hrow⟩
  · go_enter Tryd.func24, Tryd.ntmps24
    go_wp2
    refine wp_loop_rounds 1 ?_
    rw [rounds_succ]
    go_wp2_with fail
    go_ret
    exact ⟨_, rfl, LV.nil_ _ _ _ _, (Below.refl _ _).alloc (Nat.le_refl _) _⟩
  · go_enter Tryd.func24, Tryd.ntmps24
    go_wp2
    go_loopw [5, 6] (fun v i wr => ∃ k : Nat, k ≤ l.length ∧ i = .int .i64 k ∧ wr.ownsRow w.heap.size 32 6 v (ofF (l.take k) t).length (CE.all (ofF (l.take k) t)) ∧ Below w.heap.size w wr) (fun _ i _ => l.length - (intOf i).toNat)
    case atStart => exact ⟨0, Nat.zero_le _, rfl, World.ownsRow_made w #[] 0 (Nat.le_refl _) (by unfold maxLen; omega) rfl, (Below.refl _ _).alloc (Nat.le_refl _) _⟩
    case round =>
      obtain ⟨k, hk, rfl, hown, hb⟩ := hrel
      by_cases hlt : k < l.length
      · have hr' : Row wr b (off + k * 6) (clCells l[k]) := (hrow k hlt).below hb hbw
        have hle : (ofF (l.take k) t).length ≤ k := Nat.le_trans (ofF_le _ _) (List.length_take_le _ _)
        have hsz := hb.size
        have Hrow := Lib.hid hrow
        have x0 := hr' 0 _ rfl
        rw [Nat.add_zero] at x0
        clear hrow
        rcases Bool.eq_false_or_eq_true (l[k].task == t) with ht | ht
        · have Hhit := Lib.hid (ofF_hit l t k hlt ht)
          go_wp2_with (first | ((with_reducible refine wpList_load_agg (o := ⟨some 25, .load 32 (.tmp 24), _, _, _, none⟩) rfl 32 _ rfl b (off + k * 6) ?_ _ hr' _ Tryd.underlying32 rfl ?_ ?_); (focus rfl); (focus kernel_rfl); simp only [clCells]) | (at_builtin; refine wpList_app rfl _ _ 22 rfl w.heap.size 32 6 48 T22 _ _ _ rfl (hown.alloc _) wr.heap.size (clCells l[k]) rfl rfl (Row.new _ _ _ _ (by simp)) (clCells_one _) (by omega) (by omega) (by simp; omega) ?_; intro v' w1 hown1 hgr1))
          go_roundw
          case rel =>
            refine ⟨k + 1, by omega, by go_num, ?_, ?_⟩
            · rw [Hhit.out, List.length_append, Enc.all_snoc]
              exact hown1
            · exact (hb.alloc hsz _).grown hgr1 (by simp; omega) (fun j hj => (hown.lt j hj).1)
          case measure => simp [intOf]; omega
        · have Hhit := Lib.hid (ofF_miss l t k hlt ht)
          go_wp2_with fail
          go_roundw
          case rel =>
            refine ⟨k + 1, by omega, by go_num, ?_, hb⟩
            rw [Hhit.out]
            exact hown
          case measure => simp [intOf]; omega
      · have hk' : k = l.length := by omega
        go_wp2_with fail
        go_ret
        rw [hk', List.take_length] at hown
        exact ⟨_, rfl, lv_own hown, hb⟩
set_option maxRecDepth 100000 in
set_option maxHeartbeats 1000000 in
theorem rpending22 (l : List Cl) (v : Value) (w : World) (hv : ClV w v l) (hl : l.length ≤ 65536) :
    Calls Tryd.prog 22 #[v] w fun e w' => ∃ v', e = .returned v' ∧ LV IE w' v' (pendI l l.length) ∧ Below w.heap.size w w' := by
  rcases hv.split with ⟨A, c, rfl, rfl⟩ | ⟨b, off, cap, rfl, hcap, hbw, hrow⟩
  · go_enter Tryd.func22, Tryd.ntmps22
    go_wp2
    refine wp_loop_rounds 1 ?_
    rw [rounds_succ]
    go_wp2_with fail
    go_ret
    exact ⟨_, rfl, LV.nil_ _ _ _ _, (Below.refl _ _).alloc (Nat.le_refl _) _⟩
  · go_enter Tryd.func22, Tryd.ntmps22
    go_wp2
    go_loopw [3, 4] (fun v i wr => ∃ k : Nat, k ≤ l.length ∧ i = .int .i64 k ∧ wr.ownsRow w.heap.size 3 1 v (pendI l k).length (IE.all (pendI l k)) ∧ Below w.heap.size w wr) (fun _ i _ => l.length - (intOf i).toNat)
    case atStart => exact ⟨0, Nat.zero_le _, rfl, World.ownsRow_made w #[] 0 (Nat.le_refl _) (by unfold maxLen; omega) rfl, (Below.refl _ _).alloc (Nat.le_refl _) _⟩
    case round =>
      obtain ⟨k, hk, rfl, hown, hb⟩ := hrel
      by_cases hlt : k < l.length
      · have x5 : wr.cell? ⟨b, off + k * 6 + 5, none⟩ = some (.int .i64 l[k].end_) := ((hrow k hlt).below hb hbw) 5 _ rfl
        have hle := pendI_le l k
        have hsz := hb.size
        have Hrow := Lib.hid hrow
        clear hrow
        rcases Bool.eq_false_or_eq_true (l[k].end_ == -1) with ht | ht
        · have Hhit := Lib.hid (show pendI l (k + 1) = pendI l k ++ [(k : Int)] by rw [pendI, getD_lt l k hlt, if_pos ht])
          go_wp2_with (at_builtin; refine wpList_app rfl _ _ 43 rfl w.heap.size 3 1 8 T43 _ _ _ rfl (hown.alloc _) wr.heap.size (inCells k) rfl rfl (Row.new _ _ _ _ (by simp)) (IE.one _) (by omega) (by omega) (by simp; omega) ?_; intro v' w1 hown1 hgr1)
          go_roundw
          case rel =>
            refine ⟨k + 1, by omega, by go_num, ?_, ?_⟩
            · rw [Hhit.out, List.length_append, Enc.all_snoc]
              exact hown1
            · exact (hb.alloc hsz _).grown hgr1 (by simp; omega) (fun j hj => (hown.lt j hj).1)
          case measure => simp [intOf]; omega
        · have Hhit := Lib.hid (show pendI l (k + 1) = pendI l k by rw [pendI, getD_lt l k hlt, if_neg (by rw [ht]; simp)])
          go_wp2_with fail
          go_roundw
          case rel =>
            refine ⟨k + 1, by omega, by go_num, ?_, hb⟩
            rw [Hhit.out]
            exact hown
          case measure => simp [intOf]; omega
      · have hk' : k = l.length := by omega
        go_wp2_with fail
        go_ret
        rw [hk'] at hown
        exact ⟨_, rfl, lv_own hown, hb⟩
set_option maxRecDepth 100000 in
set_option maxHeartbeats 1000000 in
theorem precedes37 (x y : Cl) (w : World) : Calls Tryd.prog 37 #[.agg (clCells x).toArray, .agg (clCells y).toArray] w fun e w' => e = .returned (.bool (precedes x y)) ∧ Below w.heap.size w w' := by
  have hb : Below w.heap.size w ((w.alloc (.cells (clCells x).toArray 32)).alloc (.cells (clCells y).toArray 32)) := ((Below.refl _ _).alloc (Nat.le_refl _) _).alloc (by simp) _
  have Hb := Lib.hid hb
  clear hb
  unfold precedes
  obtain ⟨x0, x1, x2, x3, x4, x5⟩ := x
  obtain ⟨y0, y1, y2, y3, y4, y5⟩ := y
  simp only [clCells] at Hb ⊢
  rcases Bool.eq_false_or_eq_true (x5 != -1) with t1 | t1
  · rw [t1, Bool.true_and]
    rcases Bool.eq_false_or_eq_true (decide (x5 < y4)) with t2 | t2
    · rw [t2]
      replace t2 := of_decide_eq_true t2
      go_enter Tryd.func37, Tryd.ntmps37
      go_wp2_with fail
      go_ret
      exact ⟨rfl, Hb.out⟩
    · rw [t2]
      go_enter Tryd.func37, Tryd.ntmps37
      go_wp2_with fail
      go_ret
      exact ⟨rfl, Hb.out⟩
  · rw [t1, Bool.false_and]
    go_enter Tryd.func37, Tryd.ntmps37
    go_wp2_with fail
    go_ret
    exact ⟨rfl, Hb.out⟩
set_option maxRecDepth 100000 in
set_option maxHeartbeats 4000000 in
theorem rbefore18 (l : List Cl) (v : Value) (w : World) (hv : ClV w v l) (hl : l.length ≤ 65536) :
    Calls Tryd.prog 18 #[v] w fun e w' => ∃ v', e = .returned (.tuple #[v', .int .i64 (chkH l)]) ∧ LV EE w' v' (befR l) ∧ Below w.heap.size w w' := by
  have n0 := rcheck16 l v w hv hl
  by_cases hc : chkH l = 0
  · have hR : befR l = befE l l.length := if_pos hc
    have hlen : l.length ≤ 100 := (hist_iff.1 hc).len
    rw [hR, hc]
    rw [hc] at n0
    rcases hv.split with ⟨A, c, rfl, rfl⟩ | ⟨b, off, cap, rfl, hcap, hbw, hrow⟩
    · go_enter Tryd.func18, Tryd.ntmps18
      go_wp2_with fail
      refine n0.mono ?_
      rintro e w1 ⟨rfl, hb1⟩
      clear n0
      go_wp2_with fail
      refine wp_loop_rounds 1 ?_
      rw [rounds_succ]
      go_wp2_with fail
      go_ret2
      exact ⟨_, rfl, LV.nil_ _ _ _ _, hb1.alloc hb1.size _⟩
    · clear hv hc hR
      go_enter Tryd.func18, Tryd.ntmps18
      go_wp2_with fail
      refine n0.mono ?_
      rintro e w1 ⟨rfl, hb1⟩
      clear n0
      have hs1 := hb1.size
      go_wp2_with fail
      go_loopw [5, 6] (fun v i wr => ∃ k : Nat, k ≤ l.length ∧ i = .int .i64 k ∧ wr.ownsRow w.heap.size 40 2 v (befE l k).length (EE.all (befE l k)) ∧ Below w.heap.size w wr) (fun _ i _ => l.length - (intOf i).toNat)
      case atStart => exact ⟨0, Nat.zero_le _, rfl, World.ownsRow_made w1 #[] 0 hs1 (by unfold maxLen; omega) rfl, hb1.alloc hs1 _⟩
      case round =>
        obtain ⟨k, hk, rfl, hown, hb⟩ := hrel
        have hsz := hb.size
        by_cases hlt : k < l.length
        · have hble := befE_le l k
          have hkk : k * l.length ≤ 10000 := by
            have := Nat.mul_le_mul (show k ≤ 100 by omega) hlen
            omega
          have Hown := Lib.hid hown
          have Hb := Lib.hid hb
          clear hown hb
          obtain ⟨wm, hwm⟩ : ∃ x, x = wr := ⟨_, rfl⟩
          subst hwm
          go_wp2_with fail
          go_loopw [5, 7] (fun v i wr => ∃ j : Nat, j ≤ l.length ∧ i = .int .i64 j ∧ wr.ownsRow w.heap.size 40 2 v (befE l k ++ rowE l k j).length (EE.all (befE l k ++ rowE l k j)) ∧ Below w.heap.size w wr) (fun _ i _ => l.length - (intOf i).toNat)
          case atStart => exact ⟨0, Nat.zero_le _, rfl, by rw [show rowE l k 0 = [] from rfl, List.append_nil]; exact Hown.out, Hb.out⟩
          case round =>
            obtain ⟨j, hj, rfl, hown, hb⟩ := hrel
            have hsz2 := hb.size
            by_cases hjt : j < l.length
            · have r1 : Row w b (off + k * 6) (clCells l[k]) := hrow k hlt
              have r2 : Row w b (off + j * 6) (clCells l[j]) := hrow j hjt
              have hrle := rowE_le l k j
              have hpl : (befE l k ++ rowE l k j).length ≤ 20000 := by rw [List.length_append]; omega
              have hpre : precedes (l.getD k zCl) (l.getD j zCl) = precedes l[k] l[j] := by rw [getD_lt l k hlt, getD_lt l j hjt]
              have hhit := fun h => rowE_hit (l := l) (i := k) (k := j) (hpre.trans h)
              have hmis := fun h => rowE_miss (l := l) (i := k) (k := j) (hpre.trans h)
              obtain ⟨x, hx⟩ : ∃ x, l[k] = x := ⟨_, rfl⟩
              obtain ⟨y, hy⟩ : ∃ y, l[j] = y := ⟨_, rfl⟩
              rw [hx, hy] at hhit hmis
              rw [hx] at r1
              rw [hy] at r2
              have Hhit := Lib.hid hhit
              have Hmis := Lib.hid hmis
              have Hbw := Lib.hid hbw
              have Hown2 := Lib.hid hown
              clear hx hy hpre hhit hmis hrow
              go_upto_region 11 with fail
              refine wp_region_det (by kernel_rfl) (by kernel_rfl) (fun wx => Below w.heap.size w wx ∧ Below wr.heap.size wr wx) ⟨hb.drew, (Below.refl _ _).drew⟩ ?_
              clear hown
              iterate 9
                apply wpDet_cons
                · rintro wx ⟨hx1, hx2⟩
                  have g1 := r1.below hx1 hbw
                  have g2 := r2.below hx1 hbw
                  go_wp2_with (first
                    | ((with_reducible refine wpList_load_agg (o := ⟨some 30, .load 32 (.tmp 29), _, _, _, none⟩) rfl 32 _ rfl b (off + k * 6) ?_ _ g1 _ Tryd.underlying32 rfl ?_ ?_); (focus rfl); (focus kernel_rfl))
                    | ((with_reducible refine wpList_load_agg (o := ⟨some 34, .load 32 (.tmp 33), _, _, _, none⟩) rfl 32 _ rfl b (off + j * 6) ?_ _ g2 _ Tryd.underlying32 rfl ?_ ?_); (focus rfl); (focus kernel_rfl))
                    | (go_at_call 37; refine (precedes37 x y _).mono ?_; rintro e w' ⟨rfl, hbk⟩))
                  first
                    | exact ⟨rfl, rfl, hx1, hx2⟩
                    | exact ⟨rfl, rfl, hx1.trans (hbk.mono hx1.size), hx2.trans (hbk.mono hx2.size)⟩
                go_frame
              rintro w5 ⟨hx1, hx2⟩
              have hown5 := Hown2.out.kept (grownBy_below' hx2) (Classical.em _)
              have hs5 := hx1.size
              clear hb hx2
              rcases Bool.eq_false_or_eq_true (precedes x y) with t1 | t1
              · have HH := Lib.hid (Hhit.out t1)
                rw [t1]
                clear Hhit Hmis t1
                go_wp2_with (at_builtin; refine wpList_app rfl _ _ 35 rfl w.heap.size 40 2 16 T35 _ _ _ rfl (hown5.alloc _) w5.heap.size (edCells ((k : Int), (j : Int))) rfl rfl (Row.new _ _ _ _ (by simp)) (edCells_one _) (by omega) (by omega) (by simp; omega) ?_; intro v' w6 hown1 hgr1)
                go_roundw
                case rel =>
                  refine ⟨j + 1, by omega, by go_num, ?_, (hx1.alloc hs5 _).grown hgr1 (by simp; omega) (fun j hj => (hown5.lt j hj).1)⟩
                  rw [HH.out, ← List.append_assoc, List.length_append, Enc.all_snoc]
                  exact hown1
                case measure => simp [intOf]; omega
              · have HH := Lib.hid (Hmis.out t1)
                rw [t1]
                clear Hhit Hmis t1
                go_wp2_with fail
                go_roundw
                case rel =>
                  refine ⟨j + 1, by omega, by go_num, ?_, hx1⟩
                  rw [HH.out]
                  exact hown5
                case measure => simp [intOf]; omega
            · have hj' : j = l.length := by omega
              subst hj'
              go_wp2_with fail
              go_roundw
              case rel => exact ⟨k + 1, by omega, by go_num, hown, hb⟩
              case measure => simp [intOf]; omega
        · have hk' : k = l.length := by omega
          subst hk'
          go_wp2_with fail
          go_ret2
          exact ⟨_, rfl, lv_own hown, hb⟩
  · have hR : befR l = [] := if_neg hc
    rw [hR]
    obtain ⟨x, hx⟩ : ∃ x, chkH l = x := ⟨_, rfl⟩
    rw [hx] at n0 hc ⊢
    have hx1 : (x != 0) = true := by simpa using hc
    clear hx hc hR
    go_enter Tryd.func18, Tryd.ntmps18
    go_wp2_with fail
    refine n0.mono ?_
    rintro e w1 ⟨rfl, hb1⟩
    clear n0
    go_wp2_with fail
    go_ret2
    exact ⟨_, rfl, LV.nil_ _ _ _ _, hb1.alloc hb1.size _⟩
end Go.Proofs.YtgeclafcbgocgaaDoor

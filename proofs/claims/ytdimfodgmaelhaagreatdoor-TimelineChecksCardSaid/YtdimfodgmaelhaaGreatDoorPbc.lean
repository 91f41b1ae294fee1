/- A part of the proof. -/
import Derived.Test.YtdimfodgmaelhaaGreatDoorPba
import Derived.Test.YtdimfodgmaelhaaGreatDoorPbb
set_option linter.all false
set_option linter.all false
namespace Go.Proofs.Seat9
open Go.RowKit Go.Proofs.Seat4
theorem confQ_split (y x : Sp) : ((y.kind == x.kind) = false ∧ confQ y x = false) ∨ ((y.kind == x.kind) = true ∧ (((y.task == x.task) = false ∧ confQ y x = false) ∨ ((y.task == x.task) = true ∧ (((y.index == x.index) = false ∧ confQ y x = false) ∨ ((y.index == x.index) = true ∧
 ((overS y x = true ∧ confQ y x = true) ∨ (overS y x = false ∧ confQ y x = false))))))) := by
 unfold confQ sameK
 by_cases h1 : y.kind = x.kind <;> by_cases h2 : y.task = x.task <;> by_cases h3 : y.index = x.index <;> cases h4 : overS y x <;> simp_all
set_option maxRecDepth 100000 in
set_option maxHeartbeats 8000000 in
theorem rcheck8p (l : List Sp) (b off cap : Nat) (C : Int) (w : World) (hC : chkR confQ l l 0 = C) (hb : b < w.heap.size) (hl : l.length ≤ 1000000) (hrow : LAt SE w b off l) (hcap : l.length ≤ cap) :
 Calls Tryz.prog 8 #[.slice (some ⟨b, off, none⟩) l.length cap] w fun e w' => e = .returned (.int .i64 C) ∧ Below w.heap.size w w' := by
 have Hrow := Lib.hid hrow
 have HC := Lib.hid hC
 clear hrow hC
 go_enter Tryz.func8, Tryz.ntmps8
 go_wp2
 go_loopw [3] (fun v wr => ∃ k : Nat, k ≤ l.length ∧ v = .int .i64 k ∧ chkR confQ l (l.drop k) k = C ∧ Below w.heap.size w wr) (fun v _ => l.length - (intOf v).toNat)
 case atStart => exact ⟨0, Nat.zero_le _, rfl, by simpa using HC.out, Below.refl _ _⟩
 case round =>
  obtain ⟨k, hk, rfl, hchk, hbw⟩ := hrel
  by_cases hlt : k < l.length
  ·rw [chkR_at confQ l k hlt] at hchk
   have hr' : Row wr b (off + k * 7) (spCells l[k]) := (Hrow.out k hlt).below hbw hb
   generalize hM : l[k] = M at *
   have HM := Lib.hid hM
   have Hchk := Lib.hid hchk
   have hsz := hbw.size
   have Hbw := Lib.hid hbw
   have hva := fun W => valid29 M W
   have hck0 : validS M = false → C = 1 := fun h => by rw [← hchk]; unfold chk1; rw [if_pos h]; rfl
   have Hck0 := Lib.hid hck0
   generalize hVV : validS M = vv at *
   have HVV := Lib.hid hVV
   have Hva := Lib.hid hva
   clear hM hchk hbw hva hVV hck0
   rcases Bool.eq_false_or_eq_true vv with rfl | rfl
   rotate_left
   ·skip
    go_wp2_with (first
     | ((with_reducible refine wpList_load_agg (o := ⟨some 14, .load 46 (.tmp 13), _, _, _, none⟩) rfl 46 _ rfl b (off + k * 7) ?_ _ hr' _ Tryz.underlying46 rfl ?_ ?_); (focus rfl); (focus kernel_rfl); simp only [spCells])
     | (go_at_call 29; refine (Hva.out _).mono ?_; rintro e w1 ⟨rfl, hb1⟩))
    go_ret
    exact ⟨by rw [Hck0.out (by trivial)]; rfl, Hbw.out.trans (below_mono hb1 hsz)⟩
   ·skip
    go_wp2_with (first
     | ((with_reducible refine wpList_load_agg (o := ⟨some 14, .load 46 (.tmp 13), _, _, _, none⟩) rfl 46 _ rfl b (off + k * 7) ?_ _ hr' _ Tryz.underlying46 rfl ?_ ?_); (focus rfl); (focus kernel_rfl); simp only [spCells])
     | (go_at_call 29; refine (Hva.out _).mono ?_; rintro e w1 ⟨rfl, hb1⟩))
    have hb2 : Below w.heap.size w w1 := Hbw.out.trans (below_mono hb1 hsz)
    have Hb2 := Lib.hid hb2
    have hb1z : b < w1.heap.size := Nat.lt_of_lt_of_le hb hb2.size
    clear hb2 hb1 hr' Hck0 Hva
    have fin : ∀ (wx : World), Below w1.heap.size w1 wx → Below w.heap.size w wx := fun wx h => Hb2.out.trans (below_mono h Hb2.out.size)
    have Fin := Lib.hid fin
    clear fin
    rcases Nat.eq_zero_or_pos k with rfl | hk0
    ·refine wp_region_det (by kernel_rfl) (by kernel_rfl) (fun wx => Below w1.heap.size w1 wx) ((Below.refl _ _).drew) ?_
     iterate 15
      apply wpDet_cons
      ·intro wx hx
       go_wp2_with fail
       exact ⟨rfl, rfl, hx⟩
      go_frame
     intro w3 hx
     have hb3 := Fin.out w3 hx
     have Hb3 := Lib.hid hb3
     clear hx hb3
     go_wp2_with fail
     refine wp_loop_rounds 1 ?_
     rw [rounds_succ]
     go_wp2_with fail
     have hz : chk1 confQ l 0 M = 0 := by unfold chk1; rw [HVV.out]; simp
     have h9 := Hchk.out
     rw [if_pos hz] at h9
     go_roundw
     case rel => exact ⟨0 + 1, by omega, by go_num, h9, Hb3.out⟩
     case measure => simp [intOf]; omega
    ·obtain ⟨k', rfl⟩ : ∃ k', k = k' + 1 := ⟨k - 1, by omega⟩
     have hp : Row w1 b (off + k' * 7) (spCells (l[k']'(by omega))) := ((Hrow.out k' (by omega)).below Hb2.out hb)
     have hq : Row w1 b (off + (k' + 1) * 7) (spCells M) := by
      have h := (Hrow.out (k' + 1) hlt).below Hb2.out hb
      rwa [HM.out] at h
     have hP : l.getD (k' + 1 - 1) default = l[k']'(by omega) := by simp [List.getD_eq_getElem?_getD, show k' < l.length from by omega]
     generalize hPP : (l[k']'(by omega)) = P at hp hP
     have HP := Lib.hid hP
     have Hp := Lib.hid hp
     have Hq := Lib.hid hq
     clear hP hp hq hPP
     have i1 : (k' : Int) < (l.length : Int) := by omega
     have h0 : (0 : Int) < (k' : Int) + 1 := by omega
     have i2 : (k' : Int) + 1 < (l.length : Int) := by omega
     have hle := fun W => less30 P M W
     rcases Bool.eq_false_or_eq_true (lessS P M) with hq | hq
     rotate_left
     ·rw [hq] at hle
      have Hle := Lib.hid hle
      have h91 : C = 9 := by
       have hz : chk1 confQ l (k' + 1) M = 9 := by unfold chk1; rw [HVV.out, HP.out, hq]; simp
       have h := Hchk.out
       rw [hz, if_neg (by decide)] at h
       exact h.symm
      have H91 := Lib.hid h91
      clear h91 hle hq
      refine wp_region_det (by kernel_rfl) (by kernel_rfl) (fun wx => Below w1.heap.size w1 wx) ((Below.refl _ _).drew) ?_
      iterate 15
       apply wpDet_cons
       ·intro wx hx
        have gP := Hp.out.below hx hb1z
        have gM := Hq.out.below hx hb1z
        simp only [spCells] at gP gM
        first
         | ((with_reducible refine wpList_load_aggW (o := ⟨some 24, .load 46 (.tmp 23), _, _, _, _⟩) ?_ 46 _ rfl b (off + k' * 7) ?_ _ gP _ Tryz.underlying46 rfl ?_ ?_); (focus rfl); (focus rfl); (focus kernel_rfl); exact ⟨rfl, rfl, hx⟩)
         | ((with_reducible refine wpList_load_aggW (o := ⟨some 28, .load 46 (.tmp 27), _, _, _, _⟩) ?_ 46 _ rfl b (off + (k' + 1) * 7) ?_ _ gM _ Tryz.underlying46 rfl ?_ ?_); (focus rfl); (focus rfl); (focus kernel_rfl); exact ⟨rfl, rfl, hx⟩)
         | (go_wp2_with (go_at_call 30; refine (Hle.out _).mono ?_; rintro e w' ⟨rfl, hbk⟩)
            first
             | exact ⟨rfl, rfl, hx⟩
             | exact ⟨rfl, rfl, hx.trans (below_mono hbk hx.size)⟩)
       go_frame
      intro w3 hx
      have hb3 := Fin.out w3 hx
      have Hb3 := Lib.hid hb3
      clear hx hb3
      go_wp2_with fail
      go_ret
      exact ⟨by rw [H91.out]; rfl, Hb3.out⟩
     ·rw [hq] at hle
      have Hle := Lib.hid hle
      have Hlt2 := Lib.hid hq
      clear hle hq
      refine wp_region_det (by kernel_rfl) (by kernel_rfl) (fun wx => Below w1.heap.size w1 wx) ((Below.refl _ _).drew) ?_
      iterate 15
       apply wpDet_cons
       ·intro wx hx
        have gP := Hp.out.below hx hb1z
        have gM := Hq.out.below hx hb1z
        simp only [spCells] at gP gM
        first
         | ((with_reducible refine wpList_load_aggW (o := ⟨some 24, .load 46 (.tmp 23), _, _, _, _⟩) ?_ 46 _ rfl b (off + k' * 7) ?_ _ gP _ Tryz.underlying46 rfl ?_ ?_); (focus rfl); (focus rfl); (focus kernel_rfl); exact ⟨rfl, rfl, hx⟩)
         | ((with_reducible refine wpList_load_aggW (o := ⟨some 28, .load 46 (.tmp 27), _, _, _, _⟩) ?_ 46 _ rfl b (off + (k' + 1) * 7) ?_ _ gM _ Tryz.underlying46 rfl ?_ ?_); (focus rfl); (focus rfl); (focus kernel_rfl); exact ⟨rfl, rfl, hx⟩)
         | (go_wp2_with (go_at_call 30; refine (Hle.out _).mono ?_; rintro e w' ⟨rfl, hbk⟩)
            first
             | exact ⟨rfl, rfl, hx⟩
             | exact ⟨rfl, rfl, hx.trans (below_mono hbk hx.size)⟩)
       go_frame
      intro w3 hx
      have hb3 := Fin.out w3 hx
      have rM3 := Hq.out.below hx hb1z
      have rows3 : LAt SE w3 b off l := fun j hj => ((Hrow.out j hj).below hb3 hb)
      have Hb3 := Lib.hid hb3
      have RM3 := Lib.hid rM3
      have Rows3 := Lib.hid rows3
      have hb3z : b < w3.heap.size := Nat.lt_of_lt_of_le hb1z hx.size
      clear hx hb3 rM3 rows3
      go_wp2_with fail
      have hNo : (l.take (k' + 1)).any (fun y => confQ y M) = false → chkR confQ l (l.drop (k' + 1 + 1)) (k' + 1 + 1) = C := fun hn => by
       have hz : chk1 confQ l (k' + 1) M = 0 := by unfold chk1; rw [HVV.out, HP.out, Hlt2.out, hn]; simp
       have h := Hchk.out
       rwa [if_pos hz] at h
      have hYes : (l.take (k' + 1)).any (fun y => confQ y M) = true → C = 16 := fun hn => by
       have hz : chk1 confQ l (k' + 1) M = 16 := by unfold chk1; rw [HVV.out, HP.out, Hlt2.out, hn]; simp
       have h := Hchk.out
       rw [hz, if_neg (by decide)] at h
       exact h.symm
      obtain ⟨NoP, hNoP⟩ : ∃ NoP : Prop, NoP = ((l.take (k' + 1)).any (fun y => confQ y M) = false → chkR confQ l (l.drop (k' + 1 + 1)) (k' + 1 + 1) = C) := ⟨_, rfl⟩
      obtain ⟨YesP, hYesP⟩ : ∃ YesP : Prop, YesP = ((l.take (k' + 1)).any (fun y => confQ y M) = true → C = 16) := ⟨_, rfl⟩
      rw [← hNoP] at hNo
      rw [← hYesP] at hYes
      have HNoP := Lib.hid hNoP
      have HYesP := Lib.hid hYesP
      have HNo := Lib.hid hNo
      have HYes := Lib.hid hYes
      clear hNo hYes hNoP hYesP HP Hp Hq Hchk HVV Hlt2 Hle h0 i1
      have hkc : ((k' : Int) + 1) = ((k' + 1 : Nat) : Int) := by omega
      rw [hkc] at i2
      clear hkc
      generalize hKK : k' + 1 = K at *
      have HKK := Lib.hid hKK
      clear hKK
      go_loopw [4] (fun v wq => ∃ j : Nat, j ≤ K ∧ v = .int .i64 j ∧ (l.take j).any (fun y => confQ y M) = false ∧ Below w3.heap.size w3 wq) (fun v _ => K - (intOf v).toNat)
      case atStart => exact ⟨0, Nat.zero_le _, rfl, by simp, Below.refl _ _⟩
      case round =>
       obtain ⟨j, hj, rfl, hany, hbq⟩ := hrel
       by_cases hjk : j < K
       ·have hjl : j < l.length := by omega
        have hy : Row wr b (off + j * 7) (spCells l[j]) := (Rows3.out j hjl).below hbq hb3z
        have rMq := RM3.out.below hbq hb3z
        have hsn := any_snoc l j hjl (fun y => confQ y M)
        have hup := any_upto l j (K) hjl hjk (fun y => confQ y M)
        rw [hany, Bool.false_or] at hsn
        generalize hY : l[j] = Y at *
        have hsq := hbq.size
        have hbz : b < wr.heap.size := Nat.lt_of_lt_of_le hb3z hsq
        have Hy := Lib.hid hy
        have RMq := Lib.hid rMq
        have HY := Lib.hid hY
        have Hsn := Lib.hid hsn
        obtain ⟨UpP, hUpP⟩ : ∃ UpP : Prop, UpP = (confQ Y M = true → (l.take (K)).any (fun y => confQ y M) = true) := ⟨_, rfl⟩
        change (confQ Y M = true → (l.take (K)).any (fun y => confQ y M) = true) at hup
        rw [← hUpP] at hup
        have HUpP := Lib.hid hUpP
        have Hup := Lib.hid hup
        have Hbq := Lib.hid hbq
        clear hY hsn hup hbq rMq hUpP hy hany
        have hgo : confQ Y M = false → (l.take (j + 1)).any (fun y => confQ y M) = false := fun h => by rw [Hsn.out]; exact h
        have hstop : confQ Y M = true → C = 16 := fun h => by
         have h1 := Hup.out
         rw [HUpP.out] at h1
         have h2 := HYes.out
         rw [HYesP.out] at h2
         exact h2 (h1 h)
        rcases confQ_split Y M with ⟨c1, hc⟩ | ⟨c1, ⟨c2, hc⟩ | ⟨c2, ⟨c3, hc⟩ | ⟨c3, ⟨c4, hc⟩ | ⟨c4, hc⟩⟩⟩⟩
        iterate 3
         ·have G := Lib.hid (hgo hc)
          clear hgo hstop hc Hsn HUpP Hup
          go_wp2_with fail
          refine wp_region_det (by kernel_rfl) (by kernel_rfl) (fun wx => Below wr.heap.size wr wx) ((Below.refl _ _).drew) ?_
          iterate 48
           apply wpDet_cons
           ·intro wx hx
            have gY := Hy.out.below hx hbz
            have gM := RMq.out.below hx hbz
            have y0 : wx.cell? ⟨b, off + j * 7, none⟩ = some (.int .i64 Y.kind) := by simpa using gY 0 _ rfl
            have y1 : wx.cell? ⟨b, off + j * 7 + 1, none⟩ = some (.int .i64 Y.task) := by simpa using gY 1 _ rfl
            have y2 : wx.cell? ⟨b, off + j * 7 + 2, none⟩ = some (.int .i64 Y.index) := by simpa using gY 2 _ rfl
            have m0 : wx.cell? ⟨b, off + K * 7, none⟩ = some (.int .i64 M.kind) := by simpa using gM 0 _ rfl
            have m1 : wx.cell? ⟨b, off + K * 7 + 1, none⟩ = some (.int .i64 M.task) := by simpa using gM 1 _ rfl
            have m2 : wx.cell? ⟨b, off + K * 7 + 2, none⟩ = some (.int .i64 M.index) := by simpa using gM 2 _ rfl
            simp only [spCells] at gY gM
            first
            | (go_wp2_with fail
               exact ⟨rfl, rfl, hx⟩)
           go_frame
          intro w5 hx5
          have hbe : Below w3.heap.size w3 w5 := Hbq.out.trans (below_mono hx5 hsq)
          have Hbe := Lib.hid hbe
          clear hx5 hbe
          go_wp2_with fail
          go_roundw
          case rel => exact ⟨j + 1, by omega, by go_num, G.out, Hbe.out⟩
          case measure => simp [intOf]; omega
        ·have G := Lib.hid (hstop hc)
         have k4 := fun W => overlap31 Y M W
         rw [c4] at k4
         have K4 := Lib.hid k4
         clear k4 c4
         clear hgo hstop hc Hsn HUpP Hup
         go_wp2_with fail
         refine wp_region_det (by kernel_rfl) (by kernel_rfl) (fun wx => Below wr.heap.size wr wx) ((Below.refl _ _).drew) ?_
         iterate 48
          apply wpDet_cons
          ·intro wx hx
           have gY := Hy.out.below hx hbz
           have gM := RMq.out.below hx hbz
           have y0 : wx.cell? ⟨b, off + j * 7, none⟩ = some (.int .i64 Y.kind) := by simpa using gY 0 _ rfl
           have y1 : wx.cell? ⟨b, off + j * 7 + 1, none⟩ = some (.int .i64 Y.task) := by simpa using gY 1 _ rfl
           have y2 : wx.cell? ⟨b, off + j * 7 + 2, none⟩ = some (.int .i64 Y.index) := by simpa using gY 2 _ rfl
           have m0 : wx.cell? ⟨b, off + K * 7, none⟩ = some (.int .i64 M.kind) := by simpa using gM 0 _ rfl
           have m1 : wx.cell? ⟨b, off + K * 7 + 1, none⟩ = some (.int .i64 M.task) := by simpa using gM 1 _ rfl
           have m2 : wx.cell? ⟨b, off + K * 7 + 2, none⟩ = some (.int .i64 M.index) := by simpa using gM 2 _ rfl
           simp only [spCells] at gY gM
           first
           | ((with_reducible refine wpList_load_aggW (o := ⟨some 78, .load 46 (.tmp 77), _, _, _, _⟩) ?_ 46 _ rfl b (off + j * 7) ?_ _ gY _ Tryz.underlying46 rfl ?_ ?_); (focus rfl); (focus rfl); (focus kernel_rfl); exact ⟨rfl, rfl, hx⟩)
           | ((with_reducible refine wpList_load_aggW (o := ⟨some 82, .load 46 (.tmp 81), _, _, _, _⟩) ?_ 46 _ rfl b (off + K * 7) ?_ _ gM _ Tryz.underlying46 rfl ?_ ?_); (focus rfl); (focus rfl); (focus kernel_rfl); exact ⟨rfl, rfl, hx⟩)
           | (go_wp2_with (go_at_call 31; refine (K4.out _).mono ?_; rintro e w5 ⟨rfl, hb5⟩)
              first
               | exact ⟨rfl, rfl, hx⟩
               | exact ⟨rfl, rfl, hx.trans (below_mono hb5 hx.size)⟩)
          go_frame
         intro w5 hx5
         have hbe : Below w3.heap.size w3 w5 := Hbq.out.trans (below_mono hx5 hsq)
         have Hbe := Lib.hid hbe
         clear hx5 hbe
         go_wp2_with fail
         go_ret
         exact ⟨by rw [G.out]; rfl, Hb3.out.trans (below_mono Hbe.out Hb3.out.size)⟩
        ·have G := Lib.hid (hgo hc)
         have k4 := fun W => overlap31 Y M W
         rw [c4] at k4
         have K4 := Lib.hid k4
         clear k4 c4
         clear hgo hstop hc Hsn HUpP Hup
         go_wp2_with fail
         refine wp_region_det (by kernel_rfl) (by kernel_rfl) (fun wx => Below wr.heap.size wr wx) ((Below.refl _ _).drew) ?_
         iterate 48
          apply wpDet_cons
          ·intro wx hx
           have gY := Hy.out.below hx hbz
           have gM := RMq.out.below hx hbz
           have y0 : wx.cell? ⟨b, off + j * 7, none⟩ = some (.int .i64 Y.kind) := by simpa using gY 0 _ rfl
           have y1 : wx.cell? ⟨b, off + j * 7 + 1, none⟩ = some (.int .i64 Y.task) := by simpa using gY 1 _ rfl
           have y2 : wx.cell? ⟨b, off + j * 7 + 2, none⟩ = some (.int .i64 Y.index) := by simpa using gY 2 _ rfl
           have m0 : wx.cell? ⟨b, off + K * 7, none⟩ = some (.int .i64 M.kind) := by simpa using gM 0 _ rfl
           have m1 : wx.cell? ⟨b, off + K * 7 + 1, none⟩ = some (.int .i64 M.task) := by simpa using gM 1 _ rfl
           have m2 : wx.cell? ⟨b, off + K * 7 + 2, none⟩ = some (.int .i64 M.index) := by simpa using gM 2 _ rfl
           simp only [spCells] at gY gM
           first
           | ((with_reducible refine wpList_load_aggW (o := ⟨some 78, .load 46 (.tmp 77), _, _, _, _⟩) ?_ 46 _ rfl b (off + j * 7) ?_ _ gY _ Tryz.underlying46 rfl ?_ ?_); (focus rfl); (focus rfl); (focus kernel_rfl); exact ⟨rfl, rfl, hx⟩)
           | ((with_reducible refine wpList_load_aggW (o := ⟨some 82, .load 46 (.tmp 81), _, _, _, _⟩) ?_ 46 _ rfl b (off + K * 7) ?_ _ gM _ Tryz.underlying46 rfl ?_ ?_); (focus rfl); (focus rfl); (focus kernel_rfl); exact ⟨rfl, rfl, hx⟩)
           | (go_wp2_with (go_at_call 31; refine (K4.out _).mono ?_; rintro e w5 ⟨rfl, hb5⟩)
              first
               | exact ⟨rfl, rfl, hx⟩
               | exact ⟨rfl, rfl, hx.trans (below_mono hb5 hx.size)⟩)
          go_frame
         intro w5 hx5
         have hbe : Below w3.heap.size w3 w5 := Hbq.out.trans (below_mono hx5 hsq)
         have Hbe := Lib.hid hbe
         clear hx5 hbe
         go_wp2_with fail
         go_roundw
         case rel => exact ⟨j + 1, by omega, by go_num, G.out, Hbe.out⟩
         case measure => simp [intOf]; omega
       ·have hjK : j = K := by omega
        rw [hjK] at hany
        clear hjK
        have h2 := HNo.out
        rw [HNoP.out] at h2
        have h9 := h2 hany
        have H9 := Lib.hid h9
        have hb9 := Hb3.out.trans (below_mono hbq Hb3.out.size)
        have HB9 := Lib.hid hb9
        clear h9 h2 hany hbq hb9
        go_wp2_with fail
        go_roundw
        case rel => exact ⟨K + 1, by omega, by go_num, H9.out, HB9.out⟩
        case measure =>
         have hkk := HKK.out
         simp [intOf]
         omega
  ·have hk' : k = l.length := by omega
   have hz2' : C = 0 := by rw [← hchk, hk', List.drop_length]; rfl
   have Hz2 := Lib.hid hz2'
   have Hbw := Lib.hid hbw
   clear hz2' hchk hbw
   go_wp2_with fail
   go_ret
   exact ⟨by rw [Hz2.out]; rfl, Hbw.out⟩
set_option maxRecDepth 100000 in
set_option maxHeartbeats 1000000 in
theorem rcheck8e (A : Option Addr) (c : Nat) (w : World) : Calls Tryz.prog 8 #[.slice A 0 c] w fun e w' => e = .returned (.int .i64 0) ∧ Below w.heap.size w w' := by
 go_enter Tryz.func8, Tryz.ntmps8
 go_wp2
 go_loopw [3] (fun v wr => v = .int .i64 0 ∧ w = wr) (fun _ _ => 0)
 case atStart => exact ⟨rfl, rfl⟩
 case round =>
  obtain ⟨rfl, rfl⟩ := hrel
  go_wp2
  go_ret
  exact ⟨rfl, Below.refl _ _⟩
theorem rcheck8 (l : List Sp) (v : Value) (w : World) (hv : SpV w v l) (hl : l.length ≤ 1000000) : Calls Tryz.prog 8 #[v] w fun e w' => e = .returned (.int .i64 (chk l)) ∧ Below w.heap.size w w' := by
 rcases hv.split with ⟨A, c, rfl, rfl⟩ | ⟨b, off, cap, rfl, hc, hb, hr⟩
 ·exact rcheck8e A c w
 ·exact rcheck8p l b off cap (chk l) w (chk_same l) hb hl hr hc
end Go.Proofs.Seat9

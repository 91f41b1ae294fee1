/- A part of the proof. -/
import Derived.Test.YtnpljilhnnkbaaaGreatDoorPbh
import Derived.Deep.Cut
import Derived.Test.YtnpljilhnnkbaaaGreatDoorPbg
import Derived.Test.YtnpljilhnnkbaaaGreatDoorPbf
import Derived.OrdersIn
import Derived.RangeFuncCalls
import Derived.TacticsInMore
import Derived.CallsIn
import Derived.RangeFuncNested
import Derived.RangeFuncBound
import Derived.RangeFuncLeaves
import Derived.Shelf.Abstract
import Derived.Shelf.RegionOpen
import Derived.WalkKit
import Derived.OwnWalkIn
import Derived.LoopNIn
import Derived.LoopIn
set_option linter.all false
section
namespace Go.Proofs.Seat8
open Go.RowKit Go.Proofs.Seat4
set_option maxRecDepth 100000 in
set_option maxHeartbeats 1000000 in
theorem rcheck10 (l : List Mt) (b off cap : Nat) (w : World) (hb : b < w.heap.size) (hl : l.length ≤ 500) (hrow : LAt ME w b off l) :
    Calls Tryz.prog 15 #[.slice (some ⟨b, off, none⟩) l.length cap] w fun e w' => e = .returned (.int .i64 (chkR l l 0)) ∧ Below w.heap.size w w' := by
  have Hrow := Lib.hid hrow
  clear hrow
  have hl2 : ((500 : Int) < (l.length : Int)) = False := by simp; omega
  go_enter Tryz.func15, Tryz.ntmps15
  go_wp2
  go_loopw [3] (fun v wr => ∃ k : Nat, k ≤ l.length ∧ v = .int .i64 k ∧ chkR l (l.drop k) k = chkR l l 0 ∧ Below w.heap.size w wr) (fun v _ => l.length - (intOf v).toNat)
  case atStart => exact ⟨0, Nat.zero_le _, rfl, by simp, Below.refl _ _⟩
  case round =>
    obtain ⟨k, hk, rfl, hchk, hbw⟩ := hrel
    by_cases hlt : k < l.length
    · rw [chkR_at l k hlt] at hchk
      have hr : Row w b (off + k * 5) (mtCells l[k]) := Hrow.out k hlt
      have hr' : Row wr b (off + k * 5) (mtCells l[k]) := hr.below hbw hb
      generalize hM : l[k] = M at *
      have HM := Lib.hid hM
      have Hchk := Lib.hid hchk
      have hsz := hbw.size
      have Hbw := Lib.hid hbw
      clear hM hchk hr hbw
      go_upto_region 7 with ((with_reducible refine wpList_load_agg (o := ⟨some 17, .load 34 (.tmp 16), _, _, _, none⟩) rfl 34 _ rfl b (off + k * 5) ?_ _ hr' _ Tryz.underlying34 rfl ?_ ?_); (focus rfl); (focus kernel_rfl); simp only [mtCells])
      obtain ⟨W1, hW1⟩ : ∃ W1, W1 = wr.alloc (.cells #[.string ⟨M.name.toArray⟩, .int .i64 M.index, .int .i64 M.count, .int .i64 M.sum, .int .i64 M.mx] 34) := ⟨_, rfl⟩
      rw [← hW1]
      have cM : Row W1 wr.heap.size 0 (mtCells M) := by rw [hW1]; exact Row.new wr #[.string ⟨M.name.toArray⟩, .int .i64 M.index, .int .i64 M.count, .int .i64 M.sum, .int .i64 M.mx] 34 _ rfl
      have hb1 : Below w.heap.size w W1 := by rw [hW1]; exact Hbw.out.alloc hsz _
      have hz1 : W1.heap.size = wr.heap.size + 1 := by rw [hW1]; simp
      generalize hB : wr.heap.size = B at *
      have Hb1 := Lib.hid hb1
      have CM := Lib.hid cM
      have HB := Lib.hid hB
      clear hW1 hb1 hr' hB
      have f0 : W1.cell? ⟨B, 0, none⟩ = some (.string ⟨M.name.toArray⟩) := by simpa using cM 0 _ rfl
      have f1 : W1.cell? ⟨B, 1, none⟩ = some (.int .i64 M.index) := by simpa using cM 1 _ rfl
      have f2 : W1.cell? ⟨B, 2, none⟩ = some (.int .i64 M.count) := by simpa using cM 2 _ rfl
      have f3 : W1.cell? ⟨B, 3, none⟩ = some (.int .i64 M.sum) := by simpa using cM 3 _ rfl
      have f4 : W1.cell? ⟨B, 4, none⟩ = some (.int .i64 M.mx) := by simpa using cM 4 _ rfl
      have hbig : b < W1.heap.size := by omega
      have hBB := Lib.hid (show B < W1.heap.size by omega)
      clear cM
      have h21 := isName21 M.name
      rcases Bool.eq_false_or_eq_true (nmL.contains M.name) with hn | hn
      · rw [hn] at h21
        have H21 := Lib.hid h21
        clear h21
        rcases Bool.eq_false_or_eq_true (rngB M) with hg | hg
        · obtain ⟨⟨q1, q2⟩, ⟨q3, q4⟩, ⟨q5, q6⟩, q7, q8⟩ : (-1 ≤ M.index ∧ M.index ≤ 1099511627776) ∧ (1 ≤ M.count ∧ M.count ≤ 1099511627776) ∧ (-1152921504606846976 ≤ M.sum ∧ M.sum ≤ 1152921504606846976) ∧ (-1099511627776 ≤ M.mx ∧ M.mx ≤ 1099511627776) := by
            unfold rngB wi at hg
            simp only [Bool.and_eq_true, decide_eq_true_eq] at hg
            exact ⟨hg.1.1.1, hg.1.1.2, hg.1.2, hg.2⟩
          rcases Nat.eq_zero_or_pos k with rfl | hk0
          · have hz : chk1 l 0 M = 0 := by unfold chk1; rw [hn, hg]; simp
            have Hz := Lib.hid hz
            clear hz
            go_upto_region 11 with (go_at_call 36; refine (H21.out _).mono ?_; rintro e w' ⟨rfl, rfl⟩)
            refine wp_region_det (by kernel_rfl) (by kernel_rfl) (fun wx => Below W1.heap.size W1 wx) ((Below.refl _ _).drew) ?_
            iterate 12
              apply wpDet_cons
              · intro wx hx
                go_wp2_with fail
                exact ⟨rfl, rfl, hx⟩
              go_frame
            intro w3 hx
            have hb3 : Below w.heap.size w w3 := Hb1.out.trans (below_mono hx Hb1.out.size)
            clear hx
            go_wp2_with fail
            go_roundw
            case rel => exact ⟨0 + 1, by omega, by go_num, by have h := Hchk.out; rwa [if_pos Hz.out] at h, hb3⟩
            case measure => simp [intOf]; omega
          · obtain ⟨k', rfl⟩ : ∃ k', k = k' + 1 := ⟨k - 1, by omega⟩
            have hp : Row W1 b (off + k' * 5) (mtCells (l[k']'(by omega))) := (Hrow.out k' (by omega)).below Hb1.out hb
            have hP : l.getD (k' + 1 - 1) default = l[k']'(by omega) := by simp [List.getD_eq_getElem?_getD, show k' < l.length from by omega]
            generalize hPP : (l[k']'(by omega)) = P at hp hP
            have HP := Lib.hid hP
            have Hp := Lib.hid hp
            clear hP hp hPP
            have i1 : (k' : Int) < (l.length : Int) := by omega
            have h0 : (0 : Int) < (k' : Int) + 1 := by omega
            rcases Bool.eq_false_or_eq_true (lessM P M) with hc0 | hc0
            · have hless := less20 P M
              rw [hc0] at hless
              have Hless := Lib.hid hless
              have hz : chk1 l (k' + 1) M = 0 := by unfold chk1; rw [hn, hg, HP.out, if_neg (by simp), if_neg (by simp), if_neg (by rw [lessM_iff] at hc0; have := (cfM_neg P M).2 hc0; omega)]
              have Hz := Lib.hid hz
              clear hz hless
              go_upto_region 11 with (go_at_call 36; refine (H21.out _).mono ?_; rintro e w' ⟨rfl, rfl⟩)
              refine wp_region_det (by kernel_rfl) (by kernel_rfl) (fun wx => Below W1.heap.size W1 wx) ((Below.refl _ _).drew) ?_
              iterate 12
                apply wpDet_cons
                · intro wx hx
                  have gP := Hp.out.below hx hbig
                  have gM := CM.out.below hx hBB.out
                  simp only [mtCells] at gP gM
                  first
                    | ((with_reducible refine wpList_load_aggW (o := ⟨some 67, .load 34 (.tmp 66), _, _, _, _⟩) ?_ 34 _ rfl b (off + k' * 5) ?_ _ gP _ Tryz.underlying34 rfl ?_ ?_); (focus rfl); (focus rfl); (focus kernel_rfl); exact ⟨rfl, rfl, hx⟩)
                    | ((with_reducible refine wpList_load_aggW (o := ⟨some 68, .load 34 (.tmp 4), _, _, _, _⟩) ?_ 34 _ rfl B 0 ?_ _ gM _ Tryz.underlying34 rfl ?_ ?_); (focus rfl); (focus rfl); (focus kernel_rfl); exact ⟨rfl, rfl, hx⟩)
                    | (go_wp2_with (go_at_call 37; refine (Hless.out _).mono ?_; rintro e w' ⟨rfl, hbk⟩)
                       first
                         | exact ⟨rfl, rfl, hx⟩
                         | exact ⟨rfl, rfl, hx.trans (below_mono hbk hx.size)⟩)
                go_frame
              intro w3 hx
              have hb3 : Below w.heap.size w w3 := Hb1.out.trans (below_mono hx Hb1.out.size)
              clear hx
              go_wp2_with fail
              go_roundw
              case rel => exact ⟨k' + 1 + 1, by omega, by go_num, by have h := Hchk.out; rwa [if_pos Hz.out] at h, hb3⟩
              case measure => simp [intOf]; omega
            · have hless := less20 P M
              rw [hc0] at hless
              have Hless := Lib.hid hless
              have hz : chk1 l (k' + 1) M = 9 := by
                unfold chk1
                rw [hn, hg, HP.out, if_neg (by simp), if_neg (by simp)]
                refine if_pos ⟨by omega, ?_⟩
                apply Int.not_lt.1
                intro h
                have := (lessM_iff P M).2 ((cfM_neg P M).1 h)
                rw [hc0] at this
                cases this
              have hz2 : chkR l l 0 = 9 := by have h := Hchk.out; rw [hz, if_neg (by decide)] at h; exact h.symm
              have Hz2 := Lib.hid hz2
              clear hz hz2 hless
              go_upto_region 11 with (go_at_call 36; refine (H21.out _).mono ?_; rintro e w' ⟨rfl, rfl⟩)
              refine wp_region_det (by kernel_rfl) (by kernel_rfl) (fun wx => Below W1.heap.size W1 wx) ((Below.refl _ _).drew) ?_
              iterate 12
                apply wpDet_cons
                · intro wx hx
                  have gP := Hp.out.below hx hbig
                  have gM := CM.out.below hx hBB.out
                  simp only [mtCells] at gP gM
                  first
                    | ((with_reducible refine wpList_load_aggW (o := ⟨some 67, .load 34 (.tmp 66), _, _, _, _⟩) ?_ 34 _ rfl b (off + k' * 5) ?_ _ gP _ Tryz.underlying34 rfl ?_ ?_); (focus rfl); (focus rfl); (focus kernel_rfl); exact ⟨rfl, rfl, hx⟩)
                    | ((with_reducible refine wpList_load_aggW (o := ⟨some 68, .load 34 (.tmp 4), _, _, _, _⟩) ?_ 34 _ rfl B 0 ?_ _ gM _ Tryz.underlying34 rfl ?_ ?_); (focus rfl); (focus rfl); (focus kernel_rfl); exact ⟨rfl, rfl, hx⟩)
                    | (go_wp2_with (go_at_call 37; refine (Hless.out _).mono ?_; rintro e w' ⟨rfl, hbk⟩)
                       first
                         | exact ⟨rfl, rfl, hx⟩
                         | exact ⟨rfl, rfl, hx.trans (below_mono hbk hx.size)⟩)
                go_frame
              intro w3 hx
              have hb3 : Below w.heap.size w w3 := Hb1.out.trans (below_mono hx Hb1.out.size)
              clear hx
              go_wp2_with fail
              go_ret
              exact ⟨by rw [Hz2.out]; rfl, hb3⟩
        · have hz : chk1 l k M = 2 := by unfold chk1; rw [hn, hg]; simp
          have hz2' : chkR l l 0 = 2 := by have h := Hchk.out; rw [hz, if_neg (by decide)] at h; exact h.symm
          have Hz2 := Lib.hid hz2'
          have hbad : ¬ ((-1 ≤ M.index ∧ M.index ≤ 1099511627776) ∧ (1 ≤ M.count ∧ M.count ≤ 1099511627776) ∧ (-1152921504606846976 ≤ M.sum ∧ M.sum ≤ 1152921504606846976) ∧ (-1099511627776 ≤ M.mx ∧ M.mx ≤ 1099511627776)) := by
            intro h
            have : rngB M = true := by
              unfold rngB wi
              simp only [Bool.and_eq_true, decide_eq_true_eq]
              exact ⟨⟨⟨h.1, h.2.1⟩, h.2.2.1⟩, h.2.2.2⟩
            rw [hg] at this
            cases this
          have Hbad := Lib.hid hbad
          clear hz hz2' hg hbad
          go_wp2_with (go_at_call 36; refine (H21.out _).mono ?_; rintro e w' ⟨rfl, rfl⟩)
          all_goals first
            | (go_ret; exact ⟨by rw [Hz2.out]; rfl, Hb1.out⟩)
            | (exfalso; have := Hbad.out; omega)
      · rw [hn] at h21
        have H21 := Lib.hid h21
        clear h21
        have hz : chk1 l k M = 5 := by unfold chk1; rw [hn]; simp
        have hz2' : chkR l l 0 = 5 := by have h := Hchk.out; rw [hz, if_neg (by decide)] at h; exact h.symm
        have Hz2 := Lib.hid hz2'
        clear hz hz2'
        go_wp2_with (go_at_call 36; refine (H21.out _).mono ?_; rintro e w' ⟨rfl, rfl⟩)
        go_ret
        exact ⟨by rw [Hz2.out]; rfl, Hb1.out⟩
    · have hk' : k = l.length := by have := hk; omega
      have hz2' : chkR l l 0 = 0 := by rw [← hchk, hk', List.drop_length]; rfl
      have Hz2 := Lib.hid hz2'
      have Hbw := Lib.hid hbw
      clear hz2' hchk hbw
      go_wp2_with fail
      go_ret
      exact ⟨by rw [Hz2.out]; rfl, Hbw.out⟩
end Go.Proofs.Seat8
end
section
namespace Go.Proofs.Seat8
open Go.RowKit Go.Proofs.Seat4
set_option maxRecDepth 100000 in
theorem rcheck_big (A : Option Addr) (n cap : Nat) (hn : 500 < n) (w : World) : Calls Tryz.prog 15 #[.slice A n cap] w fun e w' => e = .returned (.int .i64 4) ∧ w' = w := by
  have h : (500 : Int) < (n : Int) := by omega
  go_enter Tryz.func15, Tryz.ntmps15
  go_wp2_with fail
  go_ret
  exact ⟨rfl, rfl⟩
set_option maxRecDepth 100000 in
theorem rcheck_nil (A : Option Addr) (cap : Nat) (w : World) : Calls Tryz.prog 15 #[.slice A 0 cap] w fun e w' => e = .returned (.int .i64 0) ∧ w' = w := by
  go_enter Tryz.func15, Tryz.ntmps15
  go_wp2
  refine wp_loop_rounds 1 ?_
  rw [rounds_succ]
  go_wp2_with fail
  go_ret
  exact ⟨rfl, rfl⟩
theorem rcheck (l : List Mt) (v : Value) (w : World) (hv : MtV w v l) : Calls Tryz.prog 15 #[v] w fun e w' => e = .returned (.int .i64 (chk l)) ∧ Below w.heap.size w w' := by
  by_cases hb : 500 < l.length
  · obtain ⟨A, c, rfl, _, _⟩ := hv
    refine (rcheck_big A _ c hb w).mono fun e w' ⟨h1, h2⟩ => ⟨?_, by rw [h2]; exact Below.refl _ _⟩
    rw [h1]; unfold chk; rw [if_pos hb]
  · rcases hv.split with ⟨A, c, rfl, rfl⟩ | ⟨b, off, cap, rfl, hcap, hbw, hrow⟩
    · exact (rcheck_nil A c w).mono fun e w' ⟨h1, h2⟩ => ⟨h1, by rw [h2]; exact Below.refl _ _⟩
    · refine (rcheck10 l b off cap w hbw (by omega) hrow).mono fun e w' ⟨h1, h2⟩ => ⟨?_, h2⟩
      rw [h1]; unfold chk; rw [if_neg hb]
end Go.Proofs.Seat8
end
section
namespace Go.Proofs.Seat8
open Go.RowKit Go.Proofs.Seat4
def greatM (l : List Mt) : Bool := (decide (40 < l.length) && decide (l.length ≤ 500)) || (l.take 40).any fun m => decide (40 < m.name.length)
set_option maxRecDepth 100000 in
set_option maxHeartbeats 1000000 in
theorem great5 (l : List Mt) (v : Value) (w : World) (hl : LV ME w v l) : Calls Tryz.prog 5 #[v] w fun e w' => e = .returned (.bool (greatM l)) ∧ Below w.heap.size w w' := by
  obtain ⟨A, c, rfl, _, hr⟩ := hl
  by_cases h1 : (40 : Int) < (l.length : Int)
  · by_cases h2 : (l.length : Int) ≤ 500
    · have hg : greatM l = true := by
        unfold greatM
        rw [show decide (40 < l.length) = true from decide_eq_true (by omega), show decide (l.length ≤ 500) = true from decide_eq_true (by omega)]
        rfl
      rw [hg]
      clear hr
      go_enter Tryz.func5, Tryz.ntmps5
      go_wp2
      go_ret
      exact ⟨rfl, Below.refl _ _⟩
    · have hg : greatM l = (l.take 40).any fun m => decide (40 < m.name.length) := by
        unfold greatM
        rw [show (decide (40 < l.length) && decide (l.length ≤ 500)) = false from by simp; omega]
        rfl
      rw [hg]
      have Hr := Lib.hid hr
      clear hr hg
      go_enter Tryz.func5, Tryz.ntmps5
      go_wp2
      go_loopw [3] (fun v wr => ∃ k : Nat, k ≤ l.length ∧ k ≤ 40 ∧ v = .int .i64 k ∧ ((l.take k).any fun m => decide (40 < m.name.length)) = false ∧ w = wr) (fun v _ => l.length - (intOf v).toNat)
      case atStart => exact ⟨0, Nat.zero_le _, Nat.zero_le _, rfl, rfl, rfl⟩
      case round =>
        obtain ⟨k, hk, hk40, rfl, hov, rfl⟩ := hrel
        by_cases hlt : k < l.length
        · by_cases hl4 : k < 40
          · obtain ⟨g, off, rfl, hgb, hat⟩ := Hr.out (fun e => by rw [e] at hlt; exact absurd hlt (Nat.not_lt_zero _))
            have hsn := take_snoc l k hlt
            have hrow : Row w g (off + k * 5) (mtCells l[k]) := hat k hlt
            have hmem : (40 < (l[k]).name.length) → ((l.take 40).any fun m => decide (40 < m.name.length)) = true := fun h => List.any_eq_true.2 ⟨l[k], by rw [List.mem_take_iff_getElem]; exact ⟨k, by omega, rfl⟩, decide_eq_true h⟩
            generalize hM : l[k] = M at *
            have q0 : w.cell? ⟨g, off + k * 5, none⟩ = some (.string ⟨M.name.toArray⟩) := by simpa using hrow 0 _ rfl
            have Hsn := Lib.hid hsn
            have Hov := Lib.hid hov
            have Hmem := Lib.hid hmem
            clear hrow hat hsn hov hM hmem
            by_cases hn : (40 : Int) < (M.name.length : Int)
            · go_wp2
              go_ret
              exact ⟨by rw [Hmem.out (by omega)]; rfl, Below.refl _ _⟩
            · go_wp2
              refine ⟨⟨k + 1, hlt, hl4, by simp, ?_⟩, by simp [intOf]; omega⟩
              rw [Hsn.out, List.any_append, Hov.out]
              simp
              omega
          · have h40 : k = 40 := by omega
            subst h40
            go_wp2
            go_ret
            exact ⟨by rw [hov]; rfl, Below.refl _ _⟩
        · obtain rfl : k = l.length := by omega
          rw [List.take_length] at hov
          have hov' : ((l.take 40).any fun m => decide (40 < m.name.length)) = false := by rw [List.take_of_length_le hk40]; exact hov
          go_wp2
          go_ret
          exact ⟨by rw [hov']; rfl, Below.refl _ _⟩
  · have hg : greatM l = (l.take 40).any fun m => decide (40 < m.name.length) := by
      unfold greatM
      rw [show (decide (40 < l.length) && decide (l.length ≤ 500)) = false from by simp; omega]
      rfl
    rw [hg]
    have Hr := Lib.hid hr
    clear hr hg
    go_enter Tryz.func5, Tryz.ntmps5
    go_wp2
    go_loopw [3] (fun v wr => ∃ k : Nat, k ≤ l.length ∧ k ≤ 40 ∧ v = .int .i64 k ∧ ((l.take k).any fun m => decide (40 < m.name.length)) = false ∧ w = wr) (fun v _ => l.length - (intOf v).toNat)
    case atStart => exact ⟨0, Nat.zero_le _, Nat.zero_le _, rfl, rfl, rfl⟩
    case round =>
      obtain ⟨k, hk, hk40, rfl, hov, rfl⟩ := hrel
      by_cases hlt : k < l.length
      · by_cases hl4 : k < 40
        · obtain ⟨g, off, rfl, hgb, hat⟩ := Hr.out (fun e => by rw [e] at hlt; exact absurd hlt (Nat.not_lt_zero _))
          have hsn := take_snoc l k hlt
          have hrow : Row w g (off + k * 5) (mtCells l[k]) := hat k hlt
          have hmem : (40 < (l[k]).name.length) → ((l.take 40).any fun m => decide (40 < m.name.length)) = true := fun h => List.any_eq_true.2 ⟨l[k], by rw [List.mem_take_iff_getElem]; exact ⟨k, by omega, rfl⟩, decide_eq_true h⟩
          generalize hM : l[k] = M at *
          have q0 : w.cell? ⟨g, off + k * 5, none⟩ = some (.string ⟨M.name.toArray⟩) := by simpa using hrow 0 _ rfl
          have Hsn := Lib.hid hsn
          have Hov := Lib.hid hov
          have Hmem := Lib.hid hmem
          clear hrow hat hsn hov hM hmem
          by_cases hn : (40 : Int) < (M.name.length : Int)
          · go_wp2
            go_ret
            exact ⟨by rw [Hmem.out (by omega)]; rfl, Below.refl _ _⟩
          · go_wp2
            refine ⟨⟨k + 1, hlt, hl4, by simp, ?_⟩, by simp [intOf]; omega⟩
            rw [Hsn.out, List.any_append, Hov.out]
            simp
            omega
        · have h40 : k = 40 := by omega
          omega
      · obtain rfl : k = l.length := by omega
        rw [List.take_length] at hov
        have hov' : ((l.take 40).any fun m => decide (40 < m.name.length)) = false := by rw [List.take_of_length_le hk40]; exact hov
        go_wp2
        go_ret
        exact ⟨by rw [hov']; rfl, Below.refl _ _⟩
end Go.Proofs.Seat8
end
section
namespace Go.Proofs.Seat8
open Go.RowKit Go.Proofs.Seat4
theorem line_bytes (m : Mt) : lineT m = m.name ++ [32] ++ Lib.itoa m.index ++ [32] ++ Lib.itoa m.count ++ [32] ++ Lib.itoa m.sum ++ [32] ++ Lib.itoa m.mx ++ [10] := by
  simp [lineT, numsOf, numT]
set_option maxRecDepth 100000 in
set_option maxHeartbeats 2000000 in
theorem line34 (m : Mt) (w : World) (ho : one m) : Calls Tryz.prog 34 #[.agg (mtCells m).toArray] w fun e w' => e = .returned (.string ⟨(lineT m).toArray⟩) ∧ Below w.heap.size w w' := by
  have h3 := one_nums ho
  have hr := ho.2
  have hn : ∀ x ∈ nmL, x.length ≤ 20 := by decide
  have h4 := hn m.name (by simpa using ho.1)
  simp only [rngB, wi, Bool.and_eq_true, decide_eq_true_eq] at hr
  have a1 := itoa_len_le m.index (by omega) (by omega)
  have a2 := itoa_len_le m.count (by omega) (by omega)
  have a3 := itoa_len_le m.sum (by omega) (by omega)
  have a4 := itoa_len_le m.mx (by omega) (by omega)
  have d1 := fun w1 => decimal55 m.index w1 (by omega) (by omega)
  have d2 := fun w1 => decimal55 m.count w1 (by omega) (by omega)
  have d3 := fun w1 => decimal55 m.sum w1 (by omega) (by omega)
  have d4 := fun w1 => decimal55 m.mx w1 (by omega) (by omega)
  rw [line_bytes]
  simp only [mtCells]
  generalize m.name = nm at *
  generalize m.index = n1 at *
  generalize m.count = n2 at *
  generalize m.sum = n3 at *
  generalize m.mx = n4 at *
  have D1 := Lib.hid d1
  have D2 := Lib.hid d2
  have D3 := Lib.hid d3
  have D4 := Lib.hid d4
  clear d1 d2 d3 d4 h3 hn ho hr
  go_enter Tryz.func34, Tryz.ntmps34
  go_wp2
  have hb0 : Below w.heap.size w (w.alloc (.cells #[.string ⟨nm.toArray⟩, .int .i64 n1, .int .i64 n2, .int .i64 n3, .int .i64 n4] 34)) := (Below.refl _ _).alloc (Nat.le_refl _) _
  have hx0 : (w.alloc (.cells #[.string ⟨nm.toArray⟩, .int .i64 n1, .int .i64 n2, .int .i64 n3, .int .i64 n4] 34)).heap[w.heap.size]? = some (.cells #[.string ⟨nm.toArray⟩, .int .i64 n1, .int .i64 n2, .int .i64 n3, .int .i64 n4] 34 (0, 0)) := heap_alloc_new w _
  have hz0 : w.heap.size < (w.alloc (.cells #[.string ⟨nm.toArray⟩, .int .i64 n1, .int .i64 n2, .int .i64 n3, .int .i64 n4] 34)).heap.size := by simp
  generalize (w.alloc (.cells #[.string ⟨nm.toArray⟩, .int .i64 n1, .int .i64 n2, .int .i64 n3, .int .i64 n4] 34)) = W1 at *
  generalize hX : w.heap.size = X at *
  have kx : ∀ wx, Below W1.heap.size W1 wx → wx.cell? ⟨X, 0, none⟩ = some (.string ⟨nm.toArray⟩) ∧ wx.cell? ⟨X, 1, none⟩ = some (.int .i64 n1) ∧ wx.cell? ⟨X, 2, none⟩ = some (.int .i64 n2) ∧ wx.cell? ⟨X, 3, none⟩ = some (.int .i64 n3) ∧ wx.cell? ⟨X, 4, none⟩ = some (.int .i64 n4) := fun wx hb => by
    have h : wx.heap[X]? = _ := (hb.block X hz0).trans hx0
    exact ⟨by rw [Lib.cell_of_heap h]; rfl, by rw [Lib.cell_of_heap h]; rfl, by rw [Lib.cell_of_heap h]; rfl, by rw [Lib.cell_of_heap h]; rfl, by rw [Lib.cell_of_heap h]; rfl⟩
  have Kx := Lib.hid kx
  clear kx hx0
  refine wp_region_det (by kernel_rfl) (by kernel_rfl) (fun wx => Below W1.heap.size W1 wx) ((Below.refl _ _).drew) ?_
  iterate 24
    apply wpDet_cons
    · intro wx hS
      obtain ⟨p0, p1, p2, p3, p4⟩ := Kx.out wx hS
      go_wp2_with (go_at_call 55; first | (with_reducible refine Calls.mono (D1.out _) ?_; rintro e w2 ⟨rfl, b2⟩) | (with_reducible refine Calls.mono (D2.out _) ?_; rintro e w2 ⟨rfl, b2⟩) | (with_reducible refine Calls.mono (D3.out _) ?_; rintro e w2 ⟨rfl, b2⟩) | (with_reducible refine Calls.mono (D4.out _) ?_; rintro e w2 ⟨rfl, b2⟩))
      first
        | exact ⟨rfl, rfl, hS⟩
        | exact ⟨rfl, rfl, hS.trans (below_mono b2 hS.size)⟩
    go_frame
  intro wx hS
  go_wp2
  go_ret
  refine ⟨?_, hX ▸ hb0.trans (below_mono hS (Nat.le_of_lt hz0))⟩
  have hq : (ByteArray.mk nm.toArray ++ ByteArray.mk #[32] ++ ByteArray.mk (Lib.itoa n1).toArray ++ ByteArray.mk #[32] ++ ByteArray.mk (Lib.itoa n2).toArray ++ ByteArray.mk #[32] ++ ByteArray.mk (Lib.itoa n3).toArray ++ ByteArray.mk #[32] ++ ByteArray.mk (Lib.itoa n4).toArray ++ ByteArray.mk #[10]) = ByteArray.mk (nm ++ [32] ++ Lib.itoa n1 ++ [32] ++ Lib.itoa n2 ++ [32] ++ Lib.itoa n3 ++ [32] ++ Lib.itoa n4 ++ [10]).toArray := by
    simp only [← ByteArray.mk_append_mk]
  exact congrArg (fun b => Ending.returned (Value.string b)) hq
end Go.Proofs.Seat8
end
section
namespace Go.Proofs.Seat8
open Go.RowKit Go.Proofs.Seat4
set_option maxRecDepth 100000 in
set_option maxHeartbeats 1000000 in
theorem rprint_bad (l : List Mt) (v : Value) (w : World) (hv : LV ME w v l) (hc : chk l ≠ 0) : Calls Tryz.prog 13 #[v] w (PPost l w) := by
  have hck := rcheck l v w hv
  unfold PPost
  generalize chk l = n at *
  have Hck := Lib.hid hck
  clear hck hv
  go_enter Tryz.func13, Tryz.ntmps13
  go_wp2_with (go_at_call 15; refine Hck.out.mono ?_; rintro e w1 ⟨rfl, hb1⟩)
  go_ret2
  exact ⟨[], rfl, fun h => absurd h hc, fun _ => rfl, hb1⟩
set_option maxRecDepth 100000 in
set_option maxHeartbeats 1000000 in
theorem rprint_none (A : Option Addr) (c : Nat) (w : World) : Calls Tryz.prog 13 #[.slice A 0 c] w (PPost [] w) := by
  have h0 : chk [] = 0 := by
    unfold chk
    rw [if_neg (by simp)]
    rfl
  have hck := rcheck_nil A c w
  unfold PPost
  rw [h0]
  have Hck := Lib.hid hck
  clear hck
  go_enter Tryz.func13, Tryz.ntmps13
  go_wp2_with (go_at_call 15; refine Hck.out.mono ?_; rintro e w1 ⟨rfl, rfl⟩)
  refine wp_loop_rounds 1 ?_
  rw [rounds_succ]
  go_wp2_with fail
  go_ret2
  exact ⟨[], rfl, fun _ => rfl, fun h => absurd rfl h, Below.refl _ _⟩
set_option maxRecDepth 100000 in
set_option maxHeartbeats 1000000 in
theorem rprint13 (l : List Mt) (b off cap : Nat) (w : World) (hb : b < w.heap.size) (hl : l.length ≤ 500) (hcap : l.length ≤ cap) (hrow : LAt ME w b off l) (hc : chk l = 0) :
    Calls Tryz.prog 13 #[.slice (some ⟨b, off, none⟩) l.length cap] w fun e w' => e = .returned (.tuple #[.string ⟨(textT l).toArray⟩, .int .i64 0]) ∧ Below w.heap.size w w' := by
  have Hrow := Lib.hid hrow
  have ho := chk_one hc
  have hck := rcheck l (.slice (some ⟨b, off, none⟩) l.length cap) w (LV.mk_ hcap hb hrow)
  rw [hc] at hck
  have Hck := Lib.hid hck
  have Ho := Lib.hid ho
  clear hrow hck hc ho
  go_enter Tryz.func13, Tryz.ntmps13
  go_wp2_with (go_at_call 15; refine Hck.out.mono ?_; rintro e w1 ⟨rfl, hb1⟩)
  have Hb1 := Lib.hid hb1
  clear hb1 Hck
  go_loopw [5, 6] (fun u v wr => ∃ k : Nat, k ≤ l.length ∧ u = .string ⟨(textT (l.take k)).toArray⟩ ∧ v = .int .i64 k ∧ Below w.heap.size w wr) (fun u v _ => l.length - (intOf v).toNat)
  case atStart => exact ⟨0, Nat.zero_le _, rfl, rfl, Hb1.out⟩
  case round =>
    obtain ⟨k, hk, rfl, rfl, hbw⟩ := hrel
    clear Hb1
    by_cases hlt : k < l.length
    · have hr' : Row wr b (off + k * 5) (mtCells l[k]) := (Hrow.out k hlt).below hbw hb
      have hL : one l[k] := Ho.out _ (List.getElem_mem hlt)
      have hT := textT_take l k hlt
      have hline := fun w1 => line34 l[k] w1 hL
      have hll := line_len hL
      have htl := text_len (l := l.take k) fun m hm => Ho.out m (List.mem_of_mem_take hm)
      have htk : (l.take k).length ≤ 500 := by simp; omega
      have hlen : ¬ 9223372036854775807 < (textT (l.take k)).length + (lineT l[k]).length := by omega
      generalize hM : l[k] = M at *
      have HM := Lib.hid hM
      have HT := Lib.hid hT
      have HL := Lib.hid hline
      have Hbw := Lib.hid hbw
      clear hM hT hline hbw hL hll htl htk
      go_wp2_with (first | ((with_reducible refine wpList_load_agg (o := ⟨some 22, .load 34 (.tmp 21), _, _, _, none⟩) rfl 34 _ rfl b (off + k * 5) ?_ _ hr' _ Tryz.underlying34 rfl ?_ ?_); (focus rfl); (focus kernel_rfl)) | (go_at_call 34; refine (HL.out _).mono ?_; rintro e w2 ⟨rfl, b2⟩))
      refine ⟨⟨k + 1, hlt, ?_, by simp, Hbw.out.trans (b2.mono Hbw.out.size)⟩, ?_⟩
      · rw [HT.out]
        exact congrArg Value.string (ByteArray.mk_append_mk _ _)
      · simp [intOf]; omega
    · have hx : ¬ (k : Int) < (l.length : Int) := by omega
      have hkl : k = l.length := by omega
      subst hkl
      go_wp2_with fail
      go_ret2
      exact ⟨rfl, hbw⟩
theorem rprint (l : List Mt) (v : Value) (w : World) (hv : LV ME w v l) : Calls Tryz.prog 13 #[v] w (PPost l w) := by
  by_cases hc : chk l = 0
  · rcases hv.split with ⟨A, c, rfl, rfl⟩ | ⟨b, off, cap, rfl, hcap, hbw, hrow⟩
    · exact rprint_none A c w
    · refine (rprint13 l b off cap w hbw (chk_len hc) hcap hrow hc).mono ?_
      rintro e w' ⟨rfl, hb⟩
      exact ⟨textT l, by rw [hc], fun _ => rfl, fun h => absurd hc h, hb⟩
  · exact rprint_bad l v w hv hc
end Go.Proofs.Seat8
end
section
namespace Go.Proofs.Seat8
open Go.RowKit Go.Proofs.Seat4
theorem clo_dep {ops : Array Oper} {D : Nat → Bool} {j i : Nat} (hC : Clo ops D) (h : (match ops[j]? with | some o => o.after.any fun e => Region.binds .any e && e.on == i | none => false) = true) (hj : D j = true) : D i = true := by
  cases e : ops[j]? with
  | none => rw [e] at h; cases h
  | some o =>
    rw [e] at h
    obtain ⟨x, hx, h2⟩ := Array.any_eq_true'.1 h
    rw [Bool.and_eq_true, beq_iff_eq] at h2
    have := hC j o e hj x hx h2.1
    rwa [h2.2] at this
set_option maxRecDepth 100000 in
set_option maxHeartbeats 2000000 in
theorem number_nil (w : World) : Calls Tryz.prog 56 #[.string ⟨#[]⟩] w (NPost [] w) := by
  go_enter Tryz.func56, Tryz.ntmps56
  go_wp2
  go_ret2
  exact ⟨0, false, rfl, Below.refl _ _, fun h => (by cases h), fun _ j _ _ h => by
    have h3 := atoi_itoa j
    rw [← h] at h3
    cases h3⟩
theorem number56 (s : List UInt8) (w : World) (hs : s.length ≤ 100000) : Calls Tryz.prog 56 #[.string ⟨s.toArray⟩] w (NPost s w) := by
  match s, hs with
  | [], _ => exact number_nil w
  | x :: r, hs =>
    by_cases hx : x = 45
    · subst hx
      exact number_neg r w hs
    · exact number_pos x r w hs hx
theorem own_last {w : World} {base e n : Nat} {v : Value} {xs : List Value} {y : Value} (h : w.ownsRow base e 1 v (n + 1) (xs ++ [y])) : ∃ g cap cur, v = .slice (some ⟨g, 0, none⟩) (n + 1) cap ∧ base ≤ g ∧ w.heap[g]? = some (.cells cur e (0, 0)) ∧ xs.length = n ∧ cur[n]? = some y ∧ n < cur.size ∧ ∀ (w' : World) z, w'.heap[g]? = some (.cells (cur.setIfInBounds n z) e (0, 0)) → w'.ownsRow base e 1 v (n + 1) (xs ++ [z]) := by
  obtain ⟨h1, h2⟩ := h
  rcases h2 with ⟨_, h3⟩ | ⟨g, cap, cur, hv, hb, hg, hc1, hc2, hcs, htk⟩
  · omega
  · have hx : xs.length = n := by simp at h1; omega
    refine ⟨g, cap, cur, hv, hb, hg, hx, ?_, by omega, fun w' z hw => ⟨by simp [hx], .inr ⟨g, cap, _, hv, hb, hw, hc1, hc2, by simpa using hcs, ?_⟩⟩⟩
    · have : (cur.toList.take ((n + 1) * 1))[n]? = some y := by rw [htk, ← hx]; simp
      rw [List.getElem?_take_of_lt (by omega)] at this
      simpa using this
    · rw [Array.toList_setIfInBounds, List.take_set, htk, ← hx]
      simp
end Go.Proofs.Seat8
end
section
namespace Go.Proofs.Seat4
open Go Go.RowKit
section
variable {P : Program} {ops : Array Oper} {Q : Exit → Act → World → Prop}
def OnlyN (Q : Exit → Act → World → Prop) : Exit → Act → World → Prop := fun e a w => e = .normal ∧ Q .normal a w
theorem onlyN_no : ¬ LetsOut (OnlyN Q) := fun ⟨_, _, h, _⟩ => by cases h
theorem opIn_of {l n i : Nat} {K K' : Act → World → Prop} {a : Act} {w : World} (hd : ∀ o ∈ ops.toList, ∀ c, o.op ≠ .defer c) (hK : ∀ a w, K a w → K' a w) (h : wpOp P ops (OnlyN Q) i K a w) : wpOpIn (Fence.wide.inRound l) n P ops Q i K' a w := by
  unfold wpOp at h
  unfold wpOpIn
  cases ho : ops[i]? with
  | none => rw [ho] at h; exact hK _ _ h
  | some o =>
    rw [ho] at h
    simp only at h ⊢
    by_cases hw : Region.wanted o (yielded ops a.tmps) = true
    · rw [if_pos hw] at h
      rw [if_pos hw]
      rcases h with h | ⟨-, h⟩
      · unfold Oper.wpIn
        refine ⟨fun _ _ => trivial, ?_⟩
        rw [show (Fence.wide.inRound l).round = some l from rfl, Oper.semAt_some l a.eval o (hd o (by simpa using Array.mem_of_getElem? ho))]
        unfold Oper.wp at h
        generalize (execOp a.eval o).run P w = r at h ⊢
        cases r with
        | ok x w' =>
          cases x with
          | value u => exact hK _ _ h
          | skip => exact hK _ _ h
          | defer d => exact hK _ _ h
          | enter f args =>
            refine ⟨fun h => absurd h (show ¬ false = true by decide), CallsIn.inRound l (callsIn_wide.2 (Calls.mono h fun e w'' he => ?_))⟩
            cases e with
            | returned u => exact hK _ _ he
            | panicked ch => cases he.1
            | outgrown => exact absurd he onlyN_no
          | row row args =>
            refine ⟨fun h => absurd h (show ¬ false = true by decide), fun c cs _ => ?_⟩
            obtain ⟨u, w'', hr, hs⟩ := h c cs
            exact ⟨u, w'', hK _ _ hr, stepsIn_wide.2 hs⟩
          | _ => exact h.elim
        | halt x w' =>
          cases x with
          | panic u => cases h.1
          | _ => exact h.elim
      · exact absurd h onlyN_no
    · rw [if_neg hw] at h
      rw [if_neg hw]
      exact ⟨fun _ _ => trivial, hK _ _ h⟩
theorem anyIn_of {l n : Nat} {md : Region.Mode} (hd : ∀ o ∈ ops.toList, ∀ c, o.op ≠ .defer c) : ∀ (fuel : Nat) (listed : Array Bool) (a : Act) (w : World), wpAny P md ops (OnlyN Q) fuel listed a w → wpAnyIn (Fence.wide.inRound l) n P md ops Q fuel listed a w
  | 0, _, _, _, h => ⟨h.1, h.2.2⟩
  | fuel + 1, listed, a, w, h => ⟨fun hr => (h.1 hr).2, fun i hi => opIn_of hd (fun a w hk => anyIn_of hd fuel _ a w hk) (h.2 i hi)⟩
def noDefer (ops : Array Oper) : Bool := ops.toList.all fun o => match o.op with | .defer _ => false | _ => true
theorem noDefer_of (h : noDefer ops = true) : ∀ o ∈ ops.toList, ∀ c, o.op ≠ .defer c := fun o ho c e => by
  have := List.all_eq_true.1 h o ho
  rw [e] at this
  cases this
theorem wpIn_region_tail {id l n : Nat} {a : Act} {w : World} (m : Nat) (hm : P.follows .mixedOrders = true) (hok : (detOk ops && tailOk ops m && decide (m ≤ ops.size) && noDefer ops) = true) (S : World → Prop) (hS : S w.drew) (h : wpDetT P ops S (OnlyN Q) m ops.toList a) : (Code.region id ops true).wpIn (Fence.wide.inRound l) n P Q a w := by
  simp only [Bool.and_eq_true, decide_eq_true_eq] at hok
  obtain ⟨⟨⟨h1, h2⟩, h3⟩, h4⟩ := hok
  obtain ⟨v, _, hv, hend⟩ := detT_canon (P := P) (S := S) (Q := OnlyN Q) a m ops.toList 0 a (fun _ => undef) (fun j => by simp) (by simpa using h3) rfl h
  have hfalse : ∀ j, lst (Array.replicate ops.size false) j = !decide (j < ops.size) := by
    intro j
    unfold lst
    by_cases h : j < ops.size <;> simp [Array.getD, h]
  refine wpIn_region_any hm (anyIn_of (noDefer_of h4) _ _ _ _ (detT_any (S := S) h1 h2 h3 a v (fun j o hj ho => hv j o (Nat.zero_le _) (by omega) ho) (by simpa using hend) ops.size _ a _ ⟨by simp, fun i o hi hl => ?_⟩ (fun k _ hk => by rw [hfalse]; simp [hk]) ?_ ?_ hS))
  · rw [hfalse] at hl
    have := (Array.getElem?_eq_some_iff.1 hi).1
    simp [this] at hl
  · have := List.length_filter_le (fun i => !lst (Array.replicate ops.size false) i) (List.range m)
    simp only [List.length_range] at this
    omega
  · exact ⟨rfl, rfl, fun t _ j hj _ hD => by rw [hfalse] at hD; simp [hj] at hD, fun t _ => rfl⟩
theorem opIn_of0 {n i : Nat} {K K' : Act → World → Prop} {a : Act} {w : World} (hd : ∀ o ∈ ops.toList, ∀ c, o.op ≠ .defer c) (hK : ∀ a w, K a w → K' a w) (h : wpOp P ops (OnlyN Q) i K a w) : wpOpIn Fence.wide n P ops Q i K' a w := by
  unfold wpOp at h
  unfold wpOpIn
  cases ho : ops[i]? with
  | none => rw [ho] at h; exact hK _ _ h
  | some o =>
    rw [ho] at h
    simp only at h ⊢
    by_cases hw : Region.wanted o (yielded ops a.tmps) = true
    · rw [if_pos hw] at h
      rw [if_pos hw]
      rcases h with h | ⟨-, h⟩
      · unfold Oper.wpIn
        refine ⟨fun _ _ => trivial, ?_⟩
        rw [show Oper.semAt Fence.wide.round a.eval o = execOp a.eval o from rfl]
        unfold Oper.wp at h
        generalize (execOp a.eval o).run P w = r at h ⊢
        cases r with
        | ok x w' =>
          cases x with
          | value u => exact hK _ _ h
          | skip => exact hK _ _ h
          | defer d => exact hK _ _ h
          | enter f args =>
            refine ⟨fun h => absurd h (show ¬ false = true by decide), (callsIn_wide.2 (Calls.mono h fun e w'' he => ?_))⟩
            cases e with
            | returned u => exact hK _ _ he
            | panicked ch => cases he.1
            | outgrown => exact absurd he onlyN_no
          | row row args =>
            refine ⟨fun h => absurd h (show ¬ false = true by decide), fun c cs _ => ?_⟩
            obtain ⟨u, w'', hr, hs⟩ := h c cs
            exact ⟨u, w'', hK _ _ hr, stepsIn_wide.2 hs⟩
          | _ => exact h.elim
        | halt x w' =>
          cases x with
          | panic u => cases h.1
          | _ => exact h.elim
      · exact absurd h onlyN_no
    · rw [if_neg hw] at h
      rw [if_neg hw]
      exact ⟨fun _ _ => trivial, hK _ _ h⟩
theorem anyIn_of0 {n : Nat} {md : Region.Mode} (hd : ∀ o ∈ ops.toList, ∀ c, o.op ≠ .defer c) : ∀ (fuel : Nat) (listed : Array Bool) (a : Act) (w : World), wpAny P md ops (OnlyN Q) fuel listed a w → wpAnyIn Fence.wide n P md ops Q fuel listed a w
  | 0, _, _, _, h => ⟨h.1, h.2.2⟩
  | fuel + 1, listed, a, w, h => ⟨fun hr => (h.1 hr).2, fun i hi => opIn_of0 hd (fun a w hk => anyIn_of0 hd fuel _ a w hk) (h.2 i hi)⟩
theorem wpIn_region_tail0 {id n : Nat} {a : Act} {w : World} (m : Nat) (hm : P.follows .mixedOrders = true) (hok : (detOk ops && tailOk ops m && decide (m ≤ ops.size) && noDefer ops) = true) (S : World → Prop) (hS : S w.drew) (h : wpDetT P ops S (OnlyN Q) m ops.toList a) : (Code.region id ops true).wpIn Fence.wide n P Q a w := by
  simp only [Bool.and_eq_true, decide_eq_true_eq] at hok
  obtain ⟨⟨⟨h1, h2⟩, h3⟩, h4⟩ := hok
  obtain ⟨v, _, hv, hend⟩ := detT_canon (P := P) (S := S) (Q := OnlyN Q) a m ops.toList 0 a (fun _ => undef) (fun j => by simp) (by simpa using h3) rfl h
  have hfalse : ∀ j, lst (Array.replicate ops.size false) j = !decide (j < ops.size) := by
    intro j
    unfold lst
    by_cases h : j < ops.size <;> simp [Array.getD, h]
  refine wpIn_region_any hm (anyIn_of0 (noDefer_of h4) _ _ _ _ (detT_any (S := S) h1 h2 h3 a v (fun j o hj ho => hv j o (Nat.zero_le _) (by omega) ho) (by simpa using hend) ops.size _ a _ ⟨by simp, fun i o hi hl => ?_⟩ (fun k _ hk => by rw [hfalse]; simp [hk]) ?_ ?_ hS))
  · rw [hfalse] at hl
    have := (Array.getElem?_eq_some_iff.1 hi).1
    simp [this] at hl
  · have := List.length_filter_le (fun i => !lst (Array.replicate ops.size false) i) (List.range m)
    simp only [List.length_range] at this
    omega
  · exact ⟨rfl, rfl, fun t _ j hj _ hD => by rw [hfalse] at hD; simp [hj] at hD, fun t _ => rfl⟩
end
end Go.Proofs.Seat4
end
section
namespace Go.Proofs.Seat8
open Go.RowKit Go.Shelf Go.Proofs.Seat4
attribute [local go_sem] Oper.semAt_some
def textAt (b : Nat) (w : World) : Nat := match w.cell? ⟨b, 0, none⟩ with | some (.string s) => s.size | _ => 0
theorem textAt_eq {b : Nat} {w : World} {t : List UInt8} (h : w.cell? ⟨b, 0, none⟩ = some (.string ⟨t.toArray⟩)) : textAt b w = t.length := by
  unfold textAt
  rw [h]
  show t.toArray.size = t.length
  simp
theorem ib46 {t : List UInt8} {i : Int} (w : World) (h : Lib.indexByte t 10 = i) : Calls Tryz.prog 46 #[.string ⟨t.toArray⟩, .int .u8 10] w fun e w' => e = .returned (.int .i64 i) ∧ w = w' :=
  (Tryz.strings_IndexByte ⟨t.toArray⟩ 10 w).mono fun e w' ⟨h1, h2⟩ => ⟨by rw [h1]; exact congrArg (fun x => Ending.returned (.int .i64 x)) h, h2.symm⟩
set_option maxRecDepth 100000 in
set_option maxHeartbeats 4000000 in
theorem lines45 (n l Bc : Nat) (N : Nat) (hN : N ≤ 1048576) (J K : List UInt8 → World → Prop) (Jx : World → Prop)
    (hJ : ∀ t W, J t W → W.cell? ⟨Bc, 0, none⟩ = some (.string ⟨t.toArray⟩) ∧ W.frozen? ⟨Bc, 0, none⟩ = false ∧ t.length ≤ N)
    (hst : ∀ t W W1, J t W → Below W.heap.size W W1 → J t W1)
    (hset : ∀ t W, J t W → t ≠ [] → K t (W.setCell ⟨Bc, 0, none⟩ (.string ⟨(Lib.cut t [10]).2.1.toArray⟩)))
    (hY : ∀ t W, K t W → t ≠ [] → YieldAt Fence.wide (n - 1) Tryz.prog l #[.string ⟨(lineY t).toArray⟩] W fun e W' => (e = .returned (.bool true) ∧ J (Lib.cut t [10]).2.1 W') ∨ (e = .returned (.bool false) ∧ Jx W'))
    (t0 : List UInt8) (W : World) (h0 : J t0 W) :
    CallsIn Fence.wide n Tryz.prog 45 #[.func (.yield l) #[] #[], .pointer (some ⟨Bc, 0, none⟩)] W fun e W' => (∃ v, e = .returned v) ∧ (J [] W' ∨ Jx W') := by
  refine callsIn_of_wp Tryz.func45 rfl trivial ?_ rfl
  simp only [Tryz.ntmps45, List.size_toArray, List.length_cons, List.length_nil, Nat.reduceAdd, Nat.reduceSub, Array.replicate_succ, Array.replicate_zero, List.push_toArray, List.append_toArray, List.nil_append, List.cons_append]
  gi_wp2
  gi_loopw [3] (fun _ wr => ∃ t, J t wr) (fun _ wr => textAt Bc wr)
  case atStart => exact ⟨t0, h0⟩
  case round =>
    obtain ⟨t, hJt⟩ := hrel
    obtain ⟨hc, hf, hl⟩ := hJ t _ hJt
    have hm := textAt_eq hc
    by_cases ht : t = []
    · subst ht
      gi_wp2
      go_end0
      exact ⟨⟨_, rfl⟩, .inl hJt⟩
    · have hlen : 0 < t.length := List.length_pos_iff.2 ht
      have hless := cut_less t ht
      have hset' := hset t
      have Hm := Lib.hid hm
      have HJ := Lib.hid hJt
      rcases cut_case t ht with ⟨h1, h2⟩ | ⟨a, r, rfl, ha, h2⟩
      · have hK : K t (wr.setCell ⟨Bc, 0, none⟩ (.string ⟨#[]⟩)) := by
          have := hset t _ hJt ht
          rw [h2] at this
          exact this
        have hline : lineY t = t := by unfold lineY; rw [h2]; simp
        have Hix := Lib.hid (ib46 wr (indexByte_no h1))
        obtain ⟨fn, tmps, assign, body, hy, hR⟩ := hY t _ hK ht
        rw [hline] at hy
        rw [h2] at hR
        have HR := Lib.hid hR
        have H2 := Lib.hid h2
        clear hm hJt ht h1 hK hset' hR hline h2
        gi_wp2
        refine ⟨trivial, fun h => absurd h (by decide), ?_⟩
        refine (callsIn_wide.2 Hix.out).mono ?_
        rintro e w1 ⟨rfl, rfl⟩
        gi_wp2
        refine ⟨fun h => absurd h (by decide), ?_⟩
        refine HR.out.mono ?_
        rintro e w2 (⟨rfl, hJ2⟩ | ⟨rfl, hJx⟩)
        · have hm3 := textAt_eq (hJ _ _ hJ2).1
          have HJ3 := Lib.hid hJ2
          have Hm3 := Lib.hid hm3
          clear hJ2 hm3
          gi_wp2
          go_roundw
          case rel => exact ⟨_, HJ3.out⟩
          case measure => rw [Hm3.out, Hm.out]; simpa using hlen
        · gi_wp2
          refine bodyPost_ret (results_none rfl _ _ _) rfl ?_
          exact ⟨⟨_, rfl⟩, .inr hJx⟩
      · have hst' := hst (a ++ 10 :: r) wr
        have hline : lineY (a ++ 10 :: r) = a ++ [10] := by unfold lineY; rw [h2]; simp
        have hK : ∀ k, K (a ++ 10 :: r) ((wr.drewN k).setCell ⟨Bc, 0, none⟩ (.string ⟨r.toArray⟩)) := by
          intro k
          have := hset (a ++ 10 :: r) _ (hst _ _ _ hJt (below_drewN' _ k)) ht
          rw [h2] at this
          exact this
        have hal : a.length ≤ 1048576 := by simp at hl; omega
        have hrl : r.length ≤ 1048576 := by simp at hl; omega
        have E1 := Lib.hid (show (ByteArray.mk (a ++ 10 :: r).toArray).extract 0 (a.length + 1) = ByteArray.mk (a ++ [10]).toArray by
          rw [take_str, show a ++ 10 :: r = (a ++ [10]) ++ r by simp, List.take_left' (by simp)])
        have E2 := Lib.hid (show (ByteArray.mk (a ++ 10 :: r).toArray).extract (a.length + 1) (a.length + (r.length + 1)) = ByteArray.mk r.toArray by
          rw [drop_str _ _ _ (by simp), show a ++ 10 :: r = (a ++ [10]) ++ r by simp, List.drop_left' (by simp)])
        have Hix := Lib.hid (ib46 wr (indexByte_at r ha))
        have HK := Lib.hid hK
        have Hline := Lib.hid hline
        have H2 := Lib.hid h2
        clear hm hJt hK hset' hst' hline h2
        gi_wp2
        refine ⟨trivial, fun h => absurd h (by decide), ?_⟩
        refine (callsIn_wide.2 Hix.out).mono ?_
        rintro e w1 ⟨rfl, rfl⟩
        gi_wp2
        refine wpIn_region_tail0 9 (by kernel_rfl) (by kernel_rfl) (fun W' => ∃ k, W' = wr.drewN k) ⟨1, rfl⟩ ?_
        iterate 9
          apply wpDetT_cons
          · rintro wx ⟨k, rfl⟩
            go_wp2_with fail
            exact ⟨rfl, rfl, k, rfl⟩
          go_frame
        rintro wx ⟨k, rfl⟩
        go_wp2_with fail
        rw [E1.out, E2.out]
        refine ⟨rfl, ?_⟩
        obtain ⟨fn, tmps, assign, body, hy, hR⟩ := hY (a ++ 10 :: r) _ (HK.out k) (by simp)
        rw [Hline.out] at hy
        rw [H2.out] at hR
        have HR := Lib.hid hR
        clear hR HK
        gi_wp2
        refine ⟨fun h => absurd h (by decide), ?_⟩
        refine HR.out.mono ?_
        rintro e w2 (⟨rfl, hJ2⟩ | ⟨rfl, hJx⟩)
        · have hm3 := textAt_eq (hJ _ _ hJ2).1
          have HJ3 := Lib.hid hJ2
          have Hm3 := Lib.hid hm3
          clear hJ2 hm3
          gi_wp2
          go_roundw
          case rel => exact ⟨_, HJ3.out⟩
          case measure => rw [Hm3.out, Hm.out]; simp; omega
        · gi_wp2
          refine bodyPost_ret (results_none rfl _ _ _) rfl ?_
          exact ⟨⟨_, rfl⟩, .inr hJx⟩
end Go.Proofs.Seat8
end
section
namespace Go.Proofs.Seat8
open Go.RowKit Go.Shelf Go.Proofs.Seat4
def roundEnds (A B : World → Prop) : Exit → Act → World → Prop
  | .normal, _, W' => A W'
  | .ret, _, W' => B W'
  | .exit _, _, _ => False
  | .goto _, _, _ => False
  | .panic _, _, _ => False
  | .outgrown, _, _ => False
theorem wpIn_range_lines {g : Operand} {assign body : Code} {Q : Exit → Act → World → Prop} {a : Act} {w : World} {n Bc N p : Nat} (h1 : 1 ≤ n) (hN : N ≤ 1048576) (hg : a.eval g = .func (.func 45) #[] #[.pointer (some ⟨Bc, 0, none⟩)])
    (I I' : Loop → List UInt8 → World → Prop) (Ix : Loop → World → Prop)
    (hrec : ∀ L t W, I L t W → W.heap[w.heap.size + 1]? = some (.loop L)) (hrec' : ∀ L t W, I' L t W → W.heap[w.heap.size + 1]? = some (.loop L)) (hrecx : ∀ L W, Ix L W → W.heap[w.heap.size + 1]? = some (.loop L))
    (hput : ∀ L L' t W, I L t W → I L' t (W.putObj (w.heap.size + 1) (.loop L'))) (hput' : ∀ L L' t W, I' L t W → I' L' t (W.putObj (w.heap.size + 1) (.loop L'))) (hputx : ∀ L L' W, Ix L W → Ix L' (W.putObj (w.heap.size + 1) (.loop L')))
    (hE : ∀ L t W, I L t W → W.cell? ⟨Bc, 0, none⟩ = some (.string ⟨t.toArray⟩) ∧ W.frozen? ⟨Bc, 0, none⟩ = false ∧ t.length ≤ N)
    (hst : ∀ L t W W1, I L t W → Below W.heap.size W W1 → I L t W1)
    (hset : ∀ L t W, I L t W → t ≠ [] → I' L t (W.setCell ⟨Bc, 0, none⟩ (.string ⟨(Lib.cut t [10]).2.1.toArray⟩)))
    (t0 : List UInt8) (h0 : ∀ L, I L t0 ((w.alloc (.deferred (some []))).alloc (.loop L)))
    (a₁ : List UInt8 → Act)
    (hassign : ∀ (t : List UInt8) (W : World) (K : Act → World → Prop), K (a₁ t) W → assign.wpIn (Fence.wide.inRound (w.heap.size + 1)) (n - 1 - 1) Tryz.prog (Exit.then K (fun _ _ _ => False))
      { tmps := ((#[p] : Array Tmp).zip #[.string ⟨(lineY t).toArray⟩]).foldl (fun ts (pv : Tmp × Value) => ts.setIfInBounds pv.1 pv.2) a.tmps, defers := [] } W)
    (hbody : ∀ L t W, I' L t W → t ≠ [] → body.wpIn (Fence.wide.inRound (w.heap.size + 1)) (n - 1 - 1) Tryz.prog (roundEnds (I L (Lib.cut t [10]).2.1) (Ix L)) (a₁ t) W)
    (hdone : ∀ L W, I L [] W → Q .normal { a with defers := { target := .collected w.heap.size, args := #[] } :: a.defers } W)
    (hstop : ∀ L W, Ix L W → Code.ret.wpIn Fence.wide n Tryz.prog Q { a with defers := { target := .collected w.heap.size, args := #[] } :: a.defers } W) :
    (Code.rangeFunc g #[p] assign body).wpIn Fence.wide n Tryz.prog Q a w := by
  refine wpIn_rangeFunc ?_
  intro fn hfn
  obtain ⟨rec, hrc⟩ : ∃ rec : LoopState → Option Code → Loop, rec = fun st pe => { state := st, pending := pe, fn := fn, tmps := a.tmps, params := #[p], assign := assign, body := body, defers := w.heap.size } := ⟨_, rfl⟩
  refine ⟨w.heap.size + 1, [{ target := .collected w.heap.size, args := #[] }], (w.alloc (.deferred (some []))).alloc (.loop (rec .ready none)), { target := .fn (.func 45) #[.pointer (some ⟨Bc, 0, none⟩)], args := #[.func (.yield (w.heap.size + 1)) #[] #[]] },
    (w.alloc (.deferred (some []))).alloc (.loop (rec .ready none)), 45, #[.func (.yield (w.heap.size + 1)) #[] #[], .pointer (some ⟨Bc, 0, none⟩)], (w.alloc (.deferred (some []))).alloc (.loop (rec .ready none)), ?_, ?_, fun _ _ => trivial, ?_, fun _ => h1, ?_⟩
  · rw [hrc]
    exact run_enterLoop_outer _ _ _ _ _
  · simp only [resolve, hg]
    simp [go_sem]
  · have eg := enters_of (P := Tryz.prog) Tryz.func45 (by kernel_rfl) rfl
    simp [invoke, go_sem, eg _ _]
  · refine (lines45 (n - 1) (w.heap.size + 1) Bc N hN (I (rec .ready none)) (I' (rec .ready none)) (fun W => Ix (rec .done (some .ret)) W) (fun t W h => hE _ t W h) (fun t W W1 h hb => hst _ t W W1 h hb) (fun t W h ht => hset _ t W h ht) ?_ t0 _ (h0 _)).mono ?_
    · intro t W hI ht
      have hl := hrec' _ _ _ hI
      have hy := run_yield (P := Tryz.prog) (args := #[.string ⟨(lineY t).toArray⟩]) hl (by rw [hrc]; rfl)
      rw [hrc] at hy
      refine ⟨fn, _, assign, body, hy, roundIn_of_wpIn hfn (hassign t W _ ⟨_, run_beginRound hl (by rw [hrc]), ?_⟩)⟩
      refine wpIn_mono (hbody _ t _ (hput' _ _ t W hI) ht) ?_
      intro e a3 W3 hp
      have fin : ∀ (jump : Option Code), W3.heap[w.heap.size + 1]? = some (.loop { rec .ready none with state := .busy }) → (Instr.endRound (w.heap.size + 1) jump).run Tryz.prog W3 = .ok (.bool jump.isNone) (W3.putObj (w.heap.size + 1) (.loop (rec (if jump.isNone then .ready else .done) jump))) := fun jump h => by
        have := run_endRound (P := Tryz.prog) jump h
        rw [hrc] at this ⊢
        exact this
      cases e with
      | normal => exact ⟨_, _, fin none (hrec _ _ _ hp), .inl ⟨rfl, hput _ _ _ W3 hp⟩⟩
      | ret => exact ⟨_, _, fin (some .ret) (hrecx _ _ hp), .inr ⟨rfl, hputx _ _ W3 hp⟩⟩
      | exit id => exact hp.elim
      | goto t => exact hp.elim
      | panic ch => exact hp.elim
      | outgrown => exact hp.elim
    · rintro e W2 ⟨⟨v, rfl⟩, hI | hX⟩
      · refine ⟨none, _, ?_, hdone _ _ (hput _ { rec .ready none with state := .exhausted } [] W2 hI)⟩
        have := run_endLoop (P := Tryz.prog) (hrec _ _ _ hI) (by rw [hrc]; simp)
        rw [hrc] at this ⊢
        exact this
      · refine ⟨some .ret, _, ?_, hstop _ _ (hputx _ { rec .done (some .ret) with state := .exhausted } W2 hX)⟩
        have := run_endLoop (P := Tryz.prog) (hrecx _ _ hX) (by rw [hrc]; simp)
        rw [hrc] at this ⊢
        exact this
end Go.Proofs.Seat8
end
section
namespace Go.Proofs.Seat4
open Go.RowKit
def wpDetGT (P : Program) (ops : Array Oper) (S : (Nat → Bool) → World → Prop) (Q : Exit → Act → World → Prop) : Nat → Nat → List Oper → Act → Prop
  | 0, i, l, a => ∀ D w, (∀ j, j < i → D j = true) → S D w → wpList P ops Q l a w
  | _ + 1, i, [], a => ∀ D w, (∀ j, j < i → D j = true) → S D w → Q .normal a w
  | m + 1, i, o :: rest, a => ∃ v, DetOpG P ops S i o a v ∧ wpDetGT P ops S Q m (i + 1) rest (a.put o.dst v)
section
variable {P : Program} {ops : Array Oper} {S : (Nat → Bool) → World → Prop} {Q : Exit → Act → World → Prop}
theorem wpDetGT_cons {m i : Nat} {o : Oper} {rest : List Oper} {a : Act} {v : Value} (h1 : DetOpG P ops S i o a v) (h2 : wpDetGT P ops S Q m (i + 1) rest (a.put o.dst v)) : wpDetGT P ops S Q (m + 1) i (o :: rest) a := ⟨v, h1, h2⟩
theorem detGT_canon (a0 : Act) : ∀ (m : Nat) (l : List Oper) (k : Nat) (a : Act) (v : Nat → Value), (∀ j, l[j]? = ops[k + j]?) → m ≤ l.length → canon ops a0 v k = a → wpDetGT P ops S Q m k l a →
    ∃ v' : Nat → Value, (∀ j, j < k → v' j = v j) ∧ (∀ j o, k ≤ j → j < k + m → ops[j]? = some o → DetOpG P ops S j o (canon ops a0 v' j) (v' j)) ∧ (∀ D w, (∀ j, j < k + m → D j = true) → S D w → wpList P ops Q (l.drop m) (canon ops a0 v' (k + m)) w) := by
  intro m
  induction m with
  | zero =>
    intro l k a v hl _ ha h
    exact ⟨v, fun _ _ => rfl, fun j o h1 h2 => by omega, fun D w hD hw => by simpa [ha] using h D w hD hw⟩
  | succ m ih =>
    intro l k a v hl hm ha h
    cases l with
    | nil => simp at hm
    | cons o rest =>
      obtain ⟨u, hu, hrest⟩ := h
      have hk : ops[k]? = some o := by simpa using (hl 0).symm
      have same : ∀ (v1 v2 : Nat → Value) (m : Nat), (∀ j, j < m → v1 j = v2 j) → canon ops a0 v1 m = canon ops a0 v2 m := by
        intro v1 v2 m hm
        induction m with
        | zero => rfl
        | succ m ihm =>
          simp only [canon]
          rw [ihm fun j hj => hm j (by omega)]
          cases ops[m]? with
          | none => rfl
          | some o' => simp only [hm m (by omega)]
      let v2 : Nat → Value := fun j => if j = k then u else v j
      have hv2 : ∀ j, j < k → v2 j = v j := fun j hj => if_neg (by omega)
      have hck : canon ops a0 v2 k = a := (same v2 v k hv2).trans ha
      have hck1 : canon ops a0 v2 (k + 1) = a.put o.dst u := by
        show (match ops[k]? with | some o => (canon ops a0 v2 k).put o.dst (v2 k) | none => canon ops a0 v2 k) = _
        rw [hk, hck]
        simp [v2]
      obtain ⟨v', h1, h2, h3⟩ := ih rest (k + 1) _ v2 (fun j => by have := hl (j + 1); simpa [Nat.add_assoc, Nat.add_comm 1 j] using this) (by simpa using hm) hck1 hrest
      refine ⟨v', fun j hj => (h1 j (by omega)).trans (hv2 j hj), fun j o' hj hj2 ho => ?_, fun D w hD hw => by have := h3 D w (fun j hj => hD j (by omega)) hw; rwa [show k + 1 + m = k + (m + 1) from by omega] at this⟩
      by_cases e : j = k
      · subst e
        rw [hk] at ho
        cases ho
        rw [same v' v2 j fun m hm => h1 m (by omega), hck, h1 j (by omega)]
        simp only [v2, if_true]
        exact hu
      · exact h2 j o' (by omega) (by omega) ho
theorem detGT_any {m : Nat} (hok : detOk ops = true) (ht : tailOk ops m = true) (hm : m ≤ ops.size) (a0 : Act) (v : Nat → Value) (hop : ∀ j o, j < m → ops[j]? = some o → DetOpG P ops S j o (canon ops a0 v j) (v j)) (hend : ∀ D w, (∀ j, j < m → D j = true) → S D w → wpList P ops Q (ops.toList.drop m) (canon ops a0 v m) w) :
    ∀ (fuel : Nat) (listed : Array Bool) (a : Act) (w : World), Closed ops listed → (∀ k, m ≤ k → k < ops.size → lst listed k = false) → ((List.range m).filter fun i => !lst listed i).length + (ops.size - m) ≤ fuel → DetInv ops a0 v (fun j => lst listed j) a → S (fun j => lst listed j) w →
      wpAny P .any ops Q fuel listed a w := by
  have hdone : ∀ (fuel : Nat) (listed : Array Bool) (a : Act) (w : World), Closed ops listed → (∀ k, m ≤ k → k < ops.size → lst listed k = false) → (ops.size - m) ≤ fuel → DetInv ops a0 v (fun j => lst listed j) a → S (fun j => lst listed j) w → (∀ j, j < m → lst listed j = true) → wpAny P .any ops Q fuel listed a w := by
    intro fuel listed a w hc hlate hf hinv hS hall
    have hcn := canon_inv hok a0 v m hm
    have hlst : ∀ j, j < ops.size → lst listed j = decide (j < m) := by
      intro j hj
      by_cases h : j < m
      · simp [h, hall j h]
      · simp [h, hlate j (by omega) hj]
    have heq : a = canon ops a0 v m := by
      have htm : a.tmps = (canon ops a0 v m).tmps := by
        apply Array.ext_getElem?
        intro t
        by_cases hex : ∃ j, j < ops.size ∧ writesTo ops j t = true ∧ j < m
        · obtain ⟨j, hj, hw, hjm⟩ := hex
          by_cases htl : t < a0.tmps.size
          · rw [hinv.done t htl j hj hw (hall j hjm), hcn.done t htl j hj hw (by simpa using hjm)]
          · rw [Array.getElem?_eq_none (by rw [hinv.size]; exact Nat.le_of_not_lt htl), Array.getElem?_eq_none (by rw [hcn.size]; exact Nat.le_of_not_lt htl)]
        · have hno : ∀ j, j < ops.size → writesTo ops j t = true → ¬ j < m := fun j hj hw hjm => hex ⟨j, hj, hw, hjm⟩
          rw [hinv.rest t fun j hj hw => by rw [hlst j hj]; simpa using hno j hj hw, hcn.rest t fun j hj hw => by simpa using hno j hj hw]
      have hd : a.defers = (canon ops a0 v m).defers := hinv.defers.trans hcn.defers.symm
      cases a
      cases hc2 : canon ops a0 v m
      rw [hc2] at htm hd
      simp only at htm hd
      rw [htm, hd]
    rw [heq]
    exact tail_any ht hok fuel m listed _ w (Nat.le_refl _) hm hf hc hlst (hend _ w hall hS)
  intro fuel
  induction fuel with
  | zero =>
    intro listed a w hc hlate hcount hinv hS
    refine hdone 0 listed a w hc hlate (by omega) hinv hS fun j hj => ?_
    have h0 : ((List.range m).filter fun i => !lst listed i) = [] := List.eq_nil_of_length_eq_zero (by omega)
    have hmem : j ∉ (List.range m).filter fun i => !lst listed i := by rw [h0]; simp
    rw [List.mem_filter] at hmem
    simp only [List.mem_range, hj, true_and] at hmem
    simpa using hmem
  | succ fuel ih =>
    intro listed a w hc hlate hcount hinv hS
    by_cases hall : ∀ j, j < m → lst listed j = true
    · have : ((List.range m).filter fun i => !lst listed i) = [] := by
        rw [List.filter_eq_nil_iff]
        intro i hi
        rw [hall i (List.mem_range.1 hi)]
        simp
      rw [this] at hcount
      exact hdone (fuel + 1) listed a w hc hlate (by simpa using hcount) hinv hS hall
    · obtain ⟨j0, hj0⟩ : ∃ j, j < m ∧ lst listed j = false := by
        apply Classical.byContradiction
        intro hno
        refine hall fun j hj => ?_
        apply Classical.byContradiction
        intro hne
        exact hno ⟨j, hj, by simpa using hne⟩
      refine ⟨fun hr => ?_, fun i hi => ?_⟩
      · exfalso
        have hmin : ∀ i, i < ops.size → lst listed i = true := by
          intro i
          induction i using Nat.strongRecOn with
          | ind i ihi =>
            intro hilt
            apply Classical.byContradiction
            intro hn
            have hn' : lst listed i = false := by simpa using hn
            have hget : ops[i]? = some ops[i] := Array.getElem?_eq_getElem hilt
            have : i ∈ Region.ready .any ops listed := by
              unfold Region.ready
              rw [List.mem_filter]
              refine ⟨List.mem_range.2 hilt, ?_⟩
              rw [hget]
              simp only [Option.map_some, Option.getD_some, Bool.and_eq_true]
              refine ⟨by unfold lst at hn'; rw [hn']; simp, ?_⟩
              rw [Array.all_eq_true']
              intro e he
              cases hb : Region.binds .any e with
              | false => rfl
              | true =>
                have h1 := (detOk_at hok hget).early e he hb
                have h2 := ihi e.on h1 (by omega)
                have h3 : e.on < listed.size := by rw [hc.size]; omega
                simp only [lst, Array.getD] at h2 ⊢
                rw [dif_pos h3] at h2 ⊢
                simpa using h2
            rw [hr] at this
            cases this
        have := hmin j0 (by omega)
        rw [hj0.2] at this
        cases this
      · obtain ⟨o, ho, hn, hd⟩ := ready_spec hi
        have hilt := (Array.getElem?_eq_some_iff.1 ho).1
        have him : i < m := by
          rcases Nat.lt_or_ge i m with h | h
          · exact h
          · have := tail_listed ht hc ho h (fun e he hb => (hd e he hb).1) j0 (by omega)
            rw [hj0.2] at this
            cases this
        have A := detOk_at hok ho
        have hcan := canon_inv hok a0 v i (by omega)
        have hagree : ∀ t ∈ o.looksAt ops, a.tmps[t]? = (canon ops a0 v i).tmps[t]? := by
          intro t htl
          by_cases hex : ∃ j, j < ops.size ∧ writesTo ops j t = true
          · obtain ⟨j, hj, hw⟩ := hex
            obtain ⟨e, he, hb, hon⟩ := A.deps t htl j hj hw
            have hlt := A.early e he hb
            have hDj : lst listed j = true := by rw [← hon]; exact (hd e he hb).1
            by_cases hsz : t < a0.tmps.size
            · rw [hinv.done t hsz j hj hw hDj, hcan.done t hsz j hj hw (by simp; omega)]
            · rw [Array.getElem?_eq_none (by rw [hinv.size]; exact Nat.le_of_not_lt hsz), Array.getElem?_eq_none (by rw [hcan.size]; exact Nat.le_of_not_lt hsz)]
          · rw [hinv.rest t fun j hj hw => absurd ⟨j, hj, hw⟩ hex, hcan.rest t fun j hj hw => absurd ⟨j, hj, hw⟩ hex]
        refine wpOp_mono ?_ (det_transfer (Q := Q) (v := v i) ho A.sel (hinv.size.trans hcan.size.symm) hagree (hop i o him ho (fun j => lst listed j) w hn (fun j o ho hj => hc.down j o ho hj) (fun e he hb => (hd e he hb).1) hS))
        rintro a' w' ⟨rfl, hS'⟩
        have hil : i < listed.size := by rw [hc.size]; exact hilt
        have hfS : (fun j => lst listed j || j == i) = fun j => lst (listed.setIfInBounds i true) j := by
          funext j
          rw [lst_set hil]
        rw [hfS] at hS'
        refine ih _ _ _ (hc.set ho fun e he hb => (hd e he hb).1) (fun k hk hk2 => ?_) ?_ ?_ hS'
        · rw [lst_set hil, hlate k hk hk2]
          simp
          omega
        · have hsub : ((List.range m).filter fun k => !lst (listed.setIfInBounds i true) k) = ((List.range m).filter fun k => !lst listed k).filter (fun k => k != i) := by
            rw [List.filter_filter]
            apply List.filter_congr
            intro k _
            rw [lst_set hil]
            by_cases e : k = i
            · subst e; simp
            · have e1 : (k == i) = false := by simpa using e
              have e2 : (k != i) = true := by simpa using e
              rw [e1, e2]
              simp
          rw [hsub]
          have hmem : i ∈ (List.range m).filter fun k => !lst listed k := List.mem_filter.2 ⟨List.mem_range.2 him, by simp [hn]⟩
          have : (((List.range m).filter fun k => !lst listed k).filter (fun k => k != i)).length < ((List.range m).filter fun k => !lst listed k).length :=
            List.length_filter_lt_length_iff_exists.2 ⟨i, hmem, by simp⟩
          omega
        · have := hinv.put hok ho hn
          have hf : (fun j => lst listed j || j == i) = fun j => lst (listed.setIfInBounds i true) j := by
            funext j
            rw [lst_set hil]
          rwa [hf] at this
theorem anyGT {a : Act} {w : World} (m : Nat) (hok : (detOk ops && tailOk ops m && decide (m ≤ ops.size)) = true) (S : (Nat → Bool) → World → Prop) (hS : S (fun j => !decide (j < ops.size)) w) (h : wpDetGT P ops S Q m 0 ops.toList a) : wpAny P .any ops Q ops.size (Array.replicate ops.size false) a w := by
  simp only [Bool.and_eq_true, decide_eq_true_eq] at hok
  obtain ⟨⟨h1, h2⟩, h3⟩ := hok
  obtain ⟨v, _, hv, hend⟩ := detGT_canon (P := P) (S := S) (Q := Q) a m ops.toList 0 a (fun _ => undef) (fun j => by simp) (by simpa using h3) rfl h
  have hfalse : ∀ j, lst (Array.replicate ops.size false) j = !decide (j < ops.size) := by
    intro j
    unfold lst
    by_cases h : j < ops.size <;> simp [Array.getD, h]
  refine detGT_any (S := S) h1 h2 h3 a v (fun j o hj ho => hv j o (Nat.zero_le _) (by omega) ho) (fun D w hD hw => by simpa using hend D w (fun j hj => hD j (by omega)) hw) ops.size _ a _ ⟨by simp, fun i o hi hl => ?_⟩ (fun k _ hk => by rw [hfalse]; simp [hk]) ?_ ?_ ?_
  · rw [hfalse] at hl
    have := (Array.getElem?_eq_some_iff.1 hi).1
    simp [this] at hl
  · have := List.length_filter_le (fun i => !lst (Array.replicate ops.size false) i) (List.range m)
    simp only [List.length_range] at this
    omega
  · exact ⟨rfl, rfl, fun t _ j hj _ hD => by rw [hfalse] at hD; simp [hj] at hD, fun t _ => rfl⟩
  · rw [show (fun j => lst (Array.replicate ops.size false) j) = fun j => !decide (j < ops.size) from funext hfalse]
    exact hS
theorem wpIn_region_GT {id l n : Nat} {a : Act} {w : World} (m : Nat) (hm : P.follows .mixedOrders = true) (hok : (detOk ops && tailOk ops m && decide (m ≤ ops.size) && noDefer ops) = true) (S : (Nat → Bool) → World → Prop) (hS : S (fun j => !decide (j < ops.size)) w.drew) (h : wpDetGT P ops S (OnlyN Q) m 0 ops.toList a) : (Code.region id ops true).wpIn (Fence.wide.inRound l) n P Q a w := by
  rw [Bool.and_eq_true] at hok
  exact wpIn_region_any hm (anyIn_of (noDefer_of hok.2) _ _ _ _ (anyGT m hok.1 S hS h))
end
end Go.Proofs.Seat4
end
section
namespace Go.Proofs.Seat4
open Go Go.RowKit
section
variable {P : Program} {ops : Array Oper} {Q : Exit → Act → World → Prop}
theorem operIn_of {l n : Nat} {o : Oper} {Q0 : Exit → Act → World → Prop} {K K' : Act → World → Prop} {a : Act} {w : World} (hd : ∀ c, o.op ≠ .defer c) (hK : ∀ a w, K a w → K' a w) (h : o.wp P a w K (OnlyN Q0)) : o.wpIn (Fence.wide.inRound l) n P a w K' Q := by
  unfold Oper.wpIn
  refine ⟨fun _ _ => trivial, ?_⟩
  rw [show (Fence.wide.inRound l).round = some l from rfl, Oper.semAt_some l a.eval o hd]
  unfold Oper.wp at h
  generalize (execOp a.eval o).run P w = r at h ⊢
  cases r with
  | ok x w' =>
    cases x with
    | value u => exact hK _ _ h
    | skip => exact hK _ _ h
    | defer d => exact hK _ _ h
    | enter f args =>
      refine ⟨fun h => absurd h (show ¬ false = true by decide), CallsIn.inRound l (callsIn_wide.2 (Calls.mono h fun e w'' he => ?_))⟩
      cases e with
      | returned u => exact hK _ _ he
      | panicked ch => cases he.1
      | outgrown => exact absurd he onlyN_no
    | row row args =>
      refine ⟨fun h => absurd h (show ¬ false = true by decide), fun c cs _ => ?_⟩
      obtain ⟨u, w'', hr, hs⟩ := h c cs
      exact ⟨u, w'', hK _ _ hr, stepsIn_wide.2 hs⟩
    | _ => exact h.elim
  | halt x w' =>
    cases x with
    | panic u => cases h.1
    | _ => exact h.elim
theorem listIn_of {l n : Nat} : ∀ (L : List Oper) (a : Act) (w : World), (∀ o ∈ L, ∀ c, o.op ≠ .defer c) → wpList P ops (OnlyN Q) L a w → wpListIn (Fence.wide.inRound l) n P ops Q L a w
  | [], _, _, _, h => h.2
  | o :: L, a, w, hd, h => by
    unfold wpList at h
    unfold wpListIn
    have ih := fun a w h => listIn_of (l := l) (n := n) L a w (fun o ho => hd o (List.mem_cons_of_mem _ ho)) h
    by_cases hw : Region.wanted o (yielded ops a.tmps) = true
    · rw [if_pos hw] at h
      rw [if_pos hw]
      exact operIn_of (hd o (by simp)) ih (h.resolve_right fun x => onlyN_no x.2)
    · rw [if_neg hw] at h
      rw [if_neg hw]
      exact ⟨fun _ _ => trivial, ih _ _ h⟩
theorem wpListIn_one {l n : Nat} {o : Oper} {L : List Oper} {a : Act} {w : World} (hd : ∀ c, o.op ≠ .defer c) (hg : o.guard = none) (h : wpList P ops (OnlyN fun _ a w => wpListIn (Fence.wide.inRound l) n P ops Q L a w) [o] a w) : wpListIn (Fence.wide.inRound l) n P ops Q (o :: L) a w := by
  have hw : Region.wanted o (yielded ops a.tmps) = true := by simp [Region.wanted, hg]
  unfold wpList at h
  unfold wpListIn
  rw [if_pos hw] at h
  rw [if_pos hw]
  exact operIn_of hd (fun a w hk => hk.2) (h.resolve_right fun x => onlyN_no x.2)
theorem wpIn_region_wp {id l n : Nat} {L : List Oper} {a : Act} {w : World} (hd : noDefer L.toArray = true) (h : wpList P L.toArray (OnlyN Q) L a w) : (Code.region id L.toArray false).wpIn (Fence.wide.inRound l) n P Q a w :=
  wpIn_region_lit (listIn_of L a w (by simpa using noDefer_of hd) h)
end
end Go.Proofs.Seat4
end

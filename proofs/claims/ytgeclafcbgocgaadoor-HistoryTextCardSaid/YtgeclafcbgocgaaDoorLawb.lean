/- The law of reading a history back: the walk. -/
import Derived.Test.YtgeclafcbgocgaaDoorAwk
import Derived.Test.YtgeclafcbgocgaaDoorHpt
namespace Go.Proofs.YtgeclafcbgocgaaDoor
open Go.RowKit
theorem great_small {n : Nat} (h : (decide (20 < n ∧ n ≤ 100) || decide (110 < n)) = false) : n ≤ 20 ∨ (100 < n ∧ n ≤ 110) := by
  simp only [Bool.or_eq_false_iff, decide_eq_false_iff_not] at h
  omega
set_option maxRecDepth 100000 in
set_option maxHeartbeats 4000000 in
theorem historyBack4 (l : List Cl) (v : Value) (s : List UInt8) (w : World) (hE : Env w) (hv : ClV w v l) : Calls Tryd.prog 4 #[v, .string ⟨s.toArray⟩] w (YPost w) := by
  have n0 := great8 w v l hv
  go_enter Tryd.func4, Tryd.ntmps4
  go_wp2_with fail
  refine n0.mono ?_
  rintro e w1 ⟨rfl, rfl⟩
  clear n0
  rcases Bool.eq_false_or_eq_true (decide (20 < l.length ∧ l.length ≤ 100) || decide (110 < l.length)) with hg | hg
  · rw [hg]
    go_wp2_with fail
    refine (awake9 _ hE).mono ?_
    rintro e w1 ⟨rfl, hb1⟩
    go_wp2_with fail
    go_ret
    exact ⟨rfl, hb1⟩
  · have hlen := great_small hg
    rw [hg]
    clear hg
    by_cases hs : 1500 < s.length
    · go_wp2_with fail
      refine (awake9 _ hE).mono ?_
      rintro e w1 ⟨rfl, hb1⟩
      go_wp2_with fail
      go_ret
      exact ⟨rfl, hb1⟩
    · obtain ⟨r, hr⟩ := rdTo_exist s [] 0
      have n0 := text10 l v w hE hv (by omega)
      by_cases hc : chkH l = 0
      · have hH := hist_iff.1 hc
        have hT := textH_hist hH
        have hl20 : l.length ≤ 20 := by have := hH.len; omega
        have hTl := textB_short hH
        rw [textB_eq hH] at hTl
        have hrd : RdTo (textG l) [] 0 (l, 0) := by
          obtain ⟨q, hq⟩ := rdTo_exist (textG l) [] 0
          rw [read_back hH hq] at hq
          exact hq
        rw [hT, hc] at n0
        generalize textG l = t at *
        clear hH hT hc
        go_wp2_with fail
        refine n0.mono ?_
        rintro e w1 ⟨rfl, hb1⟩
        have hE1 := hE.below hb1
        have hv1 := hv.below hb1
        clear n0
        unfold strV
        go_wp2_with fail
        refine (parse12 t w1 hE1 (by omega) (l, 0) hrd).mono ?_
        rintro e w2 ⟨v2, rfl, hv2, hb2⟩
        have hE2 := hE1.below hb2
        have hv3 := hv1.below hb2
        have hB2 := hb1.trans (hb2.mono hb1.size)
        clear hb1 hb2 hrd hE1 hv1
        go_wp2_with fail
        refine (equal14 l _ _ w2 hv2 hv3 (by omega)).mono ?_
        rintro e w3 ⟨rfl, hb3⟩
        have hE3 := hE2.below hb3
        have hB3 := hB2.trans (hb3.mono hB2.size)
        clear hb3 hE2 hB2 hv2 hv3
        go_wp2_with fail
        refine (parse12 s w3 hE3 (by omega) r hr).mono ?_
        rintro e w4 ⟨v4, rfl, hV4, hb4⟩
        have hE4 := hE3.below hb4
        have hB4 := hB3.trans (hb4.mono hB3.size)
        clear hb4
        by_cases hr0 : r.2 = 0
        · have hrh := read_text (show RdTo s [] 0 (r.1, 0) by rw [← hr0]; exact hr)
          have hrt : textH r.1 = s := (textH_hist hrh.1).trans hrh.2
          have hrc : chkH r.1 = 0 := hist_iff.2 hrh.1
          have hrl := hrh.1.len
          rw [hr0]
          clear hrh hr hr0
          go_wp2_with fail
          refine (text10 r.1 _ w4 hE4 hV4 (by omega)).mono ?_
          rw [hrt, hrc]
          rintro e w5 ⟨rfl, hb5⟩
          have hE5 := hE4.below hb5
          have hV5 := hV4.below hb5
          have hB5 := hB4.trans (hb5.mono hB4.size)
          clear hb5
          unfold strV
          go_wp2_with fail
          refine (check15 r.1 _ w5 hV5 (by omega)).mono ?_
          rw [hrc]
          rintro e w6 ⟨rfl, hb6⟩
          have hE6 := hE5.below hb6
          have hB6 := hB5.trans (hb6.mono hB5.size)
          clear hb6
          go_wp2_with fail
          refine (awake9 _ hE6).mono ?_
          rintro e w7 ⟨rfl, hb7⟩
          go_wp2_with fail
          go_ret
          exact ⟨rfl, hB6.trans (hb7.mono hB6.size)⟩
        · have hr1 := rdTo_err hr hr0
          have hx1 : (r.2 != 0) = true := by simpa using hr0
          obtain ⟨A, c, rfl, -, -⟩ := hV4
          rw [hr1, List.length_nil]
          clear hr hr0
          go_wp2_with fail
          refine (awake9 _ hE4).mono ?_
          rintro e w7 ⟨rfl, hb7⟩
          go_wp2_with fail
          go_ret
          exact ⟨rfl, hB4.trans (hb7.mono hB4.size)⟩
      · obtain ⟨x, hx⟩ : ∃ x, chkH l = x := ⟨_, rfl⟩
        rw [hx] at n0 hc
        have hx2 : (x == 0) = false := by simpa using hc
        clear hx hc
        go_wp2_with fail
        refine n0.mono ?_
        rintro e w3 ⟨rfl, hb3⟩
        have hE3 := hE.below hb3
        have hB3 : Below w.heap.size w w3 := hb3
        clear n0 hb3
        unfold strV
        go_wp2_with fail
        refine (parse12 s w3 hE3 (by omega) r hr).mono ?_
        rintro e w4 ⟨v4, rfl, hV4, hb4⟩
        have hE4 := hE3.below hb4
        have hB4 := hB3.trans (hb4.mono hB3.size)
        clear hb4
        by_cases hr0 : r.2 = 0
        · have hrh := read_text (show RdTo s [] 0 (r.1, 0) by rw [← hr0]; exact hr)
          have hrt : textH r.1 = s := (textH_hist hrh.1).trans hrh.2
          have hrc : chkH r.1 = 0 := hist_iff.2 hrh.1
          have hrl := hrh.1.len
          rw [hr0]
          clear hrh hr hr0
          go_wp2_with fail
          refine (text10 r.1 _ w4 hE4 hV4 (by omega)).mono ?_
          rw [hrt, hrc]
          rintro e w5 ⟨rfl, hb5⟩
          have hE5 := hE4.below hb5
          have hV5 := hV4.below hb5
          have hB5 := hB4.trans (hb5.mono hB4.size)
          clear hb5
          unfold strV
          go_wp2_with fail
          refine (check15 r.1 _ w5 hV5 (by omega)).mono ?_
          rw [hrc]
          rintro e w6 ⟨rfl, hb6⟩
          have hE6 := hE5.below hb6
          have hB6 := hB5.trans (hb6.mono hB5.size)
          clear hb6
          go_wp2_with fail
          refine (awake9 _ hE6).mono ?_
          rintro e w7 ⟨rfl, hb7⟩
          go_wp2_with fail
          go_ret
          exact ⟨rfl, hB6.trans (hb7.mono hB6.size)⟩
        · have hr1 := rdTo_err hr hr0
          have hx1 : (r.2 != 0) = true := by simpa using hr0
          obtain ⟨A, c, rfl, -, -⟩ := hV4
          rw [hr1, List.length_nil]
          clear hr hr0
          go_wp2_with fail
          refine (awake9 _ hE4).mono ?_
          rintro e w7 ⟨rfl, hb7⟩
          go_wp2_with fail
          go_ret
          exact ⟨rfl, hB4.trans (hb7.mono hB4.size)⟩
end Go.Proofs.YtgeclafcbgocgaaDoor

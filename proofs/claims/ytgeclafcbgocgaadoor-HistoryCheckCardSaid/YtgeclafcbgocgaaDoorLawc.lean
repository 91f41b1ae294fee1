/- The law of Check, Before, Pending and Tasks: the walk. -/
import Derived.Test.YtgeclafcbgocgaaDoorAwk
import Derived.Test.YtgeclafcbgocgaaDoorRfi
import Derived.Test.YtgeclafcbgocgaaDoorLawb
namespace Go.Proofs.YtgeclafcbgocgaaDoor
open Go.RowKit
theorem befR_le (l : List Cl) : (befR l).length ≤ 10000 := by
  unfold befR
  by_cases h : chkH l = 0
  · rw [if_pos h]
    have h1 := befE_le l l.length
    have h2 := (hist_iff.1 h).len
    have := Nat.mul_le_mul h2 h2
    omega
  · rw [if_neg h]
    simp
set_option maxRecDepth 100000 in
set_option maxHeartbeats 4000000 in
theorem historyCheck6 (l : List Cl) (v : Value) (t : Int) (w : World) (hE : Env w) (hv : ClV w v l) : Calls Tryd.prog 6 #[v, .int .i64 t] w (YPost w) := by
  have n0 := great8 w v l hv
  go_enter Tryd.func6, Tryd.ntmps6
  go_wp2_with fail
  refine n0.mono ?_
  rintro e w1 ⟨rfl, rfl⟩
  clear n0
  rcases Bool.eq_false_or_eq_true (decide (20 < l.length ∧ l.length ≤ 100) || decide (110 < l.length)) with hg | hg
  · rw [hg]
    go_wp2_with fail
    refine (awake9 _ hE).mono ?_
    rintro e w1 ⟨rfl, hb1⟩
    go_wp2_with fail
    go_ret
    exact ⟨rfl, hb1⟩
  · have hlen := great_small hg
    have hl : l.length ≤ 65536 := by omega
    rw [hg]
    have hbl := befR_le l
    have hpl := pendI_le l l.length
    have htl := ofF_le l t
    have n1 := fun W (hW : ClV W v l) => before17 l v W hW hl
    have n2 := fun W (hW : ClV W v l) => rbefore18 l v W hW hl
    have n3 := fun W (hW : ClV W v l) => check15 l v W hW hl
    have n4 := fun W (hW : ClV W v l) => rcheck16 l v W hW hl
    have n5 := fun W (hW : ClV W v l) => pending21 l v W hW hl
    have n6 := fun W (hW : ClV W v l) => rpending22 l v W hW hl
    have n7 := fun W (hW : ClV W v l) => tasks23 l v t W hW hl
    have n8 := fun W (hW : ClV W v l) => rtasks24 l v t W hW hl
    generalize chkH l = x at *
    generalize befR l = E at *
    generalize pendI l l.length = P at *
    generalize ofF l t = M at *
    clear hg hlen
    go_wp2_with fail
    refine (n1 w hv).mono ?_
    rintro e w1 ⟨v1, rfl, ho1, hb1⟩
    have h1 := lv_own ho1
    have hV := hv.below hb1
    have hB := hb1
    have hE1 := hE.below hb1
    clear ho1 hv hb1 hE n1
    go_wp2_with fail
    refine (n2 w1 hV).mono ?_
    rintro e w2 ⟨v2, rfl, h2, hb1⟩
    have hV2 := hV.below hb1
    have h1' := h1.below hb1
    have hB2 := hB.trans (hb1.mono hB.size)
    have hE2 := hE1.below hb1
    clear hV h1 hB hE1 hb1 n2
    go_wp2_with fail
    refine (n3 w2 hV2).mono ?_
    rintro e w3 ⟨rfl, hb1⟩
    have hV3 := hV2.below hb1
    have h13 := h1'.below hb1
    have h23 := h2.below hb1
    have hB3 := hB2.trans (hb1.mono hB2.size)
    have hE3 := hE2.below hb1
    clear hV2 h1' h2 hB2 hE2 hb1 n3
    go_wp2_with fail
    refine (n4 w3 hV3).mono ?_
    rintro e w4 ⟨rfl, hb1⟩
    have hV4 := hV3.below hb1
    have h14 := h13.below hb1
    have h24 := h23.below hb1
    have hB4 := hB3.trans (hb1.mono hB3.size)
    have hE4 := hE3.below hb1
    clear hV3 h13 h23 hB3 hE3 hb1 n4
    go_wp2_with fail
    refine (equal19 E _ _ w4 h14 h24 (by omega)).mono ?_
    rintro e w5 ⟨rfl, hb1⟩
    have hV5 := hV4.below hb1
    have hB5 := hB4.trans (hb1.mono hB4.size)
    have hE5 := hE4.below hb1
    clear hV4 h14 h24 hB4 hE4 hb1
    go_wp2_with fail
    refine (n5 w5 hV5).mono ?_
    rintro e w6 ⟨v6, rfl, ho1, hb1⟩
    have h6 := lv_own ho1
    have hV6 := hV5.below hb1
    have hB6 := hB5.trans (hb1.mono hB5.size)
    have hE6 := hE5.below hb1
    clear hV5 hB5 hE5 hb1 ho1 n5
    go_wp2_with fail
    refine (n6 w6 hV6).mono ?_
    rintro e w7 ⟨v7, rfl, h7, hb1⟩
    have h67 := h6.below hb1
    have hV7 := hV6.below hb1
    have hB7 := hB6.trans (hb1.mono hB6.size)
    have hE7 := hE6.below hb1
    clear hV6 hB6 hE6 hb1 h6 n6
    go_wp2_with fail
    refine (equal20 P _ _ w7 h67 h7 (by omega)).mono ?_
    rintro e w8 ⟨rfl, hb1⟩
    have hV8 := hV7.below hb1
    have hB8 := hB7.trans (hb1.mono hB7.size)
    have hE8 := hE7.below hb1
    clear hV7 hB7 hE7 hb1 h67 h7
    go_wp2_with fail
    refine (n7 w8 hV8).mono ?_
    rintro e w9 ⟨v9, rfl, ho1, hb1⟩
    have h9 := lv_own ho1
    have hV9 := hV8.below hb1
    have hB9 := hB8.trans (hb1.mono hB8.size)
    have hE9 := hE8.below hb1
    clear hV8 hB8 hE8 hb1 ho1 n7
    go_wp2_with fail
    refine (n8 w9 hV9).mono ?_
    rintro e w10 ⟨v10, rfl, h10, hb1⟩
    have h910 := h9.below hb1
    have hB10 := hB9.trans (hb1.mono hB9.size)
    have hE10 := hE9.below hb1
    clear hV9 hB9 hE9 hb1 h9 n8
    go_wp2_with fail
    refine (equal14 M _ _ w10 h910 h10 (by omega)).mono ?_
    rintro e w11 ⟨rfl, hb1⟩
    have hB11 := hB10.trans (hb1.mono hB10.size)
    have hE11 := hE10.below hb1
    clear hB10 hE10 hb1 h910 h10
    go_wp2_with fail
    refine (awake9 _ hE11).mono ?_
    rintro e w12 ⟨rfl, hb1⟩
    go_wp2_with fail
    go_ret
    exact ⟨rfl, hB11.trans (hb1.mono hB11.size)⟩
end Go.Proofs.YtgeclafcbgocgaaDoor

/- The law of the check: Check, Of, Cleanups and Lives agree with the reference: the walk. -/
import Derived.Test.YtofomblpbmpbaaaDoorEql
import Derived.Test.YtofomblpbmpbaaaDoorLvr
import Derived.Test.YtofomblpbmpbaaaDoorLaw1
namespace Go.Proofs.YtofomblpbmpbaaaDoor
open Go.RowKit
def lvErr (l : List Ev) : Int := if chk l = 0 then 0 else 1
def lvSp (l : List Ev) : List Sp := if chk l = 0 then livesF l else []
theorem LvPost.uni {base : Nat} {l : List Ev} {w w' : World} {en : Ending} (h : LvPost base l w en w') : ∃ v, en = .returned (.tuple #[v, .int .i64 (lvErr l)]) ∧ SpsV w' v (lvSp l) ∧ Below w.heap.size w w' := by
  obtain ⟨hb, ⟨hc, v, he, ho⟩ | ⟨hc, v, he, ho⟩⟩ := h
  · unfold lvErr lvSp
    rw [if_pos hc, if_pos hc]
    exact ⟨v, he, spsV_own ho, hb⟩
  · unfold lvErr lvSp
    rw [if_neg hc, if_neg hc]
    exact ⟨v, he, spsV_own (ss := []) ho, hb⟩
theorem lvSp_le (l : List Ev) : (lvSp l).length ≤ l.length + 1 := by
  unfold lvSp livesF
  split
  · split
    · simp
    · rw [livF_len]
      have := starts_le l
      omega
  · simp
set_option maxRecDepth 100000 in
set_option maxHeartbeats 4000000 in
theorem traceCheck10 (l : List Ev) (v : Value) (t : Int) (w : World) (hE : Env w) (hv : EvsV w v l) : Calls Tryd.prog 10 #[v, .int .i64 t] w (LPost w) := by
  by_cases hbig : 80 < l.length
  · have hd : decide (80 < l.length) = true := decide_eq_true hbig
    go_enter Tryd.func10, Tryd.ntmps10
    go_wp2_with fail
    have n0 := great16 w v l hv
    rw [hd] at n0
    refine n0.mono ?_
    rintro e w1 ⟨rfl, rfl⟩
    go_wp2_with fail
    refine (awake11 _ hE).mono ?_
    rintro e w1 ⟨rfl, hb1⟩
    go_wp2_with fail
    go_ret
    exact ⟨rfl, hb1⟩
  · have hd : decide (80 < l.length) = false := decide_eq_false hbig
    have hl : l.length ≤ 65536 := by omega
    have hlo := ofF_le l t
    have hlc := cleF_le l t
    have hls := lvSp_le l
    go_enter Tryd.func10, Tryd.ntmps10
    go_wp2_with fail
    have n0 := great16 w v l hv
    rw [hd] at n0
    refine n0.mono ?_
    rintro e w1 ⟨rfl, rfl⟩
    clear n0 hd
    go_wp2_with fail
    refine (lives26 l v w hv hl).mono ?_
    rintro e w1 h
    obtain ⟨v5, rfl, hs5, hb1⟩ := h.uni
    clear h
    have hv1 := hv.below hb1
    go_wp2_with fail
    refine (lives27 l v w1 hv1 hl).mono ?_
    rintro e w2 h
    obtain ⟨v7, rfl, hs7, hb2⟩ := h.uni
    clear h
    have hv2 := hv1.below hb2
    have hs52 := hs5.below hb2
    have hB2 : Below w.heap.size w w2 := hb1.trans (hb2.mono hb1.size)
    clear hv1 hs5 hb1 hb2
    generalize lvErr l = er
    go_wp2_with fail
    refine (check25 l v w2 hv2 hl).mono ?_
    rintro e w3 ⟨rfl, hb3⟩
    have hv3 := hv2.below hb3
    have hs53 := hs52.below hb3
    have hs73 := hs7.below hb3
    have hB3 : Below w.heap.size w w3 := hB2.trans (hb3.mono hB2.size)
    clear hv2 hs52 hs7 hb3 hB2
    go_wp2_with fail
    refine (check28 l v w3 hv3 hl).mono ?_
    rintro e w4 ⟨rfl, hb4⟩
    have hv4 := hv3.below hb4
    have hs54 := hs53.below hb4
    have hs74 := hs73.below hb4
    have hB4 : Below w.heap.size w w4 := hB3.trans (hb4.mono hB3.size)
    clear hv3 hs53 hs73 hb4 hB3
    generalize chk l = ck
    go_wp2_with fail
    refine (of18 l v t w4 hv4 hl).mono ?_
    rintro e w5 ⟨o1, rfl, ho1, hb5⟩
    have hv5 := hv4.below hb5
    have hs55 := hs54.below hb5
    have hs75 := hs74.below hb5
    have ho5 := evsV_own ho1
    have hB5 : Below w.heap.size w w5 := hB4.trans (hb5.mono hB4.size)
    clear hv4 hs54 hs74 hb5 hB4 ho1
    go_wp2_with fail
    refine (of29 l v t w5 hv5 hl).mono ?_
    rintro e w6 ⟨o2, rfl, ho2, hb6⟩
    have hv6 := hv5.below hb6
    have hs56 := hs55.below hb6
    have hs76 := hs75.below hb6
    have ho6 := evsV_own ho2
    have ho56 := ho5.below hb6
    have hB6 : Below w.heap.size w w6 := hB5.trans (hb6.mono hB5.size)
    clear hv5 hs55 hs75 hb6 hB5 ho2 ho5
    go_wp2_with fail
    refine (equal24 (ofF l t) o1 o2 w6 ho56 ho6 (by omega)).mono ?_
    rintro e w7 ⟨rfl, hb7⟩
    have hv7 := hv6.below hb7
    have hs57 := hs56.below hb7
    have hs77 := hs76.below hb7
    have hB7 : Below w.heap.size w w7 := hB6.trans (hb7.mono hB6.size)
    clear hv6 hs56 hs76 hb7 hB6 ho6 ho56
    go_wp2_with fail
    refine (clean19 l v t w7 hv7 hl).mono ?_
    rintro e w8 ⟨c1, rfl, hc1, hb8⟩
    rw [cleF_same] at hc1
    have hv8 := hv7.below hb8
    have hs58 := hs57.below hb8
    have hs78 := hs77.below hb8
    have hr8 := hc1.rest
    have hB8 : Below w.heap.size w w8 := hB7.trans (hb8.mono hB7.size)
    clear hv7 hs57 hs77 hb8 hB7
    go_wp2_with fail
    refine (clean31 l v t w8 hv8 hl).mono ?_
    rintro e w9 ⟨c2, rfl, hc2, hb9⟩
    have hs59 := hs58.below hb9
    have hs79 := hs78.below hb9
    have hc19 : IntsV w9 w7.heap.size c1 (cleF l t) := by
      rcases hc1 with h | ⟨g, cap, h1, h2, h3, h4, h5⟩
      · exact .inl h
      · exact .inr ⟨g, cap, h1, h2, h3, Nat.lt_of_lt_of_le h4 hb9.size, h5.below hb9 h4⟩
    have hB9 : Below w.heap.size w w9 := hB8.trans (hb9.mono hB8.size)
    clear hv8 hs58 hs78 hb9 hB8 hr8 hc1
    go_wp2_with fail
    refine (equal30 (cleF l t) c1 c2 _ _ w9 hc19 hc2 (by omega)).mono ?_
    rintro e w10 ⟨rfl, hb10⟩
    have hs5a := hs59.below hb10
    have hs7a := hs79.below hb10
    have hB10 : Below w.heap.size w w10 := hB9.trans (hb10.mono hB9.size)
    clear hs59 hs79 hb10 hB9 hc19 hc2
    go_wp2_with fail
    refine (equal32 (lvSp l) v5 v7 w10 hs5a hs7a (by omega)).mono ?_
    rintro e w11 ⟨rfl, hb11⟩
    have hB11 : Below w.heap.size w w11 := hB10.trans (hb11.mono hB10.size)
    clear hs5a hs7a hb11 hB10
    go_wp2_with fail
    refine (awake11 _ (hE.below hB11)).mono ?_
    rintro e w12 ⟨rfl, hb12⟩
    go_wp2_with fail
    go_ret
    exact ⟨rfl, hB11.trans (hb12.mono hB11.size)⟩
end Go.Proofs.YtofomblpbmpbaaaDoor

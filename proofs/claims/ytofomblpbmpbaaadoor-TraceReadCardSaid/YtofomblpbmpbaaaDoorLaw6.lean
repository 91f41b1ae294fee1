/- The law of the lines: Print and Read agree with the reference: the walk. -/
import Derived.Test.YtofomblpbmpbaaaDoorPrn
import Derived.Test.YtofomblpbmpbaaaDoorRdw
import Derived.Test.YtofomblpbmpbaaaDoorEql
import Derived.Test.YtofomblpbmpbaaaDoorLaw1
namespace Go.Proofs.YtofomblpbmpbaaaDoor
open Go.RowKit
set_option maxRecDepth 100000 in
set_option maxHeartbeats 2000000 in
theorem traceLines6 (l : List Ev) (v : Value) (s : List UInt8) (w : World) (hE : Env w) (hv : EvsV w v l) : Calls Tryd.prog 6 #[v, .string ⟨s.toArray⟩] w (LPost w) := by
  by_cases hbig : 80 < l.length
  · have hd : decide (80 < l.length) = true := decide_eq_true hbig
    go_enter Tryd.func6, Tryd.ntmps6
    go_wp2_with fail
    have n0 := great16 w v l hv
    rw [hd] at n0
    refine n0.mono ?_
    rintro e w1 ⟨rfl, rfl⟩
    go_wp2_with fail
    refine (awake11 _ hE).mono ?_
    rintro e w1 ⟨rfl, hb1⟩
    go_wp2_with fail
    go_ret
    exact ⟨rfl, hb1⟩
  · have hd : decide (80 < l.length) = false := decide_eq_false hbig
    go_enter Tryd.func6, Tryd.ntmps6
    go_wp2_with fail
    have n0 := great16 w v l hv
    rw [hd] at n0
    refine n0.mono ?_
    rintro e w1 ⟨rfl, rfl⟩
    clear n0 hd
    by_cases hs : 3000 < s.length
    · go_wp2_with fail
      refine (awake11 _ hE).mono ?_
      rintro e w1 ⟨rfl, hb1⟩
      go_wp2_with fail
      go_ret
      exact ⟨rfl, hb1⟩
    · obtain ⟨r, hr⟩ := rdTo_exist s []
      have hlen : r.1.length ≤ 65536 := by
        obtain ⟨L, R, h1, h2⟩ := hr
        have h3 := readL_len L R []
        rw [h2] at h3
        have h4 := (parts_len h1).1
        simp at h3
        omega
      go_wp2_with fail
      refine (print20 l v w hE hv (by omega)).mono ?_
      rintro e w1 ⟨rfl, hb1⟩
      have hv1 := hv.below hb1
      have hE1 := hE.below hb1
      go_wp2_with fail
      refine (print21 l v w1 hv1 (by omega)).mono ?_
      rintro e w2 ⟨rfl, hb2⟩
      have hE2 := hE1.below hb2
      have hB2 : Below w.heap.size w w2 := hb1.trans (hb2.mono hb1.size)
      clear hb1 hb2 hv1 hE1 hv
      generalize printB l = pb
      generalize prErr l = pe
      go_wp2_with fail
      refine (read22 s w2 hE2 (by omega) r hr).mono ?_
      rintro e w3 ⟨x, rfl, hx, hb3⟩
      have hB3 : Below w.heap.size w w3 := hB2.trans (hb3.mono hB2.size)
      clear hB2 hE2 hb3
      go_wp2_with fail
      refine (read23 s w3 (by omega) r hr).mono ?_
      rintro e w4 ⟨y, rfl, hy, hb4⟩
      have hx4 := hx.below hb4
      have hB4 : Below w.heap.size w w4 := hB3.trans (hb4.mono hB3.size)
      clear hB3 hx hb4
      obtain ⟨rl, ri, rc⟩ := r
      simp only at hx4 hy hlen
      go_wp2_with fail
      refine (equal24 rl x y w4 hx4 hy hlen).mono ?_
      rintro e w5 ⟨rfl, hb5⟩
      have hB5 : Below w.heap.size w w5 := hB4.trans (hb5.mono hB4.size)
      clear hB4 hb5 hx4 hy hr
      go_wp2_with fail
      refine (awake11 _ (hE.below hB5)).mono ?_
      rintro e w6 ⟨rfl, hb6⟩
      go_wp2_with fail
      go_ret
      exact ⟨rfl, hB5.trans (hb6.mono hB5.size)⟩
end Go.Proofs.YtofomblpbmpbaaaDoor

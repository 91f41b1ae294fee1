/- The law of the prefix: a beginning of a trace is a trace: the walk. -/
import Derived.Test.YtofomblpbmpbaaaDoorChe
import Derived.Test.YtofomblpbmpbaaaDoorRce
import Derived.Test.YtofomblpbmpbaaaDoorLaw1
namespace Go.Proofs.YtofomblpbmpbaaaDoor
open Go.RowKit
set_option maxRecDepth 100000 in
set_option maxHeartbeats 2000000 in
theorem tracePrefix8 (l : List Ev) (v : Value) (n : Nat) (hn : n < 256) (w : World) (hE : Env w) (hv : EvsV w v l) : Calls Tryd.prog 8 #[v, .int .u8 n] w (LPost w) := by
  by_cases hbig : 80 < l.length
  · have hd : decide (80 < l.length) = true := decide_eq_true hbig
    go_enter Tryd.func8, Tryd.ntmps8
    go_wp2_with fail
    have n0 := great16 w v l hv
    rw [hd] at n0
    refine n0.mono ?_
    rintro e w1 ⟨rfl, rfl⟩
    go_wp2_with fail
    refine (awake11 _ hE).mono ?_
    rintro e w1 ⟨rfl, hb1⟩
    go_wp2_with fail
    go_ret
    exact ⟨rfl, hb1⟩
  · have hd : decide (80 < l.length) = false := decide_eq_false hbig
    go_enter Tryd.func8, Tryd.ntmps8
    go_wp2_with fail
    have n0 := great16 w v l hv
    rw [hd] at n0
    refine n0.mono ?_
    rintro e w1 ⟨rfl, rfl⟩
    clear n0 hd
    go_wp2_with fail
    have n0 := check25 l v w hv (by omega)
    by_cases hc : chk l = 0
    · rw [hc] at n0
      refine n0.mono ?_
      rintro e w1 ⟨rfl, hb1⟩
      clear n0
      have hE1 := hE.below hb1
      have hv1 := hv.below hb1
      have hct := fun m => chk_take hc m
      have Hct := Lib.hid hct
      clear hct hc hv hE
      have hm : n % (l.length + 1) < l.length + 1 := Nat.mod_lt _ (by omega)
      obtain ⟨A, c, rfl, hlc, hrw⟩ := hv1
      have hmi : ((n : Int) % ((l.length : Int) + 1)) = ((n % (l.length + 1) : Nat) : Int) := by simp
      obtain ⟨m, hm0⟩ : ∃ m, n % (l.length + 1) = m := ⟨_, rfl⟩
      rw [hm0] at hmi hm
      have hmt : ((n : Int) % ((l.length : Int) + 1)).toNat = m := by rw [hmi]; simp
      have hv2 : EvsV w1 (.slice A m c) (l.take m) := by
        have hl : (l.take m).length = m := by simp; omega
        refine ⟨A, c, by rw [hl], by rw [hl]; omega, fun hne => ?_⟩
        obtain ⟨b, off, h1, h2, h3⟩ := hrw (by rintro rfl; simp at hne)
        refine ⟨b, off, h1, h2, fun j hj => ?_⟩
        have := h3 j (by rw [hl] at hj; omega)
        simpa using this
      have Hv2 := Lib.hid hv2
      have Hmt := Lib.hid hm0
      have i0 : 0 ≤ (n : Int) % ((l.length : Int) + 1) := by rw [hmi]; omega
      have i1 : (n : Int) % ((l.length : Int) + 1) ≤ (c : Int) := by rw [hmi]; omega
      clear hv2 hrw hm0 hmt hmi
      go_wp2_with fail
      rw [Hmt.out]
      have n0 := check25 (l.take m) _ w1 Hv2.out (by simp; omega)
      rw [Hct.out m] at n0
      refine n0.mono ?_
      rintro e w2 ⟨rfl, hb2⟩
      go_wp2_with fail
      refine (awake11 _ (hE1.below hb2)).mono ?_
      rintro e w3 ⟨rfl, hb3⟩
      go_wp2_with fail
      go_ret
      exact ⟨rfl, hb1.trans ((hb2.trans (hb3.mono hb2.size)).mono hb1.size)⟩
    · obtain ⟨x, hx⟩ : ∃ x, chk l = x := ⟨_, rfl⟩
      rw [hx] at n0 hc
      have hx1 : (x != 0) = true := by simpa using hc
      clear hx hc
      refine n0.mono ?_
      rintro e w1 ⟨rfl, hb1⟩
      clear n0
      have hE1 := hE.below hb1
      go_wp2_with fail
      refine (awake11 _ hE1).mono ?_
      rintro e w2 ⟨rfl, hb2⟩
      go_wp2_with fail
      go_ret
      exact ⟨rfl, hb1.trans (hb2.mono hb1.size)⟩
end Go.Proofs.YtofomblpbmpbaaaDoor

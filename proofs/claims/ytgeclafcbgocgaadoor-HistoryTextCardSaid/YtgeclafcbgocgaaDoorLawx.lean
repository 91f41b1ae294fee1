/- The law of the text of a history: the program and the reference write and read alike: the walk. -/
import Derived.Test.YtgeclafcbgocgaaDoorAwk
import Derived.Test.YtgeclafcbgocgaaDoorRtx
import Derived.Test.YtgeclafcbgocgaaDoorRpa
import Derived.Test.YtgeclafcbgocgaaDoorLawb
namespace Go.Proofs.YtgeclafcbgocgaaDoor
open Go.RowKit
theorem stepL_len {c : List Cl} (h : c.length ≤ 100) (p : Nat) (a : List UInt8) : (stepL c p a).1.length ≤ 100 := by
  unfold stepL
  split
  · exact h
  · exact bookStep_len h p _
theorem runL_len : ∀ (L : List (List UInt8)) (R : List UInt8) (c : List Cl) (p : Nat), c.length ≤ 100 → (runL L R c p).1.length ≤ 100
  | [], R, c, p, h => by
    unfold runL
    split
    · exact h
    · exact Nat.zero_le _
  | a :: L, R, c, p, h => by
    unfold runL
    split
    · exact runL_len L R _ _ (stepL_len h p a)
    · exact Nat.zero_le _
theorem rdTo_len {s : List UInt8} {r : List Cl × Int} (h : RdTo s [] 0 r) : r.1.length ≤ 100 := by
  obtain ⟨L, R, -, rfl⟩ := h
  exact runL_len L R [] 0 (Nat.zero_le _)
set_option maxRecDepth 100000 in
set_option maxHeartbeats 4000000 in
theorem historyText3 (l : List Cl) (v : Value) (s : List UInt8) (w : World) (hE : Env w) (hv : ClV w v l) : Calls Tryd.prog 3 #[v, .string ⟨s.toArray⟩] w (YPost w) := by
  have n0 := great8 w v l hv
  go_enter Tryd.func3, Tryd.ntmps3
  go_wp2_with fail
  refine n0.mono ?_
  rintro e w1 ⟨rfl, rfl⟩
  clear n0
  rcases Bool.eq_false_or_eq_true (decide (20 < l.length ∧ l.length ≤ 100) || decide (110 < l.length)) with hg | hg
  · rw [hg]
    go_wp2_with fail
    refine (awake9 _ hE).mono ?_
    rintro e w1 ⟨rfl, hb1⟩
    go_wp2_with fail
    go_ret
    exact ⟨rfl, hb1⟩
  · have hlen := great_small hg
    have hl : l.length ≤ 65536 := by omega
    rw [hg]
    clear hg
    by_cases hs : 1500 < s.length
    · go_wp2_with fail
      refine (awake9 _ hE).mono ?_
      rintro e w1 ⟨rfl, hb1⟩
      go_wp2_with fail
      go_ret
      exact ⟨rfl, hb1⟩
    · obtain ⟨r, hr⟩ := rdTo_exist s [] 0
      have hrl := rdTo_len hr
      have n1 := fun W (hE : Env W) (hW : ClV W v l) => text10 l v W hE hW hl
      have n2 := fun W (hW : ClV W v l) => rtext11 l v W hW hl
      have n3 := fun W (hE : Env W) => parse12 s W hE (by omega) r hr
      have n4 := fun W => rparse13 s W (by omega) r hr
      generalize chkH l = x at *
      generalize textH l = t at *
      obtain ⟨y, z⟩ := r
      simp only at hrl
      clear hr hlen
      go_wp2_with fail
      refine (n1 w hE hv).mono ?_
      rintro e w1 ⟨rfl, hb1⟩
      have hV := hv.below hb1
      have hB := hb1
      have hE1 := hE.below hb1
      clear hv hb1 hE n1
      unfold strV
      go_wp2_with fail
      refine (n2 w1 hV).mono ?_
      rintro e w2 ⟨rfl, hb1⟩
      have hB2 := hB.trans (hb1.mono hB.size)
      have hE2 := hE1.below hb1
      clear hV hB hE1 hb1 n2
      unfold strV
      go_wp2_with fail
      refine (n3 w2 hE2).mono ?_
      rintro e w3 ⟨v3, rfl, h3, hb1⟩
      have hB3 := hB2.trans (hb1.mono hB2.size)
      have hE3 := hE2.below hb1
      clear hB2 hE2 hb1 n3
      go_wp2_with fail
      refine (n4 w3).mono ?_
      rintro e w4 ⟨v4, rfl, h4, hb1⟩
      have h34 := h3.below hb1
      have hB4 := hB3.trans (hb1.mono hB3.size)
      have hE4 := hE3.below hb1
      clear hB3 hE3 hb1 n4 h3
      simp only at h34 h4
      go_wp2_with fail
      refine (equal14 y _ _ w4 h34 h4 (by omega)).mono ?_
      rintro e w5 ⟨rfl, hb1⟩
      have hB5 := hB4.trans (hb1.mono hB4.size)
      have hE5 := hE4.below hb1
      clear hB4 hE4 hb1 h34 h4
      go_wp2_with fail
      refine (awake9 _ hE5).mono ?_
      rintro e w6 ⟨rfl, hb1⟩
      go_wp2_with fail
      go_ret
      exact ⟨rfl, hB5.trans (hb1.mono hB5.size)⟩
end Go.Proofs.YtgeclafcbgocgaaDoor

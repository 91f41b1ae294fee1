/- A number of a range, in its only form: by the program and by the reference. -/
import Derived.Test.YtgeclafcbgocgaaDoorNum
import Derived.Test.YtgeclafcbgocgaaDoorEnv
import Derived.Lib.AtoiAllCases
namespace Go.Proofs.YtgeclafcbgocgaaDoor
open Go.RowKit
/-- What the two functions number return. -/
def NumIs (s : List UInt8) (lo hi : Int) (e : Ending) : Prop := ∃ n b, e = .returned (.tuple #[.int .i64 n, .bool b]) ∧ numO s lo hi = if b = true then some n else none
theorem numB52 (s : List UInt8) (lo hi : Int) (w : World) (hs : s.length ≤ 100000) :
    Calls Tryd.prog 52 #[.string ⟨s.toArray⟩, .int .i64 lo, .int .i64 hi] w fun e w' => NumIs s lo hi e ∧ Below w.heap.size w w' := by
  refine (number52 s lo hi w hs).mono ?_
  rintro e w' ⟨rfl, hb⟩
  refine ⟨⟨_, _, rfl, ?_⟩, hb⟩
  unfold numO inB
  by_cases h : (numR s).2 = true ∧ lo ≤ (numR s).1 ∧ (numR s).1 ≤ hi
  · rw [if_pos h, if_pos]
    simp [h.1, h.2.1, h.2.2]
  · rw [if_neg h, if_neg]
    simpa using h
theorem numO_atoi {s : List UInt8} {n lo hi : Int} (h0 : -1099511627776 ≤ lo) (h1 : hi ≤ 1099511627776) (ha : Lib.atoiAll s = .ok n) : numO s lo hi = if (Lib.itoa n == s && inB n lo hi) = true then some n else none := by
  unfold inB
  by_cases h : (Lib.itoa n == s && (decide (lo ≤ n) && decide (n ≤ hi))) = true
  · rw [if_pos h]
    simp only [Bool.and_eq_true, beq_iff_eq, decide_eq_true_eq] at h
    rw [← h.1]
    exact numO_itoa h0 h1 h.2.1 h.2.2
  · rw [if_neg h]
    cases hn : numO s lo hi with
    | none => rfl
    | some m =>
      obtain ⟨e1, e2, e3⟩ := numO_some hn
      exfalso
      refine h ?_
      rw [e1, atoiAll_itoa m (by omega) (by omega)] at ha
      have : m = n := by simpa using ha
      subst this
      simp [e1, e2, e3]
theorem numO_bad {s : List UInt8} {lo hi : Int} (h0 : -1099511627776 ≤ lo) (h1 : hi ≤ 1099511627776) (ha : ∀ m, Lib.atoiAll s ≠ .ok m) : numO s lo hi = none := by
  cases hn : numO s lo hi with
  | none => rfl
  | some m =>
    obtain ⟨e1, e2, e3⟩ := numO_some hn
    exact absurd (by rw [e1]; exact atoiAll_itoa m (by omega) (by omega)) (ha m)
set_option maxRecDepth 100000 in
theorem numB48 (s : List UInt8) (lo hi : Int) (w : World) (hE : Env w) (hs : s.length ≤ 1048576) (h0 : -1099511627776 ≤ lo) (h1 : hi ≤ 1099511627776) :
    Calls Tryd.prog 48 #[.string ⟨s.toArray⟩, .int .i64 lo, .int .i64 hi] w fun e w' => NumIs s lo hi e ∧ Below w.heap.size w w' := by
  go_enter Tryd.func48, Tryd.ntmps48
  go_wp2_with fail
  refine (atoi63 s w hE hs).mono ?_
  rintro e w1 ⟨n, err, rfl, hA, hb⟩
  have hE1 := Lib.hid (hE.below hb)
  rcases hA with ⟨ha, rfl⟩ | ⟨ha, t, p, rfl⟩
  · have hbd := Lib.atoiAll_bounds ha
    have HN := Lib.hid (numO_atoi h0 h1 ha)
    clear ha hE
    go_wp2_with fail
    refine (itoa27 n w1 hE1.out hbd.1 hbd.2).mono ?_
    rintro e w2 ⟨rfl, hb2⟩
    rcases Bool.eq_false_or_eq_true (Lib.itoa n == s) with hq | hq
    · rw [hq, Bool.true_and] at HN
      go_wp2_with fail
      refine (within53 _ _ _ _).mono ?_
      rintro e w3 ⟨rfl, rfl⟩
      go_wp2_with fail
      go_ret2
      exact ⟨⟨_, _, rfl, HN.out⟩, hb.trans (hb2.mono hb.size)⟩
    · rw [hq, Bool.false_and] at HN
      go_wp2_with fail
      go_ret2
      exact ⟨⟨_, _, rfl, HN.out⟩, hb.trans (hb2.mono hb.size)⟩
  · have HN := Lib.hid (numO_bad h0 h1 ha)
    clear ha hE
    go_wp2_with fail
    go_ret2
    exact ⟨⟨_, _, rfl, HN.out⟩, hb⟩
end Go.Proofs.YtgeclafcbgocgaaDoor

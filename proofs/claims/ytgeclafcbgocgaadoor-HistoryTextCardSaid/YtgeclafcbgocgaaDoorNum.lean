/- The reference's number and behind. -/
import Derived.Test.YtgeclafcbgocgaaDoorFld
import Derived.Test.YtgeclafcbgocgaaDoorDec
import Derived.Test.YtgeclafcbgocgaaDoorHpb
namespace Go.Proofs.YtgeclafcbgocgaaDoor
open Go.RowKit
set_option maxRecDepth 100000 in
theorem within55 (n lo hi : Int) (w : World) : Calls Tryd.prog 55 #[.int .i64 n, .int .i64 lo, .int .i64 hi] w fun e w' => e = .returned (.bool (inB n lo hi)) ∧ w = w' := by
  unfold inB
  rcases Bool.eq_false_or_eq_true (decide (lo ≤ n)) with h | h
  · rw [h]
    have h' := of_decide_eq_true h
    go_enter Tryd.func55, Tryd.ntmps55
    go_wp2
    go_ret
    exact ⟨rfl, rfl⟩
  · rw [h]
    have h' := of_decide_eq_false h
    go_enter Tryd.func55, Tryd.ntmps55
    go_wp2
    go_ret
    exact ⟨rfl, rfl⟩
set_option maxRecDepth 100000 in
theorem within53 (n lo hi : Int) (w : World) : Calls Tryd.prog 53 #[.int .i64 n, .int .i64 lo, .int .i64 hi] w fun e w' => e = .returned (.bool (inB n lo hi)) ∧ w = w' := by
  unfold inB
  rcases Bool.eq_false_or_eq_true (decide (lo ≤ n)) with h | h
  · rw [h]
    have h' := of_decide_eq_true h
    go_enter Tryd.func53, Tryd.ntmps53
    go_wp2
    go_ret
    exact ⟨rfl, rfl⟩
  · rw [h]
    have h' := of_decide_eq_false h
    go_enter Tryd.func53, Tryd.ntmps53
    go_wp2
    go_ret
    exact ⟨rfl, rfl⟩
theorem num_good (S : List UInt8) (k m : Nat) (h : k < S.length) (hg : ¬ (S[k].toNat < 48 ∨ 57 < S[k].toNat ∨ 1099511627776 < m)) : numLoop m (S.drop k) = numLoop (m * 10 + (S[k].toNat - 48)) (S.drop (k + 1)) := by
  rw [List.drop_eq_getElem_cons h, numLoop, if_neg hg]
theorem num_bad (S : List UInt8) (k m : Nat) (h : k < S.length) (hb : S[k].toNat < 48 ∨ 57 < S[k].toNat ∨ 1099511627776 < m) : numLoop m (S.drop k) = none := by
  rw [List.drop_eq_getElem_cons h, numLoop, if_pos hb]
theorem beq_dec (a b : List UInt8) : decide (a = b) = (a == b) := by
  by_cases h : a = b
  · subst h; simp
  · simp [h]
set_option maxRecDepth 100000 in
set_option maxHeartbeats 1000000 in
theorem number52_pos (x : UInt8) (r : List UInt8) (lo hi : Int) (w : World) (hs : (x :: r).length ≤ 100000) (hx : x ≠ 45) :
    Calls Tryd.prog 52 #[.string ⟨(x :: r).toArray⟩, .int .i64 lo, .int .i64 hi] w fun e w' => e = .returned (.tuple #[.int .i64 (numR (x :: r)).1, .bool ((numR (x :: r)).2 && inB (numR (x :: r)).1 lo hi)]) ∧ Below w.heap.size w w' := by
  have ht : (((ByteArray.mk (x :: r).toArray)[0]'(by simp [ByteArray.size])).toNat : Int) = x.toNat := rfl
  have ht2 : (((x.toNat : Nat) : Int) == 45) = false := by
    rw [beq_eq_false_iff_ne]
    intro e
    exact hx (UInt8.toNat_inj.1 (by have : (45 : UInt8).toNat = 45 := rfl
                                    omega))
  have HR : Hid (numR (x :: r) = match numLoop 0 ((x :: r).drop 0) with | none => (0, false) | some n => ((n : Int), decide (Lib.itoa ((n : Int)) = x :: r))) := by
    unfold numR
    simp only [List.head?_cons, Option.some.injEq, if_neg hx, List.drop_zero]
    rfl
  clear hx
  have hS0 : 0 ≤ (x :: r).length := by simp
  obtain ⟨S, hS⟩ : ∃ S, S = x :: r := ⟨_, rfl⟩
  have hsS : S.length ≤ 100000 := by rw [hS]; exact hs
  rw [← hS] at HR
  have HS := Lib.hid hS
  clear hS
  go_enter Tryd.func52, Tryd.ntmps52
  go_wp2
  go_loop [8, 10] (fun n i => ∃ (k m : Nat), 0 ≤ k ∧ k ≤ (x :: r).length ∧ i = .int .i64 k ∧ n = .int .i64 m ∧ m ≤ 10995116277769 ∧ Hid (numLoop m ((x :: r).drop k) = numLoop 0 ((x :: r).drop 0))) (fun _ i => (x :: r).length - (intOf i).toNat)
  case atStart => exact ⟨0, 0, Nat.le_refl _, hS0, rfl, rfl, by omega, rfl⟩
  case round =>
    obtain ⟨k, m, hk0, hk, rfl, rfl, hm, hN⟩ := hrel
    rw [← HS.out] at hN hk ⊢
    clear ht ht2 hs
    by_cases hlt : k < S.length
    · have hb256 := (S[k]).toNat_lt
      have e0 : ((ByteArray.mk S.toArray)[k]'hlt).toNat ≤ 255 := by have e1 : ((ByteArray.mk S.toArray)[k]'hlt).toNat = S[k].toNat := rfl
                                                                    omega
      go_wp2
      all_goals first
        | (go_round
           case rel =>
             have hgood : ¬ (S[k].toNat < 48 ∨ 57 < S[k].toNat ∨ 1099511627776 < m) := by
               have e1 : ((ByteArray.mk S.toArray)[k]'hlt).toNat = S[k].toNat := rfl
               omega
             refine ⟨k + 1, m * 10 + (S[k].toNat - 48), by omega, by omega, by go_num, ?_, by omega, (num_good S k m hlt hgood).symm.trans hN.out⟩
             have e1 : ((ByteArray.mk S.toArray)[k]'hlt).toNat = S[k].toNat := rfl
             have e2 : (m : Int) * 10 + (((ByteArray.mk S.toArray)[k]'hlt).toNat - 48) = ((m * 10 + (S[k].toNat - 48) : Nat) : Int) := by omega
             rw [e2]
           case measure => simp [intOf]; omega)
        | (go_ret2
           have hbad : S[k].toNat < 48 ∨ 57 < S[k].toNat ∨ 1099511627776 < m := by
             have e1 : ((ByteArray.mk S.toArray)[k]'hlt).toNat = S[k].toNat := rfl
             omega
           refine ⟨?_, Below.refl _ _⟩
           have hnone := (num_bad S k m hlt hbad).symm.trans hN.out
           rw [← HS.out, HR.out, ← hnone]
           rfl)
    · have hk' : k = S.length := by omega
      have hsome : some m = numLoop 0 (S.drop 0) := by have := hN.out; rw [hk', List.drop_length] at this; exact this
      have Hsome := Lib.hid hsome
      clear hsome hk'
      go_wp2_with fail
      refine (decimal29 _ _ (by omega) (by omega)).mono ?_
      rintro e w1 ⟨rfl, hb1⟩
      rcases Bool.eq_false_or_eq_true (Lib.itoa ((m : Int)) == S) with hq | hq
      · go_wp2_with fail
        refine (within55 _ _ _ _).mono ?_
        rintro e w2 ⟨rfl, rfl⟩
        go_wp2_with fail
        go_ret2
        refine ⟨?_, hb1⟩
        rw [← HS.out, HR.out, ← Hsome.out]
        simp only []
        rw [beq_dec, hq]
        rfl
      · go_wp2_with fail
        go_ret2
        refine ⟨?_, hb1⟩
        rw [← HS.out, HR.out, ← Hsome.out]
        simp only []
        rw [beq_dec, hq]
        rfl
set_option maxRecDepth 100000 in
set_option maxHeartbeats 1000000 in
theorem number52_neg (x : UInt8) (r : List UInt8) (lo hi : Int) (w : World) (hs : (x :: r).length ≤ 100000) (hx : x = 45) :
    Calls Tryd.prog 52 #[.string ⟨(x :: r).toArray⟩, .int .i64 lo, .int .i64 hi] w fun e w' => e = .returned (.tuple #[.int .i64 (numR (x :: r)).1, .bool ((numR (x :: r)).2 && inB (numR (x :: r)).1 lo hi)]) ∧ Below w.heap.size w w' := by
  have ht : (((ByteArray.mk (x :: r).toArray)[0]'(by simp [ByteArray.size])).toNat : Int) = x.toNat := rfl
  have ht2 : (((x.toNat : Nat) : Int) == 45) = true := by
    subst hx
    rfl
  have HR : Hid (numR (x :: r) = match numLoop 0 ((x :: r).drop 1) with | none => (0, false) | some n => (-(n : Int), decide (Lib.itoa (-(n : Int)) = x :: r))) := by
    unfold numR
    simp only [List.head?_cons, Option.some.injEq, if_pos hx, List.drop_one]
    rfl
  clear hx
  have hS0 : 1 ≤ (x :: r).length := by simp
  obtain ⟨S, hS⟩ : ∃ S, S = x :: r := ⟨_, rfl⟩
  have hsS : S.length ≤ 100000 := by rw [hS]; exact hs
  rw [← hS] at HR
  have HS := Lib.hid hS
  clear hS
  go_enter Tryd.func52, Tryd.ntmps52
  go_wp2
  go_loop [8, 10] (fun n i => ∃ (k m : Nat), 1 ≤ k ∧ k ≤ (x :: r).length ∧ i = .int .i64 k ∧ n = .int .i64 m ∧ m ≤ 10995116277769 ∧ Hid (numLoop m ((x :: r).drop k) = numLoop 0 ((x :: r).drop 1))) (fun _ i => (x :: r).length - (intOf i).toNat)
  case atStart => exact ⟨1, 0, Nat.le_refl _, hS0, rfl, rfl, by omega, rfl⟩
  case round =>
    obtain ⟨k, m, hk0, hk, rfl, rfl, hm, hN⟩ := hrel
    rw [← HS.out] at hN hk ⊢
    clear ht ht2 hs
    by_cases hlt : k < S.length
    · have hb256 := (S[k]).toNat_lt
      have e0 : ((ByteArray.mk S.toArray)[k]'hlt).toNat ≤ 255 := by have e1 : ((ByteArray.mk S.toArray)[k]'hlt).toNat = S[k].toNat := rfl
                                                                    omega
      go_wp2
      all_goals first
        | (go_round
           case rel =>
             have hgood : ¬ (S[k].toNat < 48 ∨ 57 < S[k].toNat ∨ 1099511627776 < m) := by
               have e1 : ((ByteArray.mk S.toArray)[k]'hlt).toNat = S[k].toNat := rfl
               omega
             refine ⟨k + 1, m * 10 + (S[k].toNat - 48), by omega, by omega, by go_num, ?_, by omega, (num_good S k m hlt hgood).symm.trans hN.out⟩
             have e1 : ((ByteArray.mk S.toArray)[k]'hlt).toNat = S[k].toNat := rfl
             have e2 : (m : Int) * 10 + (((ByteArray.mk S.toArray)[k]'hlt).toNat - 48) = ((m * 10 + (S[k].toNat - 48) : Nat) : Int) := by omega
             rw [e2]
           case measure => simp [intOf]; omega)
        | (go_ret2
           have hbad : S[k].toNat < 48 ∨ 57 < S[k].toNat ∨ 1099511627776 < m := by
             have e1 : ((ByteArray.mk S.toArray)[k]'hlt).toNat = S[k].toNat := rfl
             omega
           refine ⟨?_, Below.refl _ _⟩
           have hnone := (num_bad S k m hlt hbad).symm.trans hN.out
           rw [← HS.out, HR.out, ← hnone]
           rfl)
    · have hk' : k = S.length := by omega
      have hsome : some m = numLoop 0 (S.drop 1) := by have := hN.out; rw [hk', List.drop_length] at this; exact this
      have Hsome := Lib.hid hsome
      clear hsome hk'
      go_wp2_with fail
      refine (decimal29 _ _ (by omega) (by omega)).mono ?_
      rintro e w1 ⟨rfl, hb1⟩
      rcases Bool.eq_false_or_eq_true (Lib.itoa (-(m : Int)) == S) with hq | hq
      · go_wp2_with fail
        refine (within55 _ _ _ _).mono ?_
        rintro e w2 ⟨rfl, rfl⟩
        go_wp2_with fail
        go_ret2
        refine ⟨?_, hb1⟩
        rw [← HS.out, HR.out, ← Hsome.out]
        simp only []
        rw [beq_dec, hq]
        rfl
      · go_wp2_with fail
        go_ret2
        refine ⟨?_, hb1⟩
        rw [← HS.out, HR.out, ← Hsome.out]
        simp only []
        rw [beq_dec, hq]
        rfl
set_option maxRecDepth 100000 in
theorem number52_nil (lo hi : Int) (w : World) : Calls Tryd.prog 52 #[.string ⟨#[]⟩, .int .i64 lo, .int .i64 hi] w fun e w' => e = .returned (.tuple #[.int .i64 0, .bool false]) ∧ Below w.heap.size w w' := by
  go_enter Tryd.func52, Tryd.ntmps52
  go_wp2
  refine wp_loop_rounds 1 ?_
  rw [rounds_succ]
  go_wp2_with fail
  refine (decimal29 _ _ (by omega) (by omega)).mono ?_
  rintro e w1 ⟨rfl, hb1⟩
  have hne : (Lib.itoa 0 == []) = false := by decide +kernel
  go_wp2_with fail
  go_ret2
  exact ⟨by simp, hb1⟩
theorem number52 (s : List UInt8) (lo hi : Int) (w : World) (hs : s.length ≤ 100000) :
    Calls Tryd.prog 52 #[.string ⟨s.toArray⟩, .int .i64 lo, .int .i64 hi] w fun e w' => e = .returned (.tuple #[.int .i64 (numR s).1, .bool ((numR s).2 && inB (numR s).1 lo hi)]) ∧ Below w.heap.size w w' := by
  cases s with
  | nil =>
    have h : numR [] = (0, false) := by decide +kernel
    rw [h]
    exact number52_nil lo hi w
  | cons x r =>
    by_cases hx : x = 45
    · exact number52_neg x r lo hi w hs hx
    · exact number52_pos x r lo hi w hs hx
end Go.Proofs.YtgeclafcbgocgaaDoor

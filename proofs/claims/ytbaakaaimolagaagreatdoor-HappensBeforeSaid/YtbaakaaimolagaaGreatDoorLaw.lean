/- A part of the proof that nurserylaw36.HappensBefore returns true for every input. -/
import Derived.Test.YtbaakaaimolagaaGreatDoorBef
import Derived.Test.YtbaakaaimolagaaGreatDoorAnc
namespace Go.Proofs.Seat4
open Go.RowKit
theorem ClkIs.drewN {w : World} {P Q : Option Addr} {n m : Nat} {A : Nat → Option Addr} {L C : Nat → Nat} {Z : Nat → Nat → Int} {T : Nat → Int} (h : ClkIs w P n Q m A L C Z T) (q : Nat) : ClkIs (w.drewN q) P n Q m A L C Z T := ⟨h.out, h.inn, h.chs⟩
theorem befB_bad {n m : Nat} {L : Nat → Nat} {Z : Nat → Nat → Int} {T : Nat → Int} {i j : Int} (h : i = j ∨ i < 0 ∨ j < 0 ∨ (n : Int) ≤ i ∨ (n : Int) ≤ j ∨ (m : Int) ≤ i ∨ (m : Int) ≤ j) : befB n m L Z T i j = false := if_pos h
/-- Before, whichever of the two it is: out of its three ways. -/
theorem before_of (f : FuncId)
    (hbad : ∀ (n m cap cap' : Nat) (P Q : Option Addr) (i j : Int) (w : World), (i = j ∨ i < 0 ∨ j < 0 ∨ (n : Int) ≤ i ∨ (n : Int) ≤ j ∨ (m : Int) ≤ i ∨ (m : Int) ≤ j) →
      Calls Tryz.prog f #[.slice P n cap, .slice Q m cap', .int .i64 i, .int .i64 j] w fun e w' => e = .returned (.bool false) ∧ ∃ q, w' = w.drewN q)
    (hnone : ∀ (n m cap cap' b off cb co i j Li Lj Ci Cj : Nat) (Ai Aj : Option Addr) (t k : Int) (w : World), i ≠ j → i < n → j < n → i < m → j < m →
      w.cell? ⟨cb, co + i * 2, none⟩ = some (.int .i64 t) → w.cell? ⟨b, off + i, none⟩ = some (.slice Ai Li Ci) → w.cell? ⟨b, off + j, none⟩ = some (.slice Aj Lj Cj) →
      wrap64 (t + 1) = k → (k < 0 ∨ 16 < k ∨ (Li : Int) ≤ k ∨ (Lj : Int) ≤ k) →
      Calls Tryz.prog f #[.slice (some ⟨b, off, none⟩) n cap, .slice (some ⟨cb, co, none⟩) m cap', .int .i64 i, .int .i64 j] w fun e w' => e = .returned (.bool false) ∧ ∃ q, w' = w.drewN q)
    (hsome : ∀ (n m cap cap' b off cb co i j Li Lj Ci Cj ab ao bb bo k : Nat) (t zi zj : Int) (w : World), i ≠ j → i < n → j < n → i < m → j < m →
      w.cell? ⟨cb, co + i * 2, none⟩ = some (.int .i64 t) → w.cell? ⟨b, off + i, none⟩ = some (.slice (some ⟨ab, ao, none⟩) Li Ci) → w.cell? ⟨b, off + j, none⟩ = some (.slice (some ⟨bb, bo, none⟩) Lj Cj) →
      wrap64 (t + 1) = k → k ≤ 16 → k < Li → k < Lj → w.cell? ⟨ab, ao + k, none⟩ = some (.int .i64 zi) → w.cell? ⟨bb, bo + k, none⟩ = some (.int .i64 zj) →
      Calls Tryz.prog f #[.slice (some ⟨b, off, none⟩) n cap, .slice (some ⟨cb, co, none⟩) m cap', .int .i64 i, .int .i64 j] w fun e w' => e = .returned (.bool (decide (zi ≤ zj))) ∧ ∃ q, w' = w.drewN q)
    {w : World} {P Q : Option Addr} {n m : Nat} {A : Nat → Option Addr} {L C : Nat → Nat} {Z : Nat → Nat → Int} {T : Nat → Int} (h : ClkIs w P n Q m A L C Z T) (cap cap' : Nat) (i j : Int) :
    Calls Tryz.prog f #[.slice P n cap, .slice Q m cap', .int .i64 i, .int .i64 j] w fun e w' => e = .returned (.bool (befB n m L Z T i j)) ∧ ∃ q, w' = w.drewN q := by
  by_cases hb : i = j ∨ i < 0 ∨ j < 0 ∨ (n : Int) ≤ i ∨ (n : Int) ≤ j ∨ (m : Int) ≤ i ∨ (m : Int) ≤ j
  · rw [befB_bad hb]
    exact hbad n m cap cap' P Q i j w hb
  · have hr : befB n m L Z T i j = if wrap64 (T i.toNat + 1) < 0 ∨ 16 < wrap64 (T i.toNat + 1) ∨ (L i.toNat : Int) ≤ wrap64 (T i.toNat + 1) ∨ (L j.toNat : Int) ≤ wrap64 (T i.toNat + 1) then false
      else decide (Z i.toNat (wrap64 (T i.toNat + 1)).toNat ≤ Z j.toNat (wrap64 (T i.toNat + 1)).toNat) := if_neg hb
    rw [hr]
    obtain ⟨i', rfl⟩ : ∃ i' : Nat, i = (i' : Int) := ⟨i.toNat, by omega⟩
    obtain ⟨j', rfl⟩ : ∃ j' : Nat, j = (j' : Int) := ⟨j.toNat, by omega⟩
    simp only [Int.toNat_natCast]
    obtain ⟨b, off, rfl, h1⟩ := h.out (by omega)
    obtain ⟨cb, co, rfl, h2⟩ := h.chs (by omega)
    by_cases hk : wrap64 (T i' + 1) < 0 ∨ 16 < wrap64 (T i' + 1) ∨ (L i' : Int) ≤ wrap64 (T i' + 1) ∨ (L j' : Int) ≤ wrap64 (T i' + 1)
    · rw [if_pos hk]
      exact hnone n m cap cap' b off cb co i' j' _ _ _ _ _ _ _ _ w (by omega) (by omega) (by omega) (by omega) (by omega) (h2 i' (by omega)) (h1 i' (by omega)) (h1 j' (by omega)) rfl hk
    · rw [if_neg hk]
      have hkk : wrap64 (T i' + 1) = ((wrap64 (T i' + 1)).toNat : Int) := (Int.toNat_of_nonneg (by omega)).symm
      obtain ⟨ab, ao, ha, h3⟩ := h.inn i' (by omega) (by omega)
      obtain ⟨bb, bo, hb', h4⟩ := h.inn j' (by omega) (by omega)
      have e1 := h1 i' (by omega)
      have e2 := h1 j' (by omega)
      rw [ha] at e1
      rw [hb'] at e2
      exact hsome n m cap cap' b off cb co i' j' _ _ _ _ ab ao bb bo (wrap64 (T i' + 1)).toNat _ _ _ w (by omega) (by omega) (by omega) (by omega) (by omega) (h2 i' (by omega)) e1 e2 hkk (by omega) (by omega) (by omega) (h3 _ (by omega)) (h4 _ (by omega))
theorem clo5 (A : Option Addr) (L C : Nat) (w : World) : Calls Tryz.prog 5 #[.slice A L C] w fun e w' => (∃ k : Bool, e = .returned (.bool k)) ∧ w' = w := by
  go_enter Tryz.func5, Tryz.ntmps5
  go_wp2
  go_ret
  exact ⟨⟨_, rfl⟩, rfl⟩
set_option maxRecDepth 100000 in
set_option maxHeartbeats 1000000 in
theorem idx9 (n cap b off : Nat) (A : Nat → Option Addr) (L C : Nat → Nat) (w : World) (hc : ∀ r, r < n → w.cell? ⟨b, off + r, none⟩ = some (.slice (A r) (L r) (C r))) (hn : n ≤ 24) :
    Calls Tryz.prog 9 #[.slice (some ⟨b, off, none⟩) n cap, .func (.func 5) #[] #[]] w fun e w' => (∃ k : Int, e = .returned (.int .i64 k)) ∧ ∃ q, w' = w.drewN q := by
  have Hc := Lib.hid hc
  clear hc
  go_enter Tryz.func9, Tryz.ntmps9
  go_wp2
  go_loopw [8] (fun v wr => ∃ k : Nat, k ≤ n ∧ v = .int .i64 k ∧ ∃ q, wr = w.drewN q) (fun v _ => n - (intOf v).toNat)
  case atStart => exact ⟨0, Nat.zero_le _, rfl, 0, rfl⟩
  case round =>
    obtain ⟨k, hk, rfl, q, rfl⟩ := hrel
    by_cases hlt : k < n
    · have hcell := Hc.out k hlt
      go_wp2_with (go_at_call 5; refine (clo5 _ _ _ _).mono ?_; rintro e w' ⟨⟨c, rfl⟩, rfl⟩; cases c)
      · go_roundw
        case rel => exact ⟨k + 1, by omega, by go_num, q, rfl⟩
        case measure => simp [intOf]; omega
      · go_ret
        exact ⟨⟨_, rfl⟩, q, rfl⟩
    · go_wp2_with fail
      go_ret
      exact ⟨⟨_, rfl⟩, q, rfl⟩
set_option maxRecDepth 100000 in
set_option maxHeartbeats 1000000 in
theorem idx9n (cap : Nat) (P : Option Addr) (w : World) :
    Calls Tryz.prog 9 #[.slice P 0 cap, .func (.func 5) #[] #[]] w fun e w' => (∃ k : Int, e = .returned (.int .i64 k)) ∧ ∃ q, w' = w.drewN q := by
  go_enter Tryz.func9, Tryz.ntmps9
  go_wp2
  refine wp_loop_rounds 1 ?_
  rw [rounds_succ]
  go_wp2_with fail
  go_ret
  exact ⟨⟨_, rfl⟩, 0, rfl⟩
theorem has4 (v : Value) (w : World) (h : Calls Tryz.prog 9 #[v, .func (.func 5) #[] #[]] w fun e w' => (∃ k : Int, e = .returned (.int .i64 k)) ∧ ∃ q, w' = w.drewN q) :
    Calls Tryz.prog 4 #[v, .func (.func 5) #[] #[]] w fun e w' => (∃ k : Bool, e = .returned (.bool k)) ∧ ∃ q, w' = w.drewN q := by
  have H := Lib.hid h
  clear h
  go_enter Tryz.func4, Tryz.ntmps4
  go_wp2_with (go_at_call 9; refine H.out.mono ?_; rintro e w' ⟨⟨k, rfl⟩, q, rfl⟩)
  go_ret
  exact ⟨⟨_, rfl⟩, _, rfl⟩
set_option maxRecDepth 100000 in
set_option maxHeartbeats 1000000 in
theorem law3 {w : World} {P Q : Option Addr} {n m : Nat} {A : Nat → Option Addr} {L C : Nat → Nat} {Z : Nat → Nat → Int} {T : Nat → Int} (h : ClkIs w P n Q m A L C Z T) (cap cap' : Nat) (i j : Int) :
    Calls Tryz.prog 3 #[.slice P n cap, .slice Q m cap', .int .i64 i, .int .i64 j] w fun e w' => e = .returned (.bool true) ∧ Below w.heap.size w w' := by
  obtain ⟨B, h7, h8⟩ : ∃ B : Bool, (∀ q, Calls Tryz.prog 7 #[.slice P n cap, .slice Q m cap', .int .i64 i, .int .i64 j] (w.drewN q) fun e w' => e = .returned (.bool B) ∧ ∃ q', w' = w.drewN q') ∧
      (∀ q, Calls Tryz.prog 8 #[.slice P n cap, .slice Q m cap', .int .i64 i, .int .i64 j] (w.drewN q) fun e w' => e = .returned (.bool B) ∧ ∃ q', w' = w.drewN q') :=
    ⟨befB n m L Z T i j,
      fun q => (before_of 7 before7_bad before7_none before7_some (h.drewN q) cap cap' i j).mono fun e w' ⟨h1, q', h2⟩ => ⟨h1, q + q', by rw [h2, World.drewN_drewN]⟩,
      fun q => (before_of 8 before8_bad before8_none before8_some (h.drewN q) cap cap' i j).mono fun e w' ⟨h1, q', h2⟩ => ⟨h1, q + q', by rw [h2, World.drewN_drewN]⟩⟩
  have haw : ∀ q, Calls Tryz.prog 6 #[] (w.drewN q) fun e w' => e = .returned (.bool true) ∧ Below w.heap.size w w' := fun q =>
    (AvT.anchor (w.drewN q)).mono fun e w' ⟨h1, h2⟩ => ⟨h1, ⟨h2.os, h2.tape, h2.output, h2.size, h2.block⟩⟩
  have H7 := Lib.hid h7
  have H8 := Lib.hid h8
  have Hw := Lib.hid haw
  have hBB : (B == B) = true := by simp
  clear h7 h8 haw
  by_cases h1 : (24 : Int) < (n : Int)
  · clear h
    go_enter Tryz.func3, Tryz.ntmps3
    go_wp2_with (go_at_call 6; refine (Hw.out 0).mono ?_; rintro e w' ⟨rfl, hb⟩)
    go_ret
    exact ⟨rfl, hb⟩
  · by_cases h2 : (24 : Int) < (m : Int)
    · clear h
      go_enter Tryz.func3, Tryz.ntmps3
      go_wp2_with (go_at_call 6; refine (Hw.out 0).mono ?_; rintro e w' ⟨rfl, hb⟩)
      go_ret
      exact ⟨rfl, hb⟩
    · have h4 : Calls Tryz.prog 4 #[.slice P n cap, .func (.func 5) #[] #[]] w fun e w' => (∃ k : Bool, e = .returned (.bool k)) ∧ ∃ q, w' = w.drewN q := by
        refine has4 _ _ ?_
        rcases Nat.eq_zero_or_pos n with rfl | hn
        · exact idx9n cap P w
        · obtain ⟨b, off, rfl, h5⟩ := h.out hn
          exact idx9 n cap b off A L C w h5 (by omega)
      have H4 := Lib.hid h4
      clear h4 h
      go_enter Tryz.func3, Tryz.ntmps3
      go_wp2_with (first | (go_at_call 4; refine H4.out.mono ?_; rintro e w' ⟨⟨c, rfl⟩, q, rfl⟩; cases c) | (go_at_call 6; refine (Hw.out _).mono ?_; rintro e w' ⟨rfl, hb⟩) | (go_at_call 7; refine (H7.out _).mono ?_; rintro e w' ⟨rfl, q', rfl⟩) | (go_at_call 8; refine (H8.out _).mono ?_; rintro e w' ⟨rfl, q', rfl⟩))
      all_goals
        go_ret
        exact ⟨rfl, hb⟩
end Go.Proofs.Seat4

/- A part of the proof that nurserylaw36.HappensBefore returns true for every input. -/
import Derived.Test.YtbaakaaimolagaaGreatDoorGen
import Derived.Lib.Hide
import Derived.Deep.QuietTactic
import Derived.BigQuiet
namespace Go.Proofs.Seat4
open Go.RowKit
/-- The clocks and the choices of a call, as they lie. -/
structure ClkIs (w : World) (P : Option Addr) (n : Nat) (Q : Option Addr) (m : Nat) (A : Nat → Option Addr) (L C : Nat → Nat) (Z : Nat → Nat → Int) (T : Nat → Int) : Prop where
  out : 0 < n → ∃ b off, P = some ⟨b, off, none⟩ ∧ ∀ r, r < n → w.cell? ⟨b, off + r, none⟩ = some (.slice (A r) (L r) (C r))
  inn : ∀ r, r < n → 0 < L r → ∃ b off, A r = some ⟨b, off, none⟩ ∧ ∀ c, c < L r → w.cell? ⟨b, off + c, none⟩ = some (.int .i64 (Z r c))
  chs : 0 < m → ∃ b off, Q = some ⟨b, off, none⟩ ∧ ∀ r, r < m → w.cell? ⟨b, off + r * 2, none⟩ = some (.int .i64 (T r))
def befB (n m : Nat) (L : Nat → Nat) (Z : Nat → Nat → Int) (T : Nat → Int) (i j : Int) : Bool :=
  if i = j ∨ i < 0 ∨ j < 0 ∨ (n : Int) ≤ i ∨ (n : Int) ≤ j ∨ (m : Int) ≤ i ∨ (m : Int) ≤ j then false
  else if wrap64 (T i.toNat + 1) < 0 ∨ 16 < wrap64 (T i.toNat + 1) ∨ (L i.toNat : Int) ≤ wrap64 (T i.toNat + 1) ∨ (L j.toNat : Int) ≤ wrap64 (T i.toNat + 1) then false
  else decide (Z i.toNat (wrap64 (T i.toNat + 1)).toNat ≤ Z j.toNat (wrap64 (T i.toNat + 1)).toNat)
set_option maxRecDepth 100000 in
set_option maxHeartbeats 1000000 in
theorem before8_bad (n m cap cap' : Nat) (P Q : Option Addr) (i j : Int) (w : World) (hb : i = j ∨ i < 0 ∨ j < 0 ∨ (n : Int) ≤ i ∨ (n : Int) ≤ j ∨ (m : Int) ≤ i ∨ (m : Int) ≤ j) :
    Calls Tryz.prog 8 #[.slice P n cap, .slice Q m cap', .int .i64 i, .int .i64 j] w fun e w' => e = .returned (.bool false) ∧ ∃ q, w' = w.drewN q := by
  have Hb := Lib.hid hb
  clear hb
  go_enter Tryz.func8, Tryz.ntmps8
  go_wp2_with fail
  all_goals first
    | (go_ret; exact ⟨rfl, 0, rfl⟩)
    | (exfalso; have := Hb.out; omega)
set_option maxRecDepth 100000 in
set_option maxHeartbeats 2000000 in
theorem before8_none (n m cap cap' b off cb co i j Li Lj Ci Cj : Nat) (Ai Aj : Option Addr) (t k : Int) (w : World) (hij : i ≠ j) (hi : i < n) (hj : j < n) (hi' : i < m) (hj' : j < m)
    (hT : w.cell? ⟨cb, co + i * 2, none⟩ = some (.int .i64 t)) (hAi : w.cell? ⟨b, off + i, none⟩ = some (.slice Ai Li Ci)) (hAj : w.cell? ⟨b, off + j, none⟩ = some (.slice Aj Lj Cj))
    (hk : wrap64 (t + 1) = k) (hb : k < 0 ∨ 16 < k ∨ (Li : Int) ≤ k ∨ (Lj : Int) ≤ k) :
    Calls Tryz.prog 8 #[.slice (some ⟨b, off, none⟩) n cap, .slice (some ⟨cb, co, none⟩) m cap', .int .i64 i, .int .i64 j] w fun e w' => e = .returned (.bool false) ∧ ∃ q, w' = w.drewN q := by
  have Hb := Lib.hid hb
  clear hb
  have e1 : ((i : Int) == (j : Int)) = false := by simp; omega
  go_enter Tryz.func8, Tryz.ntmps8
  go_wp2_with fail
  all_goals first
    | (go_ret; exact ⟨rfl, 0, rfl⟩)
    | (exfalso; have := Hb.out; omega)
set_option maxRecDepth 100000 in
set_option maxHeartbeats 2000000 in
theorem before8_some (n m cap cap' b off cb co i j Li Lj Ci Cj ab ao bb bo k : Nat) (t zi zj : Int) (w : World) (hij : i ≠ j) (hi : i < n) (hj : j < n) (hi' : i < m) (hj' : j < m)
    (hT : w.cell? ⟨cb, co + i * 2, none⟩ = some (.int .i64 t)) (hAi : w.cell? ⟨b, off + i, none⟩ = some (.slice (some ⟨ab, ao, none⟩) Li Ci)) (hAj : w.cell? ⟨b, off + j, none⟩ = some (.slice (some ⟨bb, bo, none⟩) Lj Cj))
    (hk : wrap64 (t + 1) = k) (h16 : k ≤ 16) (hki : k < Li) (hkj : k < Lj) (hzi : w.cell? ⟨ab, ao + k, none⟩ = some (.int .i64 zi)) (hzj : w.cell? ⟨bb, bo + k, none⟩ = some (.int .i64 zj)) :
    Calls Tryz.prog 8 #[.slice (some ⟨b, off, none⟩) n cap, .slice (some ⟨cb, co, none⟩) m cap', .int .i64 i, .int .i64 j] w fun e w' => e = .returned (.bool (decide (zi ≤ zj))) ∧ ∃ q, w' = w.drewN q := by
  have e1 : ((i : Int) == (j : Int)) = false := by simp; omega
  go_enter Tryz.func8, Tryz.ntmps8
  go_wp2_with fail
  all_goals
    have b1 : (i : Int) < (n : Int) := by omega
    have b2 : (j : Int) < (n : Int) := by omega
    have b3 : (k : Int) < (Li : Int) := by omega
    have b4 : (k : Int) < (Lj : Int) := by omega
    go_quiet (fail)
    go_wp2
    go_ret
    exact ⟨rfl, _, rfl⟩
set_option maxRecDepth 100000 in
set_option maxHeartbeats 1000000 in
theorem before7_bad (n m cap cap' : Nat) (P Q : Option Addr) (i j : Int) (w : World) (hb : i = j ∨ i < 0 ∨ j < 0 ∨ (n : Int) ≤ i ∨ (n : Int) ≤ j ∨ (m : Int) ≤ i ∨ (m : Int) ≤ j) :
    Calls Tryz.prog 7 #[.slice P n cap, .slice Q m cap', .int .i64 i, .int .i64 j] w fun e w' => e = .returned (.bool false) ∧ ∃ q, w' = w.drewN q := by
  have Hb := Lib.hid hb
  clear hb
  go_enter Tryz.func7, Tryz.ntmps7
  go_wp2_with fail
  all_goals first
    | (go_ret; exact ⟨rfl, 0, rfl⟩)
    | (exfalso; have := Hb.out; omega)
set_option maxRecDepth 100000 in
set_option maxHeartbeats 2000000 in
theorem before7_none (n m cap cap' b off cb co i j Li Lj Ci Cj : Nat) (Ai Aj : Option Addr) (t k : Int) (w : World) (hij : i ≠ j) (hi : i < n) (hj : j < n) (hi' : i < m) (hj' : j < m)
    (hT : w.cell? ⟨cb, co + i * 2, none⟩ = some (.int .i64 t)) (hAi : w.cell? ⟨b, off + i, none⟩ = some (.slice Ai Li Ci)) (hAj : w.cell? ⟨b, off + j, none⟩ = some (.slice Aj Lj Cj))
    (hk : wrap64 (t + 1) = k) (hb : k < 0 ∨ 16 < k ∨ (Li : Int) ≤ k ∨ (Lj : Int) ≤ k) :
    Calls Tryz.prog 7 #[.slice (some ⟨b, off, none⟩) n cap, .slice (some ⟨cb, co, none⟩) m cap', .int .i64 i, .int .i64 j] w fun e w' => e = .returned (.bool false) ∧ ∃ q, w' = w.drewN q := by
  have Hb := Lib.hid hb
  clear hb
  have e1 : ((i : Int) == (j : Int)) = false := by simp; omega
  go_enter Tryz.func7, Tryz.ntmps7
  go_wp2_with fail
  all_goals first
    | (go_ret; exact ⟨rfl, 0, rfl⟩)
    | (exfalso; have := Hb.out; omega)
set_option maxRecDepth 100000 in
set_option maxHeartbeats 2000000 in
theorem before7_some (n m cap cap' b off cb co i j Li Lj Ci Cj ab ao bb bo k : Nat) (t zi zj : Int) (w : World) (hij : i ≠ j) (hi : i < n) (hj : j < n) (hi' : i < m) (hj' : j < m)
    (hT : w.cell? ⟨cb, co + i * 2, none⟩ = some (.int .i64 t)) (hAi : w.cell? ⟨b, off + i, none⟩ = some (.slice (some ⟨ab, ao, none⟩) Li Ci)) (hAj : w.cell? ⟨b, off + j, none⟩ = some (.slice (some ⟨bb, bo, none⟩) Lj Cj))
    (hk : wrap64 (t + 1) = k) (h16 : k ≤ 16) (hki : k < Li) (hkj : k < Lj) (hzi : w.cell? ⟨ab, ao + k, none⟩ = some (.int .i64 zi)) (hzj : w.cell? ⟨bb, bo + k, none⟩ = some (.int .i64 zj)) :
    Calls Tryz.prog 7 #[.slice (some ⟨b, off, none⟩) n cap, .slice (some ⟨cb, co, none⟩) m cap', .int .i64 i, .int .i64 j] w fun e w' => e = .returned (.bool (decide (zi ≤ zj))) ∧ ∃ q, w' = w.drewN q := by
  have e1 : ((i : Int) == (j : Int)) = false := by simp; omega
  go_enter Tryz.func7, Tryz.ntmps7
  go_wp2_with fail
  all_goals
    have b1 : (i : Int) < (n : Int) := by omega
    have b2 : (j : Int) < (n : Int) := by omega
    have b3 : (k : Int) < (Li : Int) := by omega
    have b4 : (k : Int) < (Lj : Int) := by omega
    go_quiet (fail)
    go_wp2
    go_ret
    exact ⟨rfl, _, rfl⟩
end Go.Proofs.Seat4

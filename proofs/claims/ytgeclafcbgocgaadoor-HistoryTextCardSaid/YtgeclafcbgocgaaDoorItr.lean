/- The iterator over the lines of a text: its contract, for whatever a round does. -/
import Derived.RangeFuncNested
import Derived.RangeFuncBound
import Derived.RangeFuncCalls
import Derived.RangeFuncLeaves
import Derived.Shelf.Abstract
import Derived.Shelf.RegionOpen
import Derived.WalkKit
import Derived.OwnWalkIn
import Derived.TacticsInMore
import Derived.LoopNIn
import Derived.LoopIn
import Derived.Test.YtgeclafcbgocgaaDoorLns
import Derived.Test.YtgeclafcbgocgaaDoorEnv
namespace Go.Proofs.YtgeclafcbgocgaaDoor
open Go.RowKit Go.Shelf
attribute [local go_sem] Oper.semAt_some
theorem cut_case (t : List UInt8) (h : t ≠ []) : ((10 : UInt8) ∉ t ∧ Lib.cut t [10] = (t, [], false)) ∨ ∃ a r, t = a ++ 10 :: r ∧ (10 : UInt8) ∉ a ∧ Lib.cut t [10] = (a, r, true) := by
  rcases first_byte 10 t with h1 | ⟨a, r, rfl, ha⟩
  · exact .inl ⟨h1, cut_none h1⟩
  · exact .inr ⟨a, r, rfl, ha, cut_hit a r ha⟩
theorem cut_less (t : List UInt8) (h : t ≠ []) : (Lib.cut t [10]).2.1.length < t.length := by
  rcases cut_case t h with ⟨h1, h2⟩ | ⟨a, r, rfl, ha, h2⟩
  · rw [h2]
    exact List.length_pos_iff.2 h
  · rw [h2]
    simp
    omega
/-- The text that the iterator's variable holds. -/
def textAt (b : Nat) (w : World) : Nat := match w.cell? ⟨b, 0, none⟩ with | some (.string s) => s.size | _ => 0
theorem textAt_eq {b : Nat} {w : World} {t : List UInt8} (h : w.cell? ⟨b, 0, none⟩ = some (.string ⟨t.toArray⟩)) : textAt b w = t.length := by
  unfold textAt
  rw [h]
  show t.toArray.size = t.length
  simp
set_option maxRecDepth 100000 in
set_option maxHeartbeats 4000000 in
theorem lines45 (n l Bc : Nat) (N : Nat) (hN : N ≤ 1048576) (J J' : List UInt8 → World → Prop) (Jx : World → Prop)
    (hE : ∀ t W, J t W → Env W ∧ W.cell? ⟨Bc, 0, none⟩ = some (.string ⟨t.toArray⟩) ∧ t.length ≤ N)
    (hst : ∀ t W W1, J t W → Below W.heap.size W W1 → J t W1)
    (hE' : ∀ t W, J' t W → W.cell? ⟨Bc, 0, none⟩ = some (.string ⟨t.toArray⟩) ∧ W.frozen? ⟨Bc, 0, none⟩ = false)
    (hnext : ∀ t W, J' t W → t ≠ [] → J (Lib.cut t [10]).2.1 (W.setCell ⟨Bc, 0, none⟩ (.string ⟨(Lib.cut t [10]).2.1.toArray⟩)))
    (hY : ∀ t W, J t W → t ≠ [] → YieldAt Fence.wide (n - 1) Tryd.prog l #[.string ⟨(Lib.cut t [10]).1.toArray⟩, .bool (Lib.cut t [10]).2.2] W fun e W' => (e = .returned (.bool true) ∧ J' t W') ∨ (e = .returned (.bool false) ∧ Jx W'))
    (t0 : List UInt8) (W : World) (h0 : J t0 W) :
    CallsIn Fence.wide n Tryd.prog 45 #[.func (.yield l) #[] #[], .pointer (some ⟨Bc, 0, none⟩)] W fun e W' => (∃ v, e = .returned v) ∧ (J [] W' ∨ Jx W') := by
  refine callsIn_of_wp Tryd.func45 rfl trivial ?_ rfl
  simp only [Tryd.ntmps45, List.size_toArray, List.length_cons, List.length_nil, Nat.reduceAdd, Nat.reduceSub, Array.replicate_succ, Array.replicate_zero, List.push_toArray, List.append_toArray, List.nil_append, List.cons_append]
  gi_wp2
  gi_loopw [3] (fun _ wr => ∃ t, J t wr) (fun _ wr => textAt Bc wr)
  case atStart => exact ⟨t0, h0⟩
  case round =>
    obtain ⟨t, hJ⟩ := hrel
    obtain ⟨hEw, hc, hl⟩ := hE t _ hJ
    have hm := textAt_eq hc
    by_cases ht : t = []
    · subst ht
      gi_wp2
      go_end0
      exact ⟨⟨_, rfl⟩, .inl hJ⟩
    · have hne : (!t.isEmpty) = true := by cases t with | nil => exact absurd rfl ht | cons => rfl
      have hless := cut_less t ht
      have Ht := Lib.hid ht
      have Hm := Lib.hid hm
      have HJ := Lib.hid hJ
      clear ht hm hJ
      gi_wp2
      refine ⟨trivial, fun h => absurd h (by decide), ?_⟩
      refine (callsIn_wide.2 (cut46 t [10] _ hEw (by omega))).mono ?_
      rintro e w1 ⟨rfl, hb⟩
      have hJ1 := hst t _ _ HJ.out hb
      obtain ⟨fn, tmps, assign, body, hy, hR⟩ := hY t _ hJ1 Ht.out
      have HR := Lib.hid hR
      have HJ1 := Lib.hid hJ1
      have Hc := Lib.hid (hE t _ hJ1).2.1
      clear hR hJ1 hc hEw
      gi_wp2
      refine ⟨fun h => absurd h (by decide), ?_⟩
      refine HR.out.mono ?_
      rintro e w2 (⟨rfl, hJ2⟩ | ⟨rfl, hJx⟩)
      · obtain ⟨hc2, hf2⟩ := hE' t _ hJ2
        have hJ3 := hnext t _ hJ2 Ht.out
        have hm3 := textAt_eq (hE _ _ hJ3).2.1
        have HJ3 := Lib.hid hJ3
        have Hm3 := Lib.hid hm3
        clear hJ2 hJ3 hm3
        gi_wp2
        go_roundw
        case rel => exact ⟨_, HJ3.out⟩
        case measure => rw [Hm3.out, Hm.out]; exact hless
      · gi_wp2
        refine bodyPost_ret (results_none rfl _ _ _) rfl ?_
        exact ⟨⟨_, rfl⟩, .inr hJx⟩
end Go.Proofs.YtgeclafcbgocgaaDoor

/- A part of the proof that nurserylaw36.HappensBefore returns true for every input. -/
import Derived.Test.YtbaakaaimolagaaGreatDoorSrt
namespace Go.Proofs.Seat4
open Go.RowKit Go.Sort
set_option maxHeartbeats 1000000 in
theorem cmp83 (x y : Ac) (W : World) : Calls Tryz.prog 83 #[.agg #[.int .i64 x.k, .int .i64 x.i, .bool x.wr], .agg #[.int .i64 y.k, .int .i64 y.i, .bool y.wr]] W fun e w' => e = .returned (.int .i64 (cfA x y)) ∧ ∃ q os', w' = grow (W.drewN q) os' := by
  obtain ⟨a1, a2⟩ := smI_iff x.hk
  obtain ⟨a3, a4⟩ := smI_iff x.hi
  obtain ⟨a5, a6⟩ := smI_iff y.hk
  obtain ⟨a7, a8⟩ := smI_iff y.hi
  have e1 : wrap64 (x.k - y.k) = x.k - y.k := by unfold wrap64; omega
  have e2 : wrap64 (x.i - y.i) = x.i - y.i := by unfold wrap64; omega
  by_cases h : x.k = y.k
  · have hc : cfA x y = x.i - y.i := if_pos h
    rw [hc]
    have hb : (x.k == y.k) = true := by simpa using h
    have Hc := Lib.hid hc
    clear hc h
    go_enter Tryz.func83, Tryz.ntmps83
    go_wp2
    go_ret
    exact ⟨rfl, 0, _, by rw [alloc_eq_grow, alloc_eq_grow, grow_grow]; rfl⟩
  · have hc : cfA x y = x.k - y.k := if_neg h
    rw [hc]
    have hb : (x.k == y.k) = false := by simpa using h
    have Hc := Lib.hid hc
    clear hc h
    go_enter Tryz.func83, Tryz.ntmps83
    go_wp2
    go_ret
    exact ⟨rfl, 0, _, by rw [alloc_eq_grow, alloc_eq_grow, grow_grow]; rfl⟩
theorem cmpL (blk off size : Nat) (w : World) : CmpLays Tryz.prog 83 #[] acCells 3 cfA blk off size w :=
  fun _ _ _ _ x y => cmp83 x y _
theorem len171 (n : Nat) (W : World) (h : n ≤ 12) : Calls Tryz.prog 171 #[.int .u64 n] W fun e w' => (∃ l : Int, e = .returned (.int .i64 l)) ∧ w' = W :=
  (Any.bits_Len Tryz.bitsLen n W (by omega) (by omega)).mono fun _ _ ⟨he, hw⟩ => ⟨⟨_, he⟩, hw⟩
theorem sort82 (blk cap : Nat) (d : Array Ac) (w : World) (hH : HoldsK acCells 3 w blk 0 d) (hblk : blk < w.heap.size) (h12 : d.size ≤ 12) :
    Calls Tryz.prog 82 #[.slice (some ⟨blk, 0, none⟩) d.size cap, .func (.func 83) #[] #[]] w fun e w' => e = .returned (.tuple #[]) ∧ ∃ d' n os, PermIn 0 d.size d d' ∧ SortedIn (ltOf cfA) 0 d.size d' ∧ w' = sortWorldK acCells 3 w blk 0 n d' os := by
  have eg : ∀ args w, (callFunc 83 args).run Tryz.prog w = .ok (.enter 83 args) w := enters_of Tryz.func83 (by kernel_rfl) rfl
  exact AnyQ.slices_SortFunc_small_sorted Tryz.sortAc 3 Tryz.isAgg48 Tryz.sizeOf48 acCells (fun _ => rfl) acCells_one cfA 83 #[] swoA blk 0 cap d w eg (cmpL _ _ _ _) hH hblk h12 len171
end Go.Proofs.Seat4

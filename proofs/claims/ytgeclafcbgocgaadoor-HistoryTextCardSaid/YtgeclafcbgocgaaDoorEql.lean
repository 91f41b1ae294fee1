/- slices.Equal over calls, edges and numbers that are alike. -/
import Derived.Test.YtgeclafcbgocgaaDoorLst
import Derived.Test.YtgeclafcbgocgaaDoorDet
import Derived.Test.YtgeclafcbgocgaaDoorShelf
namespace Go.Proofs.YtgeclafcbgocgaaDoor
open Go.RowKit
def YPost (w : World) (e : Ending) (w' : World) : Prop := e = .returned (.bool true) ∧ Below w.heap.size w w'
set_option maxRecDepth 100000 in
set_option maxHeartbeats 2000000 in
theorem equal14 (l : List Cl) (v1 v2 : Value) (w : World) (h1 : LV CE w v1 l) (h2 : LV CE w v2 l) (hl : l.length ≤ 65536) : Calls Tryd.prog 14 #[v1, v2] w (YPost w) := by
  rcases h1.split with ⟨A, c, rfl, rfl⟩ | ⟨b, off, cap, rfl, hcap, hbw, hrow⟩
  · obtain ⟨A2, c2, rfl, -, -⟩ := h2
    go_enter Tryd.func14, Tryd.ntmps14
    go_wp2_with fail
    refine wp_loop_rounds 1 ?_
    rw [rounds_succ]
    go_wp2_with fail
    go_ret
    exact ⟨rfl, Below.refl _ _⟩
  · rcases h2.split with ⟨A, c, rfl, rfl⟩ | ⟨b2, off2, cap2, rfl, hcap2, hbw2, hrow2⟩
    · go_enter Tryd.func14, Tryd.ntmps14
      go_wp2_with fail
      refine wp_loop_rounds 1 ?_
      rw [rounds_succ]
      go_wp2_with fail
      go_ret
      exact ⟨rfl, Below.refl _ _⟩
    · clear h1 h2
      go_enter Tryd.func14, Tryd.ntmps14
      go_wp2_with fail
      go_loopw [13] (fun i wr => ∃ k : Nat, k ≤ l.length ∧ i = .int .i64 k ∧ Below w.heap.size w wr) (fun i _ => l.length - (intOf i).toNat)
      case atStart => exact ⟨0, Nat.zero_le _, rfl, Below.refl _ _⟩
      case round =>
        obtain ⟨k, hk, rfl, hb⟩ := hrel
        by_cases hlt : k < l.length
        · have r1 : Row w b (off + k * 6) (clCells l[k]) := hrow k hlt
          have r2 : Row w b2 (off2 + k * 6) (clCells l[k]) := hrow2 k hlt
          obtain ⟨e, he⟩ : ∃ e, l[k] = e := ⟨_, rfl⟩
          rw [he] at r1 r2
          clear he
          go_wp2_with fail
          refine wp_region_det (by kernel_rfl) (by kernel_rfl) (fun w' => Below w.heap.size w w') hb.drew ?_
          iterate 9
            apply wpDet_cons
            · rintro wx hx
              have g1 := r1.below hx hbw
              have g2 := r2.below hx hbw2
              go_wp2_with (first
                | ((with_reducible refine wpList_load_agg (o := ⟨some 19, .load 32 (.tmp 18), _, _, _, none⟩) rfl 32 _ rfl b (off + k * 6) ?_ _ g1 _ Tryd.underlying32 rfl ?_ ?_); (focus rfl); (focus kernel_rfl); simp only [clCells])
                | ((with_reducible refine wpList_load_agg (o := ⟨some 23, .load 32 (.tmp 22), _, _, _, none⟩) rfl 32 _ rfl b2 (off2 + k * 6) ?_ _ g2 _ Tryd.underlying32 rfl ?_ ?_); (focus rfl); (focus kernel_rfl); simp only [clCells]))
              exact ⟨rfl, rfl, hx⟩
            go_frame
          rintro w2 hb2
          go_wp2_with fail
          go_roundw
          case rel => exact ⟨k + 1, by omega, by go_num, hb2⟩
          case measure => simp [intOf]; omega
        · have hk' : k = l.length := by omega
          subst hk'
          go_wp2_with fail
          go_ret
          exact ⟨rfl, hb⟩
set_option maxRecDepth 100000 in
set_option maxHeartbeats 2000000 in
theorem equal19 (l : List (Int × Int)) (v1 v2 : Value) (w : World) (h1 : LV EE w v1 l) (h2 : LV EE w v2 l) (hl : l.length ≤ 65536) : Calls Tryd.prog 19 #[v1, v2] w (YPost w) := by
  rcases h1.split with ⟨A, c, rfl, rfl⟩ | ⟨b, off, cap, rfl, hcap, hbw, hrow⟩
  · obtain ⟨A2, c2, rfl, -, -⟩ := h2
    go_enter Tryd.func19, Tryd.ntmps19
    go_wp2_with fail
    refine wp_loop_rounds 1 ?_
    rw [rounds_succ]
    go_wp2_with fail
    go_ret
    exact ⟨rfl, Below.refl _ _⟩
  · rcases h2.split with ⟨A, c, rfl, rfl⟩ | ⟨b2, off2, cap2, rfl, hcap2, hbw2, hrow2⟩
    · go_enter Tryd.func19, Tryd.ntmps19
      go_wp2_with fail
      refine wp_loop_rounds 1 ?_
      rw [rounds_succ]
      go_wp2_with fail
      go_ret
      exact ⟨rfl, Below.refl _ _⟩
    · clear h1 h2
      go_enter Tryd.func19, Tryd.ntmps19
      go_wp2_with fail
      go_loopw [13] (fun i wr => ∃ k : Nat, k ≤ l.length ∧ i = .int .i64 k ∧ Below w.heap.size w wr) (fun i _ => l.length - (intOf i).toNat)
      case atStart => exact ⟨0, Nat.zero_le _, rfl, Below.refl _ _⟩
      case round =>
        obtain ⟨k, hk, rfl, hb⟩ := hrel
        by_cases hlt : k < l.length
        · have r1 : Row w b (off + k * 2) (edCells l[k]) := hrow k hlt
          have r2 : Row w b2 (off2 + k * 2) (edCells l[k]) := hrow2 k hlt
          obtain ⟨e, he⟩ : ∃ e, l[k] = e := ⟨_, rfl⟩
          rw [he] at r1 r2
          clear he
          go_wp2_with fail
          refine wp_region_det (by kernel_rfl) (by kernel_rfl) (fun w' => Below w.heap.size w w') hb.drew ?_
          iterate 9
            apply wpDet_cons
            · rintro wx hx
              have g1 := r1.below hx hbw
              have g2 := r2.below hx hbw2
              go_wp2_with (first
                | ((with_reducible refine wpList_load_agg (o := ⟨some 19, .load 40 (.tmp 18), _, _, _, none⟩) rfl 40 _ rfl b (off + k * 2) ?_ _ g1 _ Tryd.underlying40 rfl ?_ ?_); (focus rfl); (focus kernel_rfl); simp only [edCells])
                | ((with_reducible refine wpList_load_agg (o := ⟨some 23, .load 40 (.tmp 22), _, _, _, none⟩) rfl 40 _ rfl b2 (off2 + k * 2) ?_ _ g2 _ Tryd.underlying40 rfl ?_ ?_); (focus rfl); (focus kernel_rfl); simp only [edCells]))
              exact ⟨rfl, rfl, hx⟩
            go_frame
          rintro w2 hb2
          go_wp2_with fail
          go_roundw
          case rel => exact ⟨k + 1, by omega, by go_num, hb2⟩
          case measure => simp [intOf]; omega
        · have hk' : k = l.length := by omega
          subst hk'
          go_wp2_with fail
          go_ret
          exact ⟨rfl, hb⟩
theorem below_drewN2 (w : World) (n : Nat) : Below w.heap.size w (w.drewN n) := ⟨rfl, rfl, rfl, Nat.le_refl _, fun _ _ => rfl⟩
theorem int_at {w : World} {b off : Nat} {l : List Int} (h : LAt IE w b off l) : ∀ j, j < l.length → w.cell? ⟨b, off + j, none⟩ = some (.int .i64 (l.getD j 0)) := by
  intro j hj
  have := h j hj 0 _ rfl
  have e : l.getD j 0 = l[j] := by simp [List.getD_eq_getElem?_getD, hj]
  rw [e]
  simpa [IE] using this
theorem equal20 (l : List Int) (v1 v2 : Value) (w : World) (h1 : LV IE w v1 l) (h2 : LV IE w v2 l) (hl : l.length ≤ 65536) : Calls Tryd.prog 20 #[v1, v2] w (YPost w) := by
  have e0 : ∀ a1 a2 c d, Calls Tryd.prog 20 #[.slice a1 0 c, .slice a2 0 d] w (YPost w) := fun a1 a2 c d => (Tryd.slices_Equal_int_empty a1 a2 c 0 d w (by omega)).mono fun e w' ⟨he, hw⟩ => ⟨by rw [he]; rfl, by rw [hw]; exact Below.refl _ _⟩
  rcases h1.split with ⟨A, c, rfl, rfl⟩ | ⟨b, off, cap, rfl, hcap, hbw, hrow⟩
  · rcases h2.split with ⟨A2, c2, rfl, -⟩ | ⟨b2, off2, cap2, rfl, hcap2, hbw2, hrow2⟩
    · exact e0 _ _ _ _
    · exact e0 _ _ _ _
  · rcases h2.split with ⟨A2, c2, rfl, rfl⟩ | ⟨b2, off2, cap2, rfl, hcap2, hbw2, hrow2⟩
    · exact e0 _ _ _ _
    · have := Tryd.slices_Equal_int b off l.length cap b2 off2 l.length cap2 l l w (Nat.le_refl _) (Nat.le_refl _) (by omega) (by omega) (int_at hrow) (int_at hrow2)
      refine this.mono fun e w' ⟨he, q, hw⟩ => ⟨by rw [he]; simp, by rw [hw]; exact below_drewN2 _ _⟩
end Go.Proofs.YtgeclafcbgocgaaDoor

/- The clean-up handlers of a task, by the program. -/
import Derived.Test.YtofomblpbmpbaaaDoorEvs
namespace Go.Proofs.YtofomblpbmpbaaaDoor
open Go.RowKit
theorem T33 : ElemT Tryd.prog 33 3 1 8 := ElemT.mk' Tryd.underlying33 (z := .int .i64 0) (by kernel_rfl) rfl (by decide)
def intV (n : Int) : Value := .int .i64 n
def clF (m : List Ev) : List Int := (m.filter (fun e => e.kind == 209)).map Ev.value
def cleanF (l : List Ev) (t : Int) : List Int := clF (ofF l t)
theorem clF_le (l : List Ev) : (clF l).length ≤ l.length := by
  unfold clF
  rw [List.length_map]
  exact List.length_filter_le _ _
theorem clF_hit (l : List Ev) (k : Nat) (h : k < l.length) (ht : (l[k].kind == 209) = true) : clF (l.take (k + 1)) = clF (l.take k) ++ [l[k].value] := by
  unfold clF
  rw [take_snoc l k h, List.filter_append]
  simp [ht]
theorem clF_miss (l : List Ev) (k : Nat) (h : k < l.length) (ht : (l[k].kind == 209) = false) : clF (l.take (k + 1)) = clF (l.take k) := by
  unfold clF
  rw [take_snoc l k h, List.filter_append]
  simp [ht]
/-- A slice of numbers in new memory. -/
def IntsV (w : World) (B : Nat) (v : Value) (xs : List Int) : Prop := (v = .slice none 0 0 ∧ xs = []) ∨ ∃ g cap, v = .slice (some ⟨g, 0, none⟩) xs.length cap ∧ xs.length ≤ cap ∧ B ≤ g ∧ g < w.heap.size ∧ Row w g 0 (xs.map intV)
theorem intsV_own {w : World} {base B : Nat} {v : Value} {xs : List Int} (h : w.ownsRow base 3 1 v xs.length (xs.map intV)) (hB : B ≤ base) : IntsV w B v xs := by
  rcases ownsRow_row h with ⟨rfl, h0, -⟩ | ⟨g, cap, rfl, hb, hg, hcap, hrow⟩
  · exact .inl ⟨rfl, List.eq_nil_of_length_eq_zero h0⟩
  · exact .inr ⟨g, cap, rfl, hcap, Nat.le_trans hB hb, hg, hrow⟩
set_option maxRecDepth 100000 in
set_option maxHeartbeats 1000000 in
theorem clean19 (l : List Ev) (v : Value) (t : Int) (w : World) (hv : EvsV w v l) (hl : l.length ≤ 65536) :
    Calls Tryd.prog 19 #[v, .int .i64 t] w fun e w' => ∃ v', e = .returned v' ∧ IntsV w' w.heap.size v' (cleanF l t) ∧ Below w.heap.size w w' := by
  obtain ⟨m, hm'⟩ : ∃ m, ofF l t = m := ⟨_, rfl⟩
  have hc : cleanF l t = clF m := by unfold cleanF; rw [hm']
  rw [hc]
  clear hc
  go_enter Tryd.func19, Tryd.ntmps19
  go_wp2_with fail
  refine (of18 l v t w hv hl).mono ?_
  rintro e w1 ⟨v1, rfl, hown, hb1⟩
  have hm := ofF_le l t
  rw [hm'] at hm hown
  clear hm'
  have hv1 := evsV_own hown
  clear hown hv
  have hs1 := hb1.size
  rcases hv1.split with ⟨A, c, rfl, rfl⟩ | ⟨b, off, cap, rfl, hcap, hbw, hrow⟩
  · go_wp2
    refine wp_loop_rounds 1 ?_
    rw [rounds_succ]
    go_wp2_with fail
    go_ret
    exact ⟨_, rfl, .inl ⟨rfl, rfl⟩, hb1⟩
  · go_wp2
    go_loopw [5, 12] (fun v i wr => ∃ k : Nat, k ≤ m.length ∧ i = .int .i64 k ∧ wr.ownsRow w1.heap.size 3 1 v (clF (m.take k)).length ((clF (m.take k)).map intV) ∧ Below w1.heap.size w1 wr) (fun _ i _ => m.length - (intOf i).toNat)
    case atStart => exact ⟨0, Nat.zero_le _, rfl, World.ownsRow_nil _ _ _ _, Below.refl _ _⟩
    case round =>
      obtain ⟨k, hk, rfl, hown, hb⟩ := hrel
      by_cases hlt : k < m.length
      · have hr' : Row wr b (off + k * 8) (evCells m[k]) := (hrow k hlt).below hb hbw
        have hle : (clF (m.take k)).length ≤ k := Nat.le_trans (clF_le _) (List.length_take_le _ _)
        have hsz := hb.size
        have Hrow := Lib.hid hrow
        clear hrow
        rcases Bool.eq_false_or_eq_true (m[k].kind == 209) with ht | ht
        · have hhit := clF_hit m k hlt ht
          have Hhit := Lib.hid hhit
          clear hhit
          go_wp2_with (first | ((with_reducible refine wpList_load_agg (o := ⟨some 15, .load 23 (.tmp 14), _, _, _, none⟩) rfl 23 _ rfl b (off + k * 8) ?_ _ hr' _ Tryd.underlying23 rfl ?_ ?_); (focus rfl); (focus kernel_rfl); simp only [evCells]) | (at_builtin; refine wpList_app rfl _ _ 33 rfl w1.heap.size 3 1 8 T33 _ _ _ rfl ((hown.alloc _).alloc _) (wr.heap.size + 1) [intV m[k].value] rfl rfl (Row.new _ _ _ _ (by simp)) (by intro u hu; simp at hu; subst hu; rfl) (by omega) (by omega) (by simp; omega) ?_; intro v' w2 hown1 hgr1))
          go_roundw
          case rel =>
            refine ⟨k + 1, by omega, by go_num, ?_, ((hb.alloc hsz _).alloc (by simp; omega) _).grown hgr1 (by simp; omega) (fun j hj => (hown.lt j hj).1)⟩
            rw [Hhit.out, List.length_append, List.map_append]
            exact hown1
          case measure => simp [intOf]; omega
        · have hhit := clF_miss m k hlt ht
          have Hhit := Lib.hid hhit
          clear hhit
          go_wp2_with (first | ((with_reducible refine wpList_load_agg (o := ⟨some 15, .load 23 (.tmp 14), _, _, _, none⟩) rfl 23 _ rfl b (off + k * 8) ?_ _ hr' _ Tryd.underlying23 rfl ?_ ?_); (focus rfl); (focus kernel_rfl); simp only [evCells]))
          go_roundw
          case rel =>
            refine ⟨k + 1, by omega, by go_num, ?_, hb.alloc hsz _⟩
            rw [Hhit.out]
            exact hown.alloc _
          case measure => simp [intOf]; omega
      · have hk' : k = m.length := by omega
        go_wp2_with fail
        go_ret
        rw [hk', List.take_length] at hown
        exact ⟨_, rfl, intsV_own hown hs1, hb1.trans (hb.mono hs1)⟩
end Go.Proofs.YtofomblpbmpbaaaDoor

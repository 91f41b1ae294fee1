/- Pending, Tasks and Before, by the program. -/
import Derived.Test.YtgeclafcbgocgaaDoorChk
namespace Go.Proofs.YtgeclafcbgocgaaDoor
open Go.RowKit
def ofF (l : List Cl) (t : Int) : List Cl := l.filter (fun x => x.task == t)
theorem ofF_le (l : List Cl) (t : Int) : (ofF l t).length ≤ l.length := List.length_filter_le _ _
theorem ofF_hit (l : List Cl) (t : Int) (k : Nat) (h : k < l.length) (ht : (l[k].task == t) = true) : ofF (l.take (k + 1)) t = ofF (l.take k) t ++ [l[k]] := by
  unfold ofF
  rw [take_snoc l k h, List.filter_append]
  simp [ht]
theorem ofF_miss (l : List Cl) (t : Int) (k : Nat) (h : k < l.length) (ht : (l[k].task == t) = false) : ofF (l.take (k + 1)) t = ofF (l.take k) t := by
  unfold ofF
  rw [take_snoc l k h, List.filter_append]
  simp [ht]
def pendI (l : List Cl) : Nat → List Int
  | 0 => []
  | k + 1 => if (l.getD k zCl).end_ == -1 then pendI l k ++ [(k : Int)] else pendI l k
theorem pendI_le (l : List Cl) : ∀ k, (pendI l k).length ≤ k
  | 0 => Nat.le_refl _
  | k + 1 => by
    have := pendI_le l k
    unfold pendI
    split
    · simp; omega
    · omega
def precedes (x y : Cl) : Bool := x.end_ != -1 && decide (x.end_ < y.begin_)
def rowE (l : List Cl) (i : Nat) : Nat → List (Int × Int)
  | 0 => []
  | k + 1 => if precedes (l.getD i zCl) (l.getD k zCl) then rowE l i k ++ [((i : Int), (k : Int))] else rowE l i k
theorem rowE_le (l : List Cl) (i : Nat) : ∀ k, (rowE l i k).length ≤ k
  | 0 => Nat.le_refl _
  | k + 1 => by
    have := rowE_le l i k
    unfold rowE
    split
    · simp; omega
    · omega
def befE (l : List Cl) : Nat → List (Int × Int)
  | 0 => []
  | k + 1 => befE l k ++ rowE l k l.length
theorem befE_le (l : List Cl) : ∀ k, (befE l k).length ≤ k * l.length
  | 0 => Nat.zero_le _
  | k + 1 => by
    have h1 := befE_le l k
    have h2 := rowE_le l k l.length
    show (befE l k ++ rowE l k l.length).length ≤ _
    rw [List.length_append, Nat.succ_mul]
    omega
set_option maxRecDepth 100000 in
set_option maxHeartbeats 1000000 in
theorem tasks23 (l : List Cl) (v : Value) (t : Int) (w : World) (hv : ClV w v l) (hl : l.length ≤ 65536) :
    Calls Tryd.prog 23 #[v, .int .i64 t] w fun e w' => ∃ v', e = .returned v' ∧ w'.ownsRow w.heap.size 32 6 v' (ofF l t).length (CE.all (ofF l t)) ∧ Below w.heap.size w w' := by
  rcases hv.split with ⟨A, c, rfl, rfl⟩ | ⟨b, off, cap, rfl, hcap, hbw, hrow⟩
  · go_enter Tryd.func23, Tryd.ntmps23
    go_wp2
    refine wp_loop_rounds 1 ?_
    rw [rounds_succ]
    go_wp2_with fail
    go_ret
    exact ⟨_, rfl, World.ownsRow_nil _ _ _ _, Below.refl _ _⟩
  · go_enter Tryd.func23, Tryd.ntmps23
    go_wp2
    go_loopw [5, 10] (fun v i wr => ∃ k : Nat, k ≤ l.length ∧ i = .int .i64 k ∧ wr.ownsRow w.heap.size 32 6 v (ofF (l.take k) t).length (CE.all (ofF (l.take k) t)) ∧ Below w.heap.size w wr) (fun _ i _ => l.length - (intOf i).toNat)
    case atStart => exact ⟨0, Nat.zero_le _, rfl, World.ownsRow_nil _ _ _ _, Below.refl _ _⟩
    case round =>
      obtain ⟨k, hk, rfl, hown, hb⟩ := hrel
      by_cases hlt : k < l.length
      · have hr' : Row wr b (off + k * 6) (clCells l[k]) := (hrow k hlt).below hb hbw
        have hle : (ofF (l.take k) t).length ≤ k := Nat.le_trans (ofF_le _ _) (List.length_take_le _ _)
        have hsz := hb.size
        have Hrow := Lib.hid hrow
        clear hrow
        rcases Bool.eq_false_or_eq_true (l[k].task == t) with ht | ht
        · have Hhit := Lib.hid (ofF_hit l t k hlt ht)
          go_wp2_with (first | ((with_reducible refine wpList_load_agg (o := ⟨some 13, .load 32 (.tmp 12), _, _, _, none⟩) rfl 32 _ rfl b (off + k * 6) ?_ _ hr' _ Tryd.underlying32 rfl ?_ ?_); (focus rfl); (focus kernel_rfl); simp only [clCells]) | (at_builtin; refine wpList_app rfl _ _ 22 rfl w.heap.size 32 6 48 T22 _ _ _ rfl ((hown.alloc _).alloc _) (wr.heap.size + 1) (clCells l[k]) rfl rfl (Row.new _ _ _ _ (by simp)) (clCells_one _) (by omega) (by omega) (by simp; omega) ?_; intro v' w1 hown1 hgr1))
          go_roundw
          case rel =>
            refine ⟨k + 1, by omega, by go_num, ?_, ?_⟩
            · rw [Hhit.out, List.length_append, Enc.all_snoc]
              exact hown1
            · exact ((hb.alloc hsz _).alloc (by simp; omega) _).grown hgr1 (by simp; omega) (fun j hj => (hown.lt j hj).1)
          case measure => simp [intOf]; omega
        · have Hhit := Lib.hid (ofF_miss l t k hlt ht)
          go_wp2_with (first | ((with_reducible refine wpList_load_agg (o := ⟨some 13, .load 32 (.tmp 12), _, _, _, none⟩) rfl 32 _ rfl b (off + k * 6) ?_ _ hr' _ Tryd.underlying32 rfl ?_ ?_); (focus rfl); (focus kernel_rfl); simp only [clCells]))
          go_roundw
          case rel =>
            refine ⟨k + 1, by omega, by go_num, ?_, hb.alloc hsz _⟩
            rw [Hhit.out]
            exact hown.alloc _
          case measure => simp [intOf]; omega
      · have hk' : k = l.length := by omega
        go_wp2_with fail
        go_ret
        refine ⟨_, rfl, ?_, hb⟩
        rw [hk', List.take_length] at hown
        exact hown
set_option maxRecDepth 100000 in
set_option maxHeartbeats 1000000 in
theorem pending21 (l : List Cl) (v : Value) (w : World) (hv : ClV w v l) (hl : l.length ≤ 65536) :
    Calls Tryd.prog 21 #[v] w fun e w' => ∃ v', e = .returned v' ∧ w'.ownsRow w.heap.size 3 1 v' (pendI l l.length).length (IE.all (pendI l l.length)) ∧ Below w.heap.size w w' := by
  rcases hv.split with ⟨A, c, rfl, rfl⟩ | ⟨b, off, cap, rfl, hcap, hbw, hrow⟩
  · go_enter Tryd.func21, Tryd.ntmps21
    go_wp2
    refine wp_loop_rounds 1 ?_
    rw [rounds_succ]
    go_wp2_with fail
    go_ret
    exact ⟨_, rfl, World.ownsRow_nil _ _ _ _, Below.refl _ _⟩
  · go_enter Tryd.func21, Tryd.ntmps21
    go_wp2
    go_loopw [3, 8] (fun v i wr => ∃ k : Nat, k ≤ l.length ∧ i = .int .i64 k ∧ wr.ownsRow w.heap.size 3 1 v (pendI l k).length (IE.all (pendI l k)) ∧ Below w.heap.size w wr) (fun _ i _ => l.length - (intOf i).toNat)
    case atStart => exact ⟨0, Nat.zero_le _, rfl, World.ownsRow_nil _ _ _ _, Below.refl _ _⟩
    case round =>
      obtain ⟨k, hk, rfl, hown, hb⟩ := hrel
      by_cases hlt : k < l.length
      · have hr' : Row wr b (off + k * 6) (clCells l[k]) := (hrow k hlt).below hb hbw
        have hle := pendI_le l k
        have hsz := hb.size
        have Hrow := Lib.hid hrow
        clear hrow
        rcases Bool.eq_false_or_eq_true (l[k].end_ == -1) with ht | ht
        · have Hhit := Lib.hid (show pendI l (k + 1) = pendI l k ++ [(k : Int)] by rw [pendI, getD_lt l k hlt, if_pos ht])
          go_wp2_with (first | ((with_reducible refine wpList_load_agg (o := ⟨some 12, .load 32 (.tmp 11), _, _, _, none⟩) rfl 32 _ rfl b (off + k * 6) ?_ _ hr' _ Tryd.underlying32 rfl ?_ ?_); (focus rfl); (focus kernel_rfl); simp only [clCells]) | (at_builtin; refine wpList_app rfl _ _ 43 rfl w.heap.size 3 1 8 T43 _ _ _ rfl ((hown.alloc _).alloc _) (wr.heap.size + 1) (inCells k) rfl rfl (Row.new _ _ _ _ (by simp)) (IE.one _) (by omega) (by omega) (by simp; omega) ?_; intro v' w1 hown1 hgr1))
          go_roundw
          case rel =>
            refine ⟨k + 1, by omega, by go_num, ?_, ?_⟩
            · rw [Hhit.out, List.length_append, Enc.all_snoc]
              exact hown1
            · exact ((hb.alloc hsz _).alloc (by simp; omega) _).grown hgr1 (by simp; omega) (fun j hj => (hown.lt j hj).1)
          case measure => simp [intOf]; omega
        · have Hhit := Lib.hid (show pendI l (k + 1) = pendI l k by rw [pendI, getD_lt l k hlt, if_neg (by rw [ht]; simp)])
          go_wp2_with (first | ((with_reducible refine wpList_load_agg (o := ⟨some 12, .load 32 (.tmp 11), _, _, _, none⟩) rfl 32 _ rfl b (off + k * 6) ?_ _ hr' _ Tryd.underlying32 rfl ?_ ?_); (focus rfl); (focus kernel_rfl); simp only [clCells]))
          go_roundw
          case rel =>
            refine ⟨k + 1, by omega, by go_num, ?_, hb.alloc hsz _⟩
            rw [Hhit.out]
            exact hown.alloc _
          case measure => simp [intOf]; omega
      · have hk' : k = l.length := by omega
        go_wp2_with fail
        go_ret
        refine ⟨_, rfl, ?_, hb⟩
        rw [hk'] at hown
        exact hown
end Go.Proofs.YtgeclafcbgocgaaDoor

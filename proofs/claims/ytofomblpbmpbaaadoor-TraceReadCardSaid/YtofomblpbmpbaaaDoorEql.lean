/- slices.Equal over events and over spans that are alike; the reference's Of and Cleanups. -/
import Derived.Test.YtofomblpbmpbaaaDoorLvw
import Derived.Test.YtofomblpbmpbaaaDoorDet
import Derived.Test.YtofomblpbmpbaaaDoorLaw5
namespace Go.Proofs.YtofomblpbmpbaaaDoor
open Go.RowKit
set_option maxRecDepth 100000 in
set_option maxHeartbeats 2000000 in
theorem equal24 (l : List Ev) (v1 v2 : Value) (w : World) (h1 : EvsV w v1 l) (h2 : EvsV w v2 l) (hl : l.length ≤ 65536) : Calls Tryd.prog 24 #[v1, v2] w (BPost true w) := by
  rcases h1.split with ⟨A, c, rfl, rfl⟩ | ⟨b, off, cap, rfl, hcap, hbw, hrow⟩
  · obtain ⟨A2, c2, rfl, -, -⟩ := h2
    go_enter Tryd.func24, Tryd.ntmps24
    go_wp2_with fail
    refine wp_loop_rounds 1 ?_
    rw [rounds_succ]
    go_wp2_with fail
    go_ret
    exact ⟨rfl, Below.refl _ _⟩
  · rcases h2.split with ⟨A, c, rfl, rfl⟩ | ⟨b2, off2, cap2, rfl, hcap2, hbw2, hrow2⟩
    · go_enter Tryd.func24, Tryd.ntmps24
      go_wp2_with fail
      refine wp_loop_rounds 1 ?_
      rw [rounds_succ]
      go_wp2_with fail
      go_ret
      exact ⟨rfl, Below.refl _ _⟩
    · clear h1 h2
      go_enter Tryd.func24, Tryd.ntmps24
      go_wp2_with fail
      go_loopw [13] (fun i wr => ∃ k : Nat, k ≤ l.length ∧ i = .int .i64 k ∧ Below w.heap.size w wr) (fun i _ => l.length - (intOf i).toNat)
      case atStart => exact ⟨0, Nat.zero_le _, rfl, Below.refl _ _⟩
      case round =>
        obtain ⟨k, hk, rfl, hb⟩ := hrel
        by_cases hlt : k < l.length
        · have r1 := hrow k hlt
          have r2 := hrow2 k hlt
          obtain ⟨e, he⟩ : ∃ e, l[k] = e := ⟨_, rfl⟩
          rw [he] at r1 r2
          clear he
          go_wp2_with fail
          refine wp_region_det (by kernel_rfl) (by kernel_rfl) (fun w' => Below w.heap.size w w') hb.drew ?_
          iterate 9
            apply wpDet_cons
            · rintro wx hx
              have g1 := r1.below hx hbw
              have g2 := r2.below hx hbw2
              go_wp2_with (first
                | ((with_reducible refine wpList_load_agg (o := ⟨some 19, .load 23 (.tmp 18), _, _, _, none⟩) rfl 23 _ rfl b (off + k * 8) ?_ _ g1 _ Tryd.underlying23 rfl ?_ ?_); (focus rfl); (focus kernel_rfl); simp only [evCells])
                | ((with_reducible refine wpList_load_agg (o := ⟨some 23, .load 23 (.tmp 22), _, _, _, none⟩) rfl 23 _ rfl b2 (off2 + k * 8) ?_ _ g2 _ Tryd.underlying23 rfl ?_ ?_); (focus rfl); (focus kernel_rfl); simp only [evCells]))
              exact ⟨rfl, rfl, hx⟩
            go_frame
          rintro w2 hb2
          go_wp2_with fail
          go_roundw
          case rel => exact ⟨k + 1, by omega, by go_num, hb2⟩
          case measure => simp [intOf]; omega
        · have hk' : k = l.length := by omega
          subst hk'
          go_wp2_with fail
          go_ret
          exact ⟨rfl, hb⟩
/-- A slice that holds these spans. -/
def SpsV (w : World) (v : Value) (ss : List Sp) : Prop := ∃ A c, v = .slice A ss.length c ∧ (ss ≠ [] → ∃ g, A = some ⟨g, 0, none⟩ ∧ g < w.heap.size ∧ ∀ T (hT : T < ss.length), Row w g (T * 7) (spCells ss[T]))
theorem spsV_own {w : World} {base : Nat} {v : Value} {ss : List Sp} (h : w.ownsRow base 49 7 v ss.length (spsCells ss)) : SpsV w v ss := by
  rcases ownsRow_row h with ⟨rfl, h0, -⟩ | ⟨g, cap, rfl, -, hg, hcap, hrow⟩
  · rw [List.eq_nil_of_length_eq_zero h0]
    exact ⟨none, 0, rfl, fun h => absurd rfl h⟩
  · refine ⟨_, _, rfl, fun _ => ⟨g, rfl, hg, fun T hT j v hj => ?_⟩⟩
    have hj7 : j < 7 := by
      have := (List.getElem?_eq_some_iff.1 hj).1
      simpa [spCells] using this
    have := hrow (T * 7 + j) v (by rw [spsCells_at ss T j hT hj7, hj])
    rwa [Nat.zero_add] at this
theorem SpsV.below {w w' : World} {v : Value} {ss : List Sp} (h : SpsV w v ss) (hb : Below w.heap.size w w') : SpsV w' v ss := by
  obtain ⟨A, c, rfl, hr⟩ := h
  refine ⟨A, c, rfl, fun hl => ?_⟩
  obtain ⟨g, rfl, hg, hrow⟩ := hr hl
  exact ⟨g, rfl, Nat.lt_of_lt_of_le hg hb.size, fun T hT => (hrow T hT).below hb hg⟩
set_option maxRecDepth 100000 in
set_option maxHeartbeats 2000000 in
theorem equal32 (l : List Sp) (v1 v2 : Value) (w : World) (h1 : SpsV w v1 l) (h2 : SpsV w v2 l) (hl : l.length ≤ 65536) : Calls Tryd.prog 32 #[v1, v2] w (BPost true w) := by
  obtain ⟨A, c, rfl, hr1⟩ := h1
  obtain ⟨A2, c2, rfl, hr2⟩ := h2
  by_cases h0 : l = []
  · subst h0
    go_enter Tryd.func32, Tryd.ntmps32
    go_wp2_with fail
    refine wp_loop_rounds 1 ?_
    rw [rounds_succ]
    go_wp2_with fail
    go_ret
    exact ⟨rfl, Below.refl _ _⟩
  · obtain ⟨b, rfl, hbw, hrow⟩ := hr1 h0
    obtain ⟨b2, rfl, hbw2, hrow2⟩ := hr2 h0
    clear hr1 hr2 h0
    go_enter Tryd.func32, Tryd.ntmps32
    go_wp2_with fail
    go_loopw [13] (fun i wr => ∃ k : Nat, k ≤ l.length ∧ i = .int .i64 k ∧ Below w.heap.size w wr) (fun i _ => l.length - (intOf i).toNat)
    case atStart => exact ⟨0, Nat.zero_le _, rfl, Below.refl _ _⟩
    case round =>
      obtain ⟨k, hk, rfl, hb⟩ := hrel
      by_cases hlt : k < l.length
      · have r1 := hrow k hlt
        have r2 := hrow2 k hlt
        obtain ⟨e, he⟩ : ∃ e, l[k] = e := ⟨_, rfl⟩
        rw [he] at r1 r2
        clear he
        go_wp2_with fail
        refine wp_region_det (by kernel_rfl) (by kernel_rfl) (fun w' => Below w.heap.size w w') hb.drew ?_
        iterate 9
          apply wpDet_cons
          · rintro wx hx
            have g1 := r1.below hx hbw
            have g2 := r2.below hx hbw2
            go_wp2_with (first
              | ((with_reducible refine wpList_load_agg (o := ⟨some 19, .load 49 (.tmp 18), _, _, _, none⟩) rfl 49 _ rfl b (k * 7) ?_ _ g1 _ Tryd.underlying49 rfl ?_ ?_); (focus (first | rfl | (simp; done))); (focus kernel_rfl); simp only [spCells])
              | ((with_reducible refine wpList_load_agg (o := ⟨some 23, .load 49 (.tmp 22), _, _, _, none⟩) rfl 49 _ rfl b2 (k * 7) ?_ _ g2 _ Tryd.underlying49 rfl ?_ ?_); (focus (first | rfl | (simp; done))); (focus kernel_rfl); simp only [spCells]))
            exact ⟨rfl, rfl, hx⟩
          go_frame
        rintro w2 hb2
        go_wp2_with fail
        go_roundw
        case rel => exact ⟨k + 1, by omega, by go_num, hb2⟩
        case measure => simp [intOf]; omega
      · have hk' : k = l.length := by omega
        subst hk'
        go_wp2_with fail
        go_ret
        exact ⟨rfl, hb⟩
theorem equal30 (xs : List Int) (v1 v2 : Value) (B1 B2 : Nat) (w : World) (h1 : IntsV w B1 v1 xs) (h2 : IntsV w B2 v2 xs) (hl : xs.length ≤ 65536) : Calls Tryd.prog 30 #[v1, v2] w (BPost true w) := by
  have e0 : ∀ a1 a2 c d, Calls Tryd.prog 30 #[.slice a1 0 c, .slice a2 0 d] w (BPost true w) := fun a1 a2 c d => (Tryd.slices_Equal_int_empty a1 a2 c 0 d w (by omega)).mono fun e w' ⟨he, hw⟩ => ⟨by rw [he]; rfl, by rw [hw]; exact Below.refl _ _⟩
  rcases h1 with ⟨rfl, rfl⟩ | ⟨g, cap, rfl, hcap, -, hg, hr⟩
  · rcases h2 with ⟨rfl, -⟩ | ⟨g2, cap2, rfl, hcap2, -, hg2, hr2⟩
    · exact e0 _ _ _ _
    · exact e0 _ _ _ _
  · rcases h2 with ⟨rfl, rfl⟩ | ⟨g2, cap2, rfl, hcap2, -, hg2, hr2⟩
    · exact e0 _ _ _ _
    · have := Tryd.slices_Equal_int g 0 xs.length cap g2 0 xs.length cap2 xs xs w (Nat.le_refl _) (Nat.le_refl _) (by omega) (by omega) (int_row hr) (int_row hr2)
      refine this.mono fun e w' ⟨he, q, hw⟩ => ⟨by rw [he]; simp, by rw [hw]; exact below_drewN' _ _⟩
set_option maxRecDepth 100000 in
set_option maxHeartbeats 1000000 in
theorem of29 (l : List Ev) (v : Value) (t : Int) (w : World) (hv : EvsV w v l) (hl : l.length ≤ 65536) :
    Calls Tryd.prog 29 #[v, .int .i64 t] w fun e w' => ∃ v', e = .returned v' ∧ w'.ownsRow w.heap.size 23 8 v' (ofF l t).length (evsCells (ofF l t)) ∧ Below w.heap.size w w' := by
  rcases hv.split with ⟨A, c, rfl, rfl⟩ | ⟨b, off, cap, rfl, hcap, hbw, hrow⟩
  · go_enter Tryd.func29, Tryd.ntmps29
    go_wp2
    refine wp_loop_rounds 1 ?_
    rw [rounds_succ]
    go_wp2_with fail
    go_ret
    exact ⟨_, rfl, World.ownsRow_made w #[] 0 (Nat.le_refl _) (by unfold maxLen; omega) rfl, (Below.refl _ _).alloc (Nat.le_refl _) _⟩
  · go_enter Tryd.func29, Tryd.ntmps29
    go_wp2
    go_loopw [5, 6] (fun v i wr => ∃ k : Nat, k ≤ l.length ∧ i = .int .i64 k ∧ wr.ownsRow w.heap.size 23 8 v (ofF (l.take k) t).length (evsCells (ofF (l.take k) t)) ∧ Below w.heap.size w wr) (fun _ i _ => l.length - (intOf i).toNat)
    case atStart => exact ⟨0, Nat.zero_le _, rfl, World.ownsRow_made w #[] 0 (Nat.le_refl _) (by unfold maxLen; omega) rfl, (Below.refl _ _).alloc (Nat.le_refl _) _⟩
    case round =>
      obtain ⟨k, hk, rfl, hown, hb⟩ := hrel
      by_cases hlt : k < l.length
      · have hr' : Row wr b (off + k * 8) (evCells l[k]) := (hrow k hlt).below hb hbw
        have hle : (ofF (l.take k) t).length ≤ k := Nat.le_trans (ofF_le _ _) (List.length_take_le _ _)
        have hsz := hb.size
        have Hrow := Lib.hid hrow
        have x2 := hr' 2 _ rfl
        clear hrow
        rcases Bool.eq_false_or_eq_true (l[k].task == t) with ht | ht
        · have hhit := ofF_hit l t k hlt ht
          have Hhit := Lib.hid hhit
          clear hhit
          go_wp2_with (first | ((with_reducible refine wpList_load_agg (o := ⟨some 25, .load 23 (.tmp 24), _, _, _, none⟩) rfl 23 _ rfl b (off + k * 8) ?_ _ hr' _ Tryd.underlying23 rfl ?_ ?_); (focus rfl); (focus kernel_rfl); simp only [evCells]) | (at_builtin; refine wpList_app rfl _ _ 31 rfl w.heap.size 23 8 64 T31 _ _ _ rfl (hown.alloc _) wr.heap.size (evCells l[k]) rfl rfl (Row.new _ _ _ _ (by simp)) (evCells_one _) (by omega) (by omega) (by simp; omega) ?_; intro v' w1 hown1 hgr1))
          go_roundw
          case rel =>
            refine ⟨k + 1, by omega, by go_num, ?_, ?_⟩
            · rw [Hhit.out, List.length_append, evsCells_snoc]
              exact hown1
            · exact (hb.alloc hsz _).grown hgr1 (by simp; omega) (fun j hj => (hown.lt j hj).1)
          case measure => simp [intOf]; omega
        · have hhit := ofF_miss l t k hlt ht
          have Hhit := Lib.hid hhit
          clear hhit
          go_wp2_with fail
          go_roundw
          case rel =>
            refine ⟨k + 1, by omega, by go_num, ?_, hb⟩
            rw [Hhit.out]
            exact hown
          case measure => simp [intOf]; omega
      · have hk' : k = l.length := by omega
        go_wp2_with fail
        go_ret
        refine ⟨_, rfl, ?_, hb⟩
        rw [hk', List.take_length] at hown
        exact hown
def cleF (l : List Ev) (t : Int) : List Int := (l.filter (fun e => e.task == t && e.kind == 209)).map Ev.value
theorem cleF_same (l : List Ev) (t : Int) : cleanF l t = cleF l t := by
  unfold cleanF clF ofF cleF
  rw [List.filter_filter]
  congr 2
  funext e
  exact Bool.and_comm _ _
theorem cleF_le (l : List Ev) (t : Int) : (cleF l t).length ≤ l.length := by
  unfold cleF
  rw [List.length_map]
  exact List.length_filter_le _ _
theorem cleF_take (l : List Ev) (t : Int) (k : Nat) (h : k < l.length) : cleF (l.take (k + 1)) t = if l[k].task == t && l[k].kind == 209 then cleF (l.take k) t ++ [l[k].value] else cleF (l.take k) t := by
  unfold cleF
  rw [take_snoc' l k h, List.filter_append, List.map_append]
  by_cases h : (l[k].task == t && l[k].kind == 209) = true
  · rw [if_pos h]; simp [h]
  · rw [if_neg h]; simp at h; simp; exact h
set_option maxRecDepth 100000 in
set_option maxHeartbeats 2000000 in
theorem clean31 (l : List Ev) (v : Value) (t : Int) (w : World) (hv : EvsV w v l) (hl : l.length ≤ 65536) :
    Calls Tryd.prog 31 #[v, .int .i64 t] w fun e w' => ∃ v', e = .returned v' ∧ IntsV w' w.heap.size v' (cleF l t) ∧ Below w.heap.size w w' := by
  rcases hv.split with ⟨A, c, rfl, rfl⟩ | ⟨b, off, cap, rfl, hcap, hbw, hrow⟩
  · go_enter Tryd.func31, Tryd.ntmps31
    go_wp2
    refine wp_loop_rounds 1 ?_
    rw [rounds_succ]
    go_wp2_with fail
    go_ret
    exact ⟨_, rfl, intsV_own (World.ownsRow_made w #[] 0 (Nat.le_refl _) (by unfold maxLen; omega) rfl) (Nat.le_refl _), (Below.refl _ _).alloc (Nat.le_refl _) _⟩
  · go_enter Tryd.func31, Tryd.ntmps31
    go_wp2
    go_loopw [5, 6] (fun v i wr => ∃ k : Nat, k ≤ l.length ∧ i = .int .i64 k ∧ wr.ownsRow w.heap.size 3 1 v (cleF (l.take k) t).length ((cleF (l.take k) t).map intV) ∧ Below w.heap.size w wr) (fun _ i _ => l.length - (intOf i).toNat)
    case atStart => exact ⟨0, Nat.zero_le _, rfl, World.ownsRow_made w #[] 0 (Nat.le_refl _) (by unfold maxLen; omega) rfl, (Below.refl _ _).alloc (Nat.le_refl _) _⟩
    case round =>
      obtain ⟨k, hk, rfl, hown, hb⟩ := hrel
      by_cases hlt : k < l.length
      · have hr' : Row wr b (off + k * 8) (evCells l[k]) := (hrow k hlt).below hb hbw
        have hle : (cleF (l.take k) t).length ≤ k := Nat.le_trans (cleF_le _ _) (List.length_take_le _ _)
        have hsz := hb.size
        have Hrow := Lib.hid hrow
        have x2 := hr' 2 _ rfl
        have x3 := hr' 3 _ rfl
        have x6 := hr' 6 _ rfl
        have Hhit := Lib.hid (cleF_take l t k hlt)
        clear hrow hr'
        rcases Bool.eq_false_or_eq_true (l[k].task == t) with ht | ht
        · rcases Bool.eq_false_or_eq_true (l[k].kind == 209) with hk9 | hk9
          · go_wp2_with (at_builtin; refine wpList_app rfl _ _ 33 rfl w.heap.size 3 1 8 T33 _ _ _ rfl (hown.alloc _) wr.heap.size [intV l[k].value] rfl rfl (Row.new _ _ _ _ (by simp)) (by intro u hu; simp at hu; subst hu; rfl) (by omega) (by omega) (by simp; omega) ?_; intro v' w2 hown1 hgr1)
            go_roundw
            case rel =>
              refine ⟨k + 1, by omega, by go_num, ?_, (hb.alloc hsz _).grown hgr1 (by simp; omega) (fun j hj => (hown.lt j hj).1)⟩
              rw [Hhit.out, ht, hk9]
              simp only [Bool.and_self, if_true, List.length_append, List.map_append]
              exact hown1
            case measure => simp [intOf]; omega
          · go_wp2_with fail
            go_roundw
            case rel =>
              refine ⟨k + 1, by omega, by go_num, ?_, hb⟩
              rw [Hhit.out, ht, hk9]
              exact hown
            case measure => simp [intOf]; omega
        · go_wp2_with fail
          go_roundw
          case rel =>
            refine ⟨k + 1, by omega, by go_num, ?_, hb⟩
            rw [Hhit.out, ht]
            exact hown
          case measure => simp [intOf]; omega
      · have hk' : k = l.length := by omega
        go_wp2_with fail
        go_ret
        rw [hk', List.take_length] at hown
        exact ⟨_, rfl, intsV_own hown (Nat.le_refl _), hb⟩
end Go.Proofs.YtofomblpbmpbaaaDoor

/- The spans of the tasks, by the program. -/
import Derived.Test.YtofomblpbmpbaaaDoorChe
import Derived.Test.YtofomblpbmpbaaaDoorRck
import Derived.Test.YtofomblpbmpbaaaDoorLiv
import Derived.Laws.OwnMore
import Derived.Deep.AppendLies
import Derived.Deep.Onto
namespace Go.Proofs.YtofomblpbmpbaaaDoor
open Go.RowKit
theorem T45 : ElemT Tryd.prog 45 49 7 56 := ElemT.mk' Tryd.underlying45 (z := .agg #[.int .i64 0, .int .i64 0, .int .i64 0, .int .i64 0, .int .i64 0, .int .i64 0, .int .i64 0]) (by kernel_rfl) rfl (by decide)
def spsCells (l : List Sp) : List Value := l.flatMap spCells
theorem spCells_one (e : Sp) : ∀ u ∈ spCells e, u.oneCell' = true := by intro u hu; simp only [spCells, List.mem_cons, List.not_mem_nil, or_false] at hu; rcases hu with rfl | rfl | rfl | rfl | rfl | rfl | rfl <;> rfl
theorem spsCells_snoc (l : List Sp) (e : Sp) : spsCells (l ++ [e]) = spsCells l ++ spCells e := by simp [spsCells]
theorem spsCells_len (l : List Sp) : (spsCells l).length = l.length * 7 := by
  induction l with
  | nil => rfl
  | cons e l ih =>
    show (spCells e ++ spsCells l).length = _
    rw [List.length_append, ih]
    simp [spCells]
    omega
theorem spsCells_end (l : List Sp) (T : Nat) (h : T < l.length) (e : Ev) : spsCells (l.set T (spEnd (l.getD T zSp) e)) = ((spsCells l).set (T * 7 + 4) (.int .i64 e.step)).set (T * 7 + 6) (.int .i64 e.time) := by
  induction l generalizing T with
  | nil => simp at h
  | cons x l ih =>
    cases T with
    | zero => rfl
    | succ T =>
      have h' : T < l.length := by simpa using h
      have hi := ih T h'
      have h1 : (T + 1) * 7 + 4 = 7 + (T * 7 + 4) := by omega
      have h2 : (T + 1) * 7 + 6 = 7 + (T * 7 + 6) := by omega
      have hl : (spCells x).length = 7 := rfl
      have e1 : (x :: l).set (T + 1) (spEnd ((x :: l).getD (T + 1) zSp) e) = x :: l.set T (spEnd (l.getD T zSp) e) := by simp
      rw [e1]
      show spCells x ++ spsCells (l.set T (spEnd (l.getD T zSp) e)) = ((spCells x ++ spsCells l).set _ _).set _ _
      rw [hi, h1, h2, List.set_append_right _ _ (by omega), List.set_append_right _ _ (by omega), hl]
      simp
theorem spsCells_at (l : List Sp) (T j : Nat) (h : T < l.length) (hj : j < 7) : (spsCells l)[T * 7 + j]? = (spCells l[T])[j]? := by
  induction l generalizing T with
  | nil => simp at h
  | cons x l ih =>
    have hl : (spCells x).length = 7 := rfl
    cases T with
    | zero =>
      show (spCells x ++ spsCells l)[0 * 7 + j]? = _
      rw [List.getElem?_append_left (by omega)]
      simp
    | succ T =>
      have h' : T < l.length := by simpa using h
      show (spCells x ++ spsCells l)[(T + 1) * 7 + j]? = _
      rw [List.getElem?_append_right (by omega), hl]
      have : (T + 1) * 7 + j - 7 = T * 7 + j := by omega
      rw [this, ih T h']
      rfl
/-- The spans so far: what the loop has collected. -/
theorem liv_start (l : List Ev) (k : Nat) (h : k < l.length) (hk : l[k].kind = 204) : livF (l.take (k + 1)) = livF (l.take k) ++ [spNew l[k]] := by
  rw [livF_take l k h]; unfold livStep; rw [if_pos hk]
theorem liv_end (l : List Ev) (k : Nat) (h : k < l.length) (hk : l[k].kind = 205) : livF (l.take (k + 1)) = (livF (l.take k)).set l[k].task.toNat (spEnd ((livF (l.take k)).getD l[k].task.toNat zSp) l[k]) := by
  rw [livF_take l k h]; unfold livStep; rw [if_neg (by omega), if_pos hk]
theorem liv_rest (l : List Ev) (k : Nat) (h : k < l.length) (h1 : ¬ l[k].kind = 204) (h2 : ¬ l[k].kind = 205) : livF (l.take (k + 1)) = livF (l.take k) := by
  rw [livF_take l k h]; unfold livStep; rw [if_neg h1, if_neg h2]
theorem liv_task {l : List Ev} (hc : chk l = 0) (k : Nat) (h : k < l.length) (hk : l[k].kind = 205) : ∃ T : Nat, l[k].task = T ∧ T < (livF (l.take k)).length := by
  have h0 := firstErr_zero.1 hc
  have hi := inv_take l k (Nat.le_of_lt h) fun j hj => h0 j (by omega)
  obtain ⟨h1, -, h3⟩ := okAt_zero (h0 k h)
  rw [getD_lt l k h] at h1 h3
  have O := evOk_of h1
  have hk0 := O.k0
  have hs := hi.starts
  unfold fitsB at h3
  rw [if_neg (by omega)] at h3
  by_cases h4 : l[k].task = -1
  · rw [if_pos h4] at h3
    simp [hk] at h3
  · rw [if_neg h4] at h3
    by_cases h5 : lateB (stOf (l.take k)) l[k] = true
    · rw [if_pos h5] at h3; cases h3
    · unfold lateB at h5
      rw [if_neg (by omega)] at h5
      have h6 : l[k].task ≤ (stOf (l.take k)).started := by simpa using h5
      refine ⟨l[k].task.toNat, by omega, ?_⟩
      rw [livF_len]
      omega
def livesF (l : List Ev) : List Sp := if l = [] then [] else livF l
theorem livesF_pos (l : List Ev) (h : 0 < l.length) : livesF l = livF l := by unfold livesF; rw [if_neg (by rintro rfl; simp at h)]
/-- What the two functions Lives return. -/
def LvPost (base : Nat) (l : List Ev) (w : World) (en : Ending) (w' : World) : Prop :=
  Below w.heap.size w w' ∧ ((chk l = 0 ∧ ∃ v, en = .returned (.tuple #[v, .int .i64 0]) ∧ w'.ownsRow base 49 7 v (livesF l).length (spsCells (livesF l))) ∨ (chk l ≠ 0 ∧ ∃ v, en = .returned (.tuple #[v, .int .i64 1]) ∧ w'.ownsRow base 49 7 v 0 []))
set_option maxRecDepth 100000 in
set_option maxHeartbeats 4000000 in
theorem lives26 (l : List Ev) (v : Value) (w : World) (hv : EvsV w v l) (hl : l.length ≤ 65536) : Calls Tryd.prog 26 #[v] w (LvPost w.heap.size l w) := by
  have n0 := check25 l v w hv hl
  by_cases hc : chk l = 0
  · have hP : ∀ v w', Below w.heap.size w w' → w'.ownsRow w.heap.size 49 7 v (livesF l).length (spsCells (livesF l)) → LvPost w.heap.size l w (.returned (.tuple #[v, .int .i64 0])) w' := fun v w' h h2 => ⟨h, .inl ⟨hc, v, rfl, h2⟩⟩
    rw [hc] at n0
    rcases hv.split with ⟨A, c, rfl, rfl⟩ | ⟨b, off, cap, rfl, hcap, hbw, hrow⟩
    · clear hv hc
      go_enter Tryd.func26, Tryd.ntmps26
      go_wp2_with fail
      refine n0.mono ?_
      rintro e w1 ⟨rfl, hb1⟩
      clear n0
      go_wp2_with fail
      refine wp_loop_rounds 1 ?_
      rw [rounds_succ]
      go_wp2_with fail
      go_ret2
      exact hP _ _ hb1 (World.ownsRow_nil _ _ _ _)
    · have Hv := Lib.hid hv
      have Hc := Lib.hid hc
      clear hv hc
      by_cases h0 : l.length = 0
      · have he : l = [] := List.eq_nil_of_length_eq_zero h0
        subst he
        go_enter Tryd.func26, Tryd.ntmps26
        go_wp2_with fail
        refine n0.mono ?_
        rintro e w1 ⟨rfl, hb1⟩
        clear n0
        go_wp2_with fail
        refine wp_loop_rounds 1 ?_
        rw [rounds_succ]
        go_wp2_with fail
        go_ret2
        exact hP _ _ hb1 (World.ownsRow_nil _ _ _ _)
      · have h1 : 0 < l.length := by omega
        rw [livesF_pos l h1] at hP
        clear h0
        go_enter Tryd.func26, Tryd.ntmps26
        go_wp2_with fail
        refine n0.mono ?_
        rintro e w1 ⟨rfl, hb1⟩
        clear n0
        have hs1 := hb1.size
        have hEv : EvsAt w1 b off l := fun j hj => (hrow j hj).below hb1 hbw
        have hbw1 : b < w1.heap.size := by omega
        have Hrow := Lib.hid hEv
        clear hrow hEv
        go_wp2_with (at_builtin; refine wpList_app rfl _ _ 45 rfl w1.heap.size 49 7 56 T45 _ 0 [] rfl (World.ownsRow_nil _ _ _ _) w1.heap.size (spCells sp0) rfl rfl (Row.new _ _ _ _ rfl) (spCells_one _) (by omega) (by omega) (by simp) ?_; intro v' w2 hown1 hgr1)
        have hb2 : Below w1.heap.size w1 w2 := ((Below.refl _ _).alloc (Nat.le_refl _) _).grown hgr1 (by simp) (fun j hj => by cases hj)
        have hle0 : startsR l ≤ l.length := starts_le l
        go_loopw [4, 19] (fun v i wr => ∃ k : Nat, k ≤ l.length ∧ i = .int .i64 k ∧ wr.ownsRow w1.heap.size 49 7 v (livF (l.take k)).length (spsCells (livF (l.take k))) ∧ Below w1.heap.size w1 wr) (fun _ i _ => l.length - (intOf i).toNat)
        case atStart => exact ⟨0, Nat.zero_le _, rfl, hown1, hb2⟩
        case round =>
          obtain ⟨k, hk, rfl, hown, hb⟩ := hrel
          have hsz := hb.size
          by_cases hlt : k < l.length
          · have hr' : Row wr b (off + k * 8) (evCells l[k]) := (Hrow.out k hlt).below hb hbw1
            have hlen : (livF (l.take k)).length ≤ k + 1 := by
              rw [livF_len]
              have := starts_le (l.take k)
              have := List.length_take_le k l
              omega
            by_cases h4 : l[k].kind = 204
            · have Hs := Lib.hid (liv_start l k hlt h4)
              have h4' : (l[k].kind == 204) = true := by simpa using h4
              clear h4 hown1 hgr1 hb2
              go_wp2_with (first | ((with_reducible refine wpList_load_agg (o := ⟨some 22, .load 23 (.tmp 21), _, _, _, none⟩) rfl 23 _ rfl b (off + k * 8) ?_ _ hr' _ Tryd.underlying23 rfl ?_ ?_); (focus rfl); (focus kernel_rfl); simp only [evCells]) | (at_builtin; refine wpList_app rfl _ _ 45 rfl w1.heap.size 49 7 56 T45 _ _ _ rfl ((hown.alloc _).alloc _) (wr.heap.size + 1) (spCells (spNew l[k])) rfl rfl (Row.new _ _ _ _ (by simp)) (spCells_one _) (by omega) (by omega) (by simp; omega) ?_; intro v' w3 hown3 hgr3))
              go_roundw
              case rel =>
                refine ⟨k + 1, by omega, by go_num, ?_, ((hb.alloc hsz _).alloc (by simp; omega) _).grown hgr3 (by simp; omega) (fun j hj => (hown.lt j hj).1)⟩
                rw [Hs.out, List.length_append, spsCells_snoc]
                exact hown3
              case measure => simp [intOf]; omega
            · by_cases h5 : l[k].kind = 205
              · obtain ⟨T, hT, hTl⟩ := liv_task Hc.out k hlt h5
                have hle := liv_end l k hlt h5
                have hTn : l[k].task.toNat = T := by omega
                rw [hTn] at hle
                have hcs := spsCells_end _ T hTl l[k]
                have hlen2 : ((livF (l.take k)).set T (spEnd ((livF (l.take k)).getD T zSp) l[k])).length = (livF (l.take k)).length := by simp
                rw [← hle] at hcs hlen2
                obtain ⟨g, cap2, rfl, hg0, hg1⟩ := hown.form (by omega)
                have h4' : (l[k].kind == 204) = false := by simpa using h4
                have h5' : (l[k].kind == 205) = true := by simpa using h5
                obtain ⟨x, hx⟩ : ∃ x, l[k] = x := ⟨_, rfl⟩
                rw [hx] at hr' hcs h4' h5' hT
                clear hx h4 h5 hle hTn hown1 hgr1 hb2
                obtain ⟨a0, a1, a2, a3, a4, a5, a6, a7⟩ := x
                simp only at hT h4' h5' hcs
                subst hT
                simp only [evCells] at hr'
                have hrr := (hown.alloc (.cells #[.int .i64 a0, .int .i64 a1, .int .i64 T, .int .i64 a3, .int .i64 a4, .int .i64 a5, .int .i64 a6, .int .i64 a7] 23))
                have hNb : Below w1.heap.size w1 (wr.alloc (.cells #[.int .i64 a0, .int .i64 a1, .int .i64 T, .int .i64 a3, .int .i64 a4, .int .i64 a5, .int .i64 a6, .int .i64 a7] 23)) := hb.alloc hsz _
                have hN : EvAt (wr.alloc (.cells #[.int .i64 a0, .int .i64 a1, .int .i64 T, .int .i64 a3, .int .i64 a4, .int .i64 a5, .int .i64 a6, .int .i64 a7] 23)) wr.heap.size ⟨a0, a1, T, a3, a4, a5, a6, a7⟩ := heap_alloc_new wr _
                have hgl := hown.lt g rfl
                have Hcs := Lib.hid hcs
                have Hlen2 := Lib.hid hlen2
                clear hcs hlen2 hown hb
                go_upto_region 13 with ((with_reducible refine wpList_load_agg (o := ⟨some 22, .load 23 (.tmp 21), _, _, _, none⟩) rfl 23 _ rfl b (off + k * 8) ?_ _ hr' _ Tryd.underlying23 rfl ?_ ?_); (focus rfl); (focus kernel_rfl))
                clear hr'
                generalize wr.alloc (.cells #[.int .i64 a0, .int .i64 a1, .int .i64 T, .int .i64 a3, .int .i64 a4, .int .i64 a5, .int .i64 a6, .int .i64 a7] 23) = wy at *
                have hgN : g ≠ wr.heap.size := by omega
                generalize wr.heap.size = N at *
                have x4 : wy.cell? ⟨g, T * 7 + 4, none⟩ = some (.int .i64 ((livF (l.take k))[T]).to_) := (hrr.cellAt (T * 7 + 4) (by omega)).trans (spsCells_at _ T 4 hTl (by decide))
                have x6 : wy.cell? ⟨g, T * 7 + 6, none⟩ = some (.int .i64 ((livF (l.take k))[T]).end_) := (hrr.cellAt (T * 7 + 6) (by omega)).trans (spsCells_at _ T 6 hTl (by decide))
                have y4 := hrr.frozenAt (T * 7 + 4)
                have y6 := hrr.frozenAt (T * 7 + 6)
                obtain ⟨z0, z1, z2, -⟩ := hN.cells
                simp only at z0 z1 z2
                have hst := hrr.stored (T * 7 + 4) (.int .i64 a0)
                have hst2 := hst.1.stored (T * 7 + 6) (.int .i64 a1)
                rw [← Hcs.out] at hst2
                have hfin := (hNb.setCell (p := ⟨g, T * 7 + 4, none⟩) hgl.1 (.int .i64 a0)).setCell (p := ⟨g, T * 7 + 6, none⟩) hgl.1 (.int .i64 a1)
                have Hst2 := Lib.hid hst2.1
                have Hfin := Lib.hid hfin
                clear hst hst2 hfin hrr hN hNb
                go_region
                go_wp2_with fail
                go_roundw
                case rel =>
                  refine ⟨k + 1, by omega, by go_num, ?_, Hfin.out.drew⟩
                  rw [Hlen2.out]
                  exact Hst2.out.drew
                case measure => simp [intOf]; omega
              · have Hs := Lib.hid (liv_rest l k hlt h4 h5)
                have h4' : (l[k].kind == 204) = false := by simpa using h4
                have h5' : (l[k].kind == 205) = false := by simpa using h5
                clear h4 h5 hown1 hgr1 hb2
                go_wp2_with ((with_reducible refine wpList_load_agg (o := ⟨some 22, .load 23 (.tmp 21), _, _, _, none⟩) rfl 23 _ rfl b (off + k * 8) ?_ _ hr' _ Tryd.underlying23 rfl ?_ ?_); (focus rfl); (focus kernel_rfl); simp only [evCells])
                go_roundw
                case rel =>
                  refine ⟨k + 1, by omega, by go_num, ?_, hb.alloc hsz _⟩
                  rw [Hs.out]
                  exact hown.alloc _
                case measure => simp [intOf]; omega
          · have hk' : k = l.length := by omega
            subst hk'
            rw [List.take_length] at hown
            clear hown1 hgr1 hb2
            go_wp2_with fail
            go_ret2
            exact hP _ _ (hb1.trans (hb.mono hs1)) (hown.mono hs1)
  · obtain ⟨x, hx⟩ : ∃ x, chk l = x := ⟨_, rfl⟩
    have hP : ∀ w', Below w.heap.size w w' → LvPost w.heap.size l w (.returned (.tuple #[.slice none 0 0, .int .i64 1])) w' := fun w' h => ⟨h, .inr ⟨hc, _, rfl, World.ownsRow_nil _ _ _ _⟩⟩
    rw [hx] at n0 hc
    have hx1 : (x != 0) = true := by simpa using hc
    clear hx hc
    go_enter Tryd.func26, Tryd.ntmps26
    go_wp2_with fail
    refine n0.mono ?_
    rintro e w1 ⟨rfl, hb1⟩
    clear n0
    go_wp2_with fail
    go_ret2
    exact hP _ hb1
end Go.Proofs.YtofomblpbmpbaaaDoor

/- The spans of the tasks, by the reference. -/
import Derived.Test.YtofomblpbmpbaaaDoorLvw
import Derived.Test.YtofomblpbmpbaaaDoorRce
import Derived.Tactics2
import Derived.StillTactics
import Derived.OwnWalk
import Derived.Laws.Pointers
import Derived.Deep.RegionHeld3
import Derived.BigRegion
namespace Go.Proofs.YtofomblpbmpbaaaDoor
open Go.RowKit
theorem inf49 : (Tryd.prog.info? 49).map (fun i => (i.zero, i.size, i.bytes)) = some (some (.agg #[.int .i64 0, .int .i64 0, .int .i64 0, .int .i64 0, .int .i64 0, .int .i64 0, .int .i64 0]), 7, 56) := by kernel_rfl
set_option maxRecDepth 100000 in
set_option maxHeartbeats 4000000 in
theorem lives27 (l : List Ev) (v : Value) (w : World) (hv : EvsV w v l) (hl : l.length ≤ 65536) : Calls Tryd.prog 27 #[v] w (LvPost w.heap.size l w) := by
  obtain ⟨i0, hi0, hz0, hz1, hz2⟩ := info_parts inf49
  have n0 := check28 l v w hv hl
  unfold CPost at n0
  by_cases hc : chk l = 0
  · have hP : ∀ v w', Below w.heap.size w w' → w'.ownsRow w.heap.size 49 7 v (livesF l).length (spsCells (livesF l)) → LvPost w.heap.size l w (.returned (.tuple #[v, .int .i64 0])) w' := fun v w' h h2 => ⟨h, .inl ⟨hc, v, rfl, h2⟩⟩
    rw [hc] at n0
    have Hc := Lib.hid hc
    have Hv := Lib.hid hv
    by_cases h0 : l.length = 0
    · have he : l = [] := List.eq_nil_of_length_eq_zero h0
      subst he
      obtain ⟨A, c, rfl, -, -⟩ := hv
      clear hc h0
      go_enter Tryd.func27, Tryd.ntmps27
      go_wp2_with fail
      refine n0.mono ?_
      rintro e w1 ⟨rfl, hb1⟩
      clear n0
      go_wp2_with fail
      refine wp_loop_rounds 1 ?_
      rw [rounds_succ]
      go_wp2_with fail
      go_ret2
      exact hP _ _ (hb1.alloc hb1.size _) (World.ownsRow_made w1 #[] 0 hb1.size (by unfold maxLen; omega) rfl)
    · rcases hv.split with ⟨A, c, rfl, rfl⟩ | ⟨b, off, cap, rfl, hcap, hbw, hrow⟩
      · simp at h0
      have h1 : 0 < l.length := by omega
      rw [livesF_pos l h1] at hP
      clear h0 hc hv
      go_enter Tryd.func27, Tryd.ntmps27
      go_wp2_with fail
      refine n0.mono ?_
      rintro e w1 ⟨rfl, hb1⟩
      clear n0
      have hs1 := hb1.size
      have hEv : EvsAt w1 b off l := fun j hj => (hrow j hj).below hb1 hbw
      have hbw1 : b < w1.heap.size := by omega
      have Hrow := Lib.hid hEv
      clear hrow hEv
      go_wp2_with (at_builtin; refine wpList_app rfl _ _ 45 rfl w1.heap.size 49 7 56 T45 _ 0 [] rfl ((World.ownsRow_made w1 #[] 0 (Nat.le_refl _) (by unfold maxLen; omega) rfl).alloc _) (w1.heap.size + 1) (spCells sp0) rfl rfl (Row.new _ _ _ _ (by simp)) (spCells_one _) (by omega) (by omega) (by simp; omega) ?_; intro v' w2 hown1 hgr1)
      have hb2 : Below w1.heap.size w1 w2 := (((Below.refl _ _).alloc (Nat.le_refl _) _).alloc (by simp) _).grown hgr1 (by simp; omega) (fun j hj => by cases hj; exact Nat.le_refl _)
      have hle0 : startsR l ≤ l.length := starts_le l
      go_loopw [4, 5] (fun v i wr => ∃ k : Nat, k ≤ l.length ∧ i = .int .i64 k ∧ wr.ownsRow w1.heap.size 49 7 v (livF (l.take k)).length (spsCells (livF (l.take k))) ∧ Below w1.heap.size w1 wr) (fun _ i _ => l.length - (intOf i).toNat)
      case atStart => exact ⟨0, Nat.zero_le _, rfl, hown1, hb2⟩
      case round =>
        obtain ⟨k, hk, rfl, hown, hb⟩ := hrel
        have hsz := hb.size
        by_cases hlt : k < l.length
        · have hr' : Row wr b (off + k * 8) (evCells l[k]) := (Hrow.out k hlt).below hb hbw1
          have hlen : (livF (l.take k)).length ≤ k + 1 := by
            rw [livF_len]
            have := starts_le (l.take k)
            have := List.length_take_le k l
            omega
          have hbr : b < wr.heap.size := by omega
          have x0 := hr' 0 _ rfl
          have x1 := hr' 1 _ rfl
          have x2 := hr' 2 _ rfl
          have x3 := hr' 3 _ rfl
          have x6 := hr' 6 _ rfl
          rw [Nat.add_zero] at x0
          by_cases h4 : l[k].kind = 204
          · have Hs := Lib.hid (liv_start l k hlt h4)
            have h4' : (l[k].kind == 204) = true := by simpa using h4
            have h5' : (l[k].kind == 205) = false := by simp [h4]
            have hob : ¬ (_ = some b) := fun e => absurd (hown.lt b e).1 (by omega)
            have hlt2 := hown.lt
            obtain ⟨x, hx0⟩ : ∃ x, l[k] = x := ⟨_, rfl⟩
            rw [hx0] at Hs
            clear h4 hown1 hgr1 hb2 hr'
            rw [hx0] at x0 x1 x2 x3 x6 h4' h5'
            clear hx0
            go_wp2_with fail
            go_region_held3 (fun w' => w'.cell? ⟨b, off + k * 8, none⟩ = some (.int .i64 x.step) ∧ w'.cell? ⟨b, off + k * 8 + 1, none⟩ = some (.int .i64 x.time) ∧ w'.cell? ⟨b, off + k * 8 + 2, none⟩ = some (.int .i64 x.task) ∧ w'.cell? ⟨b, off + k * 8 + 6, none⟩ = some (.int .i64 x.value))
              (first
                | go_keep
                | (go_split_ands
                   refine ⟨?_, ?_, ?_, ?_⟩
                   · (rw [hgrow.cell_far _ (by simp; omega) (Ne.symm hob)]; assumption)
                   · (rw [hgrow.cell_far _ (by simp; omega) (Ne.symm hob)]; assumption)
                   · (rw [hgrow.cell_far _ (by simp; omega) (Ne.symm hob)]; assumption)
                   · (rw [hgrow.cell_far _ (by simp; omega) (Ne.symm hob)]; assumption)))
              ((refine step_append_lies _ (by rfl) _ _ _ (by rfl) w1.heap.size 49 i0 _ 7 56 Tryd.underlying45 hi0 hz0 hz1 hz2 rfl (by omega) _ _ _ (by rfl) ((hown.alloc _).drew)
                  ⟨wr.heap.size, 0, none⟩ 1 1 (spCells (spNew x)) (by rfl) (by rfl) (World.news_of_block (cs := (spCells (spNew x)).toArray) (t := 49) (fr := (0, 0)) (heap_alloc_new wr _)) (spCells_one _)
                  (by omega) (by unfold maxLen; omega) (by omega) (by simp; omega) (wr.heap.size + 1) (by simp) ?_; intro gg cap3 w3 hown3 hgrow hat hlt3))
            have x3' : w3.cell? ⟨b, off + k * 8 + 3, none⟩ = some (.int .i64 x.kind) := by
              rw [hgrow.cell_far _ (by simp; omega) (Ne.symm hob)]
              exact (World.cell?_alloc_lt wr _ ⟨b, off + k * 8 + 3, none⟩ hbr).trans x3
            go_wp2_with fail
            go_roundw
            case rel =>
              refine ⟨k + 1, by omega, by go_num, ?_, ((hb.alloc hsz _).drew).grown hgrow (by simp; omega) (fun j hj => (hlt2 j hj).1)⟩
              rw [Hs.out, List.length_append, spsCells_snoc]
              exact hown3
            case measure => simp [intOf]; omega
          · by_cases h5 : l[k].kind = 205
            · obtain ⟨T, hT, hTl⟩ := liv_task Hc.out k hlt h5
              have hle := liv_end l k hlt h5
              have hTn : l[k].task.toNat = T := by omega
              rw [hTn] at hle
              have hcs := spsCells_end _ T hTl l[k]
              have hlen2 : ((livF (l.take k)).set T (spEnd ((livF (l.take k)).getD T zSp) l[k])).length = (livF (l.take k)).length := by simp
              rw [← hle] at hcs hlen2
              obtain ⟨g, cap2, rfl, hg0, hg1⟩ := hown.form (by omega)
              have h4' : (l[k].kind == 204) = false := by simpa using h4
              have h5' : (l[k].kind == 205) = true := by simpa using h5
              obtain ⟨x, hx⟩ : ∃ x, l[k] = x := ⟨_, rfl⟩
              rw [hx] at hcs h4' h5' hT x0 x1 x2 x3 x6
              clear hx h4 h5 hle hTn hown1 hgr1 hb2 hr'
              obtain ⟨a0, a1, a2, a3, a4, a5, a6, a7⟩ := x
              simp only at hT h4' h5' hcs x0 x1 x2 x3 x6
              subst hT
              have hgb : g ≠ b := by omega
              have x4' : wr.cell? ⟨g, T * 7 + 4, none⟩ = some (.int .i64 ((livF (l.take k))[T]).to_) := (hown.cellAt (T * 7 + 4) (by omega)).trans (spsCells_at _ T 4 hTl (by decide))
              have x6' : wr.cell? ⟨g, T * 7 + 6, none⟩ = some (.int .i64 ((livF (l.take k))[T]).end_) := (hown.cellAt (T * 7 + 6) (by omega)).trans (spsCells_at _ T 6 hTl (by decide))
              have y4 := hown.frozenAt (T * 7 + 4)
              have y6 := hown.frozenAt (T * 7 + 6)
              have hst := hown.stored (T * 7 + 4) (.int .i64 a0)
              have hst2 := hst.1.stored (T * 7 + 6) (.int .i64 a1)
              rw [← hcs] at hst2
              have hfin := (hb.setCell (p := ⟨g, T * 7 + 4, none⟩) hg0 (.int .i64 a0)).setCell (p := ⟨g, T * 7 + 6, none⟩) hg0 (.int .i64 a1)
              have Hst2 := Lib.hid hst2.1
              have Hfin := Lib.hid hfin
              have Hlen2 := Lib.hid hlen2
              clear hst hst2 hfin hown hcs hlen2 hb
              go_wp2_with fail
              go_region
              go_wp2_with fail
              go_roundw
              case rel =>
                refine ⟨k + 1, by omega, by go_num, ?_, Hfin.out.drew⟩
                rw [Hlen2.out]
                exact Hst2.out.drew
              case measure => simp [intOf]; omega
            · have Hs := Lib.hid (liv_rest l k hlt h4 h5)
              have h4' : (l[k].kind == 204) = false := by simpa using h4
              have h5' : (l[k].kind == 205) = false := by simpa using h5
              clear h4 h5 hown1 hgr1 hb2
              go_wp2_with fail
              go_roundw
              case rel =>
                refine ⟨k + 1, by omega, by go_num, ?_, hb⟩
                rw [Hs.out]
                exact hown
              case measure => simp [intOf]; omega
        · have hk' : k = l.length := by omega
          subst hk'
          rw [List.take_length] at hown
          clear hown1 hgr1 hb2
          go_wp2_with fail
          go_ret2
          exact hP _ _ (hb1.trans (hb.mono hs1)) (hown.mono hs1)
  · obtain ⟨x, hx⟩ : ∃ x, chk l = x := ⟨_, rfl⟩
    have hP : ∀ w' v, Below w.heap.size w w' → w'.ownsRow w.heap.size 49 7 v 0 [] → LvPost w.heap.size l w (.returned (.tuple #[v, .int .i64 1])) w' := fun w' v h h2 => ⟨h, .inr ⟨hc, _, rfl, h2⟩⟩
    rw [hx] at n0 hc
    have hx1 : (x != 0) = true := by simpa using hc
    clear hx hc
    go_enter Tryd.func27, Tryd.ntmps27
    go_wp2_with fail
    refine n0.mono ?_
    rintro e w1 ⟨rfl, hb1⟩
    clear n0
    go_wp2_with fail
    go_ret2
    exact hP _ _ (hb1.alloc hb1.size _) (World.ownsRow_made w1 #[] 0 hb1.size (by unfold maxLen; omega) rfl)
end Go.Proofs.YtofomblpbmpbaaaDoor

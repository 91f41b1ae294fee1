/- Check by the program: the order of two events, the tasks, the whole. -/
import Derived.Test.YtofomblpbmpbaaaDoorChp
import Derived.Test.YtofomblpbmpbaaaDoorEvs
import Derived.Deep.Light
import Derived.BigQuiet
import Derived.IntWalk
import Derived.Deep.QuietTactic
import Derived.Outline
import Derived.Test.YtofomblpbmpbaaaDoorCln
import Derived.BigRegion
namespace Go.Proofs.YtofomblpbmpbaaaDoor
open Go.RowKit
theorem ret_bool {a b : Bool} (h : a = b) : Ending.returned (.bool a) = .returned (.bool b) := by rw [h]
set_option maxRecDepth 100000 in
set_option maxHeartbeats 1000000 in
theorem order56 (l : List Ev) (v : Value) (k : Nat) (w : World) (hv : EvsV w v l) (hk : k < l.length) (hl : l.length ≤ 65536) :
    Calls Tryd.prog 56 #[v, .int .i64 k] w fun e w' => e = .returned (.bool (orderP (prevE l k) l[k])) ∧ Below w.heap.size w w' := by
  rcases hv.split with ⟨A, c, rfl, rfl⟩ | ⟨b, off, cap, rfl, hcap, hbw, hrow⟩
  · simp at hk
  · have hr := hrow k hk
    obtain ⟨e, he⟩ : ∃ e, l[k] = e := ⟨_, rfl⟩
    rw [he] at hr ⊢
    have Hrow := Lib.hid hrow
    clear hrow hv he
    rcases Nat.eq_zero_or_pos k with rfl | hk0
    · have hz : prevE l 0 = zEv := rfl
      rw [hz]
      clear hz
      go_enter Tryd.func56, Tryd.ntmps56
      go_wp2_with ((with_reducible refine wpList_load_agg (o := ⟨some 11, .load 23 (.tmp 10), _, _, _, none⟩) rfl 23 _ rfl b (off + 0 * 8) ?_ _ hr _ Tryd.underlying23 rfl ?_ ?_); (focus rfl); (focus kernel_rfl); simp only [evCells])
      all_goals
        go_ret
        refine ⟨?_, (Below.refl _ _).alloc (Nat.le_refl _) _⟩
        clear hr Hrow hbw
        go_light
        refine ret_bool ?_
        rw [Bool.eq_iff_iff]
        unfold orderP zEv
        simp only [beq_iff_eq, beq_eq_false_iff_ne, ne_eq] at *
        repeat' split
        all_goals (simp only [Bool.and_eq_true, decide_eq_true_eq, beq_iff_eq, Bool.false_eq_true, iff_false, false_iff, true_iff, iff_true] <;> omega)
    · have hk1 : k - 1 < l.length := by omega
      have hr1 := Hrow.out (k - 1) hk1
      have hz : prevE l k = l[k - 1] := by
        unfold prevE
        rw [if_neg (by omega)]
        exact getD_lt l (k - 1) hk1
      rw [hz]
      obtain ⟨p, hp⟩ : ∃ p, l[k - 1] = p := ⟨_, rfl⟩
      rw [hp] at hr1 ⊢
      clear hz hp Hrow hk1
      obtain ⟨c0, c1, -⟩ : w.cell? ⟨b, off + (k - 1) * 8, none⟩ = some (.int .i64 p.step) ∧ w.cell? ⟨b, off + (k - 1) * 8 + 1, none⟩ = some (.int .i64 p.time) ∧ True := ⟨hr1 0 _ rfl, hr1 1 _ rfl, trivial⟩
      clear hr1
      have i1 : IntKind.i64.wrap ((k : Int) - 1) = (k : Int) - 1 := IntWalk.i64_in _ (by omega)
      have i2 : 0 ≤ (k : Int) - 1 := by omega
      have i3 : ((k : Int) - 1).toNat = k - 1 := by omega
      go_enter Tryd.func56, Tryd.ntmps56
      go_wp2_with ((with_reducible refine wpList_load_agg (o := ⟨some 11, .load 23 (.tmp 10), _, _, _, none⟩) rfl 23 _ rfl b (off + k * 8) ?_ _ hr _ Tryd.underlying23 rfl ?_ ?_); (focus rfl); (focus kernel_rfl); simp only [evCells])
      go_quiet (fail)
      go_wp2_with fail
      all_goals
        go_ret
        refine ⟨?_, (((Below.refl _ _).alloc (Nat.le_refl _) _).trans ⟨rfl, rfl, rfl, Nat.le_refl _, fun _ _ => rfl⟩)⟩
        clear hr c0 c1 hbw
        go_light
        refine ret_bool ?_
        rw [Bool.eq_iff_iff]
        unfold orderP
        simp only [beq_iff_eq, beq_eq_false_iff_ne, ne_eq] at *
        repeat' split
        all_goals (simp only [Bool.and_eq_true, decide_eq_true_eq, beq_iff_eq, Bool.false_eq_true, iff_false, false_iff, true_iff, iff_true] <;> omega)
def stCells (s : St) : List Value := .int .i64 s.started :: s.ended.map intV
/-- What is known about the tasks, in a block of its own. -/
def StAt (w : World) (p : Nat) (s : St) : Prop := w.heap[p]? = some (.cells (stCells s).toArray 89 (0, 0))
theorem StAt.lt {w : World} {p : Nat} {s : St} (h : StAt w p s) : p < w.heap.size := (Array.getElem?_eq_some_iff.1 h).1
theorem heap_cell {w : World} {b : Nat} {cs : Array Value} {t : TypeId} {fr : Nat × Nat} (h : w.heap[b]? = some (.cells cs t fr)) (j : Nat) : w.cell? ⟨b, j, none⟩ = cs[j]? := by simp [World.cell?, h]
theorem heap_free {w : World} {b : Nat} {cs : Array Value} {t : TypeId} (h : w.heap[b]? = some (.cells cs t (0, 0))) (j : Nat) : w.frozen? ⟨b, j, none⟩ = false := by simp [World.frozen?, h]
theorem heap_set {w : World} {b : Nat} {cs : Array Value} {t : TypeId} {fr : Nat × Nat} (h : w.heap[b]? = some (.cells cs t fr)) (j : Nat) (v : Value) : (w.setCell ⟨b, j, none⟩ v).heap[b]? = some (.cells (cs.setIfInBounds j v) t fr) := by
  simp [World.setCell, Array.getElem?_modify, h]
theorem StAt.below {w w' : World} {p B : Nat} {s : St} (h : StAt w p s) (hb : Below B w w') (hp : p < B) : StAt w' p s := (hb.block p hp).trans h
theorem StAt.start {w : World} {p : Nat} {s : St} (h : StAt w p s) (n : Int) : StAt (w.setCell ⟨p, 0, none⟩ (.int .i64 n)) p ⟨n, s.ended⟩ := heap_set h 0 _
theorem StAt.end_ {w : World} {p : Nat} {s : St} (h : StAt w p s) (t : Nat) (n : Int) : StAt (w.setCell ⟨p, 1 + t, none⟩ (.int .i64 n)) p ⟨s.started, s.ended.set t n⟩ := by
  refine (heap_set h (1 + t) _).trans ?_
  simp [stCells, Nat.add_comm 1 t, List.map_set, intV]
def TPost (s : St) (e : Ev) (p : Nat) (w : World) (en : Ending) (w' : World) : Prop := en = .returned (.bool (fitsB s e)) ∧ (fitsB s e = true → StAt w' p (noted s e)) ∧ w.grownBy w' (some p)
theorem only_drew' {a w : World} {row : Option Nat} (h : a.grownBy w row) : a.grownBy w.drew row := ⟨h.os, h.tape, h.output, h.size, h.block⟩
theorem only_alloc' {a w : World} {row : Option Nat} (h : a.grownBy w row) (o : Obj) : a.grownBy (w.alloc o) row :=
  ⟨h.os, h.tape, h.output, Nat.le_trans h.size (by simp), fun i hi hne => (Below.heap_alloc w o i (Nat.lt_of_lt_of_le hi h.size)).trans (h.block i hi hne)⟩
theorem only_set' {a w : World} {g : Nat} (h : a.grownBy w (some g)) (j : Nat) (u : Value) : a.grownBy (w.setCell ⟨g, j, none⟩ u) (some g) :=
  ⟨h.os, h.tape, h.output, by simpa [World.setCell] using h.size, fun i hi hne => (Below.heap_setCell w ⟨g, j, none⟩ u i (by
    rintro rfl
    exact hne rfl)).trans (h.block i hi hne)⟩
theorem StAt.alloc' {w : World} {p : Nat} {s : St} (h : StAt w p s) (o : Obj) : StAt (w.alloc o) p s := (Below.heap_alloc w o p h.lt).trans h
theorem bool_iff {a b : Bool} (h : a = true ↔ b = true) : a = b := by rw [Bool.eq_iff_iff]; exact h
set_option maxRecDepth 100000 in
set_option maxHeartbeats 4000000 in
theorem tasks57 (s : St) (e : Ev) (p : Nat) (w : World) (hs : StAt w p s) (hv : evErr e = 0) (hl : s.ended.length = 16) (h0 : 0 ≤ s.started) (h1 : s.started ≤ 65536) :
    Calls Tryd.prog 57 #[.pointer (some ⟨p, 0, none⟩), .agg (evCells e).toArray] w (TPost s e p w) := by
  have O := evOk_of hv
  have k0 := O.k0
  have k1 := O.k1
  have k2 := O.s0
  clear O hv
  have hp := hs.lt
  have c0 : w.cell? ⟨p, 0, none⟩ = some (.int .i64 s.started) := heap_cell hs 0
  have f0 : w.frozen? ⟨p, 0, none⟩ = false := heap_free hs 0
  have hg : w.grownBy w (some p) := World.grownBy.refl w _
  have Hs := Lib.hid hs
  clear hs
  by_cases e1 : e.kind = 201
  · have hf : fitsB s e = (e.task == -1) := by unfold fitsB; rw [if_pos e1]
    have hn : noted s e = s := by unfold noted; rw [if_pos e1]
    have hP : ∀ w', w' = w.alloc (.cells (evCells e).toArray 23) → TPost s e p w (.returned (.bool (e.task == -1))) w' := fun w' h => by
      subst h
      exact ⟨by rw [hf], fun _ => by rw [hn]; exact Hs.out.alloc' _, only_alloc' hg _⟩
    have e1' : (e.kind == 201) = true := by simpa using e1
    clear e1 hf hn
    unfold evCells at hP ⊢
    go_enter Tryd.func57, Tryd.ntmps57
    go_wp2_with fail
    go_ret
    exact hP _ rfl
  · have e1' : (e.kind == 201) = false := by simpa using e1
    by_cases e2 : e.task = -1
    · have hf : fitsB s e = (e.kind == 207) := by unfold fitsB; rw [if_neg e1, if_pos e2]
      have hn : noted s e = s := by unfold noted; rw [if_neg e1, if_pos e2]
      have hP : ∀ w', w' = w.alloc (.cells (evCells e).toArray 23) → TPost s e p w (.returned (.bool (e.kind == 207))) w' := fun w' h => by
        subst h
        exact ⟨by rw [hf], fun _ => by rw [hn]; exact Hs.out.alloc' _, only_alloc' hg _⟩
      have e2' : (e.task == -1) = true := by simpa using e2
      clear e1 e2 hf hn
      unfold evCells at hP ⊢
      go_enter Tryd.func57, Tryd.ntmps57
      go_wp2_with fail
      go_ret
      exact hP _ rfl
    · obtain ⟨T, hT⟩ : ∃ T : Nat, e.task = T := ⟨e.task.toNat, by omega⟩
      have hT16 : T < 16 := by omega
      have c1 : w.cell? ⟨p, 1 + T, none⟩ = some (.int .i64 (atOf s e)) := by
        refine (heap_cell Hs.out (1 + T)).trans ?_
        have : T < s.ended.length := by omega
        simp [stCells, Nat.add_comm 1 T, atOf, hT, this, intV]
      have f1 : w.frozen? ⟨p, 1 + T, none⟩ = false := heap_free Hs.out _
      obtain ⟨a, ha⟩ : ∃ a, atOf s e = a := ⟨_, rfl⟩
      rw [ha] at c1
      have e2' : (e.task == -1) = false := by simpa using e2
      have hf : fitsB s e = if lateB s e then false else if 0 < a then tailB a e else true := by unfold fitsB; rw [if_neg e1, if_neg e2, ha]
      have hn : noted s e = if lateB s e then ⟨startedOf s e, s.ended⟩ else if 0 < a then ⟨startedOf s e, s.ended⟩ else if e.kind = 205 then ⟨startedOf s e, s.ended.set T e.step⟩ else ⟨startedOf s e, s.ended⟩ := by
        unfold noted
        rw [if_neg e1, if_neg e2, ha, hT]
        rfl
      have hta : tailB a e = ((e.kind == 207 && e.step == a) || (e.kind == 212 && (T : Int) == 0 && e.scope == 0)) := by rw [← hT]; rfl
      by_cases e3 : e.kind = 204
      · have e3' : (e.kind == 204) = true := by simpa using e3
        have hla : lateB s e = decide (e.task ≠ s.started + 1) := by unfold lateB; rw [if_pos e3]
        have hso : startedOf s e = s.started + 1 := by unfold startedOf; rw [if_pos e3]
        by_cases e4 : e.task = s.started + 1
        · have hla2 : ¬ lateB s e = true := by rw [hla]; simp [e4]
          rw [if_neg hla2] at hf hn
          have t1 : tailB a e = false := by unfold tailB; simp [e3]
          by_cases e5 : 0 < a
          · rw [if_pos e5, t1] at hf
            have hP : ∀ w', w.grownBy w' (some p) → TPost s e p w (.returned (.bool false)) w' := fun w' h => ⟨by rw [hf], fun h => (by rw [hf] at h; cases h), h⟩
            have e6' : (e.kind == 207) = false := by simp [e3]
            have e7' : (e.kind == 212) = false := by simp [e3]
            have e4' : ((T : Int) == s.started + 1) = true := by rw [← hT]; simpa using e4
            have e4'' : ((T : Int) != s.started + 1) = false := by rw [← hT]; simpa using e4
            rw [hT] at e2'
            have hG : ∀ w', w' = ((((w.setCell ⟨p, 0, none⟩ (.int .i64 (s.started + 1))).alloc (.cells (evCells e).toArray 23)).drew).drew) → w.grownBy w' (some p) := fun w' h => by
              subst h
              exact only_drew' (only_drew' (only_alloc' (only_set' hg 0 _) _))
            unfold evCells at hG ⊢
            rw [hT] at hG ⊢
            clear e1 e2 e3 e4 hf hn hta hla hso hla2 t1 ha hT
            go_enter Tryd.func57, Tryd.ntmps57
            go_wp2_with fail
            go_region
            go_wp2_with fail
            go_region
            go_wp2_with fail
            go_ret
            exact hP _ (hG _ rfl)
          · rw [if_neg e5] at hf hn
            rw [if_neg (by omega), hso] at hn
            have hP : ∀ w', w.grownBy w' (some p) → StAt w' p ⟨s.started + 1, s.ended⟩ → TPost s e p w (.returned (.bool true)) w' := fun w' h h2 => ⟨by rw [hf], fun _ => by rw [hn]; exact h2, h⟩
            have e6' : (e.kind == 205) = false := by simp [e3]
            have e4'' : ((T : Int) != s.started + 1) = false := by rw [← hT]; simpa using e4
            rw [hT] at e2'
            have hG : ∀ w', w' = ((((w.setCell ⟨p, 0, none⟩ (.int .i64 (s.started + 1))).alloc (.cells (evCells e).toArray 23)).drew).drew) → w.grownBy w' (some p) ∧ StAt w' p ⟨s.started + 1, s.ended⟩ := fun w' h => by
              subst h
              exact ⟨only_drew' (only_drew' (only_alloc' (only_set' hg 0 _) _)), (Hs.out.start _).alloc' _⟩
            unfold evCells at hG ⊢
            rw [hT] at hG ⊢
            clear e1 e2 e3 e4 hf hn hta hla hso hla2 t1 ha hT
            go_enter Tryd.func57, Tryd.ntmps57
            go_wp2_with fail
            go_region
            go_wp2_with fail
            go_region
            go_wp2_with fail
            go_ret
            exact hP _ (hG _ rfl).1 (hG _ rfl).2
        · have hla2 : lateB s e = true := by rw [hla]; simpa using e4
          rw [if_pos hla2] at hf
          have hP : ∀ w', w.grownBy w' (some p) → TPost s e p w (.returned (.bool false)) w' := fun w' h => ⟨by rw [hf], fun h => (by rw [hf] at h; cases h), h⟩
          have e4'' : ((T : Int) != s.started + 1) = true := by rw [← hT]; simpa using e4
          rw [hT] at e2'
          have hG : ∀ w', w' = (((w.setCell ⟨p, 0, none⟩ (.int .i64 (s.started + 1))).alloc (.cells (evCells e).toArray 23)).drew) → w.grownBy w' (some p) := fun w' h => by
            subst h
            exact only_drew' (only_alloc' (only_set' hg 0 _) _)
          unfold evCells at hG ⊢
          rw [hT] at hG ⊢
          clear e1 e2 e3 e4 hf hn hta hla hso hla2 ha hT
          go_enter Tryd.func57, Tryd.ntmps57
          go_wp2_with fail
          go_region
          go_wp2_with fail
          go_ret
          exact hP _ (hG _ rfl)
      · have e3' : (e.kind == 204) = false := by simpa using e3
        have hla : lateB s e = decide (s.started < e.task) := by unfold lateB; rw [if_neg e3]
        have hso : startedOf s e = s.started := by unfold startedOf; rw [if_neg e3]
        by_cases e4 : s.started < e.task
        · have hla2 : lateB s e = true := by rw [hla]; simpa using e4
          rw [if_pos hla2] at hf
          have hP : ∀ w', w.grownBy w' (some p) → TPost s e p w (.returned (.bool false)) w' := fun w' h => ⟨by rw [hf], fun h => (by rw [hf] at h; cases h), h⟩
          rw [hT] at e2' e4
          have hG : ∀ w', w' = ((w.alloc (.cells (evCells e).toArray 23)).drew) → w.grownBy w' (some p) := fun w' h => by
            subst h
            exact only_drew' (only_alloc' hg _)
          unfold evCells at hG ⊢
          rw [hT] at hG ⊢
          clear e1 e2 e3 hf hn hta hla hso hla2 ha hT
          go_enter Tryd.func57, Tryd.ntmps57
          go_wp2_with fail
          go_region
          go_wp2_with fail
          go_ret
          exact hP _ (hG _ rfl)
        · have hla2 : ¬ lateB s e = true := by rw [hla]; simpa using e4
          rw [if_neg hla2, hso] at hn
          rw [if_neg hla2] at hf
          by_cases e5 : 0 < a
          · rw [if_pos e5] at hf hn
            have hP : ∀ (b : Bool) w', w.grownBy w' (some p) → StAt w' p s → b = tailB a e → TPost s e p w (.returned (.bool b)) w' := fun b w' h h2 h3 => ⟨by rw [hf, h3], fun _ => by rw [hn]; exact h2, h⟩
            rw [hT] at e2' e4
            have hG : ∀ X, w.grownBy (((w.alloc (.cells X 23)).drew).drew) (some p) ∧ StAt (((w.alloc (.cells X 23)).drew).drew) p s := fun X =>
              ⟨only_drew' (only_drew' (only_alloc' hg _)), Hs.out.alloc' _⟩
            unfold evCells
            rw [hT]
            have Hta := Lib.hid hta
            clear e1 e2 e3 hf hn hta hla hso hla2 ha hT
            go_enter Tryd.func57, Tryd.ntmps57
            go_wp2_with fail
            go_region
            go_wp2_with fail
            go_region
            go_wp2_with fail
            all_goals
              go_ret
              refine hP _ _ (hG _).1 (hG _).2 ?_
              rw [Hta.out]
              clear hP hG c0 c1 f0 f1 hg
              go_light
              simp_all
          · rw [if_neg e5] at hf hn
            by_cases e6 : e.kind = 205
            · rw [if_pos e6] at hn
              have hP : ∀ w', w.grownBy w' (some p) → StAt w' p ⟨s.started, s.ended.set T e.step⟩ → TPost s e p w (.returned (.bool true)) w' := fun w' h h2 => ⟨by rw [hf], fun _ => by rw [hn]; exact h2, h⟩
              have e6' : (e.kind == 205) = true := by simpa using e6
              rw [hT] at e2' e4
              have hG : ∀ w', w' = ((((w.setCell ⟨p, 1 + T, none⟩ (.int .i64 e.step)).alloc (.cells (evCells e).toArray 23)).drew).drew).drew → w.grownBy w' (some p) ∧ StAt w' p ⟨s.started, s.ended.set T e.step⟩ := fun w' h => by
                subst h
                exact ⟨only_drew' (only_drew' (only_drew' (only_alloc' (only_set' hg _ _) _))), (Hs.out.end_ T e.step).alloc' _⟩
              unfold evCells at hG ⊢
              rw [hT] at hG ⊢
              clear e1 e2 e3 e6 hf hn hta hla hso hla2 ha hT
              go_enter Tryd.func57, Tryd.ntmps57
              go_wp2_with fail
              go_region
              go_wp2_with fail
              go_region
              go_wp2_with fail
              go_region
              go_wp2_with fail
              go_ret
              exact hP _ (hG _ rfl).1 (hG _ rfl).2
            · rw [if_neg e6] at hn
              have hP : ∀ w', w.grownBy w' (some p) → StAt w' p s → TPost s e p w (.returned (.bool true)) w' := fun w' h h2 => ⟨by rw [hf], fun _ => by rw [hn]; exact h2, h⟩
              have e6' : (e.kind == 205) = false := by simpa using e6
              rw [hT] at e2' e4
              have hG : ∀ w', w' = (((w.alloc (.cells (evCells e).toArray 23)).drew).drew) → w.grownBy w' (some p) ∧ StAt w' p s := fun w' h => by
                subst h
                exact ⟨only_drew' (only_drew' (only_alloc' hg _)), Hs.out.alloc' _⟩
              unfold evCells at hG ⊢
              rw [hT] at hG ⊢
              clear e1 e2 e3 e6 hf hn hta hla hso hla2 ha hT
              go_enter Tryd.func57, Tryd.ntmps57
              go_wp2_with fail
              go_region
              go_wp2_with fail
              go_region
              go_wp2_with fail
              go_ret
              exact hP _ (hG _ rfl).1 (hG _ rfl).2
end Go.Proofs.YtofomblpbmpbaaaDoor

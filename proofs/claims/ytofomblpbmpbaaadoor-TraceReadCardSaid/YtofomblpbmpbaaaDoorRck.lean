/- Check by the reference. -/
import Derived.Test.YtofomblpbmpbaaaDoorChe
namespace Go.Proofs.YtofomblpbmpbaaaDoor
open Go.RowKit
def BPost (b : Bool) (w : World) (en : Ending) (w' : World) : Prop := en = .returned (.bool b) ∧ Below w.heap.size w w'
set_option maxRecDepth 100000 in
set_option maxHeartbeats 2000000 in
theorem ordered58 (p e : Ev) (w : World) : Calls Tryd.prog 58 #[.agg (evCells p).toArray, .agg (evCells e).toArray] w (BPost (orderR p e) w) := by
  have hP : ∀ w' b, Below w.heap.size w w' → b = orderR p e → BPost (orderR p e) w (.returned (.bool b)) w' := fun w' b h h2 => ⟨by rw [h2], h⟩
  have hB : ∀ x y, Below w.heap.size w ((w.alloc x).alloc y) := fun x y => ((Below.refl _ _).alloc (Nat.le_refl _) _).alloc (by simp) _
  unfold evCells
  go_enter Tryd.func58, Tryd.ntmps58
  go_wp2_with fail
  all_goals
    go_ret
    refine hP _ _ (hB _ _) ?_
    clear hP hB
    go_light
    refine bool_iff ?_
    unfold orderR
    simp only [beq_iff_eq, beq_eq_false_iff_ne, ne_eq] at *
    repeat' split
    all_goals (simp only [Bool.and_eq_true, decide_eq_true_eq, beq_iff_eq, bne_iff_ne, ne_eq, Bool.false_eq_true, iff_false, false_iff, true_iff, iff_true] <;> omega)
theorem starts_take (l : List Ev) (j : Nat) (h : j < l.length) : startsR (l.take (j + 1)) = if l[j].kind == 204 then startsR (l.take j) + 1 else startsR (l.take j) := by rw [take_snoc' l j h, startsR_snoc]
theorem mine_take (l : List Ev) (j : Nat) (h : j < l.length) (t : Int) : mineR (l.take (j + 1)) t = (mineR (l.take j) t || (l[j].kind == 204 && l[j].task == t)) := by rw [take_snoc' l j h, mineR_snoc]
theorem ended_take (l : List Ev) (j : Nat) (h : j < l.length) (t : Int) : endedR (l.take (j + 1)) t = if l[j].kind == 205 && l[j].task == t then l[j].step else endedR (l.take j) t := by rw [take_snoc' l j h, endedR_snoc]
theorem starts_le (l : List Ev) : startsR l ≤ l.length := List.length_filter_le _ _
set_option maxRecDepth 100000 in
set_option maxHeartbeats 4000000 in
theorem allowed59 (l : List Ev) (v : Value) (e : Ev) (w : World) (hv : EvsV w v l) (hl : l.length ≤ 65536) :
    Calls Tryd.prog 59 #[v, .agg (evCells e).toArray] w (BPost (allowedR l e) w) := by
  have hB : ∀ x, Below w.heap.size w (w.alloc x) := fun x => (Below.refl _ _).alloc (Nat.le_refl _) _
  have hBn : ∀ x n, Below w.heap.size w ((w.alloc x).drewN n) := fun x n => (hB x).trans ⟨rfl, rfl, rfl, Nat.le_refl _, fun _ _ => rfl⟩
  by_cases e1 : e.kind = 201
  · have hr : allowedR l e = (e.task == -1) := by unfold allowedR; simp [e1]
    rw [hr]
    have e1' : (e.kind == 201) = true := by simpa using e1
    have hP : ∀ x b, b = (e.task == -1) → BPost (e.task == -1) w (.returned (.bool b)) (w.alloc x) := fun x b h => ⟨by rw [h], hB x⟩
    clear e1 hr
    unfold evCells
    go_enter Tryd.func59, Tryd.ntmps59
    go_wp2_with fail
    all_goals
      go_ret
      refine hP _ _ ?_
      go_light
      simp_all
  · have e1' : (e.kind == 201) = false := by simpa using e1
    by_cases e2 : e.task = -1
    · have hr : allowedR l e = (e.kind == 207) := by unfold allowedR; simp [e1, e2]
      rw [hr]
      have e2' : (e.task == -1) = true := by simpa using e2
      have hP : ∀ x b, b = (e.kind == 207) → BPost (e.kind == 207) w (.returned (.bool b)) (w.alloc x) := fun x b h => ⟨by rw [h], hB x⟩
      clear e1 hr e2
      unfold evCells
      go_enter Tryd.func59, Tryd.ntmps59
      go_wp2_with fail
      all_goals
        go_ret
        refine hP _ _ ?_
        go_light
        simp_all
    · have e2' : (e.task == -1) = false := by simpa using e2
      have hr : allowedR l e = if e.kind = 204 then e.task == (startsR l : Int) + 1 else if 0 < endedR l e.task then (e.kind == 207 && e.step == endedR l e.task) || (e.task == 0 && e.kind == 212 && e.scope == 0) else (e.task == 0 || mineR l e.task) := by
        unfold allowedR
        rw [if_neg (show ¬ (e.kind == 201 || e.task == -1) = true by simp [e1, e2])]
      have hP : ∀ x n b, b = allowedR l e → BPost (allowedR l e) w (.returned (.bool b)) ((w.alloc x).drewN n) := fun x n b h => ⟨by rw [h], hBn x n⟩
      obtain ⟨A, c, rfl, hlc, hrw⟩ := hv
      have Hr := Lib.hid hr
      clear hr e1 e2 hB hBn
      generalize allowedR l e = res at *
      have hcell : ∀ j (hj : j < l.length), ∃ b o, A = some ⟨b, o, none⟩ ∧ b < w.heap.size ∧ Row w b (o + j * 8) (evCells l[j]) := fun j hj => by
        obtain ⟨b, o, rfl, hb, hrow⟩ := hrw (by rintro rfl; simp at hj)
        exact ⟨b, o, rfl, hb, hrow j hj⟩
      have Hcell := Lib.hid hcell
      clear hcell hrw
      have hcs := starts_le l
      unfold evCells
      go_enter Tryd.func59, Tryd.ntmps59
      go_wp2_with fail
      go_loopw [5, 6, 7, 8] (fun s m en i wr => ∃ j n : Nat, j ≤ l.length ∧ i = .int .i64 j ∧ s = .int .i64 (startsR (l.take j) : Nat) ∧ m = .bool (mineR (l.take j) e.task) ∧ en = .int .i64 (endedR (l.take j) e.task) ∧ wr = (w.alloc (.cells (evCells e).toArray 23)).drewN n) (fun _ _ _ i _ => l.length - (intOf i).toNat)
      case atStart => exact ⟨0, 0, Nat.zero_le _, rfl, rfl, rfl, rfl, rfl⟩
      case round =>
        obtain ⟨j, n, hj, rfl, rfl, rfl, rfl, rfl⟩ := hrel
        by_cases hlt : j < l.length
        · have h1 := starts_take l j hlt
          have h2 := mine_take l j hlt e.task
          have h3 := ended_take l j hlt e.task
          obtain ⟨b, o, rfl, hb, hrow⟩ := Hcell.out j hlt
          have hle : startsR (l.take j) ≤ j := Nat.le_trans (starts_le _) (List.length_take_le _ _)
          obtain ⟨x, hx⟩ : ∃ x, l[j] = x := ⟨_, rfl⟩
          rw [hx] at h1 h2 h3 hrow
          have x0 := hrow 0 _ rfl
          have x2 := hrow 2 _ rfl
          have x3 := hrow 3 _ rfl
          rw [Nat.add_zero] at x0
          generalize startsR (l.take j) = st at *
          generalize endedR (l.take j) e.task = en at *
          generalize mineR (l.take j) e.task = mi at *
          have H1 := Lib.hid h1
          have H2 := Lib.hid h2
          have H3 := Lib.hid h3
          clear hrow h1 h2 h3 hx Hcell Hr
          unfold evCells
          rcases Bool.eq_false_or_eq_true (x.kind == 204) with a1 | a1
          · have a2 : (x.kind == 205) = false := by simp at a1; simp [a1]
            rcases Bool.eq_false_or_eq_true (x.task == e.task) with a3 | a3 <;> cases mi
            all_goals
              go_wp2_with fail
              go_quiet (fail)
              go_wp2_with fail
              go_quiet (fail)
              go_wp2_with fail
              go_roundw
              case rel =>
                have q1 := H1.out
                have q2 := H2.out
                have q3 := H3.out
                clear H1 H2 H3 x0 x2 x3 hP
                go_light
                refine ⟨j + 1, _, by omega, by go_num, ?_, ?_, ?_, rfl⟩
                · rw [q1, a1]; go_num
                · rw [q2, a1, a3]; rfl
                · rw [q3, a2]; rfl
              case measure => simp [intOf]; omega
          · rcases Bool.eq_false_or_eq_true (x.kind == 205) with a2 | a2
            · rcases Bool.eq_false_or_eq_true (x.task == e.task) with a3 | a3
              all_goals
                go_wp2_with fail
                go_quiet (fail)
                go_wp2_with fail
                go_roundw
                case rel =>
                  have q1 := H1.out
                  have q2 := H2.out
                  have q3 := H3.out
                  clear H1 H2 H3 x0 x2 x3 hP
                  go_light
                  refine ⟨j + 1, _, by omega, by go_num, ?_, ?_, ?_, rfl⟩
                  · rw [q1, a1]; rfl
                  · rw [q2, a1]; simp
                  · rw [q3, a2, a3]; rfl
                case measure => simp [intOf]; omega
            · go_wp2_with fail
              go_quiet (fail)
              go_wp2_with fail
              go_roundw
              case rel =>
                have q1 := H1.out
                have q2 := H2.out
                have q3 := H3.out
                clear H1 H2 H3 x0 x2 x3 hP
                go_light
                refine ⟨j + 1, _, by omega, by go_num, ?_, ?_, ?_, rfl⟩
                · rw [q1, a1]; rfl
                · rw [q2, a1]; simp
                · rw [q3, a2]; rfl
              case measure => simp [intOf]; omega
        · have hj' : j = l.length := by omega
          subst hj'
          rw [List.take_length]
          generalize startsR l = st at *
          generalize endedR l e.task = en at *
          generalize mineR l e.task = mi at *
          unfold evCells
          by_cases e3 : e.kind = 204
          · have e3' : (e.kind == 204) = true := by simpa using e3
            rw [if_pos e3] at Hr
            clear e3
            go_wp2_with fail
            go_ret
            exact hP _ _ _ Hr.out.symm
          · have e3' : (e.kind == 204) = false := by simpa using e3
            rw [if_neg e3] at Hr
            clear e3
            by_cases e4 : 0 < en
            · rw [if_pos e4] at Hr
              go_wp2_with fail
              all_goals
                go_ret
                refine hP _ _ _ ?_
                rw [Hr.out]
                go_light
                simp_all
            · rw [if_neg e4] at Hr
              go_wp2_with fail
              all_goals
                go_ret
                refine hP _ _ _ ?_
                have hq := Hr.out
                clear Hr
                go_light
                simp_all
end Go.Proofs.YtofomblpbmpbaaaDoor

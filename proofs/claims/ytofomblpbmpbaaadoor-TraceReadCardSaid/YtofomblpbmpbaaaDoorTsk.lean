/- The plain law of the tasks: the events of all tasks are together the events; those of a task stand in their order. -/
import Derived.Test.YtofomblpbmpbaaaDoorCln
namespace Go.Proofs.YtofomblpbmpbaaaDoor
open Go.RowKit
def tStep (ts : List Int) (e : Ev) : List Int := if ts.contains e.task = true then ts else ts ++ [e.task]
def tasksF (l : List Ev) : List Int := l.foldl tStep []
theorem tasks_snoc (l : List Ev) (e : Ev) : tasksF (l ++ [e]) = tStep (tasksF l) e := by
  unfold tasksF
  rw [List.foldl_append]
  rfl
theorem tasks_hit (l : List Ev) (k : Nat) (h : k < l.length) (ht : (tasksF (l.take k)).contains l[k].task = true) : tasksF (l.take (k + 1)) = tasksF (l.take k) := by
  rw [take_snoc l k h, tasks_snoc]
  exact if_pos ht
theorem tasks_miss (l : List Ev) (k : Nat) (h : k < l.length) (ht : (tasksF (l.take k)).contains l[k].task = false) : tasksF (l.take (k + 1)) = tasksF (l.take k) ++ [l[k].task] := by
  rw [take_snoc l k h, tasks_snoc]
  exact if_neg (by rw [ht]; simp)
theorem tasks_len (l : List Ev) : (tasksF l).length ≤ l.length := by
  have : ∀ (l : List Ev) (ts : List Int), (l.foldl tStep ts).length ≤ ts.length + l.length := by
    intro l
    induction l with
    | nil => intro ts; simp
    | cons e l ih =>
      intro ts
      have h := ih (tStep ts e)
      have h2 : (tStep ts e).length ≤ ts.length + 1 := by
        unfold tStep
        split
        · omega
        · simp
      simp only [List.foldl_cons, List.length_cons]
      omega
  unfold tasksF
  simpa using this l []
def sumF (l : List Ev) (ts : List Int) : Nat := (ts.map (fun t => (ofF l t).length)).sum
theorem ofF_snoc (l : List Ev) (e : Ev) (t : Int) : (ofF (l ++ [e]) t).length = (ofF l t).length + (if e.task = t then 1 else 0) := by
  unfold ofF
  rw [List.filter_append, List.length_append]
  by_cases h : e.task = t
  · simp [h]
  · simp [h]
theorem sum_snoc (l : List Ev) (e : Ev) : ∀ ts : List Int, sumF (l ++ [e]) ts = sumF l ts + ts.count e.task := by
  intro ts
  induction ts with
  | nil => rfl
  | cons t ts ih =>
    unfold sumF at ih ⊢
    simp only [List.map_cons, List.sum_cons]
    rw [ih, ofF_snoc, List.count_cons]
    by_cases h : e.task = t
    · subst h
      simp
      omega
    · have h' : ¬ t = e.task := fun x => h x.symm
      simp [h, h']
      omega
/-- The list of the tasks has each task once, and all of them. -/
theorem tasks_ok (l : List Ev) : (tasksF l).Nodup ∧ (∀ e ∈ l, e.task ∈ tasksF l) ∧ sumF l (tasksF l) = l.length := by
  have key : ∀ n (l : List Ev), l.length = n → (tasksF l).Nodup ∧ (∀ e ∈ l, e.task ∈ tasksF l) ∧ sumF l (tasksF l) = l.length := by
    intro n
    induction n with
    | zero =>
      intro l hl
      have : l = [] := List.eq_nil_of_length_eq_zero hl
      subst this
      exact ⟨List.nodup_nil, fun e h => (by cases h), rfl⟩
    | succ n ih =>
      intro l hl
      rcases List.eq_nil_or_concat l with rfl | ⟨m, e, rfl⟩
      · cases hl
      · simp only [List.concat_eq_append] at hl ⊢
        obtain ⟨h1, h2, h3⟩ := ih m (by simpa using hl)
        rw [tasks_snoc]
        unfold tStep
        by_cases hc : (tasksF m).contains e.task = true
        · rw [if_pos hc]
          have hm : e.task ∈ tasksF m := by simpa using hc
          refine ⟨h1, ?_, ?_⟩
          · intro x hx
            rcases List.mem_append.1 hx with hx | hx
            · exact h2 x hx
            · simp at hx
              subst hx
              exact hm
          · rw [sum_snoc, h3, List.Nodup.count h1, if_pos hm]
            simp
        · rw [if_neg hc]
          have hm : e.task ∉ tasksF m := by simpa using hc
          have h0 : (ofF m e.task).length = 0 := by
            rw [List.length_eq_zero_iff]
            unfold ofF
            rw [List.filter_eq_nil_iff]
            intro x hx hxt
            have : x.task = e.task := by simpa using hxt
            exact hm (this ▸ h2 x hx)
          refine ⟨?_, ?_, ?_⟩
          · rw [List.nodup_append]
            refine ⟨h1, by simp, ?_⟩
            intro a ha b hb
            simp at hb
            subst hb
            intro hab
            exact hm (hab ▸ ha)
          · intro x hx
            rcases List.mem_append.1 hx with hx | hx
            · exact List.mem_append.2 (.inl (h2 x hx))
            · simp at hx
              subst hx
              simp
          · have e1 : sumF (m ++ [e]) (tasksF m ++ [e.task]) = sumF (m ++ [e]) (tasksF m) + (ofF (m ++ [e]) e.task).length := by
              unfold sumF
              simp
            rw [e1, sum_snoc, h3, ofF_snoc, h0, List.count_eq_zero_of_not_mem hm]
            simp
  exact key _ l rfl
theorem sum_take_le (l : List Ev) (k : Nat) : sumF l ((tasksF l).take k) ≤ l.length := by
  have h := (tasks_ok l).2.2
  have e1 : sumF l (tasksF l) = sumF l ((tasksF l).take k) + sumF l ((tasksF l).drop k) := by
    unfold sumF
    rw [← List.sum_append, ← List.map_append, List.take_append_drop]
  omega
theorem sum_succ (l : List Ev) (ts : List Int) (k : Nat) (h : k < ts.length) : sumF l (ts.take (k + 1)) = sumF l (ts.take k) + (ofF l ts[k]).length := by
  unfold sumF
  rw [take_snoc ts k h, List.map_append, List.sum_append]
  simp only [List.map_cons, List.map_nil, List.sum_cons, List.sum_nil, Nat.add_zero]
theorem ofF_split (l : List Ev) (t : Int) (i : Nat) : ofF l t = ofF (l.take i) t ++ ofF (l.drop i) t := by
  unfold ofF
  rw [← List.filter_append, List.take_append_drop]
theorem mine_at (l : List Ev) (t : Int) (i : Nat) (h : i < l.length) (ht : (l[i].task == t) = true) : (ofF l t)[(ofF (l.take i) t).length]? = some l[i] := by
  rw [ofF_split l t i, List.drop_eq_getElem_cons h]
  have : ofF (l[i] :: l.drop (i + 1)) t = l[i] :: ofF (l.drop (i + 1)) t := by
    unfold ofF
    rw [List.filter_cons, if_pos ht]
  rw [this]
  simp
/-- The clean-ups that are still to come behind the first i events. -/
def restF (l : List Ev) (t : Int) (i : Nat) : List Int := clF (ofF (l.drop i) t)
theorem rest_zero (l : List Ev) (t : Int) : restF l t 0 = cleanF l t := rfl
theorem rest_end (l : List Ev) (t : Int) : restF l t l.length = [] := by
  unfold restF
  rw [List.drop_length]
  rfl
theorem rest_other (l : List Ev) (t : Int) (i : Nat) (h : i < l.length) (ht : (l[i].task == t) = false) : restF l t (i + 1) = restF l t i := by
  unfold restF
  rw [List.drop_eq_getElem_cons h]
  unfold ofF
  rw [List.filter_cons, if_neg (by rw [ht]; simp)]
theorem rest_hit (l : List Ev) (t : Int) (i : Nat) (h : i < l.length) (ht : (l[i].task == t) = true) (hk : (l[i].kind == 209) = true) : restF l t i = l[i].value :: restF l t (i + 1) := by
  unfold restF
  rw [List.drop_eq_getElem_cons h]
  unfold ofF
  rw [List.filter_cons, if_pos ht]
  unfold clF
  rw [List.filter_cons, if_pos hk]
  rfl
theorem rest_miss (l : List Ev) (t : Int) (i : Nat) (h : i < l.length) (ht : (l[i].task == t) = true) (hk : (l[i].kind == 209) = false) : restF l t (i + 1) = restF l t i := by
  unfold restF
  rw [List.drop_eq_getElem_cons h]
  unfold ofF
  rw [List.filter_cons, if_pos ht]
  unfold clF
  rw [List.filter_cons, if_neg (by rw [hk]; simp)]
end Go.Proofs.YtofomblpbmpbaaaDoor

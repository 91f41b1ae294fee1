/- A part of the proof that nurserylaw36.HappensBefore returns true for every input. -/
import Derived.Tactics2
import Derived.Maps.RangeWalk
namespace Go.Proofs.Seat4
open Go.RowKit
/-- The entries of a map as they were put in, one after the other. -/
def mkEs : List (Value × Value) → Nat → List MapEntry
  | [], _ => []
  | (k, v) :: r, i => ⟨k, v, i⟩ :: mkEs r (i + 1)
theorem mkEs_append (a b : List (Value × Value)) (i : Nat) : mkEs (a ++ b) i = mkEs a i ++ mkEs b (i + a.length) := by
  induction a generalizing i with
  | nil => simp [mkEs]
  | cons x r ih =>
    obtain ⟨k, v⟩ := x
    simp only [List.cons_append, mkEs, ih, List.length_cons]
    rw [show i + 1 + r.length = i + (r.length + 1) from by omega]
theorem mkEs_length (a : List (Value × Value)) (i : Nat) : (mkEs a i).length = a.length := by
  induction a generalizing i with
  | nil => rfl
  | cons x r ih => obtain ⟨k, v⟩ := x; simp [mkEs, ih]
theorem mkEs_mem (a : List (Value × Value)) (i : Nat) : ∀ e ∈ mkEs a i, ∃ j, ∃ h : j < a.length, e = ⟨a[j].1, a[j].2, i + j⟩ := by
  induction a generalizing i with
  | nil => intro e he; cases he
  | cons x r ih =>
    obtain ⟨k, v⟩ := x
    intro e he
    simp only [mkEs, List.mem_cons] at he
    rcases he with rfl | he
    · exact ⟨0, by simp, rfl⟩
    · obtain ⟨j, hj, rfl⟩ := ih (i + 1) e he
      exact ⟨j + 1, by simpa using hj, by simp [show i + 1 + j = i + (j + 1) from by omega]⟩
theorem mkEs_get (a : List (Value × Value)) (i j : Nat) (h : j < a.length) : (mkEs a i)[j]? = some ⟨a[j].1, a[j].2, i + j⟩ := by
  induction a generalizing i j with
  | nil => simp at h
  | cons x r ih =>
    obtain ⟨k, v⟩ := x
    cases j with
    | zero => simp [mkEs]
    | succ j =>
      simp only [mkEs, List.getElem?_cons_succ, List.getElem_cons_succ]
      rw [ih (i + 1) j (by simpa using h), show i + 1 + j = i + (j + 1) from by omega]
def MapIs (w : World) (m : Nat) (kvs : List (Value × Value)) : Prop := w.heap[m]? = some (.map (mkEs kvs 0).toArray kvs.length)
theorem MapIs.lt {w : World} {m : Nat} {kvs : List (Value × Value)} (h : MapIs w m kvs) : m < w.heap.size := (Array.getElem?_eq_some_iff.1 h).1
theorem MapIs.below {w w' : World} {m B : Nat} {kvs : List (Value × Value)} (h : MapIs w m kvs) (hb : Below B w w') (hm : m < B) : MapIs w' m kvs := (hb.block m hm).trans h
section
variable {P : Program}
variable {ops : Array Oper} {rest : List Oper} {o : Oper} {a : Act} {w : World} {Q : Exit → Act → World → Prop}
theorem run_getObj_map (m : Nat) (es : Array MapEntry) (c : Nat) (h : w.heap[m]? = some (.map es c)) : (getObj m).run P w = .ok (.map es c) w := by
  simp [getObj, Sem.run, h]
theorem run_setObj_map (m : Nat) (es : Array MapEntry) (c : Nat) (o' : Obj) (h : w.heap[m]? = some (.map es c)) : (setObj m o').run P w = .ok () { w with heap := w.heap.setIfInBounds m o' } := by
  simp [setObj, Sem.run, h]
theorem below_set (w : World) (m : Nat) (o' : Obj) : Below m w { w with heap := w.heap.setIfInBounds m o' } :=
  ⟨rfl, rfl, rfl, by simp, fun k hk => by simp [show ¬ m = k from by omega]⟩
/-- An iterator over the map m at block r: which of the entries it has given already. -/
def IterIs (w : World) (r m n : Nat) (seen : Array Nat) : Prop := w.heap[r]? = some (.mapIter (some m) n seen n)
theorem wpList_range_mk (hg : o.guard = none) (t k e : TypeId) (m : Operand) (hop : o.op = .range t m) (ht : P.underlying t = some (.map k e))
    (b : Nat) (hm : a.eval m = .map (some b)) (kvs : List (Value × Value)) (hM : MapIs w b kvs)
    (hK : IterIs (w.alloc (.mapIter (some b) kvs.length #[] kvs.length)) w.heap.size b kvs.length #[] → wpList P ops Q rest (a.put o.dst (.pointer (some ⟨w.heap.size, 0, none⟩))) (w.alloc (.mapIter (some b) kvs.length #[] kvs.length))) : wpList P ops Q (o :: rest) a w := by
  refine wpList_plain hg fun K' hK' => ?_
  have hrun : (Instr.range t (.map (some b))).run P w = .ok (.pointer (some ⟨w.heap.size, 0, none⟩)) (w.alloc (.mapIter (some b) kvs.length #[] kvs.length)) := by
    unfold Instr.range
    simp only [Sem.run_bind, run_underlying ht, Result.andThen_ok, run_getObj_map _ _ _ hM, Sem.run_pure]
    rfl
  unfold Oper.wp
  simp only [execOp, hop, hm, Sem.run_bind, hrun, Result.andThen_ok, Sem.run_pure]
  exact hK' _ _ (hK (heap_alloc_new w _))
theorem run_choose_next (w : World) (n : Nat) (hn : 1 ≤ n) : ∃ c w', c < n ∧ (choose (.mapNext n)).run P w = .ok c w' ∧ w'.heap = w.heap ∧ w'.os = w.os ∧ w'.tape = w.tape ∧ w'.output = w.output := by
  by_cases h : n ≤ 1
  · refine ⟨0, w, by omega, ?_, rfl, rfl, rfl, rfl⟩
    simp [choose, Sem.run, Question.forced, h]
  · refine ⟨_, { w with drawn := w.drawn + 1 }, Nat.mod_lt (w.tape w.drawn (.mapNext n)) (by omega), ?_, rfl, rfl, rfl, rfl⟩
    simp [choose, Sem.run, Question.forced, h, Question.cut]
/-- The iterator's step: nothing is left, or some entry that was not given yet. -/
theorem wpList_next_mk (hg : o.guard = none) (it : Operand) (hop : o.op = .next it false) (r b : Nat) (hit : a.eval it = .pointer (some ⟨r, 0, none⟩)) (kvs : List (Value × Value)) (hM : MapIs w b kvs) (seen : Array Nat) (hI : IterIs w r b kvs.length seen)
    (hDone : ∀ w' : World, (∀ j, j < kvs.length → j ∈ seen) → (∀ i : Nat, w'.heap[i]? = w.heap[i]?) → Below w.heap.size w w' → wpList P ops Q rest (a.put o.dst (.tuple #[.bool false])) w')
    (hMore : ∀ (j : Nat) (hj : j < kvs.length) (w' : World), j ∉ seen → IterIs w' r b kvs.length (seen.push j) → Below r w w' → w'.heap.size = w.heap.size → (∀ i : Nat, i ≠ r → w'.heap[i]? = w.heap[i]?) →
      wpList P ops Q rest (a.put o.dst (.tuple #[.bool true, kvs[j].1, kvs[j].2])) w') : wpList P ops Q (o :: rest) a w := by
  refine wpList_plain hg fun K' hK' => ?_
  have hrb : r ≠ b := by
    intro e
    subst e
    unfold IterIs at hI
    unfold MapIs at hM
    rw [hM] at hI
    cases hI
  have hborn : ∀ x ∈ mkEs kvs 0, x.born < kvs.length := fun x hx => by
    obtain ⟨j, hj, rfl⟩ := mkEs_mem kvs 0 x hx
    simpa using hj
  unfold Oper.wp
  simp only [execOp, hop, hit, Sem.run_bind, Instr.next]
  have hgo : (getObj r).run P w = .ok (.mapIter (some b) kvs.length seen kvs.length) w := by
    unfold IterIs at hI
    simp [getObj, Sem.run, hI]
  simp only [hgo, Result.andThen_ok, Sem.run_bind, run_getObj_map _ _ _ hM]
  have hall : ((mkEs kvs 0).toArray.all (·.born ≥ kvs.length)) = true → (mkEs kvs 0) = [] := by
    intro h
    cases hk : mkEs kvs 0 with
    | nil => rfl
    | cons e r =>
      rw [hk] at h
      have := hborn e (by rw [hk]; simp)
      simp at h
      omega
  have hno : ((!seen.isEmpty && !(mkEs kvs 0).toArray.isEmpty && (mkEs kvs 0).toArray.all (·.born ≥ kvs.length)) = true) = False := by
    simp only [eq_iff_iff, iff_false, Bool.and_eq_true, not_and]
    rintro ⟨_, h2⟩ h3
    rw [hall h3] at h2
    simp at h2
  have hold : ∀ f : MapEntry → Bool, (((mkEs kvs 0).toArray.filter f).filter (·.born < kvs.length)) = (mkEs kvs 0).toArray.filter f := by
    intro f
    rw [Array.filter_eq_self]
    intro x hx
    have := hborn x (by simpa using (Array.mem_filter.1 hx).1)
    simpa using this
  have hnew : ∀ f : MapEntry → Bool, (((mkEs kvs 0).toArray.filter f).filter (·.born ≥ kvs.length)) = #[] := by
    intro f
    rw [Array.filter_eq_empty_iff]
    intro x hx
    have := hborn x (by simpa using (Array.mem_filter.1 hx).1)
    simp
    omega
  simp only [hno, if_false, hold, hnew, Sem.run_bind, Sem.run_pure, Array.append_empty]
  generalize hL : (mkEs kvs 0).toArray.filter (fun e => !seen.contains e.born) = L
  have hLm : ∀ x, x ∈ L ↔ x ∈ mkEs kvs 0 ∧ x.born ∉ seen := by
    intro x
    rw [← hL]
    simp
  by_cases hLe : L = #[]
  · subst hLe
    obtain ⟨c, w', hc, hrun, h1, h2, h3, h4⟩ := run_choose_next (P := P) w 1 (by omega)
    have hc0 : c = 0 := by omega
    subst hc0
    simp only [Array.isEmpty_empty, if_true, List.map_toArray, List.map_nil, Array.append_empty]
    rw [show (#[none] : Array (Option MapEntry)).size = 1 from rfl, hrun]
    simp only [Result.andThen_ok]
    refine hK' _ _ (hDone w' (fun j hj => ?_) (fun i => by rw [h1]) ⟨h2, h3, h4, by rw [h1]; exact Nat.le_refl _, fun k _ => by rw [h1]⟩)
    apply Classical.byContradiction
    intro hns
    have := (hLm ⟨kvs[j].1, kvs[j].2, 0 + j⟩).2 ⟨List.mem_of_getElem? (mkEs_get kvs 0 j hj), by simpa using hns⟩
    simp at this
  · have hpos : 1 ≤ L.size := by
      rcases Nat.eq_zero_or_pos L.size with h | h
      · exact absurd (Array.eq_empty_of_size_eq_zero h) hLe
      · exact h
    have hie : L.isEmpty = false := by simpa using hLe
    obtain ⟨c, w', hc, hrun, h1, h2, h3, h4⟩ := run_choose_next (P := P) w L.size hpos
    simp only [hie, Bool.false_eq_true, if_false, Array.empty_append, Array.size_map]
    rw [hrun]
    simp only [Result.andThen_ok, Array.getElem?_map, Array.getElem?_eq_getElem hc, Option.map_some]
    have hmem := (hLm L[c]).1 (Array.getElem_mem hc)
    obtain ⟨j, hj, hej⟩ := mkEs_mem kvs 0 _ hmem.1
    have hns : j ∉ seen := by have := hmem.2; rw [hej] at this; simpa using this
    have hIw : w'.heap[r]? = some (.mapIter (some b) kvs.length seen kvs.length) := by rw [h1]; exact hI
    have hset : (setObj r (.mapIter (some b) kvs.length (seen.push L[c].born) kvs.length)).run P w' = .ok () { w' with heap := w'.heap.setIfInBounds r (.mapIter (some b) kvs.length (seen.push L[c].born) kvs.length) } := by
      simp [setObj, Sem.run, hIw]
    simp only [Sem.run_bind, hset, Result.andThen_ok, Sem.run_pure]
    have hlt : r < w.heap.size := (Array.getElem?_eq_some_iff.1 hI).1
    refine hK' _ _ ?_
    have := hMore j hj { w' with heap := w'.heap.setIfInBounds r (.mapIter (some b) kvs.length (seen.push L[c].born) kvs.length) } hns ?_ ?_ ?_ ?_
    · rw [hej]
      rw [hej] at this
      exact this
    · unfold IterIs
      rw [Array.getElem?_setIfInBounds, if_pos rfl, if_pos (by rw [h1]; exact hlt), hej]
      simp
    · exact ⟨h2, h3, h4, by simp [h1], fun k hk => by simp [show ¬ r = k from by omega, h1]⟩
    · simp [h1]
    · intro i hi
      simp [show ¬ r = i from fun e => hi e.symm, h1]
/-- The entry of the step just made. -/
theorem wpList_entry_mk (hg : o.guard = none) (it : Operand) (hop : o.op = .entry it) (r b : Nat) (hit : a.eval it = .pointer (some ⟨r, 0, none⟩)) (kvs : List (Value × Value)) (hM : MapIs w b kvs) (seen : Array Nat) (j : Nat) (hj : j < kvs.length) (hI : IterIs w r b kvs.length (seen.push j))
    (hK : wpList P ops Q rest (a.put o.dst (.tuple #[kvs[j].1, kvs[j].2])) w) : wpList P ops Q (o :: rest) a w := by
  refine wpList_plain hg fun K' hK' => ?_
  have hgo : (getObj r).run P w = .ok (.mapIter (some b) kvs.length (seen.push j) kvs.length) w := by
    unfold IterIs at hI
    simp [getObj, Sem.run, hI]
  have hfind : (mkEs kvs 0).toArray.find? (fun e => e.born == j) = some ⟨kvs[j].1, kvs[j].2, 0 + j⟩ := by
    have hg := mkEs_get kvs 0 j hj
    rw [List.find?_toArray]
    rw [List.find?_eq_some_iff_getElem]
    refine ⟨by simp, j, by rw [mkEs_length]; exact hj, ?_, ?_⟩
    · have := (List.getElem?_eq_some_iff.1 hg).2
      exact this
    · intro i hi
      have hik : i < kvs.length := by omega
      have := (List.getElem?_eq_some_iff.1 (mkEs_get kvs 0 i hik)).2
      rw [this]
      simp
      omega
  unfold Oper.wp
  simp only [execOp, hop, hit, Sem.run_bind, Instr.entry, hgo, Result.andThen_ok, Array.back?_push, run_getObj_map _ _ _ hM, hfind, Sem.run_pure, bne_self_eq_false, Bool.false_eq_true, if_false]
  exact hK' _ _ hK
end
theorem filter_lt {p q : Nat → Bool} (h : ∀ x, q x = true → p x = true) (j : Nat) (hp : p j = true) (hq : q j = false) : ∀ l : List Nat, j ∈ l → (l.filter q).length < (l.filter p).length := by
  have hle : ∀ l : List Nat, (l.filter q).length ≤ (l.filter p).length := by
    intro l
    induction l with
    | nil => simp
    | cons x l ih =>
      rw [List.filter_cons, List.filter_cons]
      by_cases hx : q x = true
      · rw [if_pos hx, if_pos (h x hx)]
        simpa using ih
      · rw [if_neg hx]
        split
        · simp; omega
        · exact ih
  intro l
  induction l with
  | nil => intro hj; cases hj
  | cons x l ih =>
    intro hj
    rw [List.filter_cons, List.filter_cons]
    rcases List.mem_cons.1 hj with rfl | hj
    · rw [if_pos hp, if_neg (by simp [hq])]
      have := hle l
      simp
      omega
    · have := ih hj
      by_cases hx : q x = true
      · rw [if_pos hx, if_pos (h x hx)]
        simpa using this
      · rw [if_neg hx]
        split
        · simp; omega
        · exact this
/-- How many entries a walk over a map has still to show. -/
def leftOf (w : World) (r n : Nat) : Nat :=
  match w.heap[r]? with
  | some (.mapIter _ _ seen _) => ((List.range n).filter (fun j => !seen.contains j)).length
  | _ => 0
theorem leftOf_push {w w' : World} {r m n j : Nat} {seen : Array Nat} (h : IterIs w r m n seen) (h' : IterIs w' r m n (seen.push j)) (hj : j < n) (hn : j ∉ seen) : leftOf w' r n < leftOf w r n := by
  unfold IterIs at h h'
  unfold leftOf
  rw [h, h']
  refine filter_lt (fun x hx => ?_) j (by simpa using hn) (by simp) _ (by simpa using hj)
  simp at hx ⊢
  exact hx.1
end Go.Proofs.Seat4

/- Plain laws over any program: a map with int keys that the call itself has made, all its entries known: literal inserts, a look-up, and a range over it in any order. -/
import Derived.Test.YtofomblpbmpbaaaDoorGen
import Derived.Maps.RangeWalk
namespace Go.Proofs.YtofomblpbmpbaaaDoor
open Go.RowKit
/-- The entries of a map as they were put in, one after the other. -/
def mkEs : List (Int × Value) → Nat → List MapEntry
  | [], _ => []
  | (k, v) :: r, i => ⟨.int .i64 k, v, i⟩ :: mkEs r (i + 1)
theorem mkEs_append (a b : List (Int × Value)) (i : Nat) : mkEs (a ++ b) i = mkEs a i ++ mkEs b (i + a.length) := by
  induction a generalizing i with
  | nil => simp [mkEs]
  | cons x r ih =>
    obtain ⟨k, v⟩ := x
    simp only [List.cons_append, mkEs, ih, List.length_cons]
    rw [show i + 1 + r.length = i + (r.length + 1) from by omega]
theorem mkEs_length (a : List (Int × Value)) (i : Nat) : (mkEs a i).length = a.length := by
  induction a generalizing i with
  | nil => rfl
  | cons x r ih => obtain ⟨k, v⟩ := x; simp [mkEs, ih]
theorem mkEs_mem (a : List (Int × Value)) (i : Nat) : ∀ e ∈ mkEs a i, ∃ j, ∃ h : j < a.length, e = ⟨.int .i64 a[j].1, a[j].2, i + j⟩ := by
  induction a generalizing i with
  | nil => intro e he; cases he
  | cons x r ih =>
    obtain ⟨k, v⟩ := x
    intro e he
    simp only [mkEs, List.mem_cons] at he
    rcases he with rfl | he
    · exact ⟨0, by simp, rfl⟩
    · obtain ⟨j, hj, rfl⟩ := ih (i + 1) e he
      exact ⟨j + 1, by simpa using hj, by simp [show i + 1 + j = i + (j + 1) from by omega]⟩
theorem mkEs_get (a : List (Int × Value)) (i j : Nat) (h : j < a.length) : (mkEs a i)[j]? = some ⟨.int .i64 a[j].1, a[j].2, i + j⟩ := by
  induction a generalizing i j with
  | nil => simp at h
  | cons x r ih =>
    obtain ⟨k, v⟩ := x
    cases j with
    | zero => simp [mkEs]
    | succ j =>
      simp only [mkEs, List.getElem?_cons_succ, List.getElem_cons_succ]
      rw [ih (i + 1) j (by simpa using h), show i + 1 + j = i + (j + 1) from by omega]
def MapIs (w : World) (m : Nat) (kvs : List (Int × Value)) : Prop := w.heap[m]? = some (.map (mkEs kvs 0).toArray kvs.length)
theorem MapIs.lt {w : World} {m : Nat} {kvs : List (Int × Value)} (h : MapIs w m kvs) : m < w.heap.size := (Array.getElem?_eq_some_iff.1 h).1
theorem MapIs.below {w w' : World} {m B : Nat} {kvs : List (Int × Value)} (h : MapIs w m kvs) (hb : Below B w w') (hm : m < B) : MapIs w' m kvs := (hb.block m hm).trans h
/-- What a look-up finds. -/
def lookV (kvs : List (Int × Value)) (k : Int) : Option Value := (kvs.find? (fun p => p.1 == k)).map (·.2)
section
variable {P : Program}
theorem run_checkKey_int (w : World) (k : TypeId) (x : Int) (empty : Bool) (hk : P.underlying k = some (.int .i64)) : (Instr.checkKey empty 10000 k (.int .i64 x)).run P w = .ok () w := by
  have h : ∀ n : Nat, (Instr.checkKey empty (n + 1) k (.int .i64 x)).run P w = .ok () w := fun n => by
    unfold Instr.checkKey
    rw [Sem.run_bind, run_underlying hk w]
    rfl
  exact h 9999
theorem findNow_mk (kvs : List (Int × Value)) (x : Int) (i : Nat) (n : Nat) :
    Instr.findNow (.int .i64) (.int .i64 x) (mkEs kvs n) i = some ((kvs.findIdx? (fun p => p.1 == x)).map (fun j => (i + j, ((lookV kvs x).getD undef)))) := by
  induction kvs generalizing i n with
  | nil => simp [mkEs, Instr.findNow]
  | cons y r ih =>
    obtain ⟨k, v⟩ := y
    simp only [mkEs, Instr.findNow, Instr.sameNow, if_true]
    by_cases h : x = k
    · subst h
      simp [List.findIdx?_cons, lookV]
    · have h1 : (x == k) = false := by simpa using h
      have h2 : (k == x) = false := by simpa using fun e => h e.symm
      rw [h1]
      simp only [ih (i + 1) (n + 1), List.findIdx?_cons, h2, lookV, List.find?_cons, Bool.false_eq_true, if_false, Option.map_map]
      congr 1
      congr 1
      funext j
      simp only [Function.comp]
      rw [show i + 1 + j = i + (j + 1) from by omega]
theorem run_findKey_mk (w : World) (k : TypeId) (x : Int) (kvs : List (Int × Value)) (hk : P.underlying k = some (.int .i64)) :
    (Instr.findKey k (.int .i64 x) (mkEs kvs 0)).run P w = .ok ((kvs.findIdx? (fun p => p.1 == x)).map (fun j => (j, ((lookV kvs x).getD undef)))) w := by
  unfold Instr.findKey
  rw [Sem.run_bind, run_underlying hk w]
  simp only [Result.andThen_ok, findNow_mk, Nat.zero_add]
  rfl
theorem lookV_none {kvs : List (Int × Value)} {x : Int} : (kvs.findIdx? (fun p => p.1 == x)) = none ↔ lookV kvs x = none := by
  simp [lookV, List.findIdx?_eq_none_iff, List.find?_eq_none]
theorem lookV_some {kvs : List (Int × Value)} {x : Int} {v : Value} (h : lookV kvs x = some v) : ∃ j, kvs.findIdx? (fun p => p.1 == x) = some j := by
  cases hf : kvs.findIdx? (fun p => p.1 == x) with
  | none => rw [lookV_none.1 hf] at h; cases h
  | some j => exact ⟨j, rfl⟩
variable {ops : Array Oper} {rest : List Oper} {o : Oper} {a : Act} {w : World} {Q : Exit → Act → World → Prop}
theorem run_getObj_map (m : Nat) (es : Array MapEntry) (c : Nat) (h : w.heap[m]? = some (.map es c)) : (getObj m).run P w = .ok (.map es c) w := by
  simp [getObj, Sem.run, h]
theorem run_setObj_map (m : Nat) (es : Array MapEntry) (c : Nat) (o' : Obj) (h : w.heap[m]? = some (.map es c)) : (setObj m o').run P w = .ok () { w with heap := w.heap.setIfInBounds m o' } := by
  simp [setObj, Sem.run, h]
theorem below_set (w : World) (m : Nat) (o' : Obj) : Below m w { w with heap := w.heap.setIfInBounds m o' } :=
  ⟨rfl, rfl, rfl, by simp, fun k hk => by simp [show ¬ m = k from by omega]⟩
/-- An entry of a map literal, its key a new one. -/
theorem wpList_insert_mk (hg : o.guard = none) (t k e : TypeId) (m : Operand) (x : Int) (v : Value) (hop : o.op = .insert t m (.const (.int .i64 x)) (.const v)) (ht : P.underlying t = some (.map k e)) (hk : P.underlying k = some (.int .i64))
    (b : Nat) (hm : a.eval m = .map (some b)) (kvs : List (Int × Value)) (hM : MapIs w b kvs) (hnew : lookV kvs x = none)
    (hK : ∀ w', MapIs w' b (kvs ++ [(x, v)]) → Below b w w' → w'.heap.size = w.heap.size → wpList P ops Q rest (a.put o.dst undef) w') : wpList P ops Q (o :: rest) a w := by
  refine wpList_plain hg fun K' hK' => ?_
  have hrun : (Instr.mapUpdate t (.map (some b)) (.int .i64 x) v).run P w = .ok () { w with heap := w.heap.setIfInBounds b (.map ((mkEs kvs 0).toArray.push ⟨.int .i64 x, v, kvs.length⟩) (kvs.length + 1)) } := by
    unfold Instr.mapUpdate
    simp only [Sem.run_bind, run_underlying ht, Result.andThen_ok, run_getObj_map _ _ _ hM, run_checkKey_int w k x false hk, run_findKey_mk w k x kvs hk, lookV_none.2 hnew, Option.map_none]
    exact run_setObj_map b _ _ _ hM
  have hm' : execOp a.eval o = (do Instr.mapUpdate t (a.eval m) (.int .i64 x) v; pure .skip) := by unfold execOp; rw [hop]; rfl
  unfold Oper.wp
  rw [hm', hm]
  simp only [Sem.run_bind, hrun, Result.andThen_ok, Sem.run_pure]
  refine hK' _ _ (hK _ ?_ (below_set _ _ _) (by simp))
  unfold MapIs
  rw [Array.getElem?_setIfInBounds, if_pos rfl, if_pos hM.lt, mkEs_append]
  simp [mkEs]
/-- A look-up of an int key. -/
theorem wpList_lookup_mk (hg : o.guard = none) (t k e : TypeId) (m x : Operand) (hop : o.op = .lookup t m x false) (ht : P.underlying t = some (.map k e)) (hk : P.underlying k = some (.int .i64))
    (z : Value) (hz : ∀ w, (zeroValue e).run P w = .ok z w) (b : Nat) (hm : a.eval m = .map (some b)) (kvs : List (Int × Value)) (hM : MapIs w b kvs) (n : Int) (hx : a.eval x = .int .i64 n)
    (hK : wpList P ops Q rest (a.put o.dst ((lookV kvs n).getD z)) w) : wpList P ops Q (o :: rest) a w := by
  refine wpList_plain hg fun K' hK' => ?_
  have hrun : (Instr.lookup t (.map (some b)) (.int .i64 n) false).run P w = .ok ((lookV kvs n).getD z) w := by
    unfold Instr.lookup
    simp only [Sem.run_bind, run_underlying ht, Result.andThen_ok, run_getObj_map _ _ _ hM, Sem.run_pure, run_checkKey_int w k n _ hk, run_findKey_mk w k n kvs hk]
    cases hl : lookV kvs n with
    | none => simp [lookV_none.2 hl, hz]
    | some v =>
      obtain ⟨j, hj⟩ := lookV_some hl
      simp [hj]
  unfold Oper.wp
  simp only [execOp, hop, hm, hx, Sem.run_bind, hrun, Result.andThen_ok, Sem.run_pure]
  exact hK' _ _ hK
/-- An iterator over the map m at block r: which of the entries it has given already. -/
def IterIs (w : World) (r m n : Nat) (seen : Array Nat) : Prop := w.heap[r]? = some (.mapIter (some m) n seen n)
theorem wpList_range_mk (hg : o.guard = none) (t k e : TypeId) (m : Operand) (hop : o.op = .range t m) (ht : P.underlying t = some (.map k e))
    (b : Nat) (hm : a.eval m = .map (some b)) (kvs : List (Int × Value)) (hM : MapIs w b kvs)
    (hK : IterIs (w.alloc (.mapIter (some b) kvs.length #[] kvs.length)) w.heap.size b kvs.length #[] → wpList P ops Q rest (a.put o.dst (.pointer (some ⟨w.heap.size, 0, none⟩))) (w.alloc (.mapIter (some b) kvs.length #[] kvs.length))) : wpList P ops Q (o :: rest) a w := by
  refine wpList_plain hg fun K' hK' => ?_
  have hrun : (Instr.range t (.map (some b))).run P w = .ok (.pointer (some ⟨w.heap.size, 0, none⟩)) (w.alloc (.mapIter (some b) kvs.length #[] kvs.length)) := by
    unfold Instr.range
    simp only [Sem.run_bind, run_underlying ht, Result.andThen_ok, run_getObj_map _ _ _ hM, Sem.run_pure]
    rfl
  unfold Oper.wp
  simp only [execOp, hop, hm, Sem.run_bind, hrun, Result.andThen_ok, Sem.run_pure]
  exact hK' _ _ (hK (heap_alloc_new w _))
theorem run_choose_next (w : World) (n : Nat) (hn : 1 ≤ n) : ∃ c w', c < n ∧ (choose (.mapNext n)).run P w = .ok c w' ∧ w'.heap = w.heap ∧ w'.os = w.os ∧ w'.tape = w.tape ∧ w'.output = w.output := by
  by_cases h : n ≤ 1
  · refine ⟨0, w, by omega, ?_, rfl, rfl, rfl, rfl⟩
    simp [choose, Sem.run, Question.forced, h]
  · refine ⟨_, { w with drawn := w.drawn + 1 }, Nat.mod_lt (w.tape w.drawn (.mapNext n)) (by omega), ?_, rfl, rfl, rfl, rfl⟩
    simp [choose, Sem.run, Question.forced, h, Question.cut]
/-- The iterator's step: nothing is left, or some entry that was not given yet. -/
theorem wpList_next_mk (hg : o.guard = none) (it : Operand) (hop : o.op = .next it false) (r b : Nat) (hit : a.eval it = .pointer (some ⟨r, 0, none⟩)) (kvs : List (Int × Value)) (hM : MapIs w b kvs) (seen : Array Nat) (hI : IterIs w r b kvs.length seen)
    (hDone : ∀ w' : World, (∀ j, j < kvs.length → j ∈ seen) → (∀ i : Nat, w'.heap[i]? = w.heap[i]?) → Below w.heap.size w w' → wpList P ops Q rest (a.put o.dst (.tuple #[.bool false])) w')
    (hMore : ∀ (j : Nat) (hj : j < kvs.length) (w' : World), j ∉ seen → IterIs w' r b kvs.length (seen.push j) → Below r w w' → w'.heap.size = w.heap.size → (∀ i : Nat, i ≠ r → w'.heap[i]? = w.heap[i]?) →
      wpList P ops Q rest (a.put o.dst (.tuple #[.bool true, .int .i64 kvs[j].1, kvs[j].2])) w') : wpList P ops Q (o :: rest) a w := by
  refine wpList_plain hg fun K' hK' => ?_
  have hrb : r ≠ b := by
    intro e
    subst e
    unfold IterIs at hI
    unfold MapIs at hM
    rw [hM] at hI
    cases hI
  have hborn : ∀ x ∈ mkEs kvs 0, x.born < kvs.length := fun x hx => by
    obtain ⟨j, hj, rfl⟩ := mkEs_mem kvs 0 x hx
    simpa using hj
  unfold Oper.wp
  simp only [execOp, hop, hit, Sem.run_bind, Instr.next]
  have hgo : (getObj r).run P w = .ok (.mapIter (some b) kvs.length seen kvs.length) w := by
    unfold IterIs at hI
    simp [getObj, Sem.run, hI]
  simp only [hgo, Result.andThen_ok, Sem.run_bind, run_getObj_map _ _ _ hM]
  have hall : ((mkEs kvs 0).toArray.all (·.born ≥ kvs.length)) = true → (mkEs kvs 0) = [] := by
    intro h
    cases hk : mkEs kvs 0 with
    | nil => rfl
    | cons e r =>
      rw [hk] at h
      have := hborn e (by rw [hk]; simp)
      simp at h
      omega
  have hno : ((!seen.isEmpty && !(mkEs kvs 0).toArray.isEmpty && (mkEs kvs 0).toArray.all (·.born ≥ kvs.length)) = true) = False := by
    simp only [eq_iff_iff, iff_false, Bool.and_eq_true, not_and]
    rintro ⟨_, h2⟩ h3
    rw [hall h3] at h2
    simp at h2
  have hold : ∀ f : MapEntry → Bool, (((mkEs kvs 0).toArray.filter f).filter (·.born < kvs.length)) = (mkEs kvs 0).toArray.filter f := by
    intro f
    rw [Array.filter_eq_self]
    intro x hx
    have := hborn x (by simpa using (Array.mem_filter.1 hx).1)
    simpa using this
  have hnew : ∀ f : MapEntry → Bool, (((mkEs kvs 0).toArray.filter f).filter (·.born ≥ kvs.length)) = #[] := by
    intro f
    rw [Array.filter_eq_empty_iff]
    intro x hx
    have := hborn x (by simpa using (Array.mem_filter.1 hx).1)
    simp
    omega
  simp only [hno, if_false, hold, hnew, Sem.run_bind, Sem.run_pure, Array.append_empty]
  generalize hL : (mkEs kvs 0).toArray.filter (fun e => !seen.contains e.born) = L
  have hLm : ∀ x, x ∈ L ↔ x ∈ mkEs kvs 0 ∧ x.born ∉ seen := by
    intro x
    rw [← hL]
    simp
  by_cases hLe : L = #[]
  · subst hLe
    obtain ⟨c, w', hc, hrun, h1, h2, h3, h4⟩ := run_choose_next (P := P) w 1 (by omega)
    have hc0 : c = 0 := by omega
    subst hc0
    simp only [Array.isEmpty_empty, if_true, List.map_toArray, List.map_nil, Array.append_empty]
    rw [show (#[none] : Array (Option MapEntry)).size = 1 from rfl, hrun]
    simp only [Result.andThen_ok]
    refine hK' _ _ (hDone w' (fun j hj => ?_) (fun i => by rw [h1]) ⟨h2, h3, h4, by rw [h1]; exact Nat.le_refl _, fun k _ => by rw [h1]⟩)
    apply Classical.byContradiction
    intro hns
    have := (hLm ⟨.int .i64 kvs[j].1, kvs[j].2, 0 + j⟩).2 ⟨List.mem_of_getElem? (mkEs_get kvs 0 j hj), by simpa using hns⟩
    simp at this
  · have hpos : 1 ≤ L.size := by
      rcases Nat.eq_zero_or_pos L.size with h | h
      · exact absurd (Array.eq_empty_of_size_eq_zero h) hLe
      · exact h
    have hie : L.isEmpty = false := by simpa using hLe
    obtain ⟨c, w', hc, hrun, h1, h2, h3, h4⟩ := run_choose_next (P := P) w L.size hpos
    simp only [hie, Bool.false_eq_true, if_false, Array.empty_append, Array.size_map]
    rw [hrun]
    simp only [Result.andThen_ok, Array.getElem?_map, Array.getElem?_eq_getElem hc, Option.map_some]
    have hmem := (hLm L[c]).1 (Array.getElem_mem hc)
    obtain ⟨j, hj, hej⟩ := mkEs_mem kvs 0 _ hmem.1
    have hns : j ∉ seen := by have := hmem.2; rw [hej] at this; simpa using this
    have hIw : w'.heap[r]? = some (.mapIter (some b) kvs.length seen kvs.length) := by rw [h1]; exact hI
    have hset : (setObj r (.mapIter (some b) kvs.length (seen.push L[c].born) kvs.length)).run P w' = .ok () { w' with heap := w'.heap.setIfInBounds r (.mapIter (some b) kvs.length (seen.push L[c].born) kvs.length) } := by
      simp [setObj, Sem.run, hIw]
    simp only [Sem.run_bind, hset, Result.andThen_ok, Sem.run_pure]
    have hlt : r < w.heap.size := (Array.getElem?_eq_some_iff.1 hI).1
    refine hK' _ _ ?_
    have := hMore j hj { w' with heap := w'.heap.setIfInBounds r (.mapIter (some b) kvs.length (seen.push L[c].born) kvs.length) } hns ?_ ?_ ?_ ?_
    · rw [hej]
      rw [hej] at this
      exact this
    · unfold IterIs
      rw [Array.getElem?_setIfInBounds, if_pos rfl, if_pos (by rw [h1]; exact hlt), hej]
      simp
    · exact ⟨h2, h3, h4, by simp [h1], fun k hk => by simp [show ¬ r = k from by omega, h1]⟩
    · simp [h1]
    · intro i hi
      simp [show ¬ r = i from fun e => hi e.symm, h1]
theorem wpList_insert_acc (hg : o.guard = none) (t k e : TypeId) (m : Operand) (x : Int) (v : Value) (hop : o.op = .insert t m (.const (.int .i64 x)) (.const v)) (ht : P.underlying t = some (.map k e)) (hk : P.underlying k = some (.int .i64))
    (b : Nat) (hm : a.eval m = .map (some b)) (kvs : List (Int × Value)) (B : Nat) (w0 : World) (hBb : B ≤ b) (hM : MapIs w b kvs ∧ Below B w0 w ∧ w.heap.size = b + 1) (hnew : lookV kvs x = none)
    (hK : ∀ w' : World, (MapIs w' b (kvs ++ [(x, v)]) ∧ Below B w0 w' ∧ w'.heap.size = b + 1) → wpList P ops Q rest (a.put o.dst undef) w') : wpList P ops Q (o :: rest) a w :=
  wpList_insert_mk hg t k e m x v hop ht hk b hm kvs hM.1 hnew fun w' h1 h2 h3 => hK w' ⟨h1, hM.2.1.trans (h2.mono hBb), h3.trans hM.2.2⟩
/-- The entry of the step just made. -/
theorem wpList_entry_mk (hg : o.guard = none) (it : Operand) (hop : o.op = .entry it) (r b : Nat) (hit : a.eval it = .pointer (some ⟨r, 0, none⟩)) (kvs : List (Int × Value)) (hM : MapIs w b kvs) (seen : Array Nat) (j : Nat) (hj : j < kvs.length) (hI : IterIs w r b kvs.length (seen.push j))
    (hK : wpList P ops Q rest (a.put o.dst (.tuple #[.int .i64 kvs[j].1, kvs[j].2])) w) : wpList P ops Q (o :: rest) a w := by
  refine wpList_plain hg fun K' hK' => ?_
  have hgo : (getObj r).run P w = .ok (.mapIter (some b) kvs.length (seen.push j) kvs.length) w := by
    unfold IterIs at hI
    simp [getObj, Sem.run, hI]
  have hfind : (mkEs kvs 0).toArray.find? (fun e => e.born == j) = some ⟨.int .i64 kvs[j].1, kvs[j].2, 0 + j⟩ := by
    have hg := mkEs_get kvs 0 j hj
    rw [List.find?_toArray]
    rw [List.find?_eq_some_iff_getElem]
    refine ⟨by simp, j, by rw [mkEs_length]; exact hj, ?_, ?_⟩
    · have := (List.getElem?_eq_some_iff.1 hg).2
      exact this
    · intro i hi
      have hik : i < kvs.length := by omega
      have := (List.getElem?_eq_some_iff.1 (mkEs_get kvs 0 i hik)).2
      rw [this]
      simp
      omega
  unfold Oper.wp
  simp only [execOp, hop, hit, Sem.run_bind, Instr.entry, hgo, Result.andThen_ok, Array.back?_push, run_getObj_map _ _ _ hM, hfind, Sem.run_pure, bne_self_eq_false, Bool.false_eq_true, if_false]
  exact hK' _ _ hK
end
end Go.Proofs.YtofomblpbmpbaaaDoor

/- A part of the proof. -/
import Derived.Tactics2
import Derived.Maps.RangeWalk
import Derived.Test.YtnpljilhnnkbaaaGreatDoorPbf
import Derived.Test.YtnpljilhnnkbaaaGreatDoorPbe
import Derived.Shelf.SlSortCmp.NoneTotal
import Derived.BigQuiet
set_option linter.all false
section
namespace Go.Proofs.Seat4
open Go.RowKit
def mkEs : List (Value × Value) → Nat → List MapEntry
  | [], _ => []
  | (k, v) :: r, i => ⟨k, v, i⟩ :: mkEs r (i + 1)
theorem mkEs_append (a b : List (Value × Value)) (i : Nat) : mkEs (a ++ b) i = mkEs a i ++ mkEs b (i + a.length) := by
  induction a generalizing i with
  | nil => simp [mkEs]
  | cons x r ih =>
    obtain ⟨k, v⟩ := x
    simp only [List.cons_append, mkEs, ih, List.length_cons]
    rw [show i + 1 + r.length = i + (r.length + 1) from by omega]
theorem mkEs_length (a : List (Value × Value)) (i : Nat) : (mkEs a i).length = a.length := by
  induction a generalizing i with
  | nil => rfl
  | cons x r ih => obtain ⟨k, v⟩ := x; simp [mkEs, ih]
theorem mkEs_mem (a : List (Value × Value)) (i : Nat) : ∀ e ∈ mkEs a i, ∃ j, ∃ h : j < a.length, e = ⟨a[j].1, a[j].2, i + j⟩ := by
  induction a generalizing i with
  | nil => intro e he; cases he
  | cons x r ih =>
    obtain ⟨k, v⟩ := x
    intro e he
    simp only [mkEs, List.mem_cons] at he
    rcases he with rfl | he
    · exact ⟨0, by simp, rfl⟩
    · obtain ⟨j, hj, rfl⟩ := ih (i + 1) e he
      exact ⟨j + 1, by simpa using hj, by simp [show i + 1 + j = i + (j + 1) from by omega]⟩
theorem mkEs_get (a : List (Value × Value)) (i j : Nat) (h : j < a.length) : (mkEs a i)[j]? = some ⟨a[j].1, a[j].2, i + j⟩ := by
  induction a generalizing i j with
  | nil => simp at h
  | cons x r ih =>
    obtain ⟨k, v⟩ := x
    cases j with
    | zero => simp [mkEs]
    | succ j =>
      simp only [mkEs, List.getElem?_cons_succ, List.getElem_cons_succ]
      rw [ih (i + 1) j (by simpa using h), show i + 1 + j = i + (j + 1) from by omega]
def MapIs (w : World) (m : Nat) (kvs : List (Value × Value)) : Prop := w.heap[m]? = some (.map (mkEs kvs 0).toArray kvs.length)
theorem MapIs.lt {w : World} {m : Nat} {kvs : List (Value × Value)} (h : MapIs w m kvs) : m < w.heap.size := (Array.getElem?_eq_some_iff.1 h).1
theorem MapIs.below {w w' : World} {m B : Nat} {kvs : List (Value × Value)} (h : MapIs w m kvs) (hb : Below B w w') (hm : m < B) : MapIs w' m kvs := (hb.block m hm).trans h
section
variable {P : Program}
variable {ops : Array Oper} {rest : List Oper} {o : Oper} {a : Act} {w : World} {Q : Exit → Act → World → Prop}
theorem run_getObj_map (m : Nat) (es : Array MapEntry) (c : Nat) (h : w.heap[m]? = some (.map es c)) : (getObj m).run P w = .ok (.map es c) w := by
  simp [getObj, Sem.run, h]
theorem run_setObj_map (m : Nat) (es : Array MapEntry) (c : Nat) (o' : Obj) (h : w.heap[m]? = some (.map es c)) : (setObj m o').run P w = .ok () { w with heap := w.heap.setIfInBounds m o' } := by
  simp [setObj, Sem.run, h]
theorem below_set (w : World) (m : Nat) (o' : Obj) : Below m w { w with heap := w.heap.setIfInBounds m o' } :=
  ⟨rfl, rfl, rfl, by simp, fun k hk => by simp [show ¬ m = k from by omega]⟩
def IterIs (w : World) (r m n : Nat) (seen : Array Nat) : Prop := w.heap[r]? = some (.mapIter (some m) n seen n)
theorem wpList_range_mk (hg : o.guard = none) (t k e : TypeId) (m : Operand) (hop : o.op = .range t m) (ht : P.underlying t = some (.map k e))
    (b : Nat) (hm : a.eval m = .map (some b)) (kvs : List (Value × Value)) (hM : MapIs w b kvs)
    (hK : IterIs (w.alloc (.mapIter (some b) kvs.length #[] kvs.length)) w.heap.size b kvs.length #[] → wpList P ops Q rest (a.put o.dst (.pointer (some ⟨w.heap.size, 0, none⟩))) (w.alloc (.mapIter (some b) kvs.length #[] kvs.length))) : wpList P ops Q (o :: rest) a w := by
  refine wpList_plain hg fun K' hK' => ?_
  have hrun : (Instr.range t (.map (some b))).run P w = .ok (.pointer (some ⟨w.heap.size, 0, none⟩)) (w.alloc (.mapIter (some b) kvs.length #[] kvs.length)) := by
    unfold Instr.range
    simp only [Sem.run_bind, run_underlying ht, Result.andThen_ok, run_getObj_map _ _ _ hM, Sem.run_pure]
    rfl
  unfold Oper.wp
  simp only [execOp, hop, hm, Sem.run_bind, hrun, Result.andThen_ok, Sem.run_pure]
  exact hK' _ _ (hK (heap_alloc_new w _))
theorem run_choose_next (w : World) (n : Nat) (hn : 1 ≤ n) : ∃ c w', c < n ∧ (choose (.mapNext n)).run P w = .ok c w' ∧ w'.heap = w.heap ∧ w'.os = w.os ∧ w'.tape = w.tape ∧ w'.output = w.output := by
  by_cases h : n ≤ 1
  · refine ⟨0, w, by omega, ?_, rfl, rfl, rfl, rfl⟩
    simp [choose, Sem.run, Question.forced, h]
  · refine ⟨_, { w with drawn := w.drawn + 1 }, Nat.mod_lt (w.tape w.drawn (.mapNext n)) (by omega), ?_, rfl, rfl, rfl, rfl⟩
    simp [choose, Sem.run, Question.forced, h, Question.cut]
theorem wpList_next_mk (hg : o.guard = none) (it : Operand) (hop : o.op = .next it false) (r b : Nat) (hit : a.eval it = .pointer (some ⟨r, 0, none⟩)) (kvs : List (Value × Value)) (hM : MapIs w b kvs) (seen : Array Nat) (hI : IterIs w r b kvs.length seen)
    (hDone : ∀ w' : World, (∀ j, j < kvs.length → j ∈ seen) → (∀ i : Nat, w'.heap[i]? = w.heap[i]?) → Below w.heap.size w w' → wpList P ops Q rest (a.put o.dst (.tuple #[.bool false])) w')
    (hMore : ∀ (j : Nat) (hj : j < kvs.length) (w' : World), j ∉ seen → IterIs w' r b kvs.length (seen.push j) → Below r w w' → w'.heap.size = w.heap.size → (∀ i : Nat, i ≠ r → w'.heap[i]? = w.heap[i]?) →
      wpList P ops Q rest (a.put o.dst (.tuple #[.bool true, kvs[j].1, kvs[j].2])) w') : wpList P ops Q (o :: rest) a w := by
  refine wpList_plain hg fun K' hK' => ?_
  have hrb : r ≠ b := by
    intro e
    subst e
    unfold IterIs at hI
    unfold MapIs at hM
    rw [hM] at hI
    cases hI
  have hborn : ∀ x ∈ mkEs kvs 0, x.born < kvs.length := fun x hx => by
    obtain ⟨j, hj, rfl⟩ := mkEs_mem kvs 0 x hx
    simpa using hj
  unfold Oper.wp
  simp only [execOp, hop, hit, Sem.run_bind, Instr.next]
  have hgo : (getObj r).run P w = .ok (.mapIter (some b) kvs.length seen kvs.length) w := by
    unfold IterIs at hI
    simp [getObj, Sem.run, hI]
  simp only [hgo, Result.andThen_ok, Sem.run_bind, run_getObj_map _ _ _ hM]
  have hall : ((mkEs kvs 0).toArray.all (·.born ≥ kvs.length)) = true → (mkEs kvs 0) = [] := by
    intro h
    cases hk : mkEs kvs 0 with
    | nil => rfl
    | cons e r =>
      rw [hk] at h
      have := hborn e (by rw [hk]; simp)
      simp at h
      omega
  have hno : ((!seen.isEmpty && !(mkEs kvs 0).toArray.isEmpty && (mkEs kvs 0).toArray.all (·.born ≥ kvs.length)) = true) = False := by
    simp only [eq_iff_iff, iff_false, Bool.and_eq_true, not_and]
    rintro ⟨_, h2⟩ h3
    rw [hall h3] at h2
    simp at h2
  have hold : ∀ f : MapEntry → Bool, (((mkEs kvs 0).toArray.filter f).filter (·.born < kvs.length)) = (mkEs kvs 0).toArray.filter f := by
    intro f
    rw [Array.filter_eq_self]
    intro x hx
    have := hborn x (by simpa using (Array.mem_filter.1 hx).1)
    simpa using this
  have hnew : ∀ f : MapEntry → Bool, (((mkEs kvs 0).toArray.filter f).filter (·.born ≥ kvs.length)) = #[] := by
    intro f
    rw [Array.filter_eq_empty_iff]
    intro x hx
    have := hborn x (by simpa using (Array.mem_filter.1 hx).1)
    simp
    omega
  simp only [hno, if_false, hold, hnew, Sem.run_bind, Sem.run_pure, Array.append_empty]
  generalize hL : (mkEs kvs 0).toArray.filter (fun e => !seen.contains e.born) = L
  have hLm : ∀ x, x ∈ L ↔ x ∈ mkEs kvs 0 ∧ x.born ∉ seen := by
    intro x
    rw [← hL]
    simp
  by_cases hLe : L = #[]
  · subst hLe
    obtain ⟨c, w', hc, hrun, h1, h2, h3, h4⟩ := run_choose_next (P := P) w 1 (by omega)
    have hc0 : c = 0 := by omega
    subst hc0
    simp only [Array.isEmpty_empty, if_true, List.map_toArray, List.map_nil, Array.append_empty]
    rw [show (#[none] : Array (Option MapEntry)).size = 1 from rfl, hrun]
    simp only [Result.andThen_ok]
    refine hK' _ _ (hDone w' (fun j hj => ?_) (fun i => by rw [h1]) ⟨h2, h3, h4, by rw [h1]; exact Nat.le_refl _, fun k _ => by rw [h1]⟩)
    apply Classical.byContradiction
    intro hns
    have := (hLm ⟨kvs[j].1, kvs[j].2, 0 + j⟩).2 ⟨List.mem_of_getElem? (mkEs_get kvs 0 j hj), by simpa using hns⟩
    simp at this
  · have hpos : 1 ≤ L.size := by
      rcases Nat.eq_zero_or_pos L.size with h | h
      · exact absurd (Array.eq_empty_of_size_eq_zero h) hLe
      · exact h
    have hie : L.isEmpty = false := by simpa using hLe
    obtain ⟨c, w', hc, hrun, h1, h2, h3, h4⟩ := run_choose_next (P := P) w L.size hpos
    simp only [hie, Bool.false_eq_true, if_false, Array.empty_append, Array.size_map]
    rw [hrun]
    simp only [Result.andThen_ok, Array.getElem?_map, Array.getElem?_eq_getElem hc, Option.map_some]
    have hmem := (hLm L[c]).1 (Array.getElem_mem hc)
    obtain ⟨j, hj, hej⟩ := mkEs_mem kvs 0 _ hmem.1
    have hns : j ∉ seen := by have := hmem.2; rw [hej] at this; simpa using this
    have hIw : w'.heap[r]? = some (.mapIter (some b) kvs.length seen kvs.length) := by rw [h1]; exact hI
    have hset : (setObj r (.mapIter (some b) kvs.length (seen.push L[c].born) kvs.length)).run P w' = .ok () { w' with heap := w'.heap.setIfInBounds r (.mapIter (some b) kvs.length (seen.push L[c].born) kvs.length) } := by
      simp [setObj, Sem.run, hIw]
    simp only [Sem.run_bind, hset, Result.andThen_ok, Sem.run_pure]
    have hlt : r < w.heap.size := (Array.getElem?_eq_some_iff.1 hI).1
    refine hK' _ _ ?_
    have := hMore j hj { w' with heap := w'.heap.setIfInBounds r (.mapIter (some b) kvs.length (seen.push L[c].born) kvs.length) } hns ?_ ?_ ?_ ?_
    · rw [hej]
      rw [hej] at this
      exact this
    · unfold IterIs
      rw [Array.getElem?_setIfInBounds, if_pos rfl, if_pos (by rw [h1]; exact hlt), hej]
      simp
    · exact ⟨h2, h3, h4, by simp [h1], fun k hk => by simp [show ¬ r = k from by omega, h1]⟩
    · simp [h1]
    · intro i hi
      simp [show ¬ r = i from fun e => hi e.symm, h1]
theorem wpList_entry_mk (hg : o.guard = none) (it : Operand) (hop : o.op = .entry it) (r b : Nat) (hit : a.eval it = .pointer (some ⟨r, 0, none⟩)) (kvs : List (Value × Value)) (hM : MapIs w b kvs) (seen : Array Nat) (j : Nat) (hj : j < kvs.length) (hI : IterIs w r b kvs.length (seen.push j))
    (hK : wpList P ops Q rest (a.put o.dst (.tuple #[kvs[j].1, kvs[j].2])) w) : wpList P ops Q (o :: rest) a w := by
  refine wpList_plain hg fun K' hK' => ?_
  have hgo : (getObj r).run P w = .ok (.mapIter (some b) kvs.length (seen.push j) kvs.length) w := by
    unfold IterIs at hI
    simp [getObj, Sem.run, hI]
  have hfind : (mkEs kvs 0).toArray.find? (fun e => e.born == j) = some ⟨kvs[j].1, kvs[j].2, 0 + j⟩ := by
    have hg := mkEs_get kvs 0 j hj
    rw [List.find?_toArray]
    rw [List.find?_eq_some_iff_getElem]
    refine ⟨by simp, j, by rw [mkEs_length]; exact hj, ?_, ?_⟩
    · have := (List.getElem?_eq_some_iff.1 hg).2
      exact this
    · intro i hi
      have hik : i < kvs.length := by omega
      have := (List.getElem?_eq_some_iff.1 (mkEs_get kvs 0 i hik)).2
      rw [this]
      simp
      omega
  unfold Oper.wp
  simp only [execOp, hop, hit, Sem.run_bind, Instr.entry, hgo, Result.andThen_ok, Array.back?_push, run_getObj_map _ _ _ hM, hfind, Sem.run_pure, bne_self_eq_false, Bool.false_eq_true, if_false]
  exact hK' _ _ hK
end
theorem filter_lt {p q : Nat → Bool} (h : ∀ x, q x = true → p x = true) (j : Nat) (hp : p j = true) (hq : q j = false) : ∀ l : List Nat, j ∈ l → (l.filter q).length < (l.filter p).length := by
  have hle : ∀ l : List Nat, (l.filter q).length ≤ (l.filter p).length := by
    intro l
    induction l with
    | nil => simp
    | cons x l ih =>
      rw [List.filter_cons, List.filter_cons]
      by_cases hx : q x = true
      · rw [if_pos hx, if_pos (h x hx)]
        simpa using ih
      · rw [if_neg hx]
        split
        · simp; omega
        · exact ih
  intro l
  induction l with
  | nil => intro hj; cases hj
  | cons x l ih =>
    intro hj
    rw [List.filter_cons, List.filter_cons]
    rcases List.mem_cons.1 hj with rfl | hj
    · rw [if_pos hp, if_neg (by simp [hq])]
      have := hle l
      simp
      omega
    · have := ih hj
      by_cases hx : q x = true
      · rw [if_pos hx, if_pos (h x hx)]
        simpa using this
      · rw [if_neg hx]
        split
        · simp; omega
        · exact this
def leftOf (w : World) (r n : Nat) : Nat :=
  match w.heap[r]? with
  | some (.mapIter _ _ seen _) => ((List.range n).filter (fun j => !seen.contains j)).length
  | _ => 0
theorem leftOf_push {w w' : World} {r m n j : Nat} {seen : Array Nat} (h : IterIs w r m n seen) (h' : IterIs w' r m n (seen.push j)) (hj : j < n) (hn : j ∉ seen) : leftOf w' r n < leftOf w r n := by
  unfold IterIs at h h'
  unfold leftOf
  rw [h, h']
  refine filter_lt (fun x hx => ?_) j (by simpa using hn) (by simp) _ (by simpa using hj)
  simp at hx ⊢
  exact hx.1
end Go.Proofs.Seat4
end
section
namespace Go.Proofs.Seat8
open Go.RowKit Go.Proofs.Seat4 Go.Sort
theorem cmpL (blk off size : Nat) (w : World) : CmpLays Tryz.prog 31 #[] mtCells 5 cfM blk off size w :=
  fun _ _ _ _ x y => cmp24 x y _
theorem sort35 (blk cap : Nat) (d : Array Mt) (w : World) (hH : HoldsK mtCells 5 w blk 0 d) (hblk : blk < w.heap.size) (hn : d.size < 4611686018427387904) :
    Calls Tryz.prog 70 #[.slice (some ⟨blk, 0, none⟩) d.size cap, .func (.func 31) #[] #[]] w fun e w' => e = .returned (.tuple #[]) ∧ ∃ d' n os, PermIn 0 d.size d d' ∧ SortedIn (ltOf cfM) 0 d.size d' ∧ w' = sortWorldK mtCells 5 w blk 0 n d' os := by
  have eg : ∀ args w, (callFunc 31 args).run Tryz.prog w = .ok (.enter 31 args) w := enters_of Tryz.func31 (by kernel_rfl) rfl
  exact AnyQ.slices_SortFunc Tryz.sortMt 5 Tryz.isAgg34 Tryz.sizeOf34 mtCells (fun _ => rfl) mtCells_one cfM swoM 31 #[] blk 0 cap d w eg (cmpL _ _ _ _) hH hblk hn
theorem TM : ElemT Tryz.prog 22 34 5 48 := ElemT.mk' Tryz.underlying22 (z := .agg #[.string ⟨#[]⟩, .int .i64 0, .int .i64 0, .int .i64 0, .int .i64 0]) (by kernel_rfl) rfl (by omega)
abbrev KM := Value × Mt
def kmKV (a : KM) : Value × Value := (a.1, .agg (mtCells a.2).toArray)
noncomputable def seenMt (d : List KM) (seen : Array Nat) : List Mt := seen.toList.map fun j => (d.getD j default).2
noncomputable def seenCells (d : List KM) (seen : Array Nat) : List Value := (seenMt d seen).flatMap mtCells
structure KL (w0 w : World) (m r : Nat) (d : List KM) (seen : Array Nat) (v : Value) : Prop where
  map : MapIs w m (d.map kmKV)
  iter : IterIs w r m d.length seen
  own : w.ownsRow (r + 1) 34 5 v seen.size (seenCells d seen)
  nd : seen.toList.Nodup
  lt : ∀ j ∈ seen, j < d.length
  below : RowKit.Below w0.heap.size w0 w
  m0 : m < w0.heap.size
  mr : w0.heap.size ≤ r
theorem own_same {w w' : World} {r e size n : Nat} {v : Value} {xs : List Value} (hs : ∀ i : Nat, i ≠ r → w'.heap[i]? = w.heap[i]?) (h : w.ownsRow (r + 1) e size v n xs) : w'.ownsRow (r + 1) e size v n xs :=
  ⟨h.1, h.2.imp id fun ⟨g, cap, cur, e1, e2, e3, rest⟩ => ⟨g, cap, cur, e1, e2, by rw [hs g (by omega)]; exact e3, rest⟩⟩
theorem nodup_le : ∀ (n : Nat) (l : List Nat), l.Nodup → (∀ j ∈ l, j < n) → l.length ≤ n
  | 0, l, _, h => by
    cases l with
    | nil => simp
    | cons x r => exact absurd (h x (by simp)) (by omega)
  | n + 1, l, hd, h => by
    by_cases hm : n ∈ l
    · have h1 := nodup_le n (l.erase n) (hd.erase n) (fun j hj => by
        have h2 := (hd.mem_erase_iff).1 hj
        have := h j h2.2
        omega)
      rw [List.length_erase_of_mem hm] at h1
      omega
    · have := nodup_le n l hd (fun j hj => by
        have h2 := h j hj
        have h3 : j ≠ n := fun e => hm (e ▸ hj)
        omega)
      omega
theorem seen_le {n : Nat} {seen : Array Nat} (h1 : seen.toList.Nodup) (h2 : ∀ j ∈ seen, j < n) : seen.size ≤ n := by
  simpa using nodup_le n seen.toList h1 (fun j hj => h2 j (by simpa using hj))
theorem seen_perm {d : List KM} {seen : Array Nat} (h1 : seen.toList.Nodup) (h2 : ∀ j ∈ seen, j < d.length) (h3 : ∀ j, j < d.length → j ∈ seen) : seen.size = d.length ∧ (seenMt d seen).Perm (d.map (·.2)) := by
  have hp : seen.toList.Perm (List.range d.length) := (List.perm_ext_iff_of_nodup h1 List.nodup_range).2 fun a => by
    rw [List.mem_range]
    exact ⟨fun h => h2 a (by simpa using h), fun h => by simpa using h3 a h⟩
  refine ⟨by simpa using hp.length_eq, ?_⟩
  have h4 : (List.range d.length).map (fun j => (d.getD j default).2) = d.map (·.2) := by
    refine List.ext_getElem (by simp) fun i g1 g2 => ?_
    have g3 : i < d.length := by simpa using g2
    simp [List.getD_eq_getElem?_getD, g3]
  have := hp.map (fun j => (d.getD j default).2)
  rwa [h4] at this
theorem seenCells_push (d : List KM) (seen : Array Nat) (j : Nat) (A : KM) (h : d.getD j default = A) : seenCells d (seen.push j) = seenCells d seen ++ mtCells A.2 := by
  subst h
  simp [seenCells, seenMt]
theorem flatN {α β : Type} (k : Nat) (hk : 0 < k) (f : α → List β) (hf : ∀ a, (f a).length = k) : ∀ (l : List α) (t : Nat), (l.flatMap f)[t]? = (l[t / k]?).bind fun a => (f a)[t % k]?
  | [], t => by simp
  | a :: r, t => by
    rw [List.flatMap_cons]
    by_cases h : t < k
    · rw [List.getElem?_append_left (by rw [hf]; exact h), Nat.div_eq_of_lt h, Nat.mod_eq_of_lt h]; rfl
    · have e1 : t / k = (t - k) / k + 1 := by
        have : t = (t - k) + k := by omega
        rw [this, Nat.add_div_right _ hk, Nat.add_sub_cancel]
      have e2 : t % k = (t - k) % k := by
        have : t = (t - k) + k := by omega
        rw [this, Nat.add_mod_right, Nat.add_sub_cancel]
      rw [List.getElem?_append_right (by rw [hf]; omega), hf, flatN k hk f hf r (t - k), e1, e2]; rfl
theorem flatN_len {α β : Type} (k : Nat) (f : α → List β) (hf : ∀ a, (f a).length = k) : ∀ (l : List α), (l.flatMap f).length = l.length * k
  | [] => by simp
  | a :: r => by rw [List.flatMap_cons, List.length_append, hf, flatN_len k f hf r, List.length_cons, Nat.succ_mul]; omega
theorem flatK_list (D : Array Mt) (t : Nat) (ht : t < D.size * 5) : (D.toList.flatMap mtCells)[t]? = some ((flatK mtCells 5 D)[t]!) := by
  rw [flatN 5 (by omega) mtCells (fun _ => rfl), get_flatK _ _ _ _ ht]
  have h1 : t / 5 < D.size := by omega
  rw [show D.toList[t / 5]? = some D[t / 5]! from by rw [getElem!_pos D (t / 5) h1]; simp [h1]]
  have h2 : t % 5 < (mtCells D[t / 5]!).length := Nat.mod_lt _ (by omega)
  simp only [Option.bind_some]
  rw [List.getElem?_eq_getElem h2, getElem!_pos (mtCells D[t / 5]!) (t % 5) h2]
theorem sorted_block (w : World) (blk n : Nat) (D' : Array Mt) (os : Array Obj) (cur : Array Value) (e : TypeId) (h : w.heap[blk]? = some (.cells cur e (0, 0))) (hc : D'.size * 5 ≤ cur.size) :
    ∃ cur', (sortWorldK mtCells 5 w blk 0 n D' os).heap[blk]? = some (.cells cur' e (0, 0)) ∧ cur'.size = cur.size ∧ (∀ t, t < D'.size * 5 → cur'[t]? = (D'.toList.flatMap mtCells)[t]?) ∧
      (∀ k, k < w.heap.size → k ≠ blk → (sortWorldK mtCells 5 w blk 0 n D' os).heap[k]? = w.heap[k]?) ∧ w.heap.size ≤ (sortWorldK mtCells 5 w blk 0 n D' os).heap.size := by
  have hlt : blk < w.heap.size := (Array.getElem?_eq_some_iff.1 h).1
  have hm : ∀ k, (sortWorldK mtCells 5 w blk 0 n D' os).heap[k]? = if k < w.heap.size then (if blk = k then (w.heap[k]?).map (onCells (putCells id 0 (flatK mtCells 5 D'))) else w.heap[k]?) else os[k - w.heap.size]? := by
    intro k
    show ((w.heap.modify blk _) ++ os)[k]? = _
    rw [Array.getElem?_append]
    simp only [Array.size_modify, Array.getElem?_modify]
  refine ⟨putCells id 0 (flatK mtCells 5 D') cur, ?_, by simp [putCells], fun t ht => ?_, fun k hk hne => ?_, ?_⟩
  · rw [hm, if_pos hlt, if_pos rfl, h]; rfl
  · rw [flatK_list D' t ht]
    have h1 : t < cur.size := by omega
    simp [putCells, h1]
    intro h2
    omega
  · rw [hm, if_pos hk, if_neg (fun e => hne e.symm)]
  · show w.heap.size ≤ ((w.heap.modify blk _) ++ os).size
    simp
theorem holds_own {w : World} {g : Nat} {cur : Array Value} {e : TypeId} {D : Array Mt} (hg : w.heap[g]? = some (.cells cur e (0, 0))) (ht : cur.toList.take (D.size * 5) = D.toList.flatMap mtCells) : HoldsK mtCells 5 w g 0 D := by
  intro j hj
  rw [size_flatK] at hj
  have h1 : cur[j]? = some ((flatK mtCells 5 D)[j]!) := by
    rw [← flatK_list D j hj, ← ht, List.getElem?_take, if_pos hj]
    simp
  constructor
  · simp [World.cell?, hg, h1]
  · simp [World.frozen?, hg]
theorem below_mono {B B' : Nat} {w w' : World} (h : RowKit.Below B' w w') (hB : B ≤ B') : RowKit.Below B w w' := ⟨h.os, h.tape, h.output, h.size, fun k hk => h.block k (by omega)⟩
theorem below_same {B B' : Nat} {w0 w w' : World} (h : RowKit.Below B w0 w) (hb : RowKit.Below B' w w') (hs : ∀ i : Nat, w'.heap[i]? = w.heap[i]?) : RowKit.Below B w0 w' :=
  ⟨hb.os.trans h.os, hb.tape.trans h.tape, hb.output.trans h.output, Nat.le_trans h.size hb.size, fun k hk => (hs k).trans (h.block k hk)⟩
def InOrd (l : List Mt) : Prop := l.Pairwise (fun x y => ¬ Kl y x)
def SortPost (l : List Mt) (w : World) (e : Ending) (w' : World) : Prop :=
  ∃ v D, e = .returned v ∧ D.Perm l ∧ InOrd D ∧ w'.ownsRow w.heap.size 34 5 v l.length (D.flatMap mtCells) ∧ RowKit.Below w.heap.size w w'
theorem inOrd_of {D D' : Array Mt} (hp : PermIn 0 D.size D D') (ho : SortedIn (ltOf cfM) 0 D.size D') : InOrd D'.toList := by
  refine List.pairwise_iff_getElem.2 fun i j hi hj hij => ?_
  have hsz := hp.1
  have := ho i j (Nat.zero_le _) hij (by rw [← hsz]; simpa using hj)
  rw [getElem!_pos D' j (by simpa using hj), getElem!_pos D' i (by simpa using hi), ltM_not] at this
  exact this
theorem sort_end {l : List Mt} {w w1 : World} {g cap n : Nat} {cur : Array Value} {D D' : Array Mt} {os : Array Obj} (hb : RowKit.Below w.heap.size w w1) (hg : w1.heap[g]? = some (.cells cur 34 (0, 0))) (hgw : w.heap.size ≤ g) (hcap : l.length ≤ cap) (hmax : cap ≤ maxLen) (hcur : cur.size = cap * 5)
    (hD : D.toList.Perm l) (hs : D.size = l.length) (hp : PermIn 0 D.size D D') (ho : SortedIn (ltOf cfM) 0 D.size D') :
    SortPost l w (.returned (.slice (some ⟨g, 0, none⟩) l.length cap)) (sortWorldK mtCells 5 w1 g 0 n D' os) := by
  have h2 : D'.size = l.length := hp.1.trans hs
  obtain ⟨cur', c1, c2, c3, c4, c5⟩ := sorted_block w1 g n D' os cur 34 hg (by rw [h2, hcur]; omega)
  have hperm : D'.toList.Perm l := by
    have h1 := hp.2.2
    rw [show D'.extract 0 D.size = D' from by rw [← hp.1]; simp, show D.extract 0 D.size = D from by simp] at h1
    exact h1.trans hD
  refine ⟨_, D'.toList, rfl, hperm, inOrd_of hp ho, ⟨?_, .inr ⟨g, cap, cur', rfl, hgw, c1, hcap, hmax, c2.trans hcur, ?_⟩⟩, ⟨hb.os, hb.tape, hb.output, Nat.le_trans hb.size c5, fun k hk => ?_⟩⟩
  · rw [flatN_len 5 mtCells (fun _ => rfl), Array.length_toList, h2]
  · refine List.ext_getElem? fun t => ?_
    by_cases ht : t < l.length * 5
    · rw [List.getElem?_take, if_pos ht, Array.getElem?_toList]
      exact c3 t (by omega)
    · rw [List.getElem?_eq_none (by rw [List.length_take]; omega), List.getElem?_eq_none]
      rw [flatN_len 5 mtCells (fun _ => rfl), Array.length_toList, h2]
      omega
  · rw [c4 k (Nat.lt_of_lt_of_le hk hb.size) (by omega)]
    exact hb.block k hk
theorem none35 (w : World) : Calls Tryz.prog 70 #[.slice none 0 0, .func (.func 31) #[] #[]] w fun e w' => e = .returned (.tuple #[]) ∧ w' = w := by
  have h := AnyF.slices_SortFunc_none Tryz.sortMt none 0 (.func (.func 31) #[] #[]) w
  exact h
theorem done35 {d : List KM} {w wr w' : World} {m r : Nat} {seen : Array Nat} {v : Value} (ks : KL w wr m r d seen v) (hd : d.length ≤ 100000)
    (hall : ∀ j, j < d.length → j ∈ seen) (hsame : ∀ i : Nat, w'.heap[i]? = wr.heap[i]?) (hb : RowKit.Below wr.heap.size wr w') :
    ∃ P cap, v = .slice P seen.size cap ∧ Calls Tryz.prog 70 #[.slice P seen.size cap, .func (.func 31) #[] #[]] w' fun e w2 => e = .returned (.tuple #[]) ∧ SortPost (d.map (·.2)) w (.returned (.slice P seen.size cap)) w2 := by
  obtain ⟨hsz, hperm⟩ := seen_perm ks.nd ks.lt hall
  have hbw := below_same ks.below hb hsame
  rcases ks.own.2 with ⟨rfl, h9⟩ | ⟨g, cap, cur, rfl, g1, g2, g3, g4, g5, g6⟩
  · refine ⟨none, 0, by rw [h9], ?_⟩
    rw [h9]
    have h0 : d = [] := List.eq_nil_of_length_eq_zero (by omega)
    subst h0
    refine (none35 w').mono fun e w2 ⟨h1, h2⟩ => ⟨h1, ?_⟩
    rw [h2]
    exact ⟨_, [], rfl, List.Perm.refl _, List.Pairwise.nil, World.ownsRow_nil _ _ _ _, hbw⟩
  · have hg' := (hsame g).trans g2
    have hDs : (seenMt d seen).toArray.size = seen.size := by simp [seenMt]
    have h6 : cur.toList.take ((seenMt d seen).toArray.size * 5) = (seenMt d seen).toArray.toList.flatMap mtCells := by rw [hDs]; exact g6
    have hcon := sort35 g cap (seenMt d seen).toArray w' (holds_own hg' h6) (Array.getElem?_eq_some_iff.1 hg').1 (by rw [hDs, hsz]; omega)
    refine ⟨_, cap, rfl, ?_⟩
    have hl : (d.map (·.2)).length = d.length := by simp
    have hend : ∀ (D' : Array Mt) (n : Nat) (os : Array Obj), PermIn 0 (seenMt d seen).toArray.size (seenMt d seen).toArray D' → SortedIn (ltOf cfM) 0 (seenMt d seen).toArray.size D' → SortPost (d.map (·.2)) w (.returned (.slice (some ⟨g, 0, none⟩) seen.size cap)) (sortWorldK mtCells 5 w' g 0 n D' os) := fun D' n os p1 p2 => by
      rw [hsz, ← hl]
      exact sort_end hbw hg' (by have := ks.mr; omega) (by omega) g4 g5 (by simpa using hperm) (by rw [hDs, hsz, hl]) p1 p2
    rw [← hDs]
    rw [← hDs] at hend
    exact hcon.mono fun e w2 ⟨h1, D', n, os, p1, p2, h2⟩ => ⟨h1, by rw [h2]; exact hend D' n os p1 p2⟩
set_option maxRecDepth 100000 in
set_option maxHeartbeats 1000000 in
theorem sorted18 (d : List KM) (m : Nat) (w : World) (hm : MapIs w m (d.map kmKV)) (hd : d.length ≤ 100000) :
    Calls Tryz.prog 42 #[.map (some m)] w (SortPost (d.map (·.2)) w) := by
  go_enter Tryz.func42, Tryz.ntmps42
  have hlt := hm.lt
  go_wp2_with ((with_reducible refine wpList_range_mk (o := ⟨some 7, .range 92 (.tmp 6), _, _, _, none⟩) rfl 92 118 34 (.tmp 6) rfl Tryz.underlying92 m ?_ (d.map kmKV) hm ?_); (focus rfl); intro hI)
  have ks : KL w (w.alloc (.mapIter (some m) (d.map kmKV).length #[] (d.map kmKV).length)) m w.heap.size d #[] (.slice none 0 0) :=
    ⟨hm.below ((RowKit.Below.refl _ _).alloc (Nat.le_refl _) _) hlt, by simpa using hI, World.ownsRow_nil _ _ _ _, by simp, by simp, (RowKit.Below.refl _ _).alloc (Nat.le_refl _) _, hlt, Nat.le_refl _⟩
  have Ks := Lib.hid ks
  have Hm := Lib.hid hm
  clear ks hI hm
  generalize hr : w.heap.size = r at *
  have hr' : w.heap.size ≤ r := by omega
  have Hr := Lib.hid hr
  clear hr
  go_frame
  go_loopw [3] (fun v wr => ∃ seen, KL w wr m r d seen v) (fun _ w => Go.Proofs.Seat4.leftOf w r d.length)
  case atStart => exact ⟨_, Ks.out⟩
  case round =>
    obtain ⟨seen, ks⟩ := hrel
    clear Ks Hm
    have hM := ks.map
    have hI := ks.iter
    have hlen : (d.map kmKV).length = d.length := by simp
    rw [← hlen] at hI
    have Ks := Lib.hid ks
    have HI := Lib.hid hI
    have Hlen := Lib.hid hlen
    clear ks hlen
    go_wp2_with (first | ((with_reducible refine wpList_next_mk (o := ⟨some 8, .next (.tmp 7) false, _, _, _, none⟩) rfl (.tmp 7) rfl r m ?_ (d.map kmKV) hM seen hI ?_ ?_); (focus rfl); (focus (intro w' hall hsame hb'; clear hM hI; obtain ⟨P, cap, rfl, hcon⟩ := done35 Ks.out hd (fun j hj => hall j (by simpa using hj)) hsame hb'; have Hcon := Lib.hid hcon; clear hall hsame hb' hcon; go_wp2_with (go_at_call 70; refine Hcon.out.mono ?_; rintro e w2 ⟨rfl, hpost⟩); go_ret; exact hpost)); intro j hj w' hnew hI' hb' hs' hsame; have hM' := hM.below hb' (Nat.lt_of_lt_of_le Ks.out.m0 Ks.out.mr); clear hM hI; have Hs := Lib.hid hsame; have Hsz := Lib.hid hs'; have Hn := Lib.hid hnew; have Hb := Lib.hid hb'; clear hsame hs' hnew hb'; rw [show (d.map kmKV)[j] = kmKV (d[j]'(by simpa using hj)) from by simp]; generalize hA : (d[j]'(by simpa using hj)) = A; have HA := Lib.hid hA; clear hA) | ((with_reducible refine wpList_entry_mk (o := ⟨some 10, .entry (.tmp 7), _, _, _, none⟩) rfl (.tmp 7) rfl r m ?_ (d.map kmKV) hM' seen j hj hI' ?_); (focus rfl); rw [show (d.map kmKV)[j] = kmKV (d[j]'(by simpa using hj)) from by simp, HA.out]; have HM' := Lib.hid hM'; clear hM'; have HI' := Lib.hid hI'; clear hI'; simp only [kmKV, mtCells]) | (at_builtin; have hown := own_same Hs.out Ks.out.own; ((have hsz1 : r < w'.heap.size := by (have := Ks.out.iter; have h9 := (Array.getElem?_eq_some_iff.1 this).1; have := Hsz.out; omega))); ((have hle9 := seen_le Ks.out.nd Ks.out.lt)); (refine wpList_app rfl _ _ 22 rfl (r + 1) 34 5 48 TM _ _ _ rfl ((hown.alloc _).alloc _) (w'.heap.size + 1) (mtCells A.2) rfl rfl (Row.new _ _ _ _ ?_) (mtCells_one _) ?_ ?_ ?_ ?_); ((focus simp)); ((focus omega)); ((focus omega)); ((focus (simp; omega))); intro v' w1 hown1 hgr1))
    have hb1 : RowKit.Below (r + 1) w' w1 := (((RowKit.Below.refl (r + 1) w').alloc (by omega) _).alloc (by simp; omega) _).grown hgr1 (by simp; omega) (fun j hj => (hown.lt j hj).1)
    have hI1 : IterIs w1 r m d.length (seen.push j) := by
      have h1 := HI'.out
      rw [Hlen.out] at h1
      exact (hb1.block r (by omega)).trans h1
    have hjd : j < d.length := by have h1 := hj; rwa [Hlen.out] at h1
    go_roundw
    case rel =>
      refine ⟨seen.push j, HM'.out.below hb1 (by omega), hI1, ?_, ?_, ?_, ?_, Ks.out.m0, Ks.out.mr⟩
      · rw [Array.size_push, seenCells_push d seen j A (by rw [← HA.out]; simp [List.getD_eq_getElem?_getD, hjd])]
        exact hown1
      · rw [Array.toList_push, List.nodup_append]
        refine ⟨Ks.out.nd, by simp, fun x hx y hy e => ?_⟩
        subst e
        rw [List.mem_singleton] at hy
        subst hy
        exact Hn.out (by simpa using hx)
      · intro x hx
        rcases Array.mem_push.1 hx with hx | rfl
        · exact Ks.out.lt x hx
        · exact hjd
      · exact (Ks.out.below.trans (below_mono Hb.out Ks.out.mr)).trans (below_mono hb1 (by have := Ks.out.mr; omega))
    case measure => exact Go.Proofs.Seat4.leftOf_push (by have h1 := HI.out; rwa [Hlen.out] at h1) hI1 hjd Hn.out
end Go.Proofs.Seat8
end
section
namespace Go.Proofs.Seat8
open Go.RowKit Go.Proofs.Seat4
def strV (l : List UInt8) : Value := .string ⟨l.toArray⟩
def nmL : List (List UInt8) := [[115, 116, 101, 112, 115], [111, 112, 101, 114, 97, 116, 105, 111, 110, 115], [112, 97, 114, 107, 101, 100], [119, 97, 105, 116, 115], [119, 97, 105, 116, 116, 105, 109, 101], [108, 105, 118, 101, 115], [102, 97, 105, 108, 117, 114, 101, 115],
  [99, 97, 110, 99, 101, 108, 108, 97, 116, 105, 111, 110, 115], [99, 108, 101, 97, 110, 117, 112, 115], [101, 109, 105, 116, 116, 101, 100]]
set_option maxRecDepth 100000 in
set_option maxHeartbeats 1000000 in
theorem names23 (w : World) : Calls Tryz.prog 29 #[] w fun e w' => e = .returned (.slice (some ⟨w.heap.size, 0, none⟩) 10 10) ∧ w' = w.alloc (.cells (nmL.map strV).toArray 9) := by
  go_enter Tryz.func29, Tryz.ntmps29
  go_wp2
  go_ret
  exact ⟨rfl, rfl⟩
def wi (n a b : Int) : Bool := decide (a ≤ n ∧ n ≤ b)
set_option maxHeartbeats 1000000 in
theorem within19 (n a b : Int) (w : World) : Calls Tryz.prog 30 #[.int .i64 n, .int .i64 a, .int .i64 b] w fun e w' => e = .returned (.bool (wi n a b)) ∧ w = w' := by
  by_cases h1 : a ≤ n
  · by_cases h2 : n ≤ b
    · have hc : wi n a b = true := by simp [wi, h1, h2]
      rw [hc]
      clear hc
      go_enter Tryz.func30, Tryz.ntmps30
      go_wp2
      go_ret
      exact ⟨rfl, rfl⟩
    · have hc : wi n a b = false := by simp [wi, h2]
      rw [hc]
      clear hc
      go_enter Tryz.func30, Tryz.ntmps30
      go_wp2
      go_ret
      exact ⟨rfl, rfl⟩
  · have hc : wi n a b = false := by simp [wi, h1]
    rw [hc]
    clear hc
    go_enter Tryz.func30, Tryz.ntmps30
    go_wp2
    go_ret
    exact ⟨rfl, rfl⟩
theorem contains22 (s : List UInt8) (b : Nat) (w : World) (h : Row w b 0 (nmL.map strV)) : Calls Tryz.prog 28 #[.slice (some ⟨b, 0, none⟩) 10 10, .string ⟨s.toArray⟩] w fun e w' => e = .returned (.bool (nmL.contains s)) ∧ w' = w := by
  have hz : (nmL.map fun l => (⟨l.toArray⟩ : ByteArray)).length = 10 := rfl
  have h2 := Tryz.slices_Contains_string b 0 10 10 (nmL.map fun l => ⟨l.toArray⟩) ⟨s.toArray⟩ w (by rw [hz]; exact Nat.le_refl _) (by decide) (fun j hj => by
    have hj' : j < nmL.length := by simpa using hj
    have := h j (strV nmL[j]) (by simp [hj'])
    rw [this]
    simp [List.getD_eq_getElem?_getD, hj', strV])
  refine h2.mono fun e w' ⟨h3, h4⟩ => ⟨?_, h4⟩
  rw [h3]
  congr 2
  rw [Bool.eq_iff_iff, Lib.containsS_iff, List.contains_iff_mem]
  rw [show (nmL.map fun l => (⟨l.toArray⟩ : ByteArray)).take 10 = nmL.map fun l => (⟨l.toArray⟩ : ByteArray) from rfl]
  rw [List.mem_map]
  constructor
  · rintro ⟨a, ha, e⟩
    have : a = s := by
      have := congrArg (fun x : ByteArray => x.data.toList) e
      simpa using this
    rwa [← this]
  · intro hs
    exact ⟨s, hs, rfl⟩
def rngB (m : Mt) : Bool := wi m.index (-1) 1099511627776 && wi m.count 1 1099511627776 && wi m.sum (-1152921504606846976) 1152921504606846976 && wi m.mx (-1099511627776) 1099511627776
noncomputable def chk1 (l : List Mt) (i : Nat) (m : Mt) : Int :=
  if nmL.contains m.name = false then 5 else if rngB m = false then 2 else if 0 < i ∧ 0 ≤ cfM (l.getD (i - 1) default) m then 9 else 0
end Go.Proofs.Seat8
end
section
namespace Go.Proofs.Seat4
open Go.RowKit
def DetOpD (P : Program) (ops : Array Oper) (S : Bool → World → Prop) (K i : Nat) (o : Oper) (a : Act) (v : Value) : Prop := ∀ b w, (i = K → b = false) → ((o.after.any fun e => Region.binds .any e && e.on == K) = true → b = true) → S b w → wpList P ops (DetPost (S (b || K == i)) o a v) [o] a w
def wpDetD (P : Program) (ops : Array Oper) (S : Bool → World → Prop) (K : Nat) (Q : Exit → Act → World → Prop) : Nat → List Oper → Act → Prop
  | _, [], a => ∀ w, S true w → Q .normal a w
  | i, o :: rest, a => ∃ v, DetOpD P ops S K i o a v ∧ wpDetD P ops S K Q (i + 1) rest (a.put o.dst v)
section
variable {P : Program} {ops : Array Oper} {S : Bool → World → Prop} {K : Nat} {Q : Exit → Act → World → Prop}
theorem wpDetD_cons {i : Nat} {o : Oper} {rest : List Oper} {a : Act} {v : Value} (hne : (K == i) = false) (h1 : ∀ b, DetOp P ops (S b) o a v) (h2 : wpDetD P ops S K Q (i + 1) rest (a.put o.dst v)) : wpDetD P ops S K Q i (o :: rest) a :=
  ⟨v, fun b w _ _ hS => by rw [hne, Bool.or_false]; exact h1 b w hS, h2⟩
theorem wpDetD_at {i : Nat} {o : Oper} {rest : List Oper} {a : Act} {v : Value} (he : (K == i) = true) (h1 : ∀ w, S false w → wpList P ops (DetPost (S true) o a v) [o] a w) (h2 : wpDetD P ops S K Q (i + 1) rest (a.put o.dst v)) : wpDetD P ops S K Q i (o :: rest) a :=
  ⟨v, fun b w hb _ hS => by
    have e : i = K := (beq_iff_eq.1 he).symm
    obtain rfl := hb e
    rw [he]
    exact h1 w hS, h2⟩
theorem wpDetD_behind {i : Nat} {o : Oper} {rest : List Oper} {a : Act} {v : Value} (hne : (K == i) = false) (hd : (o.after.any fun e => Region.binds .any e && e.on == K) = true) (h1 : DetOp P ops (S true) o a v) (h2 : wpDetD P ops S K Q (i + 1) rest (a.put o.dst v)) : wpDetD P ops S K Q i (o :: rest) a :=
  ⟨v, fun b w _ hb hS => by
    obtain rfl := hb hd
    rw [hne, Bool.or_false]
    exact h1 w hS, h2⟩
theorem det_canonD (a0 : Act) : ∀ (l : List Oper) (k : Nat) (a : Act) (v : Nat → Value), (∀ j, l[j]? = ops[k + j]?) → canon ops a0 v k = a → wpDetD P ops S K Q k l a →
    ∃ v' : Nat → Value, (∀ j, j < k → v' j = v j) ∧ (∀ j o, k ≤ j → ops[j]? = some o → DetOpD P ops S K j o (canon ops a0 v' j) (v' j)) ∧ (∀ w, S true w → Q .normal (canon ops a0 v' (k + l.length)) w) := by
  intro l
  induction l with
  | nil =>
    intro k a v hl ha h
    refine ⟨v, fun _ _ => rfl, fun j o hj ho => ?_, fun w hw => by simpa [ha] using h w hw⟩
    have hnone : ops[j]? = none := by
      have := hl (j - k)
      rw [show k + (j - k) = j from by omega] at this
      simpa using this.symm
    rw [hnone] at ho
    cases ho
  | cons o rest ih =>
    intro k a v hl ha h
    obtain ⟨u, hu, hrest⟩ := h
    have hk : ops[k]? = some o := by simpa using (hl 0).symm
    have same : ∀ (v1 v2 : Nat → Value) (m : Nat), (∀ j, j < m → v1 j = v2 j) → canon ops a0 v1 m = canon ops a0 v2 m := by
      intro v1 v2 m hm
      induction m with
      | zero => rfl
      | succ m ihm =>
        simp only [canon]
        rw [ihm fun j hj => hm j (by omega)]
        cases ops[m]? with
        | none => rfl
        | some o' => simp only [hm m (by omega)]
    let v2 : Nat → Value := fun j => if j = k then u else v j
    have hv2 : ∀ j, j < k → v2 j = v j := fun j hj => if_neg (by omega)
    have hck : canon ops a0 v2 k = a := (same v2 v k hv2).trans ha
    have hck1 : canon ops a0 v2 (k + 1) = a.put o.dst u := by
      show (match ops[k]? with | some o => (canon ops a0 v2 k).put o.dst (v2 k) | none => canon ops a0 v2 k) = _
      rw [hk, hck]
      simp [v2]
    obtain ⟨v', h1, h2, h3⟩ := ih (k + 1) _ v2 (fun j => by have := hl (j + 1); simpa [Nat.add_assoc, Nat.add_comm 1 j] using this) hck1 hrest
    refine ⟨v', fun j hj => (h1 j (by omega)).trans (hv2 j hj), fun j o' hj ho => ?_, fun w hw => by have := h3 w hw; rwa [show k + 1 + rest.length = k + (o :: rest).length from by simp; omega] at this⟩
    by_cases e : j = k
    · subst e
      rw [hk] at ho
      cases ho
      rw [same v' v2 j fun m hm => h1 m (by omega), hck, h1 j (by omega)]
      simp only [v2, if_true]
      exact hu
    · exact h2 j o' (by omega) ho
theorem det_anyD (hok : detOk ops = true) (a0 : Act) (v : Nat → Value) (hop : ∀ j o, ops[j]? = some o → DetOpD P ops S K j o (canon ops a0 v j) (v j)) (hend : ∀ w, S true w → Q .normal (canon ops a0 v ops.size) w) :
    ∀ (fuel : Nat) (listed : Array Bool) (a : Act) (w : World), listed.size = ops.size → ((List.range ops.size).filter fun i => !listed.getD i true).length ≤ fuel → DetInv ops a0 v (fun j => listed.getD j true) a → S (listed.getD K true) w →
      wpAny P .any ops Q fuel listed a w := by
  have hall : ∀ (listed : Array Bool) (a : Act) (w : World), listed.size = ops.size → DetInv ops a0 v (fun j => listed.getD j true) a → S (listed.getD K true) w → (∀ i, i < ops.size → listed.getD i true = true) → Q .normal a w := by
    intro listed a w hsz hinv hS hl
    have hc := canon_inv hok a0 v ops.size (Nat.le_refl _)
    have : a = canon ops a0 v ops.size := by
      have ht : a.tmps = (canon ops a0 v ops.size).tmps := by
        apply Array.ext_getElem?
        intro t
        by_cases hex : ∃ j, j < ops.size ∧ writesTo ops j t = true
        · obtain ⟨j, hj, hw⟩ := hex
          by_cases htl : t < a0.tmps.size
          · rw [hinv.done t htl j hj hw (hl j hj), hc.done t htl j hj hw (by simpa using hj)]
          · rw [Array.getElem?_eq_none (by rw [hinv.size]; omega), Array.getElem?_eq_none (by rw [hc.size]; omega)]
        · rw [hinv.rest t fun j hj hw => absurd ⟨j, hj, hw⟩ hex, hc.rest t fun j hj hw => absurd ⟨j, hj, hw⟩ hex]
      have hd : a.defers = (canon ops a0 v ops.size).defers := hinv.defers.trans hc.defers.symm
      cases a
      cases hcn : canon ops a0 v ops.size
      rw [hcn] at ht hd
      simp only at ht hd
      rw [ht, hd]
    rw [this]
    refine hend w ?_
    have hK : listed.getD K true = true := by
      by_cases h : K < ops.size
      · exact hl K h
      · simp [Array.getD, show ¬ K < listed.size by omega]
    rwa [hK] at hS
  have hready : ∀ (listed : Array Bool), Region.ready .any ops listed = [] → ∀ i, i < ops.size → listed.getD i true = true := by
    intro listed hr i
    induction i using Nat.strongRecOn with
    | ind i ih =>
      intro hi
      apply Classical.byContradiction
      intro hn
      have hn' : listed.getD i true = false := by simpa using hn
      have : i ∈ Region.ready .any ops listed := by
        unfold Region.ready
        rw [List.mem_filter]
        refine ⟨List.mem_range.2 hi, ?_⟩
        have hget : ops[i]? = some ops[i] := Array.getElem?_eq_getElem hi
        rw [hn', hget]
        simp only [Bool.not_false, Bool.true_and, Option.map_some, Option.getD_some]
        rw [Array.all_eq_true']
        intro e he
        cases hb : Region.binds .any e with
        | false => rfl
        | true =>
          have hlt := (detOk_at hok hget).early e he hb
          have := ih e.on hlt (by omega)
          have hlt' : e.on < listed.size ∨ ¬ e.on < listed.size := by omega
          rcases hlt' with h | h
          · simp only [Array.getD, h, dif_pos] at this ⊢
            exact this
          · exfalso
            have h1 : i < listed.size ∨ ¬ i < listed.size := by omega
            rcases h1 with h1 | h1
            · omega
            · simp [Array.getD, h1] at hn'
      rw [hr] at this
      cases this
  intro fuel
  induction fuel with
  | zero =>
    intro listed a w hsz hcount hinv hS
    have hl : ∀ i, i < ops.size → listed.getD i true = true := by
      intro i hi
      have := List.eq_nil_of_length_eq_zero (Nat.le_zero.1 hcount)
      have hmem : i ∉ (List.range ops.size).filter fun i => !listed.getD i true := by rw [this]; simp
      rw [List.mem_filter] at hmem
      simp only [List.mem_range, hi, true_and] at hmem
      simpa using hmem
    refine ⟨?_, hall listed a w hsz hinv hS hl⟩
    unfold Region.ready
    rw [List.filter_eq_nil_iff]
    intro i hi
    rw [hl i (List.mem_range.1 hi)]
    simp
  | succ fuel ih =>
    intro listed a w hsz hcount hinv hS
    refine ⟨fun hr => hall listed a w hsz hinv hS (hready listed hr), fun i hi => ?_⟩
    unfold Region.ready at hi
    rw [List.mem_filter] at hi
    obtain ⟨hir, hc⟩ := hi
    have hil : i < ops.size := List.mem_range.1 hir
    have hget : ops[i]? = some ops[i] := Array.getElem?_eq_getElem hil
    rw [hget] at hc
    simp only [Bool.and_eq_true, Option.map_some, Option.getD_some] at hc
    obtain ⟨hn, hafter⟩ := hc
    have hn' : listed.getD i true = false := by simpa using hn
    have A := detOk_at hok hget
    have hcan := canon_inv hok a0 v i (by omega)
    have hagree : ∀ t ∈ ops[i].looksAt ops, a.tmps[t]? = (canon ops a0 v i).tmps[t]? := by
      intro t ht
      by_cases hex : ∃ j, j < ops.size ∧ writesTo ops j t = true
      · obtain ⟨j, hj, hw⟩ := hex
        obtain ⟨e, he, hb, hon⟩ := A.deps t ht j hj hw
        have hlt := A.early e he hb
        have hlist := Array.all_eq_true'.1 hafter e he
        rw [hb] at hlist
        simp only [Bool.not_true, Bool.false_or] at hlist
        have hDj : listed.getD j true = true := by
          rw [hon] at hlist
          simp only [Array.getD] at hlist ⊢
          split at hlist
          · rename_i h; rw [dif_pos h]; exact hlist
          · cases hlist
        by_cases htl : t < a0.tmps.size
        · rw [hinv.done t htl j hj hw hDj, hcan.done t htl j hj hw (by simp; omega)]
        · rw [Array.getElem?_eq_none (by rw [hinv.size]; exact Nat.le_of_not_lt htl), Array.getElem?_eq_none (by rw [hcan.size]; exact Nat.le_of_not_lt htl)]
      · rw [hinv.rest t fun j hj hw => absurd ⟨j, hj, hw⟩ hex, hcan.rest t fun j hj hw => absurd ⟨j, hj, hw⟩ hex]
    have hdep : (ops[i].after.any fun e => Region.binds .any e && e.on == K) = true → listed.getD K true = true := by
      intro h
      obtain ⟨e, he, h2⟩ := Array.any_eq_true'.1 h
      simp only [Bool.and_eq_true, beq_iff_eq] at h2
      have hlist := Array.all_eq_true'.1 hafter e he
      rw [h2.1, h2.2] at hlist
      simp only [Bool.not_true, Bool.false_or] at hlist
      simp only [Array.getD] at hlist ⊢
      split at hlist
      · rename_i h; rw [dif_pos h]; exact hlist
      · cases hlist
    refine wpOp_mono ?_ (det_transfer (Q := Q) (v := v i) hget A.sel (hinv.size.trans hcan.size.symm) hagree (hop i ops[i] hget (listed.getD K true) w (fun e => e ▸ hn') (fun h => hdep h) hS))
    rintro a' w' ⟨rfl, hS'⟩
    have hsz' : (listed.setIfInBounds i true).size = ops.size := by simpa using hsz
    have hKn : (listed.getD K true || K == i) = (listed.setIfInBounds i true).getD K true := by
      by_cases hjl : K < listed.size
      · by_cases e : K = i
        · rw [e] at hjl ⊢; simp [Array.getD, hjl]
        · have : ¬ i = K := fun x => e x.symm
          simp [Array.getD, hjl, Array.getElem_setIfInBounds, e, this]
      · simp [Array.getD, hjl]
    rw [hKn] at hS'
    refine ih _ _ _ hsz' ?_ ?_ hS'
    · have hlt : ((List.range ops.size).filter fun k => !(listed.setIfInBounds i true).getD k true).length < ((List.range ops.size).filter fun k => !listed.getD k true).length := by
        have hsub : ((List.range ops.size).filter fun k => !(listed.setIfInBounds i true).getD k true) = ((List.range ops.size).filter fun k => !listed.getD k true).filter (fun k => k != i) := by
          rw [List.filter_filter]
          apply List.filter_congr
          intro k hk
          have hkl : k < listed.size := by rw [hsz]; exact List.mem_range.1 hk
          by_cases e : k = i
          · subst e; simp [Array.getD, hkl]
          · have : ¬ i = k := fun x => e x.symm
            simp [Array.getD, hkl, Array.getElem_setIfInBounds, e, this]
        rw [hsub]
        have hmem : i ∈ (List.range ops.size).filter fun k => !listed.getD k true := List.mem_filter.2 ⟨hir, hn⟩
        exact List.length_filter_lt_length_iff_exists.2 ⟨i, hmem, by simp⟩
      omega
    · have := hinv.put hok hget hn'
      have hf : (fun j => listed.getD j true || j == i) = fun j => (listed.setIfInBounds i true).getD j true := by
        funext j
        by_cases hjl : j < listed.size
        · by_cases e : j = i
          · subst e; simp [Array.getD, hjl]
          · have : ¬ i = j := fun x => e x.symm
            simp [Array.getD, hjl, Array.getElem_setIfInBounds, e, this]
        · simp [Array.getD, hjl]
      rwa [hf] at this
theorem wp_region_detD {id : Nat} {a : Act} {w : World} (hm : P.follows .mixedOrders = true) (K : Nat) (hok : (detOk ops && decide (K < ops.size)) = true) (S : Bool → World → Prop) (hS : S false w.drew) (h : wpDetD P ops S K Q 0 ops.toList a) : (Code.region id ops true).wp P Q a w := by
  simp only [Bool.and_eq_true, decide_eq_true_eq] at hok
  obtain ⟨hok, hK⟩ := hok
  have hS2 : ∀ W, S false W → S ((Array.replicate ops.size false).getD K true) W := fun W h => by rw [show (Array.replicate ops.size false).getD K true = false from by simp [Array.getD, hK]]; exact h
  obtain ⟨v, _, h2, h3⟩ := det_canonD (P := P) (S := S) (K := K) (Q := Q) a ops.toList 0 a (fun _ => undef) (fun j => by simp) rfl h
  refine wp_region_any hm (det_anyD (S := S) (K := K) hok a v (fun j o ho => h2 j o (Nat.zero_le _) ho) (by simpa using h3) ops.size _ a _ (by simp) ?_ ?_ (hS2 _ hS))
  · exact Nat.le_trans (List.length_filter_le _ _) (by simp)
  · have hf : (fun j => (Array.replicate ops.size false).getD j true) = fun j => !decide (j < ops.size) := by
      funext j
      by_cases h : j < ops.size <;> simp [Array.getD, h]
    rw [hf]
    exact ⟨rfl, rfl, fun t _ j hj _ hD => by simp [hj] at hD, fun t _ => rfl⟩
end
end Go.Proofs.Seat4
end
section
namespace Go.Proofs.Seat8
open Go.RowKit Go.Proofs.Seat4
theorem below_grow (w : World) (q : Nat) (os : Array Obj) : Below w.heap.size w (Go.Sort.grow (w.drewN q) os) :=
  ⟨rfl, rfl, rfl, by simp [Go.Sort.grow], fun k hk => by simp [Go.Sort.grow, Array.getElem?_append, hk]⟩
theorem cmp24' (x y : Mt) (c : Int) (hc : cfM x y = c) (W : World) : Calls Tryz.prog 31 #[.agg #[.string ⟨x.name.toArray⟩, .int .i64 x.index, .int .i64 x.count, .int .i64 x.sum, .int .i64 x.mx], .agg #[.string ⟨y.name.toArray⟩, .int .i64 y.index, .int .i64 y.count, .int .i64 y.sum, .int .i64 y.mx]] W fun e w' => e = .returned (.int .i64 c) ∧ Below W.heap.size W w' :=
  (cmp24 x y W).mono fun e w' ⟨h1, q, os, h2⟩ => ⟨by rw [h1, hc], by rw [h2]; exact below_grow W q os⟩
theorem wpList_load_aggW {P : Program} {ops : Array Oper} {rest : List Oper} {o : Oper} {a : Act} {w : World} {Q : Exit → Act → World → Prop} (hgd : Region.wanted o (yielded ops a.tmps) = true) (ty : TypeId) (x : Operand) (ho : o.op = .load ty x)
    (b off : Nat) (hx : a.eval x = .pointer (some ⟨b, off, none⟩)) (cs : List Value) (hc : Row w b off cs) (d : TypeDesc)
    (hu : P.underlying ty = some d) (hd : (match d with | .struct _ | .array _ _ => true | _ => false) = true) (hi : (P.info? ty).map (·.size) = some cs.length)
    (h : wpList P ops Q rest (a.put o.dst (.agg cs.toArray)) w) : wpList P ops Q (o :: rest) a w :=
  wpList_step fun K hK => by
    rw [if_pos hgd]
    unfold Oper.wp execOp
    simp only [ho, hx, Instr.loadAt, Instr.sureAddr, Sem.run_bind, Sem.run_pure, Result.andThen_ok, run_loadVar_agg w b off ty cs d hc hu hd hi]
    exact hK _ _ h
noncomputable def chkR (l : List Mt) : List Mt → Nat → Int
  | [], _ => 0
  | m :: r, i => if chk1 l i m = 0 then chkR l r (i + 1) else chk1 l i m
noncomputable def chk (l : List Mt) : Int := if 500 < l.length then 4 else chkR l l 0
theorem chkR_at (l : List Mt) (k : Nat) (h : k < l.length) : chkR l (l.drop k) k = if chk1 l k l[k] = 0 then chkR l (l.drop (k + 1)) (k + 1) else chk1 l k l[k] := by
  rw [List.drop_eq_getElem_cons h]; rfl
set_option maxRecDepth 100000 in
set_option maxHeartbeats 1000000 in
theorem check11 (l : List Mt) (b off cap : Nat) (w : World) (hb : b < w.heap.size) (hl : l.length ≤ 500) (hrow : LAt ME w b off l) :
    Calls Tryz.prog 9 #[.slice (some ⟨b, off, none⟩) l.length cap] w fun e w' => e = .returned (.int .i64 (chkR l l 0)) ∧ Below w.heap.size w w' := by
  have Hrow := Lib.hid hrow
  clear hrow
  have hl2 : ((500 : Int) < (l.length : Int)) = False := by simp; omega
  go_enter Tryz.func9, Tryz.ntmps9
  go_wp2
  go_loopw [10] (fun v wr => ∃ k : Nat, k ≤ l.length ∧ v = .int .i64 k ∧ chkR l (l.drop k) k = chkR l l 0 ∧ Below w.heap.size w wr) (fun v _ => l.length - (intOf v).toNat)
  case atStart => exact ⟨0, Nat.zero_le _, rfl, by simp, Below.refl _ _⟩
  case round =>
    obtain ⟨k, hk, rfl, hchk, hbw⟩ := hrel
    by_cases hlt : k < l.length
    · rw [chkR_at l k hlt] at hchk
      have hr : Row w b (off + k * 5) (mtCells l[k]) := Hrow.out k hlt
      have hr' : Row wr b (off + k * 5) (mtCells l[k]) := hr.below hbw hb
      generalize hM : l[k] = M at *
      have HM := Lib.hid hM
      have Hchk := Lib.hid hchk
      have hsz := hbw.size
      have Hbw := Lib.hid hbw
      clear hM hchk hr hbw
      go_wp2_with ((with_reducible refine wpList_load_agg (o := ⟨some 14, .load 34 (.tmp 13), _, _, _, none⟩) rfl 34 _ rfl b (off + k * 5) ?_ _ hr' _ Tryz.underlying34 rfl ?_ ?_); (focus rfl); (focus kernel_rfl); simp only [mtCells])
      obtain ⟨W1, hW1⟩ : ∃ W1, W1 = wr.alloc (.cells #[.string ⟨M.name.toArray⟩, .int .i64 M.index, .int .i64 M.count, .int .i64 M.sum, .int .i64 M.mx] 34) := ⟨_, rfl⟩
      rw [← hW1]
      have cM : Row W1 wr.heap.size 0 (mtCells M) := by rw [hW1]; exact Row.new wr #[.string ⟨M.name.toArray⟩, .int .i64 M.index, .int .i64 M.count, .int .i64 M.sum, .int .i64 M.mx] 34 _ rfl
      have hb1 : Below w.heap.size w W1 := by rw [hW1]; exact Hbw.out.alloc hsz _
      have hz1 : W1.heap.size = wr.heap.size + 1 := by rw [hW1]; simp
      generalize hB : wr.heap.size = B at *
      have Hb1 := Lib.hid hb1
      have CM := Lib.hid cM
      have HB := Lib.hid hB
      clear hW1 hb1 hr' hB
      have c0 : W1.cell? ⟨B, 0, none⟩ = some (.string ⟨M.name.toArray⟩) := by simpa using cM 0 _ rfl
      clear cM
      rcases Bool.eq_false_or_eq_true (nmL.contains M.name) with hn | hn
      · refine wp_region_detD (by kernel_rfl) 0 (by kernel_rfl) (fun bb wx => ∃ n, wx = (bif bb then (W1.alloc (.cells (nmL.map strV).toArray 9)) else W1).drewN n) ⟨1, rfl⟩ ?_
        apply wpDetD_at (v := .slice (some ⟨B + 1, 0, none⟩) 10 10) rfl
        · rintro wx ⟨n, rfl⟩
          have hz2 : (W1.drewN n).heap.size = B + 1 := hz1
          go_wp2_with (go_at_call 29; refine (names23 _).mono ?_; rintro e w' ⟨rfl, rfl⟩)
          exact ⟨rfl, rfl, n, rfl⟩
        go_frame
        apply wpDetD_cons rfl
        · rintro bb wx ⟨n, rfl⟩
          go_wp2_with fail
          exact ⟨rfl, rfl, n, rfl⟩
        go_frame
        apply wpDetD_cons (v := .string ⟨M.name.toArray⟩) rfl
        · rintro bb wx ⟨n, rfl⟩
          have c1 : ((bif bb then (W1.alloc (.cells (nmL.map strV).toArray 9)) else W1).drewN n).cell? ⟨B, 0, none⟩ = some (.string ⟨M.name.toArray⟩) := by
            cases bb
            · exact c0
            · exact ((Below.refl W1.heap.size W1).alloc (Nat.le_refl _) _).cell (by simp only; omega) |>.trans c0
          go_wp2_with fail
          exact ⟨rfl, rfl, n, rfl⟩
        go_frame
        apply wpDetD_behind (v := .bool true) rfl (by kernel_rfl)
        · rintro wx ⟨n, rfl⟩
          have hrow2 : Row ((W1.alloc (.cells (nmL.map strV).toArray 9)).drewN n) (B + 1) 0 (nmL.map strV) := Row.new W1 (nmL.map strV).toArray 9 (B + 1) hz1.symm
          have h22 := contains22 M.name (B + 1) _ hrow2
          rw [hn] at h22
          have H22 := Lib.hid h22
          clear h22 hrow2
          go_wp2_with (go_at_call 28; refine H22.out.mono ?_; rintro e w' ⟨rfl, rfl⟩)
          exact ⟨rfl, rfl, n, rfl⟩
        go_frame
        apply wpDetD_cons rfl
        · rintro bb wx ⟨n, rfl⟩
          go_wp2_with fail
          exact ⟨rfl, rfl, n, rfl⟩
        go_frame
        apply wpDetD_cons rfl
        · rintro bb wx ⟨n, rfl⟩
          go_wp2_with fail
          exact ⟨rfl, rfl, n, rfl⟩
        go_frame
        rintro W2 ⟨n, hW2⟩
        have hb2 : Below W1.heap.size W1 W2 := by
          rw [hW2]
          exact ⟨rfl, rfl, rfl, by simp, fun k hk => ((Below.refl W1.heap.size W1).alloc (Nat.le_refl _) _).block k hk⟩
        clear hW2
        have CM2 := Lib.hid (CM.out.below hb2 (by omega))
        have Hb2 := Lib.hid (Hb1.out.trans ⟨hb2.os, hb2.tape, hb2.output, hb2.size, fun k hk => hb2.block k (Nat.lt_of_lt_of_le hk Hb1.out.size)⟩)
        have hz2 : B + 1 ≤ W2.heap.size := by have := hb2.size; omega
        have f1 : W2.cell? ⟨B, 1, none⟩ = some (.int .i64 M.index) := by simpa using CM2.out 1 _ rfl
        have f2 : W2.cell? ⟨B, 2, none⟩ = some (.int .i64 M.count) := by simpa using CM2.out 2 _ rfl
        have f3 : W2.cell? ⟨B, 3, none⟩ = some (.int .i64 M.sum) := by simpa using CM2.out 3 _ rfl
        have f4 : W2.cell? ⟨B, 4, none⟩ = some (.int .i64 M.mx) := by simpa using CM2.out 4 _ rfl
        clear hb2 c0 hz1
        rcases Bool.eq_false_or_eq_true (rngB M) with hg | hg
        · obtain ⟨hg1, hg2, hg3, hg4⟩ : wi M.index (-1) 1099511627776 = true ∧ wi M.count 1 1099511627776 = true ∧ wi M.sum (-1152921504606846976) 1152921504606846976 = true ∧ wi M.mx (-1099511627776) 1099511627776 = true := by
            unfold rngB at hg
            simp only [Bool.and_eq_true] at hg
            exact ⟨hg.1.1.1, hg.1.1.2, hg.1.2, hg.2⟩
          go_wp2_with (go_at_call 30; refine (within19 _ _ _ _).mono ?_; rintro e w' ⟨rfl, rfl⟩)
          have hbig : b < W2.heap.size := by have := Hb2.out.size; omega
          have hB2 : B < W2.heap.size := by omega
          have hBB := Lib.hid hB2
          clear hB2 f1 f2 f3 f4 hg1 hg2 hg3 hg4
          rcases Nat.eq_zero_or_pos k with rfl | hk0
          · have hz : chk1 l 0 M = 0 := by unfold chk1; rw [hn, hg]; simp
            have Hz := Lib.hid hz
            clear hz
            refine wp_region_det (by kernel_rfl) (by kernel_rfl) (fun wx => Below W2.heap.size W2 wx) ((Below.refl _ _).drew) ?_
            iterate 13
              apply wpDet_cons
              · intro wx hx
                go_wp2_with fail
                exact ⟨rfl, rfl, hx⟩
              go_frame
            intro w3 hx
            have hb3 : Below w.heap.size w w3 := Hb2.out.trans (below_mono hx Hb2.out.size)
            clear hx
            go_wp2_with fail
            go_roundw
            case rel => exact ⟨0 + 1, by omega, by go_num, by have h := Hchk.out; rwa [if_pos Hz.out] at h, hb3⟩
            case measure => simp [intOf]; omega
          · obtain ⟨k', rfl⟩ : ∃ k', k = k' + 1 := ⟨k - 1, by omega⟩
            have hp : Row W2 b (off + k' * 5) (mtCells (l[k']'(by omega))) := (Hrow.out k' (by omega)).below Hb2.out hb
            have hP : l.getD (k' + 1 - 1) default = l[k']'(by omega) := by simp [List.getD_eq_getElem?_getD, show k' < l.length from by omega]
            generalize hPP : (l[k']'(by omega)) = P at hp hP
            generalize hc : cfM P M = c
            have HP := Lib.hid hP
            have Hp := Lib.hid hp
            have Hc := Lib.hid hc
            clear hP hp hc hPP
            have i1 : (k' : Int) < (l.length : Int) := by omega
            have h0 : (0 : Int) < (k' : Int) + 1 := by omega
            rcases Int.lt_or_le c 0 with hc0 | hc0
            · have hz : chk1 l (k' + 1) M = 0 := by unfold chk1; rw [hn, hg, HP.out, Hc.out, if_neg (by simp), if_neg (by simp), if_neg (by omega)]
              have Hz := Lib.hid hz
              clear hz
              refine wp_region_det (by kernel_rfl) (by kernel_rfl) (fun wx => Below W2.heap.size W2 wx) ((Below.refl _ _).drew) ?_
              iterate 13
                apply wpDet_cons
                · intro wx hx
                  have gP := Hp.out.below hx hbig
                  have gM := CM2.out.below hx hBB.out
                  simp only [mtCells] at gP gM
                  first
                    | ((with_reducible refine wpList_load_aggW (o := ⟨some 52, .load 34 (.tmp 51), _, _, _, _⟩) ?_ 34 _ rfl b (off + k' * 5) ?_ _ gP _ Tryz.underlying34 rfl ?_ ?_); (focus rfl); (focus rfl); (focus kernel_rfl); exact ⟨rfl, rfl, hx⟩)
                    | ((with_reducible refine wpList_load_aggW (o := ⟨some 53, .load 34 (.tmp 4), _, _, _, _⟩) ?_ 34 _ rfl B 0 ?_ _ gM _ Tryz.underlying34 rfl ?_ ?_); (focus rfl); (focus rfl); (focus kernel_rfl); exact ⟨rfl, rfl, hx⟩)
                    | (go_wp2_with (go_at_call 31; refine (cmp24' P M c Hc.out _).mono ?_; rintro e w' ⟨rfl, hbk⟩)
                       first
                         | exact ⟨rfl, rfl, hx⟩
                         | exact ⟨rfl, rfl, hx.trans (below_mono hbk hx.size)⟩)
                go_frame
              intro w3 hx
              have hb3 : Below w.heap.size w w3 := Hb2.out.trans (below_mono hx Hb2.out.size)
              clear hx
              go_wp2_with fail
              go_roundw
              case rel => exact ⟨k' + 1 + 1, by omega, by go_num, by have h := Hchk.out; rwa [if_pos Hz.out] at h, hb3⟩
              case measure => simp [intOf]; omega
            · have hz : chk1 l (k' + 1) M = 9 := by unfold chk1; rw [hn, hg, HP.out, Hc.out, if_neg (by simp), if_neg (by simp), if_pos ⟨by omega, hc0⟩]
              have hz2 : chkR l l 0 = 9 := by have h := Hchk.out; rw [hz, if_neg (by decide)] at h; exact h.symm
              have Hz2 := Lib.hid hz2
              clear hz hz2
              refine wp_region_det (by kernel_rfl) (by kernel_rfl) (fun wx => Below W2.heap.size W2 wx) ((Below.refl _ _).drew) ?_
              iterate 13
                apply wpDet_cons
                · intro wx hx
                  have gP := Hp.out.below hx hbig
                  have gM := CM2.out.below hx hBB.out
                  simp only [mtCells] at gP gM
                  first
                    | ((with_reducible refine wpList_load_aggW (o := ⟨some 52, .load 34 (.tmp 51), _, _, _, _⟩) ?_ 34 _ rfl b (off + k' * 5) ?_ _ gP _ Tryz.underlying34 rfl ?_ ?_); (focus rfl); (focus rfl); (focus kernel_rfl); exact ⟨rfl, rfl, hx⟩)
                    | ((with_reducible refine wpList_load_aggW (o := ⟨some 53, .load 34 (.tmp 4), _, _, _, _⟩) ?_ 34 _ rfl B 0 ?_ _ gM _ Tryz.underlying34 rfl ?_ ?_); (focus rfl); (focus rfl); (focus kernel_rfl); exact ⟨rfl, rfl, hx⟩)
                    | (go_wp2_with (go_at_call 31; refine (cmp24' P M c Hc.out _).mono ?_; rintro e w' ⟨rfl, hbk⟩)
                       first
                         | exact ⟨rfl, rfl, hx⟩
                         | exact ⟨rfl, rfl, hx.trans (below_mono hbk hx.size)⟩)
                go_frame
              intro w3 hx
              have hb3 : Below w.heap.size w w3 := Hb2.out.trans (below_mono hx Hb2.out.size)
              clear hx
              go_wp2_with fail
              go_ret
              exact ⟨by rw [Hz2.out]; rfl, hb3⟩
        · have hz : chk1 l k M = 2 := by unfold chk1; rw [hn, hg]; simp
          have hz2' : chkR l l 0 = 2 := by have h := Hchk.out; rw [hz, if_neg (by decide)] at h; exact h.symm
          have Hz2 := Lib.hid hz2'
          clear hz hz2'
          unfold rngB at hg
          rcases Bool.eq_false_or_eq_true (wi M.index (-1) 1099511627776) with hg1 | hg1
          · rcases Bool.eq_false_or_eq_true (wi M.count 1 1099511627776) with hg2 | hg2
            · rcases Bool.eq_false_or_eq_true (wi M.sum (-1152921504606846976) 1152921504606846976) with hg3 | hg3
              · have hg4 : wi M.mx (-1099511627776) 1099511627776 = false := by rw [hg1, hg2, hg3] at hg; simpa using hg
                clear hg
                go_wp2_with (go_at_call 30; refine (within19 _ _ _ _).mono ?_; rintro e w' ⟨rfl, rfl⟩)
                go_ret
                exact ⟨by rw [Hz2.out]; rfl, Hb2.out⟩
              · clear hg
                go_wp2_with (go_at_call 30; refine (within19 _ _ _ _).mono ?_; rintro e w' ⟨rfl, rfl⟩)
                go_ret
                exact ⟨by rw [Hz2.out]; rfl, Hb2.out⟩
            · clear hg
              go_wp2_with (go_at_call 30; refine (within19 _ _ _ _).mono ?_; rintro e w' ⟨rfl, rfl⟩)
              go_ret
              exact ⟨by rw [Hz2.out]; rfl, Hb2.out⟩
          · clear hg
            go_wp2_with (go_at_call 30; refine (within19 _ _ _ _).mono ?_; rintro e w' ⟨rfl, rfl⟩)
            go_ret
            exact ⟨by rw [Hz2.out]; rfl, Hb2.out⟩
      · refine wp_region_detD (by kernel_rfl) 0 (by kernel_rfl) (fun bb wx => ∃ n, wx = (bif bb then (W1.alloc (.cells (nmL.map strV).toArray 9)) else W1).drewN n) ⟨1, rfl⟩ ?_
        apply wpDetD_at (v := .slice (some ⟨B + 1, 0, none⟩) 10 10) rfl
        · rintro wx ⟨n, rfl⟩
          have hz2 : (W1.drewN n).heap.size = B + 1 := hz1
          go_wp2_with (go_at_call 29; refine (names23 _).mono ?_; rintro e w' ⟨rfl, rfl⟩)
          exact ⟨rfl, rfl, n, rfl⟩
        go_frame
        apply wpDetD_cons rfl
        · rintro bb wx ⟨n, rfl⟩
          go_wp2_with fail
          exact ⟨rfl, rfl, n, rfl⟩
        go_frame
        apply wpDetD_cons (v := .string ⟨M.name.toArray⟩) rfl
        · rintro bb wx ⟨n, rfl⟩
          have c1 : ((bif bb then (W1.alloc (.cells (nmL.map strV).toArray 9)) else W1).drewN n).cell? ⟨B, 0, none⟩ = some (.string ⟨M.name.toArray⟩) := by
            cases bb
            · exact c0
            · exact ((Below.refl W1.heap.size W1).alloc (Nat.le_refl _) _).cell (by simp only; omega) |>.trans c0
          go_wp2_with fail
          exact ⟨rfl, rfl, n, rfl⟩
        go_frame
        apply wpDetD_behind (v := .bool false) rfl (by kernel_rfl)
        · rintro wx ⟨n, rfl⟩
          have hrow2 : Row ((W1.alloc (.cells (nmL.map strV).toArray 9)).drewN n) (B + 1) 0 (nmL.map strV) := Row.new W1 (nmL.map strV).toArray 9 (B + 1) hz1.symm
          have h22 := contains22 M.name (B + 1) _ hrow2
          rw [hn] at h22
          have H22 := Lib.hid h22
          clear h22 hrow2
          go_wp2_with (go_at_call 28; refine H22.out.mono ?_; rintro e w' ⟨rfl, rfl⟩)
          exact ⟨rfl, rfl, n, rfl⟩
        go_frame
        apply wpDetD_cons rfl
        · rintro bb wx ⟨n, rfl⟩
          go_wp2_with fail
          exact ⟨rfl, rfl, n, rfl⟩
        go_frame
        apply wpDetD_cons rfl
        · rintro bb wx ⟨n, rfl⟩
          go_wp2_with fail
          exact ⟨rfl, rfl, n, rfl⟩
        go_frame
        rintro W2 ⟨n, hW2⟩
        have hb2 : Below W1.heap.size W1 W2 := by
          rw [hW2]
          exact ⟨rfl, rfl, rfl, by simp, fun k hk => ((Below.refl W1.heap.size W1).alloc (Nat.le_refl _) _).block k hk⟩
        clear hW2
        have CM2 := Lib.hid (CM.out.below hb2 (by omega))
        have Hb2 := Lib.hid (Hb1.out.trans ⟨hb2.os, hb2.tape, hb2.output, hb2.size, fun k hk => hb2.block k (Nat.lt_of_lt_of_le hk Hb1.out.size)⟩)
        have hz : chk1 l k M = 5 := by unfold chk1; rw [hn]; simp
        have hz2' : chkR l l 0 = 5 := by have h := Hchk.out; rw [hz, if_neg (by decide)] at h; exact h.symm
        have Hz2 := Lib.hid hz2'
        clear hz hz2' hb2 c0 hz1
        go_wp2_with fail
        go_ret
        exact ⟨by rw [Hz2.out]; rfl, Hb2.out⟩
    · have hk' : k = l.length := by omega
      have hz2' : chkR l l 0 = 0 := by rw [← hchk, hk', List.drop_length]; rfl
      have Hz2 := Lib.hid hz2'
      have Hbw := Lib.hid hbw
      clear hz2' hchk hbw
      go_wp2_with fail
      go_ret
      exact ⟨by rw [Hz2.out]; rfl, Hbw.out⟩
set_option maxRecDepth 100000 in
theorem check_big (A : Option Addr) (n cap : Nat) (hn : 500 < n) (w : World) : Calls Tryz.prog 9 #[.slice A n cap] w fun e w' => e = .returned (.int .i64 4) ∧ w' = w := by
  have h : (500 : Int) < (n : Int) := by omega
  go_enter Tryz.func9, Tryz.ntmps9
  go_wp2_with fail
  go_ret
  exact ⟨rfl, rfl⟩
set_option maxRecDepth 100000 in
theorem check_nil (A : Option Addr) (cap : Nat) (w : World) : Calls Tryz.prog 9 #[.slice A 0 cap] w fun e w' => e = .returned (.int .i64 0) ∧ w' = w := by
  go_enter Tryz.func9, Tryz.ntmps9
  go_wp2
  refine wp_loop_rounds 1 ?_
  rw [rounds_succ]
  go_wp2_with fail
  go_ret
  exact ⟨rfl, rfl⟩
theorem check (l : List Mt) (v : Value) (w : World) (hv : MtV w v l) : Calls Tryz.prog 9 #[v] w fun e w' => e = .returned (.int .i64 (chk l)) ∧ Below w.heap.size w w' := by
  by_cases hb : 500 < l.length
  · obtain ⟨A, c, rfl, _, _⟩ := hv
    refine (check_big A _ c hb w).mono fun e w' ⟨h1, h2⟩ => ⟨?_, by rw [h2]; exact Below.refl _ _⟩
    rw [h1]; unfold chk; rw [if_pos hb]
  · rcases hv.split with ⟨A, c, rfl, rfl⟩ | ⟨b, off, cap, rfl, hcap, hbw, hrow⟩
    · exact (check_nil A c w).mono fun e w' ⟨h1, h2⟩ => ⟨h1, by rw [h2]; exact Below.refl _ _⟩
    · refine (check11 l b off cap w hbw (by omega) hrow).mono fun e w' ⟨h1, h2⟩ => ⟨?_, h2⟩
      rw [h1]; unfold chk; rw [if_neg hb]
end Go.Proofs.Seat8
end

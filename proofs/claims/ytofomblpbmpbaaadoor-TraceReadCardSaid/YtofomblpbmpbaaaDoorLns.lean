/- The lines of a text, read one by one; texts of lists of events: plain laws. -/
import Derived.Test.YtofomblpbmpbaaaDoorPln2
import Derived.Test.YtofomblpbmpbaaaDoorChp
namespace Go.Proofs.YtofomblpbmpbaaaDoor
/-- The lines of s that end with a line feed, and what stands behind them. -/
def Parts (s : List UInt8) (L : List (List UInt8)) (R : List UInt8) : Prop := splitA 10 [] s = L ++ [R]
theorem parts_exist (s : List UInt8) : ∃ L R, Parts s L R := by
  have h := splitA_ne 10 s []
  exact ⟨_, _, (List.dropLast_concat_getLast h).symm⟩
theorem parts_nil {L : List (List UInt8)} {R : List UInt8} (h : Parts [] L R) : L = [] ∧ R = [] := by
  have h' : [[]] = L ++ [R] := h
  cases L with
  | nil => simpa using h'
  | cons a L => simp at h'
theorem parts_none {s : List UInt8} {L : List (List UInt8)} {R : List UInt8} (hs : (10 : UInt8) ∉ s) (h : Parts s L R) : L = [] ∧ R = s := by
  have h' : splitA 10 [] s = L ++ [R] := h
  rw [splitA_none s [] hs] at h'
  cases L with
  | nil => simpa using h'.symm
  | cons a L => simp at h'
theorem parts_hit {a r : List UInt8} {L : List (List UInt8)} {R : List UInt8} (ha : (10 : UInt8) ∉ a) (h : Parts (a ++ 10 :: r) L R) : ∃ L', L = a :: L' ∧ Parts r L' R := by
  have h' : splitA 10 [] (a ++ 10 :: r) = L ++ [R] := h
  rw [splitA_hit a r [] ha, List.nil_append] at h'
  cases L with
  | nil =>
    simp only [List.nil_append, List.cons.injEq] at h'
    exact absurd h'.2 (splitA_ne 10 r [])
  | cons b L =>
    simp only [List.cons_append, List.cons.injEq] at h'
    exact ⟨L, by rw [h'.1], h'.2⟩
theorem parts_cons {a r : List UInt8} {L : List (List UInt8)} {R : List UInt8} (ha : (10 : UInt8) ∉ a) (h : Parts r L R) : Parts (a ++ 10 :: r) (a :: L) R := by
  show splitA 10 [] (a ++ 10 :: r) = _
  rw [splitA_hit a r [] ha, h]
  simp
theorem parts_lines : ∀ (L : List (List UInt8)), (∀ a ∈ L, (10 : UInt8) ∉ a) → Parts (L.flatMap (· ++ [10])) L []
  | [], _ => rfl
  | a :: L, h => by
    have ih := parts_lines L fun b hb => h b (List.mem_cons_of_mem _ hb)
    have h2 := parts_cons (h a (List.mem_cons_self ..)) ih
    simpa using h2
theorem parts_join : ∀ (n : Nat) (s : List UInt8) (L : List (List UInt8)) (R : List UInt8), s.length ≤ n → Parts s L R → s = L.flatMap (· ++ [10]) ++ R := by
  intro n
  induction n with
  | zero =>
    intro s L R hn h
    have hs : s = [] := List.eq_nil_of_length_eq_zero (by omega)
    subst hs
    obtain ⟨rfl, rfl⟩ := parts_nil h
    rfl
  | succ n ih =>
    intro s L R hn h
    rcases first_byte 10 s with h1 | ⟨a, r, rfl, ha⟩
    · obtain ⟨rfl, rfl⟩ := parts_none h1 h
      rfl
    · obtain ⟨L', rfl, h2⟩ := parts_hit ha h
      have := ih r L' R (by simp at hn; omega) h2
      simp only [List.flatMap_cons, List.append_assoc]
      rw [← this]
      simp
def evOf (a : List UInt8) : Ev := (parseR (pParse a) a).1
def errOf (a : List UInt8) : Int := (parseR (pParse a) a).2
def readL : List (List UInt8) → List UInt8 → List Ev → List Ev × Int × Int
  | [], R, acc => if R = [] then (acc, 0, 0) else ([], acc.length, 3)
  | a :: L, R, acc => if errOf a = 0 then readL L R (acc ++ [evOf a]) else ([], acc.length, 3)
/-- What Read gives for the rest t of the text, behind the events acc. -/
def RdTo (t : List UInt8) (acc : List Ev) (r : List Ev × Int × Int) : Prop := ∃ L R, Parts t L R ∧ readL L R acc = r
theorem rdTo_exist (t : List UInt8) (acc : List Ev) : ∃ r, RdTo t acc r := by
  obtain ⟨L, R, h⟩ := parts_exist t
  exact ⟨_, L, R, h, rfl⟩
theorem rdTo_nil {acc : List Ev} {r : List Ev × Int × Int} (h : RdTo [] acc r) : r = (acc, 0, 0) := by
  obtain ⟨L, R, h1, h2⟩ := h
  obtain ⟨rfl, rfl⟩ := parts_nil h1
  rw [← h2]
  rfl
theorem rdTo_open {t : List UInt8} {acc : List Ev} {r : List Ev × Int × Int} (hs : (10 : UInt8) ∉ t) (h0 : t ≠ []) (h : RdTo t acc r) : r = ([], (acc.length : Int), 3) := by
  obtain ⟨L, R, h1, h2⟩ := h
  obtain ⟨rfl, rfl⟩ := parts_none hs h1
  rw [← h2]
  exact if_neg h0
theorem rdTo_ok {a t : List UInt8} {acc : List Ev} {r : List Ev × Int × Int} (ha : (10 : UInt8) ∉ a) (h0 : errOf a = 0) (h : RdTo (a ++ 10 :: t) acc r) : RdTo t (acc ++ [evOf a]) r := by
  obtain ⟨L, R, h1, h2⟩ := h
  obtain ⟨L', rfl, h3⟩ := parts_hit ha h1
  refine ⟨L', R, h3, ?_⟩
  rw [← h2]
  exact (if_pos h0).symm
theorem rdTo_bad {a t : List UInt8} {acc : List Ev} {r : List Ev × Int × Int} (ha : (10 : UInt8) ∉ a) (h0 : errOf a ≠ 0) (h : RdTo (a ++ 10 :: t) acc r) : r = ([], (acc.length : Int), 3) := by
  obtain ⟨L, R, h1, h2⟩ := h
  obtain ⟨L', rfl, h3⟩ := parts_hit ha h1
  rw [← h2]
  exact if_neg h0
theorem readL_cases : ∀ (L : List (List UInt8)) (R : List UInt8) (acc : List Ev), (readL L R acc = (acc ++ L.map evOf, 0, 0) ∧ R = [] ∧ ∀ a ∈ L, errOf a = 0) ∨ ∃ i : Nat, readL L R acc = ([], (i : Int), 3)
  | [], R, acc => by
    by_cases h : R = []
    · exact .inl ⟨by simp [readL, h], h, by simp⟩
    · exact .inr ⟨acc.length, if_neg h⟩
  | a :: L, R, acc => by
    by_cases h : errOf a = 0
    · rcases readL_cases L R (acc ++ [evOf a]) with ⟨h1, h2, h3⟩ | ⟨i, hi⟩
      · refine .inl ⟨?_, h2, fun b hb => ?_⟩
        · rw [readL, if_pos h, h1]; simp
        · rcases List.mem_cons.1 hb with rfl | hb
          · exact h
          · exact h3 b hb
      · exact .inr ⟨i, by rw [readL, if_pos h, hi]⟩
    · exact .inr ⟨acc.length, if_neg h⟩
theorem readL_len : ∀ (L : List (List UInt8)) (R : List UInt8) (acc : List Ev), (readL L R acc).1.length ≤ acc.length + L.length
  | [], R, acc => by unfold readL; split <;> simp
  | a :: L, R, acc => by
    unfold readL
    split
    · have := readL_len L R (acc ++ [evOf a])
      simp at this ⊢
      omega
    · simp
theorem errOf_cases (a : List UInt8) : (errOf a = 0 ∧ evErr (evOf a) = 0 ∧ textB (evOf a) = a) ∨ errOf a = 3 := by
  unfold errOf evOf
  cases h : pParse a with
  | none => exact .inr rfl
  | some e =>
    by_cases h1 : evErr e = 0 ∧ textB e = a
    · refine .inl ?_
      have : parseR (some e) a = (e, 0) := if_pos h1
      rw [this]
      exact ⟨rfl, h1⟩
    · exact .inr (by rw [show parseR (some e) a = _ from if_neg h1])
theorem errOf_text (e : Ev) (h : evErr e = 0) : errOf (textB e) = 0 ∧ evOf (textB e) = e := by
  unfold errOf evOf
  rw [pParse_text e h, show parseR (some e) (textB e) = (e, 0) from if_pos ⟨h, rfl⟩]
  exact ⟨rfl, rfl⟩
/-- The lines of events, one behind the other. -/
def linesB (l : List Ev) : List UInt8 := l.flatMap (fun e => textB e ++ [10])
theorem linesB_snoc (l : List Ev) (e : Ev) : linesB (l ++ [e]) = linesB l ++ (textB e ++ [10]) := by simp [linesB]
theorem linesB_append (a b : List Ev) : linesB (a ++ b) = linesB a ++ linesB b := by simp [linesB]
/-- Why events cannot be printed. -/
def prErr (l : List Ev) : Int := firstErr (fun k => evErr (l.getD k zEv)) l.length
def printB (l : List Ev) : List UInt8 := if prErr l = 0 then linesB l else []
theorem prErr_zero {l : List Ev} : prErr l = 0 ↔ ∀ e ∈ l, evErr e = 0 := by
  unfold prErr
  rw [firstErr_zero]
  constructor
  · intro h e he
    obtain ⟨k, hk, rfl⟩ := List.getElem_of_mem he
    have := h k hk
    rwa [getD_lt l k hk] at this
  · intro h j hj
    rw [getD_lt l j hj]
    exact h _ (List.getElem_mem hj)
theorem word_no10 (k : Int) : (10 : UInt8) ∉ wordOf k := by
  have key : ∀ p ∈ wordsL, (10 : UInt8) ∉ p.2 := by decide +kernel
  unfold wordOf
  cases h : wordsL.find? (fun p => p.1 == k) with
  | none => simp
  | some p => exact key p (List.mem_of_find?_eq_some h)
theorem text_no10 (e : Ev) : (10 : UInt8) ∉ textB e := by
  have hi : ∀ n, (10 : UInt8) ∉ Lib.itoa n := fun n => itoa_no n 10 (by decide) (by decide)
  have hf : ∀ nm n m, (10 : UInt8) ∉ nm → (10 : UInt8) ∉ fieldB nm n m := fun nm n m h => by
    unfold fieldB
    split
    · simp
    · simp only [List.mem_cons, List.mem_append, not_or]
      exact ⟨by decide, h, by decide, hi n⟩
  unfold textB
  simp only [List.mem_cons, List.mem_append, not_or]
  exact ⟨hi _, by decide, hi _, by decide, hi _, by decide, word_no10 _, hf _ _ _ (by decide), hf _ _ _ (by decide), hf _ _ _ (by decide), hf _ _ _ (by decide)⟩
/-- Reading what was printed. -/
theorem read_print {l : List Ev} (h : ∀ e ∈ l, evErr e = 0) {r : List Ev × Int × Int} (hr : RdTo (linesB l) [] r) : r = (l, 0, 0) := by
  obtain ⟨L, R, h1, h2⟩ := hr
  have h3 : Parts (linesB l) (l.map textB) [] := by
    have := parts_lines (l.map textB) (fun a ha => by obtain ⟨e, -, rfl⟩ := List.mem_map.1 ha; exact text_no10 e)
    rwa [List.flatMap_map] at this
  have h4 : L ++ [R] = l.map textB ++ [[]] := h1.symm.trans h3
  have h5 := List.append_inj' h4 rfl
  obtain ⟨rfl, h6⟩ := h5
  have h7 : R = [] := by simpa using h6
  subst h7
  rw [← h2]
  have key : ∀ (l : List Ev) (acc : List Ev), (∀ e ∈ l, evErr e = 0) → readL (l.map textB) [] acc = (acc ++ l, 0, 0) := by
    intro l
    induction l with
    | nil => intro acc _; simp [readL]
    | cons e l ih =>
      intro acc h
      obtain ⟨q1, q2⟩ := errOf_text e (h e (List.mem_cons_self ..))
      rw [List.map_cons, readL, if_pos q1, q2, ih _ (fun x hx => h x (List.mem_cons_of_mem _ hx))]
      simp
  simpa using key l [] h
/-- What can be read is what is printed. -/
theorem print_read {s : List UInt8} {x : List Ev} {i : Int} (hr : RdTo s [] (x, i, 0)) : (∀ e ∈ x, evErr e = 0) ∧ linesB x = s ∧ i = 0 := by
  obtain ⟨L, R, h1, h2⟩ := hr
  rcases readL_cases L R [] with ⟨h3, rfl, h5⟩ | ⟨j, h3⟩
  · rw [h3] at h2
    simp only [List.nil_append, Prod.mk.injEq] at h2
    obtain ⟨rfl, rfl, -⟩ := h2
    have hall : ∀ a ∈ L, evErr (evOf a) = 0 ∧ textB (evOf a) = a := fun a ha => by
      rcases errOf_cases a with ⟨-, q⟩ | q
      · exact q
      · rw [h5 a ha] at q; cases q
    refine ⟨fun e he => ?_, ?_, rfl⟩
    · obtain ⟨a, ha, rfl⟩ := List.mem_map.1 he
      exact (hall a ha).1
    · have := parts_join _ s L [] (Nat.le_refl _) h1
      rw [this]
      unfold linesB
      rw [List.flatMap_map, List.append_nil]
      have key : ∀ (L : List (List UInt8)), (∀ a ∈ L, evErr (evOf a) = 0 ∧ textB (evOf a) = a) → L.flatMap (fun a => textB (evOf a) ++ [10]) = L.flatMap (· ++ [10]) := by
        intro L
        induction L with
        | nil => intro _; rfl
        | cons a L ih =>
          intro h
          rw [List.flatMap_cons, List.flatMap_cons, (h a (List.mem_cons_self ..)).2, ih (fun b hb => h b (List.mem_cons_of_mem _ hb))]
      exact key L hall
  · rw [h3] at h2
    simp at h2
theorem rdTo_err {s : List UInt8} {x : List Ev} {i c : Int} (hr : RdTo s [] (x, i, c)) : (c = 0 ∨ c = 3) ∧ (c = 3 → x = [] ∧ 0 ≤ i) := by
  obtain ⟨L, R, h1, h2⟩ := hr
  rcases readL_cases L R [] with ⟨h3, -, -⟩ | ⟨j, h3⟩
  · rw [h3] at h2
    simp only [Prod.mk.injEq] at h2
    obtain ⟨-, -, rfl⟩ := h2
    exact ⟨.inl rfl, fun h => by cases h⟩
  · rw [h3] at h2
    simp only [Prod.mk.injEq] at h2
    obtain ⟨rfl, rfl, rfl⟩ := h2
    exact ⟨.inr rfl, fun _ => ⟨rfl, by omega⟩⟩
end Go.Proofs.YtofomblpbmpbaaaDoor

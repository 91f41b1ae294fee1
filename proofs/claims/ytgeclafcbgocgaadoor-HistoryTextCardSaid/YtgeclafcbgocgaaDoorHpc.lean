/- When a list of calls is a history: the facts. Plain laws. -/
import Derived.Test.YtgeclafcbgocgaaDoorHpb
namespace Go.Proofs.YtgeclafcbgocgaaDoor
def callsErr (l : List Cl) : Int := firstErr (callAt l) l.length
def posOk (l : List Cl) : Bool := posF (marks l).length (marks l) []
def stOk (l : List Cl) : Bool := (List.range l.length).all (stAt l)
/-- Why calls are no history; 0 if they are one. -/
def chkH (l : List Cl) : Int := if 100 < l.length then 4 else if callsErr l ≠ 0 then callsErr l else if posOk l = false then 16 else if stOk l = false then 17 else 0
structure Calls0 (l : List Cl) : Prop where
  rng : ∀ x ∈ l, rangeOk x = true
  tim : ∀ x ∈ l, 0 ≤ x.begin_ ∧ -1 ≤ x.end_ ∧ (x.end_ = -1 → x.result = 0)
  be : ∀ x ∈ l, x.end_ ≠ -1 → x.begin_ < x.end_
  up : beginsUp l
theorem callErr_zero {i : Nat} {p x : Cl} : callErr i p x = 0 ↔ rangeOk x = true ∧ (0 ≤ x.begin_ ∧ -1 ≤ x.end_ ∧ (x.end_ = -1 → x.result = 0)) ∧ (x.end_ ≠ -1 → x.begin_ < x.end_) ∧ (0 < i → p.begin_ < x.begin_) := by
  unfold callErr
  by_cases h1 : rangeOk x = true
  · rw [if_neg (by simp [h1])]
    by_cases h2 : timesBad x = true
    · rw [if_pos h2]
      unfold timesBad at h2
      simp only [Bool.or_eq_true, decide_eq_true_eq, Bool.and_eq_true, beq_iff_eq, bne_iff_ne, ne_eq] at h2
      constructor
      · intro h; cases h
      · rintro ⟨-, ⟨a, b, c⟩, -, -⟩
        rcases h2 with (h2 | h2) | ⟨h2, h3⟩
        · omega
        · omega
        · exact absurd (c h2) h3
    · rw [if_neg h2]
      unfold timesBad at h2
      simp only [Bool.or_eq_true, decide_eq_true_eq, Bool.and_eq_true, beq_iff_eq, bne_iff_ne, ne_eq, not_or, not_and, Int.not_lt, Decidable.not_not] at h2
      by_cases h3 : orderBad i p x = true
      · rw [if_pos h3]
        unfold orderBad at h3
        simp only [Bool.or_eq_true, decide_eq_true_eq, Bool.and_eq_true, bne_iff_ne, ne_eq] at h3
        constructor
        · intro h; cases h
        · rintro ⟨-, -, a, b⟩
          rcases h3 with ⟨h3, h4⟩ | ⟨h3, h4⟩
          · have := b h3; omega
          · have := a h3; omega
      · rw [if_neg h3]
        unfold orderBad at h3
        simp only [Bool.or_eq_true, decide_eq_true_eq, Bool.and_eq_true, bne_iff_ne, ne_eq, not_or, not_and, Int.not_le] at h3
        exact ⟨fun _ => ⟨h1, ⟨h2.1.1, h2.1.2, h2.2⟩, h3.2, h3.1⟩, fun _ => rfl⟩
  · rw [if_pos (by simpa using h1)]
    exact ⟨fun h => (by cases h), fun h => absurd h.1 h1⟩
theorem callsErr_zero {l : List Cl} : callsErr l = 0 ↔ Calls0 l := by
  unfold callsErr
  rw [firstErr_zero]
  constructor
  · intro h
    have h' : ∀ j (hj : j < l.length), _ := fun j hj => callErr_zero.1 (h j hj)
    have each : ∀ x ∈ l, rangeOk x = true ∧ (0 ≤ x.begin_ ∧ -1 ≤ x.end_ ∧ (x.end_ = -1 → x.result = 0)) ∧ (x.end_ ≠ -1 → x.begin_ < x.end_) := by
      intro x hx
      obtain ⟨j, hj, rfl⟩ := List.getElem_of_mem hx
      have := h' j hj
      rw [getD_lt l j hj] at this
      exact ⟨this.1, this.2.1, this.2.2.1⟩
    exact ⟨fun x hx => (each x hx).1, fun x hx => (each x hx).2.1, fun x hx => (each x hx).2.2, fun i h0 hi => (h' i hi).2.2.2 h0⟩
  · intro h j hj
    refine callErr_zero.2 ?_
    have hm : l.getD j zCl ∈ l := by rw [getD_lt l j hj]; exact List.getElem_mem hj
    exact ⟨h.rng _ hm, h.tim _ hm, h.be _ hm, fun h0 => h.up j h0 hj⟩
theorem mem_marks {l : List Cl} {k : Int} : k ∈ marks l ↔ ∃ x ∈ l, k = x.begin_ ∨ (x.end_ ≠ -1 ∧ k = x.end_) := by
  unfold marks
  rw [List.mem_flatMap]
  constructor
  · rintro ⟨x, hx, hk⟩
    refine ⟨x, hx, ?_⟩
    unfold marksOf at hk
    by_cases h : x.end_ = -1
    · rw [if_pos h] at hk
      exact .inl (by simpa using hk)
    · rw [if_neg h] at hk
      simp at hk
      rcases hk with hk | hk
      · exact .inl hk
      · exact .inr ⟨h, hk⟩
  · rintro ⟨x, hx, hk⟩
    refine ⟨x, hx, ?_⟩
    unfold marksOf
    by_cases h : x.end_ = -1
    · rw [if_pos h]
      rcases hk with hk | hk
      · simp [hk]
      · exact absurd h hk.1
    · rw [if_neg h]
      rcases hk with hk | hk
      · simp [hk]
      · simp [hk.2]
theorem marks_nonneg {l : List Cl} (h : Calls0 l) : ∀ k ∈ marks l, 0 ≤ k := by
  intro k hk
  obtain ⟨x, hx, hk⟩ := mem_marks.1 hk
  have := h.tim x hx
  rcases hk with rfl | ⟨h1, rfl⟩ <;> omega
structure Hist (l : List Cl) : Prop extends Calls0 l where
  len : l.length ≤ 100
  cnt : ∀ v : Nat, v < (marks l).length → (marks l).count (v : Int) = 1
  st : stR l
theorem count_le_of {l : List Cl} (h : Calls0 l) (hc : ∀ v : Nat, v < (marks l).length → (marks l).count (v : Int) = 1) : (∀ k ∈ marks l, 0 ≤ k ∧ k < (marks l).length) ∧ ∀ v : Int, (marks l).count v ≤ 1 := by
  have hn := marks_nonneg h
  have hp := (pos_same hn).2 hc
  obtain ⟨h1, h2, -⟩ := posF_facts _ _ _ hp
  exact ⟨fun k hk => ⟨hn k hk, h1 k hk⟩, h2⟩
/-- Two marks of the list that are alike are one. -/
theorem marks_split {A B : List Cl} {x : Cl} : marks (A ++ x :: B) = marks A ++ (marksOf x ++ marks B) := by simp [marks]
theorem split_at (l : List Cl) (i : Nat) (h : i < l.length) : l = l.take i ++ l[i] :: l.drop (i + 1) := by
  rw [← List.drop_eq_getElem_cons h, List.take_append_drop]
theorem ne_marks {l : List Cl} (hc : ∀ v : Int, (marks l).count v ≤ 1) {i k : Nat} (hik : i < k) (hk : k < l.length) {a b : Int} (ha : a ∈ marksOf l[i]) (hb : b ∈ marksOf l[k]) : a ≠ b := by
  intro e
  subst e
  have h1 := hc a
  rw [split_at l i (by omega), marks_split, List.count_append, List.count_append] at h1
  have h2 : 1 ≤ (marksOf l[i]).count a := List.count_pos_iff.2 ha
  have h3 : a ∈ marks (l.drop (i + 1)) := by
    unfold marks
    rw [List.mem_flatMap]
    exact ⟨l[k], List.mem_drop_iff_getElem.2 ⟨k - (i + 1), by omega, by congr 1; omega⟩, hb⟩
  have h4 : 1 ≤ (marks (l.drop (i + 1))).count a := List.count_pos_iff.2 h3
  omega
theorem end_mem {x : Cl} (h : x.end_ ≠ -1) : x.end_ ∈ marksOf x := by unfold marksOf; rw [if_neg h]; simp
theorem begin_mem (x : Cl) : x.begin_ ∈ marksOf x := by unfold marksOf; split <;> simp
theorem end_ne_begin {l : List Cl} (hc : ∀ v : Int, (marks l).count v ≤ 1) : ∀ i k, i < k → k < l.length → (l.getD i zCl).end_ ≠ -1 → (l.getD i zCl).end_ ≠ (l.getD k zCl).begin_ := by
  intro i k hik hk he
  rw [getD_lt l i (by omega)] at he ⊢
  rw [getD_lt l k hk]
  exact ne_marks hc hik hk (end_mem he) (begin_mem _)
theorem stOk_iff {l : List Cl} : stOk l = true ↔ stP l := by
  unfold stOk stP
  rw [List.all_eq_true]
  exact ⟨fun h i hi => h i (List.mem_range.2 hi), fun h i hi => h i (List.mem_range.1 hi)⟩
theorem hist_iff {l : List Cl} : chkH l = 0 ↔ Hist l := by
  unfold chkH
  by_cases h1 : 100 < l.length
  · rw [if_pos h1]
    exact ⟨fun h => (by cases h), fun h => (by have := h.len; omega)⟩
  · rw [if_neg h1]
    by_cases h2 : callsErr l = 0
    · rw [if_neg (by simpa using h2)]
      have hc0 := callsErr_zero.1 h2
      have hn := marks_nonneg hc0
      by_cases h3 : posOk l = true
      · rw [if_neg (by simp [h3])]
        have hcnt := (pos_same hn).1 h3
        obtain ⟨h4, h5⟩ := count_le_of hc0 hcnt
        have hst := st_same hc0.up (end_ne_begin h5)
        by_cases h6 : stOk l = true
        · rw [if_neg (by simp [h6])]
          exact ⟨fun _ => ⟨hc0, by omega, hcnt, hst.1 (stOk_iff.1 h6)⟩, fun _ => rfl⟩
        · rw [if_pos (by simpa using h6)]
          exact ⟨fun h => (by cases h), fun h => absurd (stOk_iff.2 (hst.2 h.st)) h6⟩
      · rw [if_pos (by simpa using h3)]
        exact ⟨fun h => (by cases h), fun h => absurd ((pos_same hn).2 h.cnt) h3⟩
    · rw [if_pos h2]
      exact ⟨fun h => absurd h h2, fun h => absurd (callsErr_zero.2 h.toCalls0) h2⟩
theorem Hist.lt {l : List Cl} (h : Hist l) {i k : Nat} (hik : i < k) (hk : k < l.length) (ht : (l.getD i zCl).task = (l.getD k zCl).task) : (l.getD i zCl).end_ ≠ -1 ∧ (l.getD i zCl).end_ < (l.getD k zCl).begin_ := by
  have h1 := h.st i k hik hk ht
  have h2 := end_ne_begin (count_le_of h.toCalls0 h.cnt).2 i k hik hk h1.1
  exact ⟨h1.1, by omega⟩
end Go.Proofs.YtgeclafcbgocgaaDoor

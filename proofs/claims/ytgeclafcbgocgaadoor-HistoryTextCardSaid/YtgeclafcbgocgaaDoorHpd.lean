/- The book's calls: at most one open call of a task. Plain laws. -/
import Derived.Test.YtgeclafcbgocgaaDoorHpc
namespace Go.Proofs.YtgeclafcbgocgaaDoor
/-- At most one call of a task is open. -/
def Uni (c : List Cl) : Prop := ∀ i j, i < c.length → j < c.length → (c.getD i zCl).task = (c.getD j zCl).task → (c.getD i zCl).end_ < 0 → (c.getD j zCl).end_ < 0 → i = j
theorem openIx_of {c : List Cl} (U : Uni c) {t : Int} {k : Nat} (hk : k < c.length) (ht : (c.getD k zCl).task = t) (he : (c.getD k zCl).end_ < 0) : openIx c t = some k := by
  cases h : openIx c t with
  | none => exact absurd he (openIx_none h k hk ht)
  | some i =>
    obtain ⟨h1, h2, h3⟩ := openIx_spec h
    rw [U i k h1 hk (h2.trans ht.symm) h3 he]
theorem openIx_none_of {c : List Cl} {t : Int} (h : ∀ k, k < c.length → (c.getD k zCl).task = t → ¬ (c.getD k zCl).end_ < 0) : openIx c t = none := by
  cases hq : openIx c t with
  | none => rfl
  | some i =>
    obtain ⟨h1, h2, h3⟩ := openIx_spec hq
    exact absurd h3 (h i h1 h2)
theorem getD_snoc (c : List Cl) (x : Cl) : (c ++ [x]).getD c.length zCl = x := by simp [List.getD_eq_getElem?_getD]
theorem getD_snoc_lt (c : List Cl) (x : Cl) {k : Nat} (h : k < c.length) : (c ++ [x]).getD k zCl = c.getD k zCl := by simp [List.getD_eq_getElem?_getD, List.getElem?_append_left h]
theorem getD_set_eq (c : List Cl) (y : Cl) {i : Nat} (h : i < c.length) : (c.set i y).getD i zCl = y := by simp [List.getD_eq_getElem?_getD, h]
theorem getD_set_ne (c : List Cl) (y : Cl) {i k : Nat} (h : i ≠ k) : (c.set i y).getD k zCl = c.getD k zCl := by simp [List.getD_eq_getElem?_getD, List.getElem?_set_ne h]
theorem Uni.snoc {c : List Cl} (U : Uni c) {x : Cl} (h : openIx c x.task = none) : Uni (c ++ [x]) := by
  intro i j hi hj ht h1 h2
  rw [List.length_append, List.length_singleton] at hi hj
  rcases Nat.lt_succ_iff_lt_or_eq.1 hi with hi | rfl <;> rcases Nat.lt_succ_iff_lt_or_eq.1 hj with hj | rfl
  · rw [getD_snoc_lt c x hi] at ht h1
    rw [getD_snoc_lt c x hj] at ht h2
    exact U i j hi hj ht h1 h2
  · rw [getD_snoc_lt c x hi] at ht h1
    rw [getD_snoc] at ht
    exact absurd h1 (openIx_none h i hi ht)
  · rw [getD_snoc_lt c x hj] at ht h2
    rw [getD_snoc] at ht
    exact absurd h2 (openIx_none h j hj ht.symm)
  · rfl
theorem Uni.set {c : List Cl} (U : Uni c) {i : Nat} {y : Cl} (hi : i < c.length) (hy : ¬ y.end_ < 0) : Uni (c.set i y) := by
  intro a b ha hb ht h1 h2
  rw [List.length_set] at ha hb
  by_cases e1 : i = a
  · subst e1
    rw [getD_set_eq c y hi] at h1
    exact absurd h1 hy
  · by_cases e2 : i = b
    · subst e2
      rw [getD_set_eq c y hi] at h2
      exact absurd h2 hy
    · rw [getD_set_ne c y e1] at ht h1
      rw [getD_set_ne c y e2] at ht h2
      exact U a b ha hb ht h1 h2
theorem openIx_set {c : List Cl} (U : Uni c) {t0 : Int} {i : Nat} (h : openIx c t0 = some i) {y : Cl} (hy : ¬ y.end_ < 0) (t : Int) : openIx (c.set i y) t = if t = t0 then none else openIx c t := by
  obtain ⟨hi, hti, hei⟩ := openIx_spec h
  have U' := U.set hi hy
  by_cases e : t = t0
  · rw [if_pos e]
    subst e
    refine openIx_none_of fun k hk ht he => ?_
    rw [List.length_set] at hk
    by_cases e2 : i = k
    · subst e2
      rw [getD_set_eq c y hi] at he
      exact hy he
    · rw [getD_set_ne c y e2] at ht he
      exact e2 (U i k hi hk (hti.trans ht.symm) hei he)
  · rw [if_neg e]
    cases hq : openIx c t with
    | none =>
      refine openIx_none_of fun k hk ht he => ?_
      rw [List.length_set] at hk
      by_cases e2 : i = k
      · subst e2
        rw [getD_set_eq c y hi] at he
        exact hy he
      · rw [getD_set_ne c y e2] at ht he
        exact openIx_none hq k hk ht he
    | some k =>
      obtain ⟨hk, htk, hek⟩ := openIx_spec hq
      have e2 : i ≠ k := by
        rintro rfl
        exact e (htk.symm.trans hti)
      exact openIx_of U' (by rw [List.length_set]; exact hk) (by rw [getD_set_ne c y e2]; exact htk) (by rw [getD_set_ne c y e2]; exact hek)
theorem openIx_begin {c : List Cl} {t0 m a p : Int} (t : Int) : openIx (c ++ [⟨t0, m, a, 0, p, -1⟩]) t = if t = t0 then some c.length else openIx c t := by
  rw [openIx_snoc]
  by_cases e : t = t0
  · subst e
    simp
  · have : ¬ (t0 == t) = true := by simpa using fun h => e h.symm
    simp [this, e]
theorem uni_nil : Uni [] := fun i _ h => absurd h (Nat.not_lt_zero _)
theorem bookStep_uni {c : List Cl} (U : Uni c) (p : Nat) (m : Mk) : Uni (bookStep c p m).1 := by
  unfold bookStep
  split
  · exact U
  · exact U
  · rename_i i hq
    exact U.set (openIx_spec hq).1 (by show ¬ ((p : Nat) : Int) < 0; omega)
  · rename_i hq
    split
    · exact U
    · exact U.snoc hq
theorem bookStep_len {c : List Cl} (h : c.length ≤ 100) (p : Nat) (m : Mk) : (bookStep c p m).1.length ≤ 100 := by
  unfold bookStep
  split
  · exact h
  · exact h
  · rw [List.length_set]; exact h
  · split
    · exact h
    · simp; omega
end Go.Proofs.YtgeclafcbgocgaaDoor

/- The lines of a text, read one by one; what the book makes of them: plain laws. -/
import Derived.Test.YtgeclafcbgocgaaDoorHpd
namespace Go.Proofs.YtgeclafcbgocgaaDoor
/-- The lines of s that end with a line feed, and what stands behind them. -/
def Parts (s : List UInt8) (L : List (List UInt8)) (R : List UInt8) : Prop := splitA 10 [] s = L ++ [R]
theorem parts_exist (s : List UInt8) : ∃ L R, Parts s L R := by
  have h := splitA_ne 10 s []
  exact ⟨_, _, (List.dropLast_concat_getLast h).symm⟩
theorem parts_nil {L : List (List UInt8)} {R : List UInt8} (h : Parts [] L R) : L = [] ∧ R = [] := by
  have h' : [[]] = L ++ [R] := h
  cases L with
  | nil => simpa using h'
  | cons a L => simp at h'
theorem parts_none {s : List UInt8} {L : List (List UInt8)} {R : List UInt8} (hs : (10 : UInt8) ∉ s) (h : Parts s L R) : L = [] ∧ R = s := by
  have h' : splitA 10 [] s = L ++ [R] := h
  rw [splitA_none s [] hs] at h'
  cases L with
  | nil => simpa using h'.symm
  | cons a L => simp at h'
theorem parts_hit {a r : List UInt8} {L : List (List UInt8)} {R : List UInt8} (ha : (10 : UInt8) ∉ a) (h : Parts (a ++ 10 :: r) L R) : ∃ L', L = a :: L' ∧ Parts r L' R := by
  have h' : splitA 10 [] (a ++ 10 :: r) = L ++ [R] := h
  rw [splitA_hit a r [] ha, List.nil_append] at h'
  cases L with
  | nil =>
    simp only [List.nil_append, List.cons.injEq] at h'
    exact absurd h'.2 (splitA_ne 10 r [])
  | cons b L =>
    simp only [List.cons_append, List.cons.injEq] at h'
    exact ⟨L, by rw [h'.1], h'.2⟩
theorem parts_cons {a r : List UInt8} {L : List (List UInt8)} {R : List UInt8} (ha : (10 : UInt8) ∉ a) (h : Parts r L R) : Parts (a ++ 10 :: r) (a :: L) R := by
  show splitA 10 [] (a ++ 10 :: r) = _
  rw [splitA_hit a r [] ha, h]
  simp
theorem parts_lines : ∀ (L : List (List UInt8)), (∀ a ∈ L, (10 : UInt8) ∉ a) → Parts (L.flatMap (· ++ [10])) L []
  | [], _ => rfl
  | a :: L, h => by
    have ih := parts_lines L fun b hb => h b (List.mem_cons_of_mem _ hb)
    have h2 := parts_cons (h a (List.mem_cons_self ..)) ih
    simpa using h2
theorem parts_join : ∀ (n : Nat) (s : List UInt8) (L : List (List UInt8)) (R : List UInt8), s.length ≤ n → Parts s L R → s = L.flatMap (· ++ [10]) ++ R := by
  intro n
  induction n with
  | zero =>
    intro s L R hn h
    have hs : s = [] := List.eq_nil_of_length_eq_zero (by omega)
    subst hs
    obtain ⟨rfl, rfl⟩ := parts_nil h
    rfl
  | succ n ih =>
    intro s L R hn h
    rcases first_byte 10 s with h1 | ⟨a, r, rfl, ha⟩
    · obtain ⟨rfl, rfl⟩ := parts_none h1 h
      rfl
    · obtain ⟨L', rfl, h2⟩ := parts_hit ha h
      have := ih r L' R (by simp at hn; omega) h2
      simp only [List.flatMap_cons, List.append_assoc]
      rw [← this]
      simp
/-- One line more. -/
def stepL (c : List Cl) (p : Nat) (s : List UInt8) : List Cl × Int := match readMark s with | none => (c, 3) | some m => bookStep c p m
/-- What the lines L, and R behind them, make of the calls c at position p. -/
def runL : List (List UInt8) → List UInt8 → List Cl → Nat → List Cl × Int
  | [], R, c, _ => if R = [] then (c, 0) else ([], 3)
  | a :: L, R, c, p => if (stepL c p a).2 = 0 then runL L R (stepL c p a).1 (p + 1) else ([], (stepL c p a).2)
/-- What Parse gives for the rest t of the text. -/
def RdTo (t : List UInt8) (c : List Cl) (p : Nat) (r : List Cl × Int) : Prop := ∃ L R, Parts t L R ∧ runL L R c p = r
theorem rdTo_exist (t : List UInt8) (c : List Cl) (p : Nat) : ∃ r, RdTo t c p r := by
  obtain ⟨L, R, h⟩ := parts_exist t
  exact ⟨_, L, R, h, rfl⟩
theorem rdTo_nil {c : List Cl} {p : Nat} {r : List Cl × Int} (h : RdTo [] c p r) : r = (c, 0) := by
  obtain ⟨L, R, h1, h2⟩ := h
  obtain ⟨rfl, rfl⟩ := parts_nil h1
  rw [← h2]
  rfl
theorem rdTo_open {t : List UInt8} {c : List Cl} {p : Nat} {r : List Cl × Int} (hs : (10 : UInt8) ∉ t) (h0 : t ≠ []) (h : RdTo t c p r) : r = ([], 3) := by
  obtain ⟨L, R, h1, h2⟩ := h
  obtain ⟨rfl, rfl⟩ := parts_none hs h1
  rw [← h2]
  exact if_neg h0
theorem rdTo_ok {a t : List UInt8} {c : List Cl} {p : Nat} {r : List Cl × Int} (ha : (10 : UInt8) ∉ a) (h0 : (stepL c p a).2 = 0) (h : RdTo (a ++ 10 :: t) c p r) : RdTo t (stepL c p a).1 (p + 1) r := by
  obtain ⟨L, R, h1, h2⟩ := h
  obtain ⟨L', rfl, h3⟩ := parts_hit ha h1
  refine ⟨L', R, h3, ?_⟩
  rw [← h2]
  exact (if_pos h0).symm
theorem rdTo_bad {a t : List UInt8} {c : List Cl} {p : Nat} {r : List Cl × Int} (ha : (10 : UInt8) ∉ a) (h0 : (stepL c p a).2 ≠ 0) (h : RdTo (a ++ 10 :: t) c p r) : r = ([], (stepL c p a).2) := by
  obtain ⟨L, R, h1, h2⟩ := h
  obtain ⟨L', rfl, h3⟩ := parts_hit ha h1
  rw [← h2]
  exact if_neg h0
end Go.Proofs.YtgeclafcbgocgaaDoor

/- Plain laws without a program: splitting at one byte, decimal numerals back and forth. -/
import Derived.Lib.SplitLaws
import Derived.Lib.CutLaws
import Derived.Lib.AtoiTie
import Derived.Lib.ItoaLen
import Derived.Lib.ItoaMem
import Derived.Lib.IndexBytes
namespace Go.Proofs.YtgeclafcbgocgaaDoor
/-- The parts between the bytes c, the first one behind p. -/
def splitA (c : UInt8) : List UInt8 → List UInt8 → List (List UInt8)
  | p, [] => [p]
  | p, x :: r => if x = c then p :: splitA c [] r else splitA c (p ++ [x]) r
theorem splitA_none {c : UInt8} : ∀ (s p : List UInt8), c ∉ s → splitA c p s = [p ++ s]
  | [], p, _ => by simp [splitA]
  | x :: r, p, h => by
    have hx : x ≠ c := fun e => h (by simp [e])
    rw [splitA, if_neg hx, splitA_none r _ (fun e => h (by simp [e]))]
    simp
theorem splitA_hit {c : UInt8} : ∀ (a r p : List UInt8), c ∉ a → splitA c p (a ++ c :: r) = (p ++ a) :: splitA c [] r
  | [], r, p, _ => by simp [splitA]
  | x :: a, r, p, h => by
    have hx : x ≠ c := fun e => h (by simp [e])
    rw [List.cons_append, splitA, if_neg hx, splitA_hit a r _ (fun e => h (by simp [e]))]
    simp
theorem splitA_ne (c : UInt8) : ∀ (s p : List UInt8), splitA c p s ≠ []
  | [], p => by simp [splitA]
  | x :: r, p => by
    rw [splitA]
    split
    · simp
    · exact splitA_ne c r _
/-- Either the byte does not occur, or its first place parts the text. -/
theorem first_byte (c : UInt8) : ∀ s : List UInt8, c ∉ s ∨ ∃ a r, s = a ++ c :: r ∧ c ∉ a
  | [] => .inl (by simp)
  | x :: s => by
    by_cases hx : x = c
    · exact .inr ⟨[], s, by simp [hx], by simp⟩
    · rcases first_byte c s with h | ⟨a, r, rfl, h⟩
      · exact .inl (by simp only [List.mem_cons, not_or]; exact ⟨fun e => hx e.symm, h⟩)
      · exact .inr ⟨x :: a, r, rfl, by simp only [List.mem_cons, not_or]; exact ⟨fun e => hx e.symm, h⟩⟩
theorem index_none {c : UInt8} : ∀ s : List UInt8, c ∉ s → Lib.index s [c] = -1
  | [], _ => rfl
  | x :: s, h => by
    have hx : c ≠ x := fun e => h (by simp [e])
    have ih := index_none s (fun e => h (List.mem_cons_of_mem _ e))
    unfold Lib.index
    rw [ih]
    simp [List.isPrefixOf, hx]
theorem index_hit {c : UInt8} : ∀ a r : List UInt8, c ∉ a → Lib.index (a ++ c :: r) [c] = (a.length : Int)
  | [], r, _ => by simp [Lib.index, List.isPrefixOf]
  | x :: a, r, h => by
    have hx : c ≠ x := fun e => h (by simp [e])
    have ih := index_hit a r (fun e => h (List.mem_cons_of_mem _ e))
    rw [List.cons_append]
    unfold Lib.index
    rw [ih]
    have h1 : ((a.length : Int) == -1) = false := by simp
    simp [List.isPrefixOf, hx, h1]
theorem cut_none {c : UInt8} {s : List UInt8} (h : c ∉ s) : Lib.cut s [c] = (s, [], false) := by
  unfold Lib.cut
  rw [index_none s h]
  rfl
theorem cut_hit {c : UInt8} (a r : List UInt8) (h : c ∉ a) : Lib.cut (a ++ c :: r) [c] = (a, r, true) := by
  unfold Lib.cut
  rw [index_hit a r h]
  rw [if_pos (by omega)]
  simp
theorem splitB_eq (c : UInt8) : ∀ (n : Nat) (s : List UInt8), s.length ≤ n → (Lib.splitB ⟨#[c]⟩ 0 (Lib.countB ⟨s.toArray⟩ ⟨#[c]⟩) ⟨s.toArray⟩).map (fun b => b.data.toList) = splitA c [] s := by
  intro n
  induction n with
  | zero =>
    intro s hs
    have : s = [] := List.eq_nil_of_length_eq_zero (by omega)
    subst this
    have hi : Lib.indexB ⟨#[]⟩ ⟨#[c]⟩ = -1 := by unfold Lib.indexB; exact index_none [] (by simp)
    rw [Lib.splitB_miss _ _ _ _ hi]
    simp [splitA]
  | succ n ih =>
    intro s hs
    rcases first_byte c s with h | ⟨a, r, rfl, h⟩
    · have hi : Lib.indexB ⟨s.toArray⟩ ⟨#[c]⟩ = -1 := by unfold Lib.indexB; exact index_none s h
      rw [Lib.splitB_miss _ _ _ _ hi, splitA_none s [] h]
      simp
    · have hi : Lib.indexB ⟨(a ++ c :: r).toArray⟩ ⟨#[c]⟩ = (a.length : Int) := by unfold Lib.indexB; exact index_hit a r h
      have hc := Lib.countB_hit ⟨(a ++ c :: r).toArray⟩ ⟨#[c]⟩ a.length (Nat.le_refl 1) hi
      have hext : (ByteArray.mk (a ++ c :: r).toArray).extract (a.length + (ByteArray.mk #[c]).size) (ByteArray.mk (a ++ c :: r).toArray).size = ⟨r.toArray⟩ := by
        apply ByteArray.ext
        have := Lib.extract_to_end ⟨(a ++ c :: r).toArray⟩ (a.length + (ByteArray.mk #[c]).size)
        apply Array.toList_inj.1
        rw [this]
        show List.drop (a.length + 1) (a ++ c :: r) = r
        simp
      rw [hext] at hc
      rw [hc, Nat.add_comm, Lib.splitB_hit _ _ _ _ _ hi, hext, List.map_cons, splitA_hit a r [] h]
      have := ih r (by simp at hs; omega)
      rw [this, Lib.extract_data]
      simp
theorem countB_len (c : UInt8) (s : List UInt8) : Lib.countB ⟨s.toArray⟩ ⟨#[c]⟩ + 1 = (splitA c [] s).length := by
  rw [← splitB_eq c s.length s (Nat.le_refl _), List.length_map, Lib.splitB_all ⟨#[c]⟩ (Nat.le_refl 1) _ _ _ rfl]
theorem splitB_cells (c : UInt8) (s : List UInt8) : (Lib.splitB ⟨#[c]⟩ 0 (Lib.countB ⟨s.toArray⟩ ⟨#[c]⟩) ⟨s.toArray⟩).map Value.string = (splitA c [] s).map (fun l => Value.string ⟨l.toArray⟩) := by
  rw [← splitB_eq c s.length s (Nat.le_refl _), List.map_map]
  apply List.map_congr_left
  intro b _
  rfl
/-! ### numerals -/
theorem dec_bytes : ∀ (n u : Nat), u ≤ n → ∀ x ∈ Lib.decDigits u, 48 ≤ x.toNat ∧ x.toNat ≤ 57 := by
  intro n
  induction n with
  | zero =>
    intro u hu x hx
    have : u = 0 := by omega
    subst this
    rw [Lib.decDigits.eq_1, dif_pos (by omega)] at hx
    simp at hx
    subst hx
    decide
  | succ n ih =>
    intro u hu x hx
    rw [Lib.decDigits.eq_1] at hx
    have hd : ∀ d, d < 10 → 48 ≤ (UInt8.ofNat (48 + d)).toNat ∧ (UInt8.ofNat (48 + d)).toNat ≤ 57 := by
      intro d hd
      rw [UInt8.toNat_ofNat', Nat.mod_eq_of_lt (by omega)]
      omega
    split at hx
    · rename_i h
      simp only [List.mem_singleton] at hx
      subst hx
      exact hd u h
    · rcases List.mem_append.1 hx with h | h
      · exact ih (u / 10) (by omega) x h
      · simp only [List.mem_singleton] at h
        subst h
        exact hd _ (Nat.mod_lt _ (by omega))
theorem itoa_bytes (n : Int) : ∀ x ∈ Lib.itoa n, x.toNat = 45 ∨ (48 ≤ x.toNat ∧ x.toNat ≤ 57) := by
  intro x hx
  unfold Lib.itoa at hx
  split at hx
  · rcases List.mem_cons.1 hx with h | h
    · subst h; left; rfl
    · exact .inr (dec_bytes _ _ (Nat.le_refl _) x h)
  · exact .inr (dec_bytes _ _ (Nat.le_refl _) x hx)
theorem itoa_no (n : Int) (c : UInt8) (h1 : c.toNat ≠ 45) (h2 : c.toNat < 48 ∨ 57 < c.toNat) : c ∉ Lib.itoa n := by
  intro h
  have := itoa_bytes n c h
  omega
theorem digit_of (d : Nat) (hd : d < 10) : Lib.digitVal (UInt8.ofNat (48 + d)) = some d := by
  have : ∀ d : Fin 10, Lib.digitVal (UInt8.ofNat (48 + d.val)) = some d.val := by decide
  exact this ⟨d, hd⟩
theorem decFrom_append : ∀ (l : List UInt8) (acc m d : Nat), Lib.decFrom acc l = some m → d < 10 → Lib.decFrom acc (l ++ [UInt8.ofNat (48 + d)]) = some (m * 10 + d)
  | [], acc, m, d, h, hd => by
    simp only [Lib.decFrom, Option.some.injEq] at h
    subst h
    simp only [List.nil_append, Lib.decFrom, digit_of d hd]
  | x :: l, acc, m, d, h, hd => by
    simp only [List.cons_append, Lib.decFrom] at h ⊢
    cases hx : Lib.digitVal x with
    | none => rw [hx] at h; cases h
    | some y =>
      rw [hx] at h
      exact decFrom_append l _ m d h hd
theorem decFrom_dec : ∀ (n u : Nat), u ≤ n → Lib.decFrom 0 (Lib.decDigits u) = some u := by
  intro n
  induction n with
  | zero =>
    intro u hu
    have : u = 0 := by omega
    subst this
    rw [Lib.decDigits.eq_1, dif_pos (by omega)]
    decide
  | succ n ih =>
    intro u hu
    rw [Lib.decDigits.eq_1]
    split
    · rename_i h
      have := decFrom_append [] 0 0 u rfl h
      simpa using this
    · have := decFrom_append _ 0 (u / 10) (u % 10) (ih (u / 10) (by omega)) (Nat.mod_lt _ (by omega))
      rw [this]
      congr 1
      omega
theorem dec_ne (u : Nat) : Lib.decDigits u ≠ [] := by
  rw [Lib.decDigits.eq_1]
  split <;> simp
theorem decNat_dec (u : Nat) : Lib.decNat (Lib.decDigits u) = some u := by
  unfold Lib.decNat
  rw [if_neg (by simpa using dec_ne u)]
  exact decFrom_dec u u (Nat.le_refl _)
theorem dec_head (u : Nat) : ∃ x r, Lib.decDigits u = x :: r ∧ 48 ≤ x.toNat ∧ x.toNat ≤ 57 := by
  cases h : Lib.decDigits u with
  | nil => exact absurd h (dec_ne u)
  | cons x r => exact ⟨x, r, rfl, dec_bytes u u (Nat.le_refl _) x (by rw [h]; simp)⟩
theorem atoi_itoa (n : Int) : Lib.atoi (Lib.itoa n) = some n := by
  unfold Lib.itoa
  split
  · rename_i h
    simp only [Lib.atoi, beq_self_eq_true, if_true, decNat_dec, Option.map_some]
    congr 1
    omega
  · rename_i h
    obtain ⟨x, r, hx, h1, h2⟩ := dec_head n.toNat
    rw [hx]
    have e1 : (x == 45) = false := by
      rw [beq_eq_false_iff_ne]
      rintro rfl
      revert h1; decide
    have e2 : (x == 43) = false := by
      rw [beq_eq_false_iff_ne]
      rintro rfl
      revert h1; decide
    simp only [Lib.atoi, e1, e2, Bool.false_eq_true, if_false]
    rw [← hx, decNat_dec]
    simp only [Option.map_some]
    congr 1
    omega
theorem dec_len_lt : ∀ (k u : Nat), u < 10 ^ k → 1 ≤ k → (Lib.decDigits u).length ≤ k := by
  intro k
  induction k with
  | zero => intro u _ h; omega
  | succ k ih =>
    intro u hu _
    rw [Lib.decDigits.eq_1]
    split
    · simp
    · rename_i h
      have hk : 1 ≤ k := by
        rcases Nat.eq_zero_or_pos k with e | e
        · subst e; simp at hu; omega
        · exact e
      have := ih (u / 10) (by rw [Nat.div_lt_iff_lt_mul (by omega)]; rw [Nat.pow_succ] at hu; exact hu) hk
      simp
      omega
theorem atoiAll_itoa (n : Int) (h0 : -100000000000000000 < n) (h1 : n < 100000000000000000) : Lib.atoiAll (Lib.itoa n) = .ok n := by
  have hl : (Lib.itoa n).length ≤ 18 := by
    unfold Lib.itoa
    split
    · have := dec_len_lt 17 n.natAbs (by omega) (by omega)
      simp; omega
    · have := dec_len_lt 17 n.toNat (by omega) (by omega)
      omega
  rw [Lib.atoiAll_short _ hl, atoi_itoa]
  rfl
/-- The number loop of the reference. -/
def numLoop : Nat → List UInt8 → Option Nat
  | n, [] => some n
  | n, c :: r => if c.toNat < 48 ∨ 57 < c.toNat ∨ 1099511627776 < n then none else numLoop (n * 10 + (c.toNat - 48)) r
def numR (s : List UInt8) : Int × Bool :=
  match (if s.head? = some 45 then numLoop 0 s.tail else numLoop 0 s) with
  | none => (0, false)
  | some n => if s.head? = some 45 then (-(n : Int), decide (Lib.itoa (-(n : Int)) = s)) else ((n : Int), decide (Lib.itoa (n : Int) = s))
theorem numLoop_append : ∀ (l : List UInt8) (acc m d : Nat), numLoop acc l = some m → d < 10 → m ≤ 1099511627776 → numLoop acc (l ++ [UInt8.ofNat (48 + d)]) = some (m * 10 + d)
  | [], acc, m, d, h, hd, hm => by
    simp only [numLoop, Option.some.injEq] at h
    subst h
    have e : (UInt8.ofNat (48 + d)).toNat = 48 + d := by rw [UInt8.toNat_ofNat', Nat.mod_eq_of_lt (by omega)]
    simp only [List.nil_append, numLoop, e]
    rw [if_neg (by omega), show 48 + d - 48 = d from by omega]
  | x :: l, acc, m, d, h, hd, hm => by
    simp only [List.cons_append, numLoop] at h ⊢
    split at h
    · cases h
    · rename_i hc
      rw [if_neg hc]
      exact numLoop_append l _ m d h hd hm
theorem numLoop_dec : ∀ (n u : Nat), u ≤ n → u ≤ 10995116277769 → numLoop 0 (Lib.decDigits u) = some u := by
  intro n
  induction n with
  | zero =>
    intro u hu _
    have : u = 0 := by omega
    subst this
    rw [Lib.decDigits.eq_1, dif_pos (by omega)]
    decide
  | succ n ih =>
    intro u hu hb
    rw [Lib.decDigits.eq_1]
    split
    · rename_i h
      have := numLoop_append [] 0 0 u rfl h (by omega)
      simpa using this
    · have := numLoop_append _ 0 (u / 10) (u % 10) (ih (u / 10) (by omega) (by omega)) (Nat.mod_lt _ (by omega)) (by omega)
      rw [this]
      congr 1
      omega
theorem numR_itoa (n : Int) (h0 : -1099511627776 ≤ n) (h1 : n ≤ 1099511627776) : numR (Lib.itoa n) = (n, true) := by
  by_cases hn : n < 0
  · obtain ⟨m, rfl⟩ : ∃ m : Nat, n = -(m : Int) := ⟨n.natAbs, by omega⟩
    have e : Lib.itoa (-(m : Int)) = 45 :: Lib.decDigits m := Lib.itoa_neg m (by omega)
    unfold numR
    rw [e]
    simp only [List.head?_cons, if_true, List.tail_cons]
    rw [numLoop_dec m m (Nat.le_refl _) (by omega)]
    simp [e]
  · obtain ⟨m, rfl⟩ : ∃ m : Nat, n = (m : Int) := ⟨n.toNat, by omega⟩
    have e : Lib.itoa (m : Int) = Lib.decDigits m := Lib.itoa_nonneg m
    obtain ⟨x, r, hx, hx1, hx2⟩ := dec_head m
    have hne : (Lib.decDigits m).head? ≠ some 45 := by
      rw [hx]
      simp only [List.head?_cons, ne_eq, Option.some.injEq]
      rintro rfl
      revert hx1; decide
    unfold numR
    rw [e]
    simp only [if_neg hne]
    rw [numLoop_dec m m (Nat.le_refl _) (by omega)]
    simp [e]
theorem numR_ok {s : List UInt8} {n : Int} (h : numR s = (n, true)) : s = Lib.itoa n := by
  unfold numR at h
  split at h
  · simp at h
  · split at h
    · simp only [Prod.mk.injEq, decide_eq_true_eq] at h
      rw [← h.1, h.2]
    · simp only [Prod.mk.injEq, decide_eq_true_eq] at h
      rw [← h.1, h.2]
end Go.Proofs.YtgeclafcbgocgaaDoor

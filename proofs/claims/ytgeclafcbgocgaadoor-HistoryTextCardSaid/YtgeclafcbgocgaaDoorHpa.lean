/- Histories: when a list of calls is one; two ways to ask it agree. Plain laws. -/
import Derived.Deep.Light
namespace Go.Proofs.YtgeclafcbgocgaaDoor
/-- The first of n numbers that is not 0; else 0. -/
def firstErr (f : Nat → Int) : Nat → Int
  | 0 => 0
  | n + 1 => if firstErr f n ≠ 0 then firstErr f n else f n
theorem firstErr_zero {f : Nat → Int} : ∀ {n : Nat}, firstErr f n = 0 ↔ ∀ j, j < n → f j = 0
  | 0 => by simp [firstErr]
  | n + 1 => by
    unfold firstErr
    by_cases h : firstErr f n = 0
    · rw [if_neg (by simpa using h)]
      have h' := firstErr_zero.1 h
      constructor
      · intro hn j hj
        rcases Nat.lt_succ_iff_lt_or_eq.1 hj with h1 | rfl
        · exact h' j h1
        · exact hn
      · intro hn
        exact hn n (Nat.lt_succ_self n)
    · rw [if_pos h]
      constructor
      · intro hn
        exact absurd hn h
      · intro hn
        exact firstErr_zero.2 fun j hj => hn j (Nat.lt_succ_of_lt hj)
theorem firstErr_stay {f : Nat → Int} {k : Nat} (h : firstErr f k ≠ 0) : ∀ {n : Nat}, k ≤ n → firstErr f n = firstErr f k
  | 0, hk => by obtain rfl : k = 0 := by omega
                rfl
  | n + 1, hk => by
    rcases Nat.lt_or_ge k (n + 1) with h1 | h1
    · have ih := firstErr_stay h (n := n) (by omega)
      show (if firstErr f n ≠ 0 then firstErr f n else f n) = firstErr f k
      rw [if_pos (by rw [ih]; exact h), ih]
    · obtain rfl : k = n + 1 := by omega
      rfl
theorem firstErr_at {f : Nat → Int} {k n : Nat} (hk : k < n) (h : ∀ j, j < k → f j = 0) (hne : f k ≠ 0) : firstErr f n = f k := by
  have h0 := firstErr_zero.2 h
  have h1 : firstErr f (k + 1) = f k := by
    show (if firstErr f k ≠ 0 then firstErr f k else f k) = f k
    rw [if_neg (by simpa using h0)]
  rw [firstErr_stay (k := k + 1) (by rw [h1]; exact hne) hk, h1]
structure Cl where
  task : Int
  method : Int
  arg : Int
  result : Int
  begin_ : Int
  end_ : Int
  deriving DecidableEq
def zCl : Cl := ⟨0, 0, 0, 0, 0, 0⟩
def inB (n lo hi : Int) : Bool := decide (lo ≤ n) && decide (n ≤ hi)
def rangeOk (x : Cl) : Bool := inB x.task 0 15 && inB x.method 0 99 && inB x.arg (-1099511627776) 1099511627776 && inB x.result (-1099511627776) 1099511627776
def timesBad (x : Cl) : Bool := decide (x.begin_ < 0) || decide (x.end_ < -1) || (x.end_ == -1 && x.result != 0)
def orderBad (i : Nat) (p x : Cl) : Bool := (decide (0 < i) && decide (x.begin_ ≤ p.begin_)) || (x.end_ != -1 && decide (x.end_ ≤ x.begin_))
/-- What is said of call number i, p the one ahead of it. -/
def callErr (i : Nat) (p x : Cl) : Int := if rangeOk x = false then 2 else if timesBad x then 2 else if orderBad i p x then 9 else 0
def callAt (l : List Cl) (i : Nat) : Int := callErr i (l.getD (i - 1) zCl) (l.getD i zCl)
def marksOf (x : Cl) : List Int := if x.end_ = -1 then [x.begin_] else [x.begin_, x.end_]
def marks (l : List Cl) : List Int := l.flatMap marksOf
/-- Each mark is taken once, and none is n or more. -/
def posF (n : Nat) : List Int → List Int → Bool
  | [], _ => true
  | k :: ks, d => if (n : Int) ≤ k ∨ k ∈ d then false else posF n ks (d ++ [k])
def sumTo (f : Nat → Nat) : Nat → Nat
  | 0 => 0
  | n + 1 => sumTo f n + f n
theorem sumTo_le {f : Nat → Nat} (h : ∀ v, f v ≤ 1) : ∀ n, sumTo f n ≤ n
  | 0 => Nat.le_refl _
  | n + 1 => by
    have := sumTo_le h n
    have := h n
    simp only [sumTo]
    omega
theorem sumTo_full {f : Nat → Nat} (h : ∀ v, f v ≤ 1) : ∀ n, sumTo f n = n → ∀ v, v < n → f v = 1
  | 0, _, v, hv => absurd hv (Nat.not_lt_zero _)
  | n + 1, hs, v, hv => by
    have h1 := sumTo_le h n
    have h2 := h n
    simp only [sumTo] at hs
    rcases Nat.lt_succ_iff_lt_or_eq.1 hv with h3 | rfl
    · exact sumTo_full h n (by omega) v h3
    · omega
theorem sumTo_ones {f : Nat → Nat} : ∀ n, (∀ v, v < n → f v = 1) → sumTo f n = n
  | 0, _ => rfl
  | n + 1, h => by
    simp only [sumTo]
    rw [sumTo_ones n fun v hv => h v (by omega), h n (by omega)]
theorem below_step (ks : List Int) (n : Nat) : (ks.filter (fun k => decide (k < ((n + 1 : Nat) : Int)))).length = (ks.filter (fun k => decide (k < (n : Int)))).length + ks.count (n : Int) := by
  induction ks with
  | nil => rfl
  | cons k ks ih =>
    rw [List.filter_cons, List.filter_cons, List.count_cons]
    by_cases h1 : k < (n : Int)
    · have h2 : k < ((n + 1 : Nat) : Int) := by omega
      have h3 : (k == (n : Int)) = false := by simp; omega
      simp only [h1, h2, h3, decide_true, if_true, List.length_cons, Bool.false_eq_true, if_false]
      omega
    · by_cases h4 : k = (n : Int)
      · have h2 : k < ((n + 1 : Nat) : Int) := by omega
        have h3 : (k == (n : Int)) = true := by simpa using h4
        simp only [h1, h2, h3, decide_true, decide_false, if_true, List.length_cons, Bool.false_eq_true, if_false]
        omega
      · have h2 : ¬ k < ((n + 1 : Nat) : Int) := by omega
        have h3 : (k == (n : Int)) = false := by simpa using h4
        simp only [h1, h2, h3, decide_false, Bool.false_eq_true, if_false]
        omega
theorem below_sum {ks : List Int} (h : ∀ k ∈ ks, 0 ≤ k) : ∀ n : Nat, (ks.filter (fun k => decide (k < (n : Int)))).length = sumTo (fun v => ks.count (v : Int)) n
  | 0 => by
    have : ks.filter (fun k => decide (k < ((0 : Nat) : Int))) = [] := by
      rw [List.filter_eq_nil_iff]
      intro k hk
      have := h k hk
      simp
      omega
    rw [this]
    rfl
  | n + 1 => by
    rw [below_step, below_sum h n]
    rfl
theorem posF_facts (n : Nat) : ∀ (ks d : List Int), posF n ks d = true → (∀ k ∈ ks, k < (n : Int)) ∧ (∀ v : Int, ks.count v ≤ 1) ∧ ∀ v ∈ d, ks.count v = 0
  | [], _, _ => by simp
  | k :: ks, d, h => by
    unfold posF at h
    by_cases hc : (n : Int) ≤ k ∨ k ∈ d
    · rw [if_pos hc] at h; cases h
    · rw [if_neg hc] at h
      obtain ⟨h1, h2, h3⟩ := posF_facts n ks (d ++ [k]) h
      have hk0 : ks.count k = 0 := h3 k (by simp)
      refine ⟨fun x hx => ?_, fun v => ?_, fun v hv => ?_⟩
      · rcases List.mem_cons.1 hx with rfl | hx
        · omega
        · exact h1 x hx
      · rw [List.count_cons]
        by_cases e : k = v
        · subst e; simp [hk0]
        · have := h2 v
          have e' : (k == v) = false := by simpa using e
          simp [e']
          exact this
      · rw [List.count_cons]
        have e : k ≠ v := fun e => hc (.inr (e ▸ hv))
        have e' : (k == v) = false := by simpa using e
        simp [e']
        exact h3 v (by simp [hv])
theorem posF_mk (n : Nat) : ∀ (ks d : List Int), (∀ k ∈ ks, k < (n : Int)) → (∀ k ∈ ks, (d ++ ks).count k = 1) → posF n ks d = true
  | [], _, _, _ => rfl
  | k :: ks, d, h1, h2 => by
    unfold posF
    have hk := h1 k (List.mem_cons_self ..)
    have hc := h2 k (List.mem_cons_self ..)
    have hd : k ∉ d := by
      intro hm
      have h3 : 1 ≤ d.count k := List.count_pos_iff.2 hm
      rw [List.count_append, List.count_cons_self] at hc
      omega
    rw [if_neg (by
      rintro (h | h)
      · omega
      · exact hd h)]
    refine posF_mk n ks (d ++ [k]) (fun x hx => h1 x (List.mem_cons_of_mem _ hx)) (fun x hx => ?_)
    have := h2 x (List.mem_cons_of_mem _ hx)
    rw [List.append_assoc]
    exact this
/-- The two ways to ask whether each position occurs once. -/
theorem pos_same {ks : List Int} (h : ∀ k ∈ ks, 0 ≤ k) : posF ks.length ks [] = true ↔ ∀ v : Nat, v < ks.length → ks.count (v : Int) = 1 := by
  have hs := below_sum h ks.length
  constructor
  · intro hp
    obtain ⟨h1, h2, -⟩ := posF_facts _ _ _ hp
    have h3 : ks.filter (fun k => decide (k < (ks.length : Int))) = ks := List.filter_eq_self.2 fun k hk => by simpa using h1 k hk
    rw [h3] at hs
    exact sumTo_full (f := fun v => ks.count (v : Int)) (fun v => h2 v) _ hs.symm
  · intro hv
    rw [sumTo_ones _ hv] at hs
    have h3 : ∀ k ∈ ks, k < (ks.length : Int) := by
      have := List.length_filter_eq_length_iff.1 hs
      intro k hk
      simpa using this k hk
    refine posF_mk _ _ _ h3 fun k hk => ?_
    have h4 := h k hk
    have h5 := h3 k hk
    have := hv k.toNat (by omega)
    rw [show ((k.toNat : Nat) : Int) = k from by omega] at this
    simpa using this
/-- The call of the same task ahead of number i. -/
def predOf (l : List Cl) (i : Nat) : Option Cl := ((l.take i).filter (fun y => y.task == (l.getD i zCl).task)).getLast?
def stAt (l : List Cl) (i : Nat) : Bool := match predOf l i with | none => true | some y => y.end_ != -1 && decide (y.end_ < (l.getD i zCl).begin_)
def stP (l : List Cl) : Prop := ∀ i, i < l.length → stAt l i = true
def stR (l : List Cl) : Prop := ∀ i k, i < k → k < l.length → (l.getD i zCl).task = (l.getD k zCl).task → (l.getD i zCl).end_ ≠ -1 ∧ (l.getD i zCl).end_ ≤ (l.getD k zCl).begin_
theorem getD_lt (l : List Cl) (k : Nat) (h : k < l.length) : l.getD k zCl = l[k] := by simp [List.getD_eq_getElem?_getD, h]
theorem take_snoc' (l : List Cl) (k : Nat) (h : k < l.length) : l.take (k + 1) = l.take k ++ [l[k]] := by
  rw [List.take_succ_eq_append_getElem h]
/-- The last one of a filtered beginning. -/
theorem last_filter {l : List Cl} {p : Cl → Bool} : ∀ {k : Nat}, k ≤ l.length → (((l.take k).filter p).getLast? = none ∧ ∀ j, j < k → p (l.getD j zCl) = false) ∨ ∃ j, j < k ∧ ((l.take k).filter p).getLast? = some (l.getD j zCl) ∧ p (l.getD j zCl) = true ∧ ∀ i, j < i → i < k → p (l.getD i zCl) = false
  | 0, _ => .inl ⟨by simp, fun j hj => absurd hj (Nat.not_lt_zero _)⟩
  | k + 1, hk => by
    rw [take_snoc' l k (by omega), List.filter_append]
    by_cases hp : p l[k] = true
    · refine .inr ⟨k, Nat.lt_succ_self k, ?_, ?_, fun i h1 h2 => by omega⟩
      · rw [List.filter_cons, if_pos hp, getD_lt l k (by omega)]
        simp
      · rw [getD_lt l k (by omega)]; exact hp
    · have hp' : p l[k] = false := by simpa using hp
      rw [List.filter_cons, if_neg hp]
      simp only [List.filter_nil, List.append_nil]
      rcases last_filter (l := l) (p := p) (k := k) (by omega) with ⟨h1, h2⟩ | ⟨j, h1, h2, h3, h4⟩
      · refine .inl ⟨h1, fun j hj => ?_⟩
        rcases Nat.lt_succ_iff_lt_or_eq.1 hj with h | rfl
        · exact h2 j h
        · rw [getD_lt l j (by omega)]; exact hp'
      · refine .inr ⟨j, by omega, h2, h3, fun i hi1 hi2 => ?_⟩
        rcases Nat.lt_succ_iff_lt_or_eq.1 hi2 with h | rfl
        · exact h4 i hi1 h
        · rw [getD_lt l i (by omega)]; exact hp'
def beginsUp (l : List Cl) : Prop := ∀ i, 0 < i → i < l.length → (l.getD (i - 1) zCl).begin_ < (l.getD i zCl).begin_
theorem begins_lt {l : List Cl} (h : beginsUp l) : ∀ {i k : Nat}, i < k → k < l.length → (l.getD i zCl).begin_ < (l.getD k zCl).begin_
  | i, 0, hik, _ => absurd hik (Nat.not_lt_zero _)
  | i, k + 1, hik, hk => by
    have h1 := h (k + 1) (by omega) hk
    simp only [Nat.add_sub_cancel] at h1
    rcases Nat.lt_succ_iff_lt_or_eq.1 hik with h2 | rfl
    · have := begins_lt h h2 (by omega)
      omega
    · exact h1
/-- Looking at the call of the same task just ahead is enough. -/
theorem st_same {l : List Cl} (hb : beginsUp l) (hne : ∀ i k, i < k → k < l.length → (l.getD i zCl).end_ ≠ -1 → (l.getD i zCl).end_ ≠ (l.getD k zCl).begin_) : stP l ↔ stR l := by
  constructor
  · intro h i k hik hk ht
    have key : ∀ n i k, k - i ≤ n → i < k → k < l.length → (l.getD i zCl).task = (l.getD k zCl).task → (l.getD i zCl).end_ ≠ -1 ∧ (l.getD i zCl).end_ < (l.getD k zCl).begin_ := by
      intro n
      induction n with
      | zero => intro i k h1 h2; omega
      | succ n ih =>
        intro i k h1 h2 h3 h4
        have hs := h k h3
        unfold stAt predOf at hs
        rcases last_filter (l := l) (p := fun y => y.task == (l.getD k zCl).task) (k := k) (by omega) with ⟨-, h6⟩ | ⟨j, h5, h6, h7, h8⟩
        · have := h6 i h2
          rw [h4] at this
          simp at this
        · rw [h6] at hs
          simp only [Bool.and_eq_true, bne_iff_ne, ne_eq, decide_eq_true_eq] at hs
          have hij : i ≤ j := by
            rcases Nat.lt_or_ge j i with h9 | h9
            · have := h8 i h9 h2
              rw [h4] at this
              simp at this
            · exact h9
          rcases Nat.lt_or_eq_of_le hij with h9 | rfl
          · have h7' : (l.getD j zCl).task = (l.getD k zCl).task := by simpa using h7
            have h10 := ih i j (by omega) h9 (by omega) (h4.trans h7'.symm)
            have h11 := begins_lt hb h5 h3
            exact ⟨h10.1, by omega⟩
          · exact hs
    have := key (k - i) i k (Nat.le_refl _) hik hk ht
    exact ⟨this.1, by omega⟩
  · intro h k hk
    unfold stAt predOf
    rcases last_filter (l := l) (p := fun y => y.task == (l.getD k zCl).task) (k := k) (by omega) with ⟨h6, -⟩ | ⟨j, h5, h6, h7, h8⟩
    · rw [h6]
    · rw [h6]
      have h7' : (l.getD j zCl).task = (l.getD k zCl).task := by simpa using h7
      have h9 := h j k h5 hk h7'
      have h10 := hne j k h5 hk h9.1
      simp only [Bool.and_eq_true, bne_iff_ne, ne_eq, decide_eq_true_eq]
      exact ⟨h9.1, by omega⟩
end Go.Proofs.YtgeclafcbgocgaaDoor

/- What precedes what in a history; the calls of each task: plain laws. -/
import Derived.Test.YtgeclafcbgocgaaDoorFil
import Derived.Test.YtgeclafcbgocgaaDoorHpe
namespace Go.Proofs.YtgeclafcbgocgaaDoor
theorem rowE_mem {l : List Cl} {i : Nat} {e : Int × Int} : ∀ {n : Nat}, e ∈ rowE l i n ↔ ∃ b : Nat, e = ((i : Int), (b : Int)) ∧ b < n ∧ precedes (l.getD i zCl) (l.getD b zCl) = true
  | 0 => by simp [rowE]
  | n + 1 => by
    unfold rowE
    by_cases h : precedes (l.getD i zCl) (l.getD n zCl) = true
    · rw [if_pos h, List.mem_append, List.mem_singleton, rowE_mem (n := n)]
      constructor
      · rintro (⟨b, h1, h2, h3⟩ | h1)
        · exact ⟨b, h1, by omega, h3⟩
        · exact ⟨n, h1, by omega, h⟩
      · rintro ⟨b, h1, h2, h3⟩
        rcases Nat.lt_succ_iff_lt_or_eq.1 h2 with h4 | rfl
        · exact .inl ⟨b, h1, h4, h3⟩
        · exact .inr h1
    · rw [if_neg h, rowE_mem (n := n)]
      constructor
      · rintro ⟨b, h1, h2, h3⟩
        exact ⟨b, h1, by omega, h3⟩
      · rintro ⟨b, h1, h2, h3⟩
        rcases Nat.lt_succ_iff_lt_or_eq.1 h2 with h4 | rfl
        · exact ⟨b, h1, h4, h3⟩
        · exact absurd h3 h
theorem befE_mem {l : List Cl} {e : Int × Int} : ∀ {n : Nat}, e ∈ befE l n ↔ ∃ a b : Nat, e = ((a : Int), (b : Int)) ∧ a < n ∧ b < l.length ∧ precedes (l.getD a zCl) (l.getD b zCl) = true
  | 0 => by simp [befE]
  | n + 1 => by
    unfold befE
    rw [List.mem_append, befE_mem (n := n), rowE_mem]
    constructor
    · rintro (⟨a, b, h1, h2, h3⟩ | ⟨b, h1, h2⟩)
      · exact ⟨a, b, h1, by omega, h3⟩
      · exact ⟨n, b, h1, by omega, h2⟩
    · rintro ⟨a, b, h1, h2, h3⟩
      rcases Nat.lt_succ_iff_lt_or_eq.1 h2 with h4 | rfl
      · exact .inl ⟨a, b, h1, h4, h3⟩
      · exact .inr ⟨b, h1, h3⟩
theorem rowE_nodup (l : List Cl) (i : Nat) : ∀ n, (rowE l i n).Nodup
  | 0 => by simp [rowE]
  | n + 1 => by
    unfold rowE
    split
    · rw [List.nodup_append]
      refine ⟨rowE_nodup l i n, by simp, ?_⟩
      intro a ha b hb e
      obtain ⟨k, h1, h2, -⟩ := rowE_mem.1 ha
      rw [List.mem_singleton] at hb
      rw [e, hb] at h1
      have := congrArg Prod.snd h1
      simp at this
      omega
    · exact rowE_nodup l i n
theorem befE_nodup (l : List Cl) : ∀ n, (befE l n).Nodup
  | 0 => by simp [befE]
  | n + 1 => by
    unfold befE
    rw [List.nodup_append]
    refine ⟨befE_nodup l n, rowE_nodup l n _, ?_⟩
    intro a ha b hb e
    obtain ⟨k, j, h1, h2, -⟩ := befE_mem.1 ha
    obtain ⟨m, h4, -⟩ := rowE_mem.1 hb
    rw [e, h4] at h1
    have := congrArg Prod.fst h1
    simp at this
    omega
theorem precedes_iff {x y : Cl} : precedes x y = true ↔ x.end_ ≠ -1 ∧ x.end_ < y.begin_ := by simp [precedes]
structure OrdOk (l : List Cl) (E : List (Int × Int)) : Prop where
  each : ∀ e ∈ E, ∃ a b : Nat, e = ((a : Int), (b : Int)) ∧ a < l.length ∧ b < l.length ∧ a ≠ b ∧ 0 ≤ (l.getD a zCl).end_
  two : ∀ x ∈ E, ∀ y ∈ E, (x.1, y.2) ∈ E ∨ (y.1, x.2) ∈ E
  same : ∀ i k : Nat, i < k → k < l.length → (l.getD i zCl).task = (l.getD k zCl).task → ((i : Int), (k : Int)) ∈ E
  nd : E.Nodup
  len : E.length ≤ 10000
theorem ord_ok {l : List Cl} (h : Hist l) : OrdOk l (befE l l.length) := by
  refine ⟨?_, ?_, ?_, befE_nodup l _, ?_⟩
  · intro e he
    obtain ⟨a, b, h1, h2, h3, h4⟩ := befE_mem.1 he
    obtain ⟨h5, h6⟩ := precedes_iff.1 h4
    have h7 := (h.tim _ (getD_mem h2)).2.1
    refine ⟨a, b, h1, h2, h3, ?_, by omega⟩
    rintro rfl
    have := h.be _ (getD_mem h2) h5
    omega
  · intro x hx y hy
    obtain ⟨a, b, rfl, h2, h3, h4⟩ := befE_mem.1 hx
    obtain ⟨c, d, rfl, g2, g3, g4⟩ := befE_mem.1 hy
    obtain ⟨h5, h6⟩ := precedes_iff.1 h4
    obtain ⟨g5, g6⟩ := precedes_iff.1 g4
    by_cases hlt : (l.getD a zCl).end_ < (l.getD d zCl).begin_
    · exact .inl (befE_mem.2 ⟨a, d, rfl, h2, g3, precedes_iff.2 ⟨h5, hlt⟩⟩)
    · exact .inr (befE_mem.2 ⟨c, b, rfl, g2, h3, precedes_iff.2 ⟨g5, by omega⟩⟩)
  · intro i k hik hk ht
    obtain ⟨h1, h2⟩ := h.lt hik hk ht
    exact befE_mem.2 ⟨i, k, rfl, by omega, hk, precedes_iff.2 ⟨h1, h2⟩⟩
  · have h1 := befE_le l l.length
    have h2 := h.len
    have := Nat.mul_le_mul h2 h2
    omega
/-! ### the calls of a task -/
theorem pair_begin {l : List Cl} (h : Hist l) : l.Pairwise (fun x y => x.begin_ < y.begin_ ∧ (x.task = y.task → x.end_ ≠ -1)) := by
  rw [List.pairwise_iff_getElem]
  intro i j hi hj hij
  have h1 := begins_lt h.up hij hj
  have h2 := h.st i j hij hj
  rw [getD_lt l i hi, getD_lt l j hj] at h1 h2
  exact ⟨h1, fun ht => (h2 ht).1⟩
def isOpen (x : Cl) : Bool := decide (x.end_ < 0)
def opens (l : List Cl) : Nat := (l.filter isOpen).length
structure TaskOk (l : List Cl) (t : Int) (m : List Cl) : Prop where
  mem : ∀ i (h : i < m.length), m[i].task = t ∧ m[i] ∈ l
  up : ∀ i (h : i + 1 < m.length), m[i].begin_ < m[i + 1].begin_ ∧ 0 ≤ m[i].end_
  len : m.length ≤ l.length
theorem task_ok {l : List Cl} (h : Hist l) (t : Int) : TaskOk l t (ofF l t) := by
  refine ⟨?_, ?_, ofF_le l t⟩
  · intro i hi
    have hm := List.getElem_mem hi
    obtain ⟨h1, h2⟩ := List.mem_filter.1 hm
    exact ⟨by simpa using h2, h1⟩
  · intro i hi
    have hp := (pair_begin h).filter (fun x => x.task == t)
    rw [List.pairwise_iff_getElem] at hp
    have h1 := hp i (i + 1) (by show i < (ofF l t).length; omega) hi (by omega)
    have h2 : (ofF l t)[i] ∈ ofF l t := List.getElem_mem (by omega)
    have h3 : (ofF l t)[i + 1] ∈ ofF l t := List.getElem_mem hi
    obtain ⟨h4, h5⟩ := List.mem_filter.1 h2
    obtain ⟨h6, h7⟩ := List.mem_filter.1 h3
    have h8 := h1.2 ((beq_iff_eq.1 h5).trans (beq_iff_eq.1 h7).symm)
    have h9 := (h.tim _ h4).2.1
    refine ⟨h1.1, ?_⟩
    have h10 : (ofF l t)[i].end_ ≠ -1 := h8
    omega
theorem ofF_sum : ∀ {l : List Cl}, (∀ x ∈ l, 0 ≤ x.task ∧ x.task < 16) → (p : Cl → Bool) → sumTo (fun t => ((ofF l (t : Int)).filter p).length) 16 = (l.filter p).length
  | [], _, p => by simp [sumTo, ofF]
  | x :: l, h, p => by
    have ih := ofF_sum (l := l) (fun y hy => h y (List.mem_cons_of_mem _ hy)) p
    obtain ⟨h1, h2⟩ := h x (List.mem_cons_self ..)
    obtain ⟨t, ht⟩ : ∃ t : Nat, x.task = (t : Int) := ⟨x.task.toNat, by omega⟩
    have ht16 : t < 16 := by omega
    have key : ∀ n : Nat, sumTo (fun u => ((ofF (x :: l) (u : Int)).filter p).length) n = sumTo (fun u => ((ofF l (u : Int)).filter p).length) n + if t < n ∧ p x = true then 1 else 0 := by
      intro n
      induction n with
      | zero => simp [sumTo]
      | succ n ihn =>
        simp only [sumTo]
        rw [ihn]
        have e : ((ofF (x :: l) (n : Int)).filter p).length = ((ofF l (n : Int)).filter p).length + if t = n ∧ p x = true then 1 else 0 := by
          unfold ofF
          by_cases e1 : t = n
          · have e2 : (x.task == (n : Int)) = true := by rw [ht, e1]; simp
            rw [List.filter_cons, if_pos e2, List.filter_cons]
            by_cases e3 : p x = true
            · rw [if_pos e3, if_pos ⟨e1, e3⟩]; rfl
            · rw [if_neg e3, if_neg (fun h => e3 h.2)]; rfl
          · have e2 : ¬ (x.task == (n : Int)) = true := by rw [ht]; simp; omega
            rw [List.filter_cons, if_neg e2, if_neg (fun h => e1 h.1)]; rfl
        rw [e]
        by_cases hp : p x = true
        · simp only [hp, and_true]
          split <;> split <;> split <;> omega
        · rw [if_neg (fun h => hp h.2), if_neg (fun h => hp h.2), if_neg (fun h => hp h.2)]
          omega
    rw [key, ih, List.filter_cons]
    by_cases hp : p x = true
    · rw [if_pos hp, if_pos ⟨ht16, hp⟩]; rfl
    · rw [if_neg hp, if_neg (fun h => hp h.2)]; rfl
theorem hist_task {l : List Cl} (h : Hist l) : ∀ x ∈ l, 0 ≤ x.task ∧ x.task < 16 := by
  intro x hx
  have := (rangeOk_mk.1 (h.rng x hx)).1
  omega
theorem tasks_total {l : List Cl} (h : Hist l) : sumTo (fun t => (ofF l (t : Int)).length) 16 = l.length := by
  have := ofF_sum (hist_task h) (fun _ => true)
  have e : ∀ m : List Cl, m.filter (fun _ => true) = m := fun m => List.filter_eq_self.2 fun _ _ => rfl
  simpa only [e] using this
theorem tasks_open {l : List Cl} (h : Hist l) : sumTo (fun t => opens (ofF l (t : Int))) 16 = opens l := ofF_sum (hist_task h) isOpen
theorem pendI_mem {l : List Cl} {v : Int} : ∀ {n : Nat}, v ∈ pendI l n ↔ ∃ k : Nat, v = (k : Int) ∧ k < n ∧ (l.getD k zCl).end_ = -1
  | 0 => by simp [pendI]
  | n + 1 => by
    unfold pendI
    by_cases h : ((l.getD n zCl).end_ == -1) = true
    · rw [if_pos h, List.mem_append, List.mem_singleton, pendI_mem (n := n)]
      constructor
      · rintro (⟨k, h1, h2, h3⟩ | h1)
        · exact ⟨k, h1, by omega, h3⟩
        · exact ⟨n, h1, by omega, by simpa using h⟩
      · rintro ⟨k, h1, h2, h3⟩
        rcases Nat.lt_succ_iff_lt_or_eq.1 h2 with h4 | rfl
        · exact .inl ⟨k, h1, h4, h3⟩
        · exact .inr h1
    · rw [if_neg h, pendI_mem (n := n)]
      constructor
      · rintro ⟨k, h1, h2, h3⟩
        exact ⟨k, h1, by omega, h3⟩
      · rintro ⟨k, h1, h2, h3⟩
        rcases Nat.lt_succ_iff_lt_or_eq.1 h2 with h4 | rfl
        · exact ⟨k, h1, h4, h3⟩
        · rw [h3] at h; exact absurd rfl h
theorem pendI_up (l : List Cl) : ∀ n, (pendI l n).Pairwise (· < ·)
  | 0 => by simp [pendI]
  | n + 1 => by
    unfold pendI
    split
    · rw [List.pairwise_append]
      refine ⟨pendI_up l n, by simp, ?_⟩
      intro a ha b hb
      obtain ⟨k, rfl, h2, -⟩ := pendI_mem.1 ha
      rw [List.mem_singleton] at hb
      subst hb
      omega
    · exact pendI_up l n
theorem pendI_len {l : List Cl} (h : ∀ x ∈ l, -1 ≤ x.end_) : ∀ n, n ≤ l.length → (pendI l n).length = opens (l.take n)
  | 0, _ => by simp [pendI, opens]
  | n + 1, hn => by
    have ih := pendI_len h n (by omega)
    unfold pendI opens
    rw [take_snoc l n (by omega), List.filter_append, List.length_append, getD_lt l n (by omega)]
    have h1 := h l[n] (List.getElem_mem (by omega))
    unfold opens at ih
    by_cases he : (l[n].end_ == -1) = true
    · have he' : l[n].end_ = -1 := by simpa using he
      have : isOpen l[n] = true := by unfold isOpen; rw [he']; decide
      rw [if_pos he, List.length_append, ih]
      simp [this]
    · have he' : ¬ l[n].end_ = -1 := by simpa using he
      have : isOpen l[n] = false := by unfold isOpen; rw [decide_eq_false]; omega
      rw [if_neg he, ih]
      simp [this]
structure PendOk (l : List Cl) (P : List Int) : Prop where
  each : ∀ v ∈ P, ∃ k : Nat, v = (k : Int) ∧ k < l.length ∧ (l.getD k zCl).end_ < 0
  up : ∀ i (h : i + 1 < P.length), P[i] < P[i + 1]
  cnt : P.length = opens l
theorem pend_ok {l : List Cl} (h : Hist l) : PendOk l (pendI l l.length) := by
  refine ⟨?_, ?_, ?_⟩
  · intro v hv
    obtain ⟨k, h1, h2, h3⟩ := pendI_mem.1 hv
    exact ⟨k, h1, h2, by omega⟩
  · intro i hi
    have := pendI_up l l.length
    rw [List.pairwise_iff_getElem] at this
    exact this i (i + 1) (by omega) hi (by omega)
  · have := pendI_len (fun x hx => (h.tim x hx).2.1) l.length (Nat.le_refl _)
    rwa [List.take_length] at this
end Go.Proofs.YtgeclafcbgocgaaDoor

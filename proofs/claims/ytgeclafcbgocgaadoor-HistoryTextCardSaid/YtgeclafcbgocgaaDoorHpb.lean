/- Histories: their text, and reading it. Plain laws. -/
import Derived.Test.YtgeclafcbgocgaaDoorHpa
import Derived.Test.YtgeclafcbgocgaaDoorPln
namespace Go.Proofs.YtgeclafcbgocgaaDoor
/-- The number with a text, if it lies in a range. -/
def numO (s : List UInt8) (lo hi : Int) : Option Int := if (numR s).2 = true ∧ lo ≤ (numR s).1 ∧ (numR s).1 ≤ hi then some (numR s).1 else none
theorem numO_some {s : List UInt8} {lo hi n : Int} (h : numO s lo hi = some n) : s = Lib.itoa n ∧ lo ≤ n ∧ n ≤ hi := by
  unfold numO at h
  by_cases hc : (numR s).2 = true ∧ lo ≤ (numR s).1 ∧ (numR s).1 ≤ hi
  · rw [if_pos hc] at h
    obtain ⟨h1, h2, h3⟩ := hc
    have h4 : (numR s).1 = n := Option.some.inj h
    rw [h4] at h2 h3
    exact ⟨numR_ok (s := s) (n := n) (by rw [← h4, ← h1]), h2, h3⟩
  · rw [if_neg hc] at h; cases h
theorem numO_itoa {n lo hi : Int} (h0 : -1099511627776 ≤ lo) (h1 : hi ≤ 1099511627776) (h2 : lo ≤ n) (h3 : n ≤ hi) : numO (Lib.itoa n) lo hi = some n := by
  unfold numO
  rw [numR_itoa n (by omega) (by omega)]
  exact if_pos ⟨rfl, h2, h3⟩
/-- A begin or an end of a call. -/
structure Mk where
  task : Int
  method : Int
  value : Int
  isEnd : Bool
  deriving DecidableEq
def wB : List UInt8 := [98, 101, 103, 105, 110]
def wE : List UInt8 := [101, 110, 100]
def mkText (m : Mk) : List UInt8 := if m.isEnd then Lib.itoa m.task ++ 32 :: (wE ++ 32 :: Lib.itoa m.value) else Lib.itoa m.task ++ 32 :: (wB ++ 32 :: (Lib.itoa m.method ++ 32 :: Lib.itoa m.value))
def mkOk (m : Mk) : Prop := 0 ≤ m.task ∧ m.task ≤ 15 ∧ 0 ≤ m.method ∧ m.method ≤ 99 ∧ -1099511627776 ≤ m.value ∧ m.value ≤ 1099511627776 ∧ (m.isEnd = true → m.method = 0)
/-- The mark of a line. -/
def readMark (a : List UInt8) : Option Mk :=
  match splitA 32 [] a with
  | [t, u, g] => if u = wE then (match numO t 0 15, numO g (-1099511627776) 1099511627776 with | some t, some g => some ⟨t, 0, g, true⟩ | _, _ => none) else none
  | [t, u, m, g] => if u = wB then (match numO t 0 15, numO m 0 99, numO g (-1099511627776) 1099511627776 with | some t, some m, some g => some ⟨t, m, g, false⟩ | _, _, _ => none) else none
  | _ => none
/-- The parts, joined again. -/
def joinA (c : UInt8) : List (List UInt8) → List UInt8
  | [] => []
  | [a] => a
  | a :: b :: l => a ++ c :: joinA c (b :: l)
theorem joinA_cons (c : UInt8) (a : List UInt8) (l : List (List UInt8)) (h : l ≠ []) : joinA c (a :: l) = a ++ c :: joinA c l := by
  cases l with
  | nil => exact absurd rfl h
  | cons b l => rfl
theorem splitA_join (c : UInt8) : ∀ (s p : List UInt8), joinA c (splitA c p s) = p ++ s
  | [], p => by simp [splitA, joinA]
  | x :: r, p => by
    rw [splitA]
    by_cases h : x = c
    · rw [if_pos h, joinA_cons _ _ _ (splitA_ne c r []), splitA_join c r []]
      simp [h]
    · rw [if_neg h, splitA_join c r (p ++ [x])]
      simp
theorem readMark_some {a : List UInt8} {m : Mk} (h : readMark a = some m) : a = mkText m ∧ mkOk m := by
  have hj := splitA_join 32 a []
  rw [List.nil_append] at hj
  unfold readMark at h
  split at h
  · rename_i t u g hs
    rw [hs] at hj
    by_cases hu : u = wE
    · rw [if_pos hu] at h
      cases h1 : numO t 0 15 with
      | none => rw [h1] at h; cases h
      | some t' =>
        cases h2 : numO g (-1099511627776) 1099511627776 with
        | none => rw [h1, h2] at h; cases h
        | some g' =>
          rw [h1, h2] at h
          obtain rfl := Option.some.inj h
          obtain ⟨e1, e2, e3⟩ := numO_some h1
          obtain ⟨e4, e5, e6⟩ := numO_some h2
          refine ⟨?_, e2, e3, Int.le_refl _, show (0 : Int) ≤ 99 by decide, e5, e6, fun _ => rfl⟩
          rw [← hj, e1, hu, e4]
          simp [joinA, mkText]
    · rw [if_neg hu] at h; cases h
  · rename_i t u m' g hs
    rw [hs] at hj
    by_cases hu : u = wB
    · rw [if_pos hu] at h
      cases h1 : numO t 0 15 with
      | none => rw [h1] at h; cases h
      | some t' =>
        cases h3 : numO m' 0 99 with
        | none => rw [h1, h3] at h; cases h
        | some m'' =>
          cases h2 : numO g (-1099511627776) 1099511627776 with
          | none => rw [h1, h3, h2] at h; cases h
          | some g' =>
            rw [h1, h3, h2] at h
            obtain rfl := Option.some.inj h
            obtain ⟨e1, e2, e3⟩ := numO_some h1
            obtain ⟨e4, e5, e6⟩ := numO_some h2
            obtain ⟨e7, e8, e9⟩ := numO_some h3
            refine ⟨?_, e2, e3, e8, e9, e5, e6, fun h => by cases h⟩
            rw [← hj, e1, hu, e4, e7]
            simp [joinA, mkText]
    · rw [if_neg hu] at h; cases h
  · cases h
theorem readMark_text {m : Mk} (h : mkOk m) : readMark (mkText m) = some m := by
  obtain ⟨t, me, v, e⟩ := m
  obtain ⟨h1, h2, h3, h4, h5, h6, h7⟩ := h
  simp only at h1 h2 h3 h4 h5 h6 h7
  have hi : ∀ n, (32 : UInt8) ∉ Lib.itoa n := fun n => itoa_no n 32 (by decide) (by decide)
  have nt := numO_itoa (n := t) (lo := 0) (hi := 15) (by decide) (by decide) h1 h2
  have nm := numO_itoa (n := me) (lo := 0) (hi := 99) (by decide) (by decide) h3 h4
  have nv := numO_itoa (n := v) (lo := -1099511627776) (hi := 1099511627776) (by decide) (by decide) h5 h6
  cases e with
  | true =>
    have hm : me = 0 := h7 rfl
    subst hm
    have hs : splitA 32 [] (mkText ⟨t, 0, v, true⟩) = [Lib.itoa t, wE, Lib.itoa v] := by
      show splitA 32 [] (Lib.itoa t ++ 32 :: (wE ++ 32 :: Lib.itoa v)) = _
      rw [splitA_hit _ _ _ (hi t), splitA_hit _ _ _ (show (32 : UInt8) ∉ wE by decide), splitA_none _ _ (hi v)]
      simp
    unfold readMark
    rw [hs]
    simp only [if_true, nt, nv]
  | false =>
    have hs : splitA 32 [] (mkText ⟨t, me, v, false⟩) = [Lib.itoa t, wB, Lib.itoa me, Lib.itoa v] := by
      show splitA 32 [] (Lib.itoa t ++ 32 :: (wB ++ 32 :: (Lib.itoa me ++ 32 :: Lib.itoa v))) = _
      rw [splitA_hit _ _ _ (hi t), splitA_hit _ _ _ (show (32 : UInt8) ∉ wB by decide), splitA_hit _ _ _ (hi me), splitA_none _ _ (hi v)]
      simp
    unfold readMark
    rw [hs]
    simp only [if_true, nt, nm, nv]
/-- The last call of a task that has not ended. -/
def openIx (c : List Cl) (t : Int) : Option Nat := (List.range c.length).reverse.find? (fun k => (c.getD k zCl).task == t && decide ((c.getD k zCl).end_ < 0))
/-- One mark more: the error, or the calls. -/
def bookStep (c : List Cl) (p : Nat) (m : Mk) : List Cl × Int :=
  match m.isEnd, openIx c m.task with
  | false, some _ => (c, 17)
  | true, none => (c, 17)
  | true, some i => (c.set i { c.getD i zCl with end_ := p, result := m.value }, 0)
  | false, none => if c.length = 100 then (c, 4) else (c ++ [⟨m.task, m.method, m.value, 0, p, -1⟩], 0)
theorem openIx_snoc (c : List Cl) (x : Cl) (t : Int) : openIx (c ++ [x]) t = if x.task == t && decide (x.end_ < 0) then some c.length else openIx c t := by
  unfold openIx
  rw [List.length_append, List.length_cons, List.length_nil, List.range_succ, List.reverse_append]
  simp only [List.reverse_cons, List.reverse_nil, List.nil_append, List.cons_append, List.find?_cons]
  have h1 : (c ++ [x]).getD c.length zCl = x := by simp [List.getD_eq_getElem?_getD]
  rw [h1]
  by_cases h : (x.task == t && decide (x.end_ < 0)) = true
  · simp [h]
  · have h' : (x.task == t && decide (x.end_ < 0)) = false := by simpa using h
    rw [h']
    simp only [Bool.false_eq_true, if_false]
    have key : ∀ (q : List Nat), (∀ k ∈ q, k < c.length) → q.find? (fun k => ((c ++ [x]).getD k zCl).task == t && decide (((c ++ [x]).getD k zCl).end_ < 0)) = q.find? (fun k => (c.getD k zCl).task == t && decide ((c.getD k zCl).end_ < 0)) := by
      intro q hq
      induction q with
      | nil => rfl
      | cons k q ih =>
        have hk := hq k (List.mem_cons_self ..)
        have e : (c ++ [x]).getD k zCl = c.getD k zCl := by simp [List.getD_eq_getElem?_getD, List.getElem?_append_left hk]
        rw [List.find?_cons, List.find?_cons, e, ih fun j hj => hq j (List.mem_cons_of_mem _ hj)]
    exact key _ fun k hk => by simpa using hk
theorem openIx_spec {c : List Cl} {t : Int} {i : Nat} (h : openIx c t = some i) : i < c.length ∧ (c.getD i zCl).task = t ∧ (c.getD i zCl).end_ < 0 := by
  unfold openIx at h
  have h1 := List.find?_some h
  have h2 := List.mem_of_find?_eq_some h
  simp only [Bool.and_eq_true, beq_iff_eq, decide_eq_true_eq] at h1
  exact ⟨by simpa using h2, h1.1, h1.2⟩
theorem openIx_none {c : List Cl} {t : Int} (h : openIx c t = none) : ∀ k, k < c.length → (c.getD k zCl).task = t → ¬ (c.getD k zCl).end_ < 0 := by
  intro k hk ht hlt
  unfold openIx at h
  rw [List.find?_eq_none] at h
  refine h k (by simpa using hk) ?_
  simp only [Bool.and_eq_true, beq_iff_eq, decide_eq_true_eq]
  exact ⟨ht, hlt⟩
end Go.Proofs.YtgeclafcbgocgaaDoor

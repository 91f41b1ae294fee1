/- Check and Lives as plain functions; the two checks agree; what a valid trace's spans hold. -/
import Derived.Test.YtofomblpbmpbaaaDoorText1
namespace Go.Proofs.YtofomblpbmpbaaaDoor
open Go.RowKit
/-- The first of n numbers that is not 0; else 0. -/
def firstErr (f : Nat → Int) : Nat → Int
  | 0 => 0
  | n + 1 => if firstErr f n ≠ 0 then firstErr f n else f n
theorem firstErr_zero {f : Nat → Int} : ∀ {n : Nat}, firstErr f n = 0 ↔ ∀ j, j < n → f j = 0
  | 0 => by simp [firstErr]
  | n + 1 => by
    unfold firstErr
    by_cases h : firstErr f n = 0
    · rw [if_neg (by simpa using h)]
      have h' := firstErr_zero.1 h
      constructor
      · intro hn j hj
        rcases Nat.lt_succ_iff_lt_or_eq.1 hj with h1 | rfl
        · exact h' j h1
        · exact hn
      · intro hn
        exact hn n (Nat.lt_succ_self n)
    · rw [if_pos h]
      constructor
      · intro hn
        exact absurd hn h
      · intro hn
        exact firstErr_zero.2 fun j hj => hn j (Nat.lt_succ_of_lt hj)
theorem firstErr_stay {f : Nat → Int} {k : Nat} (h : firstErr f k ≠ 0) : ∀ {n : Nat}, k ≤ n → firstErr f n = firstErr f k
  | 0, hk => by obtain rfl : k = 0 := by omega
                rfl
  | n + 1, hk => by
    rcases Nat.lt_or_ge k (n + 1) with h1 | h1
    · have ih := firstErr_stay h (n := n) (by omega)
      show (if firstErr f n ≠ 0 then firstErr f n else f n) = firstErr f k
      rw [if_pos (by rw [ih]; exact h), ih]
    · obtain rfl : k = n + 1 := by omega
      rfl
theorem firstErr_at {f : Nat → Int} {k n : Nat} (hk : k < n) (h : ∀ j, j < k → f j = 0) (hne : f k ≠ 0) : firstErr f n = f k := by
  have h0 := firstErr_zero.2 h
  have h1 : firstErr f (k + 1) = f k := by
    show (if firstErr f k ≠ 0 then firstErr f k else f k) = f k
    rw [if_neg (by simpa using h0)]
  rw [firstErr_stay (k := k + 1) (by rw [h1]; exact hne) hk, h1]
theorem firstErr_congr {f g : Nat → Int} : ∀ {n : Nat}, (∀ k, k < n → (∀ j, j < k → f j = 0) → f k = g k) → firstErr f n = firstErr g n
  | 0, _ => rfl
  | n + 1, h => by
    have ih := firstErr_congr (n := n) fun k hk => h k (Nat.lt_succ_of_lt hk)
    unfold firstErr
    rw [← ih]
    by_cases h0 : firstErr f n = 0
    · rw [if_neg (by simpa using h0), if_neg (by simpa using h0)]
      exact h n (Nat.lt_succ_self n) (firstErr_zero.1 h0)
    · rw [if_pos h0, if_pos h0]
theorem firstErr_same {f g : Nat → Int} {n : Nat} (h : ∀ k, k < n → f k = g k) : firstErr f n = firstErr g n := firstErr_congr fun k hk _ => h k hk
def zEv : Ev := ⟨0, 0, 0, 0, 0, 0, 0, 0⟩
/-- The event ahead of number k. -/
def prevE (l : List Ev) (k : Nat) : Ev := if k = 0 then zEv else l.getD (k - 1) zEv
def orderP (p e : Ev) : Bool := if e.step < p.step then false else if e.kind == 201 then (decide (p.step < e.step) && e.value == e.time && decide (p.time < e.time)) else e.time == p.time
def orderR (p e : Ev) : Bool := if e.step < p.step then false else if e.step == p.step then (e.time == p.time && e.kind != 201) else if e.kind == 201 then (e.value == e.time && decide (p.time < e.time)) else e.time == p.time
theorem order_same (p e : Ev) : orderP p e = orderR p e := by
  unfold orderP orderR
  by_cases h1 : e.step < p.step
  · rw [if_pos h1, if_pos h1]
  · rw [if_neg h1, if_neg h1]
    by_cases h2 : e.kind = 201 <;> by_cases h3 : e.step = p.step
    · simp [h2, h3]
    · have : p.step < e.step := by omega
      simp [h2, h3, this]
    · simp [h2, h3]
    · simp [h2, h3]
/-- What is known about the tasks. -/
structure St where
  started : Int
  ended : List Int
def st0 : St := ⟨0, List.replicate 16 0⟩
def atOf (s : St) (e : Ev) : Int := s.ended.getD e.task.toNat 0
def startedOf (s : St) (e : Ev) : Int := if e.kind = 204 then s.started + 1 else s.started
def lateB (s : St) (e : Ev) : Bool := if e.kind = 204 then decide (e.task ≠ s.started + 1) else decide (s.started < e.task)
def tailB (a : Int) (e : Ev) : Bool := (e.kind == 207 && e.step == a) || (e.kind == 212 && e.task == 0 && e.scope == 0)
def fitsB (s : St) (e : Ev) : Bool :=
  if e.kind = 201 then e.task == -1 else if e.task = -1 then e.kind == 207 else if lateB s e then false else if 0 < atOf s e then tailB (atOf s e) e else true
def noted (s : St) (e : Ev) : St :=
  if e.kind = 201 then s else if e.task = -1 then s else if lateB s e then ⟨startedOf s e, s.ended⟩ else if 0 < atOf s e then ⟨startedOf s e, s.ended⟩ else if e.kind = 205 then ⟨startedOf s e, s.ended.set e.task.toNat e.step⟩ else ⟨startedOf s e, s.ended⟩
def stOf (l : List Ev) : St := l.foldl noted st0
theorem stOf_snoc (l : List Ev) (e : Ev) : stOf (l ++ [e]) = noted (stOf l) e := by unfold stOf; rw [List.foldl_append]; rfl
theorem take_snoc' (l : List Ev) (k : Nat) (h : k < l.length) : l.take (k + 1) = l.take k ++ [l[k]] := by
  rw [List.take_succ_eq_append_getElem h]
theorem stOf_take (l : List Ev) (k : Nat) (h : k < l.length) : stOf (l.take (k + 1)) = noted (stOf (l.take k)) l[k] := by rw [take_snoc' l k h, stOf_snoc]
theorem noted_len (s : St) (e : Ev) : (noted s e).ended.length = s.ended.length := by 
  unfold noted
  repeat' split
  all_goals simp
theorem stOf_len (l : List Ev) : (stOf l).ended.length = 16 := by
  have key : ∀ (l : List Ev) (s : St), (l.foldl noted s).ended.length = s.ended.length := by
    intro l
    induction l with
    | nil => intro s; rfl
    | cons e l ih => intro s; exact (ih _).trans (noted_len s e)
  exact key l st0
/-- What Check says of number k, when all ahead of it is in order. -/
def okAt (l : List Ev) (k : Nat) : Int := if evErr (l.getD k zEv) ≠ 0 then 1 else if orderP (prevE l k) (l.getD k zEv) = false then 9 else if fitsB (stOf (l.take k)) (l.getD k zEv) = false then 17 else 0
def chk (l : List Ev) : Int := firstErr (okAt l) l.length
def startsR (l : List Ev) : Nat := (l.filter (fun e => e.kind == 204)).length
def mineR (l : List Ev) (t : Int) : Bool := l.any (fun e => e.kind == 204 && e.task == t)
def endedR (l : List Ev) (t : Int) : Int := l.foldl (fun a e => if e.kind == 205 && e.task == t then e.step else a) 0
def allowedR (l : List Ev) (e : Ev) : Bool :=
  if (e.kind == 201 || e.task == -1) then (e.task == -1 && (e.kind == 201 || e.kind == 207)) else if e.kind = 204 then e.task == (startsR l : Int) + 1 else
    if 0 < endedR l e.task then (e.kind == 207 && e.step == endedR l e.task) || (e.task == 0 && e.kind == 212 && e.scope == 0) else (e.task == 0 || mineR l e.task)
def okAtR (l : List Ev) (k : Nat) : Int := if evErr (l.getD k zEv) ≠ 0 then 1 else if orderR (prevE l k) (l.getD k zEv) = false then 9 else if allowedR (l.take k) (l.getD k zEv) = false then 17 else 0
def chkR (l : List Ev) : Int := firstErr (okAtR l) l.length
theorem startsR_snoc (l : List Ev) (e : Ev) : startsR (l ++ [e]) = if e.kind == 204 then startsR l + 1 else startsR l := by
  unfold startsR
  rw [List.filter_append, List.length_append]
  by_cases h : e.kind = 204 <;> simp [h]
theorem mineR_snoc (l : List Ev) (e : Ev) (t : Int) : mineR (l ++ [e]) t = (mineR l t || (e.kind == 204 && e.task == t)) := by simp [mineR]
theorem endedR_snoc (l : List Ev) (e : Ev) (t : Int) : endedR (l ++ [e]) t = if e.kind == 205 && e.task == t then e.step else endedR l t := by
  unfold endedR
  rw [List.foldl_append]
  rfl
theorem endedR_keep (l : List Ev) (e : Ev) (t : Int) (h : ¬ e.kind = 205) : endedR (l ++ [e]) t = endedR l t := by
  rw [endedR_snoc, if_neg (by simp [h])]
structure Inv (l : List Ev) (s : St) : Prop where
  len : s.ended.length = 16
  starts : s.started = startsR l
  most : s.started ≤ 15
  mine : ∀ t, mineR l t = true ↔ 1 ≤ t ∧ t ≤ s.started
  ends : ∀ t : Nat, t < 16 → s.ended.getD t 0 = endedR l t
  late : ∀ t : Nat, 0 < s.ended.getD t 0 → (t : Int) ≤ s.started
theorem inv0 : Inv [] st0 := by
  refine ⟨rfl, rfl, by decide, fun t => ?_, fun t ht => ?_, fun t ht => ?_⟩
  · have : mineR [] t = false := rfl
    rw [this]
    constructor
    · intro h; cases h
    · intro ⟨h1, h2⟩
      have h3 : st0.started = 0 := rfl
      omega
  · have : ∀ t, t < 16 → st0.ended.getD t 0 = 0 := by decide
    rw [this t ht]
    rfl
  · rcases Nat.lt_or_ge t 16 with h | h
    · have : ∀ t, t < 16 → st0.ended.getD t 0 = 0 := by decide
      rw [this t h] at ht
      omega
    · rw [List.getD_eq_getElem?_getD, List.getElem?_eq_none (by simpa [st0] using h)] at ht
      simp at ht
theorem getD_set_self (l : List Int) (t : Nat) (x : Int) (h : t < l.length) : (l.set t x).getD t 0 = x := by simp [List.getD_eq_getElem?_getD, h]
theorem getD_set_other (l : List Int) (t u : Nat) (x : Int) (h : u ≠ t) : (l.set u x).getD t 0 = l.getD t 0 := by simp [List.getD_eq_getElem?_getD, List.getElem?_set_ne h]
theorem inv_step {l : List Ev} {s : St} {e : Ev} (h : Inv l s) (hv : evErr e = 0) (hf : fitsB s e = true) : Inv (l ++ [e]) (noted s e) := by
  have O := evOk_of hv
  have hk0 := O.k0
  have hk1 := O.k1
  have hs0 := O.s0
  unfold fitsB at hf
  by_cases h1 : e.kind = 201
  · have hn : noted s e = s := by unfold noted; rw [if_pos h1]
    rw [hn]
    refine ⟨h.len, ?_, h.most, fun t => ?_, fun t ht => ?_, h.late⟩
    · rw [startsR_snoc]; simp [h1, h.starts]
    · rw [mineR_snoc]; simp [h1, h.mine]
    · rw [endedR_keep _ _ _ (by omega)]; exact h.ends t ht
  · rw [if_neg h1] at hf
    by_cases h2 : e.task = -1
    · have hn : noted s e = s := by unfold noted; rw [if_neg h1, if_pos h2]
      rw [if_pos h2] at hf
      have h3 : e.kind = 207 := by simpa using hf
      rw [hn]
      refine ⟨h.len, ?_, h.most, fun t => ?_, fun t ht => ?_, h.late⟩
      · rw [startsR_snoc]; simp [h3, h.starts]
      · rw [mineR_snoc]; simp [h3, h.mine]
      · rw [endedR_keep _ _ _ (by omega)]; exact h.ends t ht
    · rw [if_neg h2] at hf
      have ht0 : 0 ≤ e.task := by omega
      obtain ⟨T, hT⟩ : ∃ T : Nat, e.task = T := ⟨e.task.toNat, by omega⟩
      have hT16 : T < 16 := by omega
      have hat : atOf s e = s.ended.getD T 0 := by unfold atOf; rw [hT]; rfl
      by_cases h3 : lateB s e = true
      · rw [if_pos h3] at hf; cases hf
      · rw [if_neg h3] at hf
        have hn1 : noted s e = if 0 < atOf s e then ⟨startedOf s e, s.ended⟩ else if e.kind = 205 then ⟨startedOf s e, s.ended.set e.task.toNat e.step⟩ else ⟨startedOf s e, s.ended⟩ := by
          unfold noted
          rw [if_neg h1, if_neg h2, if_neg h3]
        unfold lateB at h3
        by_cases h4 : e.kind = 204
        · rw [if_pos h4] at h3
          have h5 : e.task = s.started + 1 := by simpa using h3
          have hz : ¬ 0 < atOf s e := by
            intro hz
            rw [if_pos hz] at hf
            unfold tailB at hf
            simp [h4] at hf
          have hn : noted s e = ⟨s.started + 1, s.ended⟩ := by
            rw [hn1, if_neg hz, if_neg (by omega)]
            unfold startedOf
            rw [if_pos h4]
          rw [hn]
          refine ⟨h.len, ?_, ?_, fun t => ?_, fun t ht => ?_, fun t ht => ?_⟩
          · rw [startsR_snoc]; simp [h4, h.starts]
          · show s.started + 1 ≤ 15; omega
          · rw [mineR_snoc]
            simp only [h4, Bool.or_eq_true, h.mine, beq_self_eq_true, Bool.true_and, beq_iff_eq]
            have := h.starts
            constructor
            · rintro (h6 | h6) <;> omega
            · intro h6; omega
          · rw [endedR_keep _ _ _ (by omega)]; exact h.ends t ht
          · have := h.late t ht
            show (t : Int) ≤ s.started + 1
            omega
        · rw [if_neg h4] at h3
          have h5 : e.task ≤ s.started := by simpa using h3
          have hso : startedOf s e = s.started := by unfold startedOf; rw [if_neg h4]
          by_cases h6 : 0 < atOf s e
          · have hn : noted s e = ⟨s.started, s.ended⟩ := by rw [hn1, if_pos h6, hso]
            rw [hn]
            rw [if_pos h6] at hf
            have h7 : ¬ e.kind = 205 := by
              intro h7
              unfold tailB at hf
              simp [h7] at hf
            refine ⟨h.len, ?_, h.most, fun t => ?_, fun t ht => ?_, h.late⟩
            · rw [startsR_snoc]; simp [h4, h.starts]
            · rw [mineR_snoc]; simp [h4, h.mine]
            · rw [endedR_keep _ _ _ h7]; exact h.ends t ht
          · by_cases h7 : e.kind = 205
            · have hn : noted s e = ⟨s.started, s.ended.set T e.step⟩ := by
                rw [hn1, if_neg h6, if_pos h7, hso, hT]
                rfl
              rw [hn]
              refine ⟨?_, ?_, h.most, fun t => ?_, fun t ht => ?_, fun t ht => ?_⟩
              · simpa using h.len
              · rw [startsR_snoc]; simp [h4, h.starts]
              · rw [mineR_snoc]; simp [h4, h.mine]
              · rw [endedR_snoc]
                by_cases h8 : T = t
                · subst h8
                  rw [if_pos (by simp [h7, hT])]
                  exact getD_set_self _ _ _ (by rw [h.len]; exact hT16)
                · rw [if_neg (by rw [hT]; simp [h7]; omega)]
                  exact (getD_set_other _ _ _ _ h8).trans (h.ends t ht)
              · by_cases h8 : T = t
                · subst h8
                  show (T : Int) ≤ s.started
                  omega
                · have : 0 < (s.ended.set T e.step).getD t 0 := ht
                  rw [getD_set_other _ _ _ _ h8] at this
                  exact h.late t this
            · have hn : noted s e = ⟨s.started, s.ended⟩ := by rw [hn1, if_neg h6, if_neg h7, hso]
              rw [hn]
              refine ⟨h.len, ?_, h.most, fun t => ?_, fun t ht => ?_, h.late⟩
              · rw [startsR_snoc]; simp [h4, h.starts]
              · rw [mineR_snoc]; simp [h4, h.mine]
              · rw [endedR_keep _ _ _ h7]; exact h.ends t ht
theorem allowed_same {l : List Ev} {s : St} {e : Ev} (h : Inv l s) (hv : evErr e = 0) : fitsB s e = allowedR l e := by
  have O := evOk_of hv
  have hk0 := O.k0
  have hk1 := O.k1
  unfold fitsB allowedR
  by_cases h1 : e.kind = 201
  · simp [h1]
  · by_cases h2 : e.task = -1
    · rw [if_neg h1, if_pos h2, if_pos (show (e.kind == 201 || e.task == -1) = true by simp [h2])]
      simp [h1, h2]
    · rw [if_neg h1, if_neg h2, if_neg (show ¬ (e.kind == 201 || e.task == -1) = true by simp [h1, h2])]
      obtain ⟨T, hT⟩ : ∃ T : Nat, e.task = T := ⟨e.task.toNat, by omega⟩
      have hat : atOf s e = endedR l e.task := by
        unfold atOf
        rw [hT]
        exact h.ends T (by omega)
      have hla := h.late T
      have hat' : atOf s e = s.ended.getD T 0 := by unfold atOf; rw [hT]; rfl
      rw [← hat'] at hla
      have hlt : lateB s e = if e.kind = 204 then decide (e.task ≠ s.started + 1) else decide (s.started < e.task) := rfl
      rw [hlt]
      by_cases h4 : e.kind = 204
      · rw [if_pos h4, if_pos h4]
        by_cases h5 : e.task = s.started + 1
        · have : ¬ 0 < atOf s e := fun hz => by have := hla hz; omega
          rw [if_neg (by simpa using h5), if_neg this, h5, h.starts]
          simp
        · rw [if_pos (by simpa using h5)]
          have := h.starts
          symm
          simp
          omega
      · rw [if_neg h4, if_neg h4]
        by_cases h5 : s.started < e.task
        · rw [if_pos (by simpa using h5)]
          have h6 : ¬ 0 < atOf s e := fun hz => by have := hla hz; omega
          rw [if_neg (by rw [← hat]; exact h6)]
          have h7 : mineR l e.task = false := by
            rw [Bool.eq_false_iff]
            intro h8
            have := (h.mine _).1 h8
            omega
          have := h.starts
          have h8 : ¬ e.task = 0 := by omega
          simp [h7, h8]
        · rw [if_neg (by simpa using h5), hat]
          by_cases h6 : 0 < endedR l e.task
          · rw [if_pos h6, if_pos h6]
            unfold tailB
            rw [Bool.and_comm (e.kind == 212) (e.task == 0)]
          · rw [if_neg h6, if_neg h6]
            by_cases h8 : e.task = 0
            · simp [h8]
            · have := (h.mine e.task).2 ⟨by omega, by omega⟩
              simp [this]
theorem okAt_zero {l : List Ev} {k : Nat} (h : okAt l k = 0) : evErr (l.getD k zEv) = 0 ∧ orderP (prevE l k) (l.getD k zEv) = true ∧ fitsB (stOf (l.take k)) (l.getD k zEv) = true := by
  unfold okAt at h
  by_cases h1 : evErr (l.getD k zEv) = 0
  · rw [if_neg (by simpa using h1)] at h
    by_cases h2 : orderP (prevE l k) (l.getD k zEv) = false
    · rw [if_pos h2] at h; cases h
    · rw [if_neg h2] at h
      by_cases h3 : fitsB (stOf (l.take k)) (l.getD k zEv) = false
      · rw [if_pos h3] at h; cases h
      · exact ⟨h1, by simpa using h2, by simpa using h3⟩
  · rw [if_pos h1] at h; cases h
theorem getD_lt (l : List Ev) (k : Nat) (h : k < l.length) : l.getD k zEv = l[k] := by simp [List.getD_eq_getElem?_getD, h]
theorem inv_take (l : List Ev) : ∀ k, k ≤ l.length → (∀ j, j < k → okAt l j = 0) → Inv (l.take k) (stOf (l.take k))
  | 0, _, _ => by simpa [stOf] using inv0
  | k + 1, hk, h => by
    have ih := inv_take l k (by omega) fun j hj => h j (by omega)
    obtain ⟨h1, -, h3⟩ := okAt_zero (h k (by omega))
    rw [getD_lt l k (by omega)] at h1 h3
    rw [stOf_take l k (by omega), take_snoc' l k (by omega)]
    exact inv_step ih h1 h3
theorem chk_same (l : List Ev) : chk l = chkR l := by
  refine firstErr_congr fun k hk h => ?_
  have hi := inv_take l k (Nat.le_of_lt hk) h
  unfold okAt okAtR
  rw [order_same]
  by_cases h1 : evErr (l.getD k zEv) = 0
  · rw [allowed_same hi h1]
  · rw [if_pos h1, if_pos h1]
theorem okAt_take (l : List Ev) (m k : Nat) (h : k < m) : okAt (l.take m) k = okAt l k := by
  have h1 : (l.take m).getD k zEv = l.getD k zEv := by simp [List.getD_eq_getElem?_getD, List.getElem?_take, h]
  have h2 : prevE (l.take m) k = prevE l k := by
    unfold prevE
    by_cases h0 : k = 0
    · simp [h0]
    · rw [if_neg h0, if_neg h0]
      simp [List.getD_eq_getElem?_getD, List.getElem?_take, show k - 1 < m by omega]
  unfold okAt
  rw [h1, h2, List.take_take, Nat.min_eq_left (Nat.le_of_lt h)]
theorem chk_take {l : List Ev} (h : chk l = 0) (m : Nat) : chk (l.take m) = 0 := by
  refine firstErr_zero.2 fun j hj => ?_
  rw [List.length_take] at hj
  rw [okAt_take l m j (by omega)]
  exact firstErr_zero.1 h j (by omega)
end Go.Proofs.YtofomblpbmpbaaaDoor

/- The plain law of Parse: what the two parsers read off the text of a valid event is that event. -/
import Derived.Test.YtofomblpbmpbaaaDoorPln
import Derived.Test.YtofomblpbmpbaaaDoorText3
namespace Go.Proofs.YtofomblpbmpbaaaDoor
def nmO : List UInt8 := [111, 98, 106, 101, 99, 116]
def nmS : List UInt8 := [115, 99, 111, 112, 101]
def nmV : List UInt8 := [118, 97, 108, 117, 101]
def nmR : List UInt8 := [111, 116, 104, 101, 114]
/-- The kind with a word; 0 if there is none. -/
def kindOf (s : List UInt8) : Int := ((wordsL.find? (fun p => p.2 == s)).map (·.1)).getD 0
theorem kindOf_word (k : Int) (h : wordOf k ≠ []) : kindOf (wordOf k) = k := by
  have hall : ∀ p ∈ wordsL, kindOf p.2 = p.1 := by decide
  unfold wordOf at h ⊢
  cases hf : wordsL.find? (fun p => p.1 == k) with
  | none => rw [hf] at h; exact absurd rfl h
  | some p =>
    have hm := List.mem_of_find?_eq_some hf
    have hk : p.1 = k := by simpa using List.find?_some hf
    simp only [Option.map_some, Option.getD_some]
    rw [hall p hm, hk]
theorem word_bytes (k : Int) : ∀ x ∈ wordOf k, 97 ≤ x.toNat := by
  have hall : ∀ p ∈ wordsL, ∀ x ∈ p.2, 97 ≤ x.toNat := by decide
  unfold wordOf
  cases hf : wordsL.find? (fun p => p.1 == k) with
  | none => simp
  | some p => exact hall p (List.mem_of_find?_eq_some hf)
theorem word_no32 (k : Int) : (32 : UInt8) ∉ wordOf k := fun h => by have := word_bytes k 32 h; revert this; decide
/-- What Atoi reads. -/
def atoiO (s : List UInt8) : Option Int := match Lib.atoiAll s with | .ok n => some n | _ => none
/-- One field of the program's Parse. -/
def pStep (st : Option Ev) (part : List UInt8) : Option Ev :=
  let c := Lib.cut part [61]
  match st, atoiO c.2.1 with
  | some e, some n => if c.1 = nmO then some { e with object := n } else if c.1 = nmS then some { e with scope := n } else if c.1 = nmV then some { e with value := n } else if c.1 = nmR then some { e with other := n } else none
  | _, _ => none
def pHead (ps : List (List UInt8)) : Option Ev :=
  match atoiO (ps.getD 0 []), atoiO (ps.getD 1 []), atoiO (ps.getD 2 []) with
  | some a, some b, some c => some { step := a, time := b, task := c, kind := kindOf (ps.getD 3 []), object := -1, scope := -1, value := 0, other := -1 }
  | _, _, _ => none
def pParse (s : List UInt8) : Option Ev :=
  let ps := splitA 32 [] s
  if ps.length < 4 then none else (ps.drop 4).foldl pStep (pHead ps)
def zeroEv : Ev := ⟨0, 0, 0, 0, 0, 0, 0, 0⟩
/-- What Parse returns. -/
def parseR (o : Option Ev) (s : List UInt8) : Ev × Int :=
  match o with
  | some e => if evErr e = 0 ∧ textB e = s then (e, 0) else (zeroEv, 3)
  | none => (zeroEv, 3)
theorem parse_eq {o o' : Option Ev} {s : List UInt8} (h : ∀ e, evErr e = 0 → s = textB e → o = some e) (h' : ∀ e, evErr e = 0 → s = textB e → o' = some e) : parseR o s = parseR o' s := by
  by_cases hex : ∃ e, evErr e = 0 ∧ textB e = s
  · obtain ⟨e, h1, h2⟩ := hex
    rw [h e h1 h2.symm, h' e h1 h2.symm]
  · have : ∀ o : Option Ev, parseR o s = (zeroEv, 3) := by
      intro o
      cases o with
      | none => rfl
      | some e => exact if_neg fun hc => hex ⟨e, hc⟩
    rw [this, this]
/-! ### the text of an event, split -/
def optF (name : List UInt8) (n missing : Int) : List (List UInt8) := if n = missing then [] else [name ++ 61 :: Lib.itoa n]
def fieldsOf (e : Ev) : List (List UInt8) := optF nmO e.object (-1) ++ optF nmS e.scope (-1) ++ optF nmV e.value 0 ++ optF nmR e.other (-1)
def gather (l : List (List UInt8)) : List UInt8 := l.flatMap (fun x => 32 :: x)
theorem fieldB_gather (name : List UInt8) (n missing : Int) : fieldB name n missing = gather (optF name n missing) := by
  unfold fieldB optF gather
  split <;> simp
theorem textB_gather (e : Ev) : textB e = Lib.itoa e.step ++ gather ([Lib.itoa e.time, Lib.itoa e.task, wordOf e.kind] ++ fieldsOf e) := by
  unfold textB fieldsOf
  have h1 := fieldB_gather nmO e.object (-1)
  have h2 := fieldB_gather nmS e.scope (-1)
  have h3 := fieldB_gather nmV e.value 0
  have h4 := fieldB_gather nmR e.other (-1)
  unfold nmO at h1; unfold nmS at h2; unfold nmV at h3; unfold nmR at h4
  rw [h1, h2, h3, h4]
  simp [gather, nmO, nmS, nmV, nmR]
theorem split_gather : ∀ (l : List (List UInt8)) (a p : List UInt8), (32 : UInt8) ∉ a → (∀ x ∈ l, (32 : UInt8) ∉ x) → splitA 32 p (a ++ gather l) = (p ++ a) :: l
  | [], a, p, ha, _ => by
    have : gather [] = [] := rfl
    rw [this, List.append_nil, splitA_none a p ha]
  | x :: l, a, p, ha, hl => by
    have : gather (x :: l) = 32 :: (x ++ gather l) := by simp [gather]
    rw [this, splitA_hit a _ p ha, split_gather l x [] (hl x (by simp)) (fun y hy => hl y (by simp [hy]))]
    rfl
theorem optF_no (name : List UInt8) (n missing : Int) (hn : (32 : UInt8) ∉ name) : ∀ x ∈ optF name n missing, (32 : UInt8) ∉ x := by
  intro x hx
  unfold optF at hx
  split at hx
  · cases hx
  · simp only [List.mem_singleton] at hx
    subst hx
    simp only [List.mem_append, List.mem_cons, not_or]
    exact ⟨hn, by decide, itoa_no n 32 (by decide) (by decide)⟩
theorem split_text (e : Ev) : splitA 32 [] (textB e) = [Lib.itoa e.step, Lib.itoa e.time, Lib.itoa e.task, wordOf e.kind] ++ fieldsOf e := by
  rw [textB_gather, split_gather]
  · rfl
  · exact itoa_no _ 32 (by decide) (by decide)
  · intro x hx
    simp only [List.mem_append, List.mem_cons, List.not_mem_nil, or_false] at hx
    rcases hx with (rfl | rfl | rfl) | hx
    · exact itoa_no _ 32 (by decide) (by decide)
    · exact itoa_no _ 32 (by decide) (by decide)
    · exact word_no32 _
    · unfold fieldsOf at hx
      simp only [List.mem_append] at hx
      rcases hx with ((hx | hx) | hx) | hx
      · exact optF_no _ _ _ (by decide) x hx
      · exact optF_no _ _ _ (by decide) x hx
      · exact optF_no _ _ _ (by decide) x hx
      · exact optF_no _ _ _ (by decide) x hx
theorem atoiO_itoa (n : Int) (h0 : -1099511627776 ≤ n) (h1 : n ≤ 1099511627776) : atoiO (Lib.itoa n) = some n := by
  unfold atoiO
  rw [atoiAll_itoa n (by omega) (by omega)]
theorem pStep_at (e : Ev) (name : List UInt8) (n : Int) (hn : (61 : UInt8) ∉ name) (h0 : -1099511627776 ≤ n) (h1 : n ≤ 1099511627776) :
    pStep (some e) (name ++ 61 :: Lib.itoa n) = if name = nmO then some { e with object := n } else if name = nmS then some { e with scope := n } else if name = nmV then some { e with value := n } else if name = nmR then some { e with other := n } else none := by
  unfold pStep
  rw [cut_hit name _ hn]
  simp only [atoiO_itoa n h0 h1]
theorem fold_opt (f : Option Ev → List UInt8 → Option Ev) (upd : Ev → Int → Ev) (name : List UInt8) (missing n : Int) (e : Ev) (hmiss : n = missing → upd e n = e) (hstep : f (some e) (name ++ 61 :: Lib.itoa n) = some (upd e n)) :
    (optF name n missing).foldl f (some e) = some (upd e n) := by
  unfold optF
  split
  · rename_i h
    simp [hmiss h]
  · simpa using hstep
theorem pParse_text (e : Ev) (h : evErr e = 0) : pParse (textB e) = some e := by
  have O := evOk_of h
  have b0 := O.s0; have b1 := O.s1; have b2 := O.t0; have b3 := O.t1; have b4 := O.k0; have b5 := O.k1; have b6 := O.o0; have b7 := O.o1
  have b8 := O.c0; have b9 := O.c1; have b10 := O.v0; have b11 := O.v1; have b12 := O.r0; have b13 := O.r1
  unfold pParse
  rw [split_text]
  simp only [List.length_append, List.length_cons, List.length_nil]
  rw [if_neg (by omega)]
  have hd : ([Lib.itoa e.step, Lib.itoa e.time, Lib.itoa e.task, wordOf e.kind] ++ fieldsOf e).drop 4 = fieldsOf e := rfl
  have hh : pHead ([Lib.itoa e.step, Lib.itoa e.time, Lib.itoa e.task, wordOf e.kind] ++ fieldsOf e) = some { step := e.step, time := e.time, task := e.task, kind := e.kind, object := -1, scope := -1, value := 0, other := -1 } := by
    unfold pHead
    simp only [List.cons_append, List.getD_cons_zero, List.getD_cons_succ]
    rw [atoiO_itoa _ (by omega) (by omega), atoiO_itoa _ (by omega) (by omega), atoiO_itoa _ (by omega) (by omega), kindOf_word _ O.word]
  rw [hd, hh]
  unfold fieldsOf
  rw [List.foldl_append, List.foldl_append, List.foldl_append]
  rw [fold_opt pStep (fun e n => { e with object := n }) nmO (-1) e.object _ (fun h => by simp [h]) (by rw [pStep_at _ _ _ (by decide) (by omega) (by omega), if_pos rfl])]
  rw [fold_opt pStep (fun e n => { e with scope := n }) nmS (-1) e.scope _ (fun h => by simp [h]) (by rw [pStep_at _ _ _ (by decide) (by omega) (by omega), if_neg (by decide), if_pos rfl])]
  rw [fold_opt pStep (fun e n => { e with value := n }) nmV 0 e.value _ (fun h => by simp [h]) (by rw [pStep_at _ _ _ (by decide) (by omega) (by omega), if_neg (by decide), if_neg (by decide), if_pos rfl])]
  rw [fold_opt pStep (fun e n => { e with other := n }) nmR (-1) e.other _ (fun h => by simp [h]) (by rw [pStep_at _ _ _ (by decide) (by omega) (by omega), if_neg (by decide), if_neg (by decide), if_neg (by decide), if_pos rfl])]
/-! ### the reference -/
/-- The number behind a word and an equals sign. -/
def behindR (s word : List UInt8) : Int × Bool := if s.length < word.length + 1 then (0, false) else if s.take (word.length + 1) = word ++ [61] then numR (s.drop (word.length + 1)) else (0, false)
def rSet (e : Ev) (r : Int × Bool) (upd : Ev → Int → Ev) : Ev := if r.2 then upd e r.1 else e
def rStep (e : Ev) (part : List UInt8) : Ev :=
  rSet (rSet (rSet (rSet e (behindR part nmO) fun e n => { e with object := n }) (behindR part nmS) fun e n => { e with scope := n }) (behindR part nmV) fun e n => { e with value := n }) (behindR part nmR) fun e n => { e with other := n }
/-- The kind as the reference finds it: the last of 1 .. 212. -/
def kindR (w : List UInt8) : Nat → Int
  | 0 => 0
  | k + 1 => if wordOf ((k : Int) + 1) ≠ [] ∧ wordOf ((k : Int) + 1) = w then (k : Int) + 1 else kindR w k
def rParse (s : List UInt8) : Option Ev :=
  let ps := splitA 32 [] s
  if 200 < s.length ∨ ps.length < 4 then none else
  let a := numR (ps.getD 0 []); let b := numR (ps.getD 1 []); let c := numR (ps.getD 2 [])
  if a.2 = false ∨ b.2 = false ∨ c.2 = false then none else
  some ((ps.drop 4).foldl rStep { step := a.1, time := b.1, task := c.1, kind := kindR (ps.getD 3 []) 212, object := -1, scope := -1, value := 0, other := -1 })
theorem kindR_word (k : Nat) (hk : wordOf (k : Int) ≠ []) (h1 : 1 ≤ k) : ∀ m, k ≤ m → kindR (wordOf (k : Int)) m = k := by
  intro m
  induction m with
  | zero => intro h; omega
  | succ m ih =>
    intro h
    unfold kindR
    split
    · rename_i hc
      have e1 := kindOf_word _ hc.1
      rw [hc.2, kindOf_word _ hk] at e1
      omega
    · rename_i hc
      rcases Nat.lt_or_ge m k with hlt | hge
      · have : m + 1 = k := by omega
        exfalso
        apply hc
        have e : ((m : Int) + 1) = (k : Int) := by omega
        rw [e]
        exact ⟨hk, rfl⟩
      · exact ih hge
theorem word_range (k : Int) (h : wordOf k ≠ []) : 1 ≤ k ∧ k ≤ 212 := by
  have hall : ∀ p ∈ wordsL, 1 ≤ p.1 ∧ p.1 ≤ 212 := by decide
  unfold wordOf at h
  cases hf : wordsL.find? (fun p => p.1 == k) with
  | none => rw [hf] at h; exact absurd rfl h
  | some p =>
    have := hall p (List.mem_of_find?_eq_some hf)
    have hk : p.1 = k := by simpa using List.find?_some hf
    rwa [hk] at this
theorem behindR_at (name word : List UInt8) (n : Int) (h0 : -1099511627776 ≤ n) (h1 : n ≤ 1099511627776) (hn : (61 : UInt8) ∉ name) (hw : (61 : UInt8) ∉ word) :
    behindR (name ++ 61 :: Lib.itoa n) word = if name = word then (n, true) else ((behindR (name ++ 61 :: Lib.itoa n) word).1, false) := by
  split
  · rename_i h
    subst h
    unfold behindR
    rw [if_neg (by simp), if_pos (by rw [List.take_append, List.take_of_length_le (by omega)]; simp)]
    have : (name ++ 61 :: Lib.itoa n).drop (name.length + 1) = Lib.itoa n := by rw [List.drop_append]; simp
    rw [this, numR_itoa n h0 h1]
  · rename_i h
    have : (behindR (name ++ 61 :: Lib.itoa n) word).2 = false := by
      unfold behindR
      split
      · rfl
      · split
        · rename_i h2 h3
          exfalso
          apply h
          have hpre : (name ++ 61 :: Lib.itoa n) = (word ++ [61]) ++ (name ++ 61 :: Lib.itoa n).drop (word.length + 1) := by
            rw [← h3, List.take_append_drop]
          have e1 := cut_hit name (Lib.itoa n) hn
          have e2 := cut_hit word ((name ++ 61 :: Lib.itoa n).drop (word.length + 1)) hw
          rw [hpre, List.append_assoc] at e1
          simp only [List.cons_append, List.nil_append] at e1
          rw [e1] at e2
          exact (Prod.mk.inj e2).1
        · rfl
    exact Prod.ext rfl this
theorem rStep_at (e : Ev) (name : List UInt8) (n : Int) (hn : (61 : UInt8) ∉ name) (h0 : -1099511627776 ≤ n) (h1 : n ≤ 1099511627776) :
    rStep e (name ++ 61 :: Lib.itoa n) = (if name = nmO then { e with object := n } else if name = nmS then { e with scope := n } else if name = nmV then { e with value := n } else if name = nmR then { e with other := n } else e) := by
  have hO := behindR_at name nmO n h0 h1 hn (by decide)
  have hS := behindR_at name nmS n h0 h1 hn (by decide)
  have hV := behindR_at name nmV n h0 h1 hn (by decide)
  have hR := behindR_at name nmR n h0 h1 hn (by decide)
  unfold rStep
  rw [hO, hS, hV, hR]
  have d1 : nmO ≠ nmS := by decide
  have d2 : nmO ≠ nmV := by decide
  have d3 : nmO ≠ nmR := by decide
  have d4 : nmS ≠ nmV := by decide
  have d5 : nmS ≠ nmR := by decide
  have d6 : nmV ≠ nmR := by decide
  by_cases c1 : name = nmO
  · subst c1; simp [rSet, d1, d2, d3]
  · by_cases c2 : name = nmS
    · subst c2; simp [rSet, d1.symm, d4, d5]
    · by_cases c3 : name = nmV
      · subst c3; simp [rSet, d2.symm, d4.symm, d6]
      · by_cases c4 : name = nmR
        · subst c4; simp [rSet, d3.symm, d5.symm, d6.symm]
        · simp [rSet, c1, c2, c3, c4]
theorem fold_optR (upd : Ev → Int → Ev) (name : List UInt8) (missing n : Int) (e : Ev) (hmiss : n = missing → upd e n = e) (hstep : rStep e (name ++ 61 :: Lib.itoa n) = upd e n) :
    (optF name n missing).foldl rStep e = upd e n := by
  unfold optF
  split
  · rename_i h
    simp [hmiss h]
  · simpa using hstep
theorem dec_len_pow (k : Nat) (n : Int) (h0 : 0 ≤ n) (h : n < 10 ^ k) (hk : 1 ≤ k) : (Lib.itoa n).length ≤ k := by
  obtain ⟨m, rfl⟩ : ∃ m : Nat, n = (m : Int) := ⟨n.toNat, by omega⟩
  rw [Lib.itoa_nonneg]
  exact dec_len_lt k m (by exact_mod_cast h) hk
theorem text_len (e : Ev) (h : evErr e = 0) : (textB e).length ≤ 200 := by
  have O := evOk_of h
  have b0 := O.s0; have b1 := O.s1; have b2 := O.t0; have b3 := O.t1; have b4 := O.k0; have b5 := O.k1; have b6 := O.o0; have b7 := O.o1
  have b8 := O.c0; have b9 := O.c1; have b10 := O.v0; have b11 := O.v1; have b12 := O.r0; have b13 := O.r1
  have l0 := Lib.itoa_length_le e.step (by omega) (by omega)
  have l1 := Lib.itoa_length_le e.time (by omega) (by omega)
  have l2 := Lib.itoa_length_le e.task (by omega) (by omega)
  have l3 := word_len e.kind
  have f1 := len_fieldB [111, 98, 106, 101, 99, 116] e.object (-1) (by omega) (by omega)
  have f2 := len_fieldB [115, 99, 111, 112, 101] e.scope (-1) (by omega) (by omega)
  have f3 := len_fieldB [118, 97, 108, 117, 101] e.value 0 (by omega) (by omega)
  have f4 := len_fieldB [111, 116, 104, 101, 114] e.other (-1) (by omega) (by omega)
  unfold textB
  simp only [List.length_append, List.length_cons, List.length_nil] at *
  omega
theorem rParse_text (e : Ev) (h : evErr e = 0) : rParse (textB e) = some e := by
  have O := evOk_of h
  have b0 := O.s0; have b1 := O.s1; have b2 := O.t0; have b3 := O.t1; have b4 := O.k0; have b5 := O.k1; have b6 := O.o0; have b7 := O.o1
  have b8 := O.c0; have b9 := O.c1; have b10 := O.v0; have b11 := O.v1; have b12 := O.r0; have b13 := O.r1
  have hlen := text_len e h
  unfold rParse
  rw [split_text]
  simp only [List.length_append, List.length_cons, List.length_nil]
  rw [if_neg (by omega)]
  have hd : ([Lib.itoa e.step, Lib.itoa e.time, Lib.itoa e.task, wordOf e.kind] ++ fieldsOf e).drop 4 = fieldsOf e := rfl
  simp only [List.cons_append, List.getD_cons_zero, List.getD_cons_succ] at hd ⊢
  rw [numR_itoa _ (by omega) (by omega), numR_itoa _ (by omega) (by omega), numR_itoa _ (by omega) (by omega)]
  simp only [Bool.true_eq_false, or_self, if_false, hd]
  have hw := word_range _ O.word
  obtain ⟨k, hk⟩ : ∃ k : Nat, e.kind = (k : Int) := ⟨e.kind.toNat, by omega⟩
  have hkk : kindR (wordOf e.kind) 212 = e.kind := by
    rw [hk]
    exact kindR_word k (by rw [← hk]; exact O.word) (by omega) 212 (by omega)
  rw [hkk]
  unfold fieldsOf
  rw [List.foldl_append, List.foldl_append, List.foldl_append]
  rw [fold_optR (fun e n => { e with object := n }) nmO (-1) e.object _ (fun h => by simp [h]) (by rw [rStep_at _ _ _ (by decide) (by omega) (by omega), if_pos rfl])]
  rw [fold_optR (fun e n => { e with scope := n }) nmS (-1) e.scope _ (fun h => by simp [h]) (by rw [rStep_at _ _ _ (by decide) (by omega) (by omega), if_neg (by decide), if_pos rfl])]
  rw [fold_optR (fun e n => { e with value := n }) nmV 0 e.value _ (fun h => by simp [h]) (by rw [rStep_at _ _ _ (by decide) (by omega) (by omega), if_neg (by decide), if_neg (by decide), if_pos rfl])]
  rw [fold_optR (fun e n => { e with other := n }) nmR (-1) e.other _ (fun h => by simp [h]) (by rw [rStep_at _ _ _ (by decide) (by omega) (by omega), if_neg (by decide), if_neg (by decide), if_neg (by decide), if_pos rfl])]
theorem parsers_agree (s : List UInt8) : parseR (pParse s) s = parseR (rParse s) s :=
  parse_eq (fun e h hs => by rw [hs]; exact pParse_text e h) (fun e h hs => by rw [hs]; exact rParse_text e h)
end Go.Proofs.YtofomblpbmpbaaaDoor

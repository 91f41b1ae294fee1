/- A region whose order Go leaves open, read in the order of its text: each operation yields one value in every world that meets S, and leaves a world that meets S: then so does the region, whatever order is drawn. Over any program. -/
import Derived.Test.YtgeclafcbgocgaaDoorProg
import Derived.WalkKit
import Derived.Orders
namespace Go.Proofs.YtgeclafcbgocgaaDoor
open Go.RowKit
def DetPost (S : World → Prop) (o : Oper) (a : Act) (v : Value) : Exit → Act → World → Prop := fun e a' w' => e = .normal ∧ a' = a.put o.dst v ∧ S w'
def DetOp (P : Program) (ops : Array Oper) (S : World → Prop) (o : Oper) (a : Act) (v : Value) : Prop := ∀ w, S w → wpList P ops (DetPost S o a v) [o] a w
/-- The operations in the order of the text, the world forgotten behind each of them but for S. -/
def wpDet (P : Program) (ops : Array Oper) (S : World → Prop) (Q : Exit → Act → World → Prop) : List Oper → Act → Prop
  | [], a => ∀ w, S w → Q .normal a w
  | o :: rest, a => ∃ v, DetOp P ops S o a v ∧ wpDet P ops S Q rest (a.put o.dst v)
def writesTo (ops : Array Oper) (j t : Nat) : Bool := ((ops[j]?).bind (·.dst)) == some t
def noSelect (o : Oper) : Bool := match o.op with | .select .. => false | _ => true
def detOk (ops : Array Oper) : Bool :=
  (List.range ops.size).all fun i => match ops[i]? with
    | none => true
    | some o => noSelect o && o.after.all (fun e => !Region.binds .any e || decide (e.on < i)) &&
        (o.looksAt ops).all (fun t => (List.range ops.size).all fun j => !writesTo ops j t || o.after.any fun e => Region.binds .any e && e.on == j) &&
        (match o.dst with | none => true | some d => (List.range ops.size).all fun j => j == i || !writesTo ops j d)
section
variable {P : Program} {ops : Array Oper} {S : World → Prop} {Q : Exit → Act → World → Prop}
structure DetAt (ops : Array Oper) (i : Nat) (o : Oper) : Prop where
  sel : ∀ cs b, o.op ≠ .select cs b
  early : ∀ e ∈ o.after, Region.binds .any e = true → e.on < i
  deps : ∀ t ∈ o.looksAt ops, ∀ j, j < ops.size → writesTo ops j t = true → ∃ e ∈ o.after, Region.binds .any e = true ∧ e.on = j
  alone : ∀ d, o.dst = some d → ∀ j, j < ops.size → writesTo ops j d = true → j = i
theorem detOk_at (h : detOk ops = true) {i : Nat} {o : Oper} (hi : ops[i]? = some o) : DetAt ops i o := by
  have hlt : i < ops.size := (Array.getElem?_eq_some_iff.1 hi).1
  have := List.all_eq_true.1 h i (List.mem_range.2 hlt)
  rw [hi] at this
  simp only [Bool.and_eq_true] at this
  obtain ⟨⟨⟨h1, h2⟩, h3⟩, h4⟩ := this
  refine ⟨fun cs b e => ?_, fun e he hb => ?_, fun t ht j hj hw => ?_, fun d hd j hj hw => ?_⟩
  · unfold noSelect at h1
    rw [e] at h1
    cases h1
  · have := Array.all_eq_true'.1 h2 e he
    rw [hb] at this
    simpa using this
  · have := List.all_eq_true.1 (List.all_eq_true.1 h3 t ht) j (List.mem_range.2 hj)
    rw [hw] at this
    simp only [Bool.not_true, Bool.false_or] at this
    obtain ⟨e, he, hb⟩ := Array.any_eq_true'.1 this
    simp only [Bool.and_eq_true, beq_iff_eq] at hb
    exact ⟨e, he, hb.1, hb.2⟩
  · rw [hd] at h4
    have := List.all_eq_true.1 h4 j (List.mem_range.2 hj)
    rw [hw] at this
    simpa using this
/-- What holds of the frame when the operations D have been carried out. -/
structure DetInv (ops : Array Oper) (a0 : Act) (v : Nat → Value) (D : Nat → Bool) (a : Act) : Prop where
  defers : a.defers = a0.defers
  size : a.tmps.size = a0.tmps.size
  done : ∀ t, t < a0.tmps.size → ∀ j, j < ops.size → writesTo ops j t = true → D j = true → a.tmps[t]? = some (v j)
  rest : ∀ t, (∀ j, j < ops.size → writesTo ops j t = true → D j = false) → a.tmps[t]? = a0.tmps[t]?
theorem put_size (a : Act) (d : Option Tmp) (v : Value) : (a.put d v).tmps.size = a.tmps.size := by cases d <;> simp [Act.put]
theorem put_defers (a : Act) (d : Option Tmp) (v : Value) : (a.put d v).defers = a.defers := by cases d <;> simp [Act.put]
theorem put_get (a : Act) (d : Tmp) (v : Value) (t : Nat) : (a.put (some d) v).tmps[t]? = if t = d then (if t < a.tmps.size then some v else none) else a.tmps[t]? := by
  simp only [Act.put, Array.getElem?_setIfInBounds]
  by_cases h : d = t
  · subst h; simp
  · rw [if_neg h, if_neg (fun e => h e.symm)]
theorem DetInv.put (hok : detOk ops = true) {a0 a : Act} {v : Nat → Value} {D : Nat → Bool} (h : DetInv ops a0 v D a) {i : Nat} {o : Oper} (hi : ops[i]? = some o) (hn : D i = false) :
    DetInv ops a0 v (fun j => D j || j == i) (a.put o.dst (v i)) := by
  have A := detOk_at hok hi
  have hlt : i < ops.size := (Array.getElem?_eq_some_iff.1 hi).1
  refine ⟨(put_defers _ _ _).trans h.defers, (put_size _ _ _).trans h.size, fun t ht j hj hw hD => ?_, fun t ht => ?_⟩
  · cases hd : o.dst with
    | none =>
      have hne : j ≠ i := by
        rintro rfl
        unfold writesTo at hw
        rw [hi] at hw
        simp [hd] at hw
      have hDj : D j = true := by simpa [hne] using hD
      exact h.done t ht j hj hw hDj
    | some d =>
      rw [put_get]
      by_cases e : t = d
      · subst e
        have : j = i := A.alone t hd j hj hw
        subst this
        rw [if_pos rfl, if_pos (by rw [h.size]; exact ht)]
      · rw [if_neg e]
        have hne : j ≠ i := by
          rintro rfl
          unfold writesTo at hw
          rw [hi] at hw
          simp [hd] at hw
          exact e hw.symm
        have hDj : D j = true := by simpa [hne] using hD
        exact h.done t ht j hj hw hDj
  · cases hd : o.dst with
    | none =>
      refine h.rest t fun j hj hw => ?_
      have := ht j hj hw
      simp only [Bool.or_eq_false_iff] at this
      exact this.1
    | some d =>
      rw [put_get]
      have hne : t ≠ d := by
        rintro rfl
        have := ht i hlt (by unfold writesTo; rw [hi]; simp [hd])
        simp at this
      rw [if_neg hne]
      refine h.rest t fun j hj hw => ?_
      have := ht j hj hw
      simp only [Bool.or_eq_false_iff] at this
      exact this.1
theorem put_eq_of {a c : Act} (hs : a.tmps.size = c.tmps.size) {d : Option Tmp} {u v : Value} (h : c.put d u = c.put d v) : a.put d u = a.put d v := by
  cases d with
  | none => rfl
  | some d =>
    by_cases hd : d < c.tmps.size
    · have h1 : (c.put (some d) u).tmps[d]? = (c.put (some d) v).tmps[d]? := by rw [h]
      rw [put_get, put_get, if_pos rfl, if_pos rfl, if_pos hd, if_pos hd] at h1
      rw [Option.some.inj h1]
    · have hd' : ¬ d < a.tmps.size := by rw [hs]; exact hd
      simp only [Act.put, Array.setIfInBounds, dif_neg hd']
theorem wanted_agree (o : Oper) {a c : Act} (hg : ∀ t ∈ o.looksAt ops, a.tmps[t]? = c.tmps[t]?) : Region.wanted o (yielded ops a.tmps) = Region.wanted o (yielded ops c.tmps) := by
  unfold Region.wanted
  cases hgd : o.guard with
  | none => rfl
  | some gw =>
    obtain ⟨g, want⟩ := gw
    have : yielded ops a.tmps g = yielded ops c.tmps g := by
      unfold yielded
      cases ht : (ops[g]?).bind (·.dst) with
      | none => rfl
      | some t =>
        have := hg t (by unfold Oper.looksAt; rw [hgd]; simp [ht])
        simp [this]
    simp only [this]
theorem det_transfer {o : Oper} {a c : Act} {v : Value} {w : World} {i : Nat} (hi : ops[i]? = some o) (hsel : ∀ cs b, o.op ≠ .select cs b) (hs : a.tmps.size = c.tmps.size)
    (hg : ∀ t ∈ o.looksAt ops, a.tmps[t]? = c.tmps[t]?) (h : wpList P ops (DetPost S o c v) [o] c w) : wpOp P ops Q i (fun a' w' => a' = a.put o.dst v ∧ S w') a w := by
  have he : execOp a.eval o = execOp c.eval o := execOp_congr o hsel fun x hx => by
    cases x with
    | tmp t =>
      have := hg t (List.mem_append_left _ (List.mem_filterMap.2 ⟨.tmp t, by simpa using hx, rfl⟩))
      simp [Act.eval, Array.getD_eq_getD_getElem?, this]
    | _ => rfl
  unfold wpOp
  simp only [hi]
  unfold wpList at h
  rw [wanted_agree o hg]
  split
  · rename_i hw
    rw [if_pos hw] at h
    rcases h with h | ⟨_, a1, w1, h⟩
    · refine .inl ?_
      unfold Oper.wp at *
      rw [he]
      generalize (execOp c.eval o).run P w = r at *
      cases r with
      | ok n w' =>
        cases n <;> simp only [Oper.upon, wpList, DetPost, true_and] at h ⊢
        case value u => exact ⟨put_eq_of hs h.1, h.2⟩
        case skip => exact ⟨put_eq_of hs h.1, h.2⟩
        case defer d =>
          have h1 : ({ c with defers := d :: c.defers } : Act).defers = c.defers := by
            have := congrArg Act.defers h.1
            rwa [put_defers, put_defers] at this
          have := congrArg List.length h1
          simp at this
        case enter f args =>
          refine Calls.mono h fun e w'' he => ?_
          cases e with
          | returned u => exact ⟨put_eq_of hs he.1, he.2⟩
          | panicked ch => exact absurd he.1 (by simp)
          | outgrown => obtain ⟨a2, w2, h2, _⟩ := he; cases h2
        case row row args => exact Rows.mono h fun u w'' he => ⟨put_eq_of hs he.1, he.2⟩
      | halt x w' =>
        cases x <;> simp only [Oper.upon, DetPost] at h
        case panic u => exact absurd h.1 (by simp)
    · exact absurd h.1 (by simp)
  · rename_i hw
    rw [if_neg hw] at h
    simp only [wpList, DetPost, true_and] at h
    exact ⟨put_eq_of hs h.1, h.2⟩
def canon (ops : Array Oper) (a0 : Act) (v : Nat → Value) : Nat → Act
  | 0 => a0
  | k + 1 => match ops[k]? with
    | some o => (canon ops a0 v k).put o.dst (v k)
    | none => canon ops a0 v k
theorem canon_inv (hok : detOk ops = true) (a0 : Act) (v : Nat → Value) : ∀ k, k ≤ ops.size → DetInv ops a0 v (fun j => decide (j < k)) (canon ops a0 v k)
  | 0, _ => ⟨rfl, rfl, fun t _ j _ _ hD => by simp at hD, fun t _ => rfl⟩
  | k + 1, hk => by
    have ih := canon_inv hok a0 v k (by omega)
    have hget : ops[k]? = some ops[k] := Array.getElem?_eq_getElem (by omega)
    have := ih.put hok hget (by simp)
    have hc : canon ops a0 v (k + 1) = (canon ops a0 v k).put ops[k].dst (v k) := by
      show (match ops[k]? with | some o => (canon ops a0 v k).put o.dst (v k) | none => canon ops a0 v k) = _
      rw [hget]
    rw [hc]
    have hf : (fun j => decide (j < k) || j == k) = fun j => decide (j < k + 1) := by
      funext j
      by_cases h1 : j < k
      · simp [h1, show j < k + 1 from by omega]
      · by_cases h2 : j = k
        · simp [h2]
        · simp [h1, h2, show ¬ j < k + 1 from by omega]
    rwa [hf] at this
theorem det_canon (a0 : Act) : ∀ (l : List Oper) (k : Nat) (a : Act) (v : Nat → Value), (∀ j, l[j]? = ops[k + j]?) → canon ops a0 v k = a → wpDet P ops S Q l a →
    ∃ v' : Nat → Value, (∀ j, j < k → v' j = v j) ∧ (∀ j o, k ≤ j → ops[j]? = some o → DetOp P ops S o (canon ops a0 v' j) (v' j)) ∧ (∀ w, S w → Q .normal (canon ops a0 v' (k + l.length)) w) := by
  intro l
  induction l with
  | nil =>
    intro k a v hl ha h
    refine ⟨v, fun _ _ => rfl, fun j o hj ho => ?_, fun w hw => by simpa [ha] using h w hw⟩
    have hnone : ops[j]? = none := by
      have := hl (j - k)
      rw [show k + (j - k) = j from by omega] at this
      simpa using this.symm
    rw [hnone] at ho
    cases ho
  | cons o rest ih =>
    intro k a v hl ha h
    obtain ⟨u, hu, hrest⟩ := h
    have hk : ops[k]? = some o := by simpa using (hl 0).symm
    have same : ∀ (v1 v2 : Nat → Value) (m : Nat), (∀ j, j < m → v1 j = v2 j) → canon ops a0 v1 m = canon ops a0 v2 m := by
      intro v1 v2 m hm
      induction m with
      | zero => rfl
      | succ m ihm =>
        simp only [canon]
        rw [ihm fun j hj => hm j (by omega)]
        cases ops[m]? with
        | none => rfl
        | some o' => simp only [hm m (by omega)]
    let v2 : Nat → Value := fun j => if j = k then u else v j
    have hv2 : ∀ j, j < k → v2 j = v j := fun j hj => if_neg (by omega)
    have hck : canon ops a0 v2 k = a := (same v2 v k hv2).trans ha
    have hck1 : canon ops a0 v2 (k + 1) = a.put o.dst u := by
      show (match ops[k]? with | some o => (canon ops a0 v2 k).put o.dst (v2 k) | none => canon ops a0 v2 k) = _
      rw [hk, hck]
      simp [v2]
    obtain ⟨v', h1, h2, h3⟩ := ih (k + 1) _ v2 (fun j => by have := hl (j + 1); simpa [Nat.add_assoc, Nat.add_comm 1 j] using this) hck1 hrest
    refine ⟨v', fun j hj => (h1 j (by omega)).trans (hv2 j hj), fun j o' hj ho => ?_, fun w hw => by have := h3 w hw; rwa [show k + 1 + rest.length = k + (o :: rest).length from by simp; omega] at this⟩
    by_cases e : j = k
    · subst e
      rw [hk] at ho
      cases ho
      rw [same v' v2 j fun m hm => h1 m (by omega), hck, h1 j (by omega)]
      simp only [v2, if_true]
      exact hu
    · exact h2 j o' (by omega) ho
theorem det_any (hok : detOk ops = true) (a0 : Act) (v : Nat → Value) (hop : ∀ j o, ops[j]? = some o → DetOp P ops S o (canon ops a0 v j) (v j)) (hend : ∀ w, S w → Q .normal (canon ops a0 v ops.size) w) :
    ∀ (fuel : Nat) (listed : Array Bool) (a : Act) (w : World), listed.size = ops.size → ((List.range ops.size).filter fun i => !listed.getD i true).length ≤ fuel → DetInv ops a0 v (fun j => listed.getD j true) a → S w →
      wpAny P .any ops Q fuel listed a w := by
  have hall : ∀ (listed : Array Bool) (a : Act) (w : World), listed.size = ops.size → DetInv ops a0 v (fun j => listed.getD j true) a → S w → (∀ i, i < ops.size → listed.getD i true = true) → Q .normal a w := by
    intro listed a w hsz hinv hS hl
    have hc := canon_inv hok a0 v ops.size (Nat.le_refl _)
    have : a = canon ops a0 v ops.size := by
      have ht : a.tmps = (canon ops a0 v ops.size).tmps := by
        apply Array.ext_getElem?
        intro t
        by_cases hex : ∃ j, j < ops.size ∧ writesTo ops j t = true
        · obtain ⟨j, hj, hw⟩ := hex
          by_cases htl : t < a0.tmps.size
          · rw [hinv.done t htl j hj hw (hl j hj), hc.done t htl j hj hw (by simpa using hj)]
          · rw [Array.getElem?_eq_none (by rw [hinv.size]; omega), Array.getElem?_eq_none (by rw [hc.size]; omega)]
        · rw [hinv.rest t fun j hj hw => absurd ⟨j, hj, hw⟩ hex, hc.rest t fun j hj hw => absurd ⟨j, hj, hw⟩ hex]
      have hd : a.defers = (canon ops a0 v ops.size).defers := hinv.defers.trans hc.defers.symm
      cases a
      cases hcn : canon ops a0 v ops.size
      rw [hcn] at ht hd
      simp only at ht hd
      rw [ht, hd]
    rw [this]
    exact hend w hS
  have hready : ∀ (listed : Array Bool), Region.ready .any ops listed = [] → ∀ i, i < ops.size → listed.getD i true = true := by
    intro listed hr i
    induction i using Nat.strongRecOn with
    | ind i ih =>
      intro hi
      apply Classical.byContradiction
      intro hn
      have hn' : listed.getD i true = false := by simpa using hn
      have : i ∈ Region.ready .any ops listed := by
        unfold Region.ready
        rw [List.mem_filter]
        refine ⟨List.mem_range.2 hi, ?_⟩
        have hget : ops[i]? = some ops[i] := Array.getElem?_eq_getElem hi
        rw [hn', hget]
        simp only [Bool.not_false, Bool.true_and, Option.map_some, Option.getD_some]
        rw [Array.all_eq_true']
        intro e he
        cases hb : Region.binds .any e with
        | false => rfl
        | true =>
          have hlt := (detOk_at hok hget).early e he hb
          have := ih e.on hlt (by omega)
          have hlt' : e.on < listed.size ∨ ¬ e.on < listed.size := by omega
          rcases hlt' with h | h
          · simp only [Array.getD, h, dif_pos] at this ⊢
            exact this
          · exfalso
            have h1 : i < listed.size ∨ ¬ i < listed.size := by omega
            rcases h1 with h1 | h1
            · omega
            · simp [Array.getD, h1] at hn'
      rw [hr] at this
      cases this
  intro fuel
  induction fuel with
  | zero =>
    intro listed a w hsz hcount hinv hS
    have hl : ∀ i, i < ops.size → listed.getD i true = true := by
      intro i hi
      have := List.eq_nil_of_length_eq_zero (Nat.le_zero.1 hcount)
      have hmem : i ∉ (List.range ops.size).filter fun i => !listed.getD i true := by rw [this]; simp
      rw [List.mem_filter] at hmem
      simp only [List.mem_range, hi, true_and] at hmem
      simpa using hmem
    refine ⟨?_, hall listed a w hsz hinv hS hl⟩
    unfold Region.ready
    rw [List.filter_eq_nil_iff]
    intro i hi
    rw [hl i (List.mem_range.1 hi)]
    simp
  | succ fuel ih =>
    intro listed a w hsz hcount hinv hS
    refine ⟨fun hr => hall listed a w hsz hinv hS (hready listed hr), fun i hi => ?_⟩
    unfold Region.ready at hi
    rw [List.mem_filter] at hi
    obtain ⟨hir, hc⟩ := hi
    have hil : i < ops.size := List.mem_range.1 hir
    have hget : ops[i]? = some ops[i] := Array.getElem?_eq_getElem hil
    rw [hget] at hc
    simp only [Bool.and_eq_true, Option.map_some, Option.getD_some] at hc
    obtain ⟨hn, hafter⟩ := hc
    have hn' : listed.getD i true = false := by simpa using hn
    have A := detOk_at hok hget
    have hcan := canon_inv hok a0 v i (by omega)
    have hagree : ∀ t ∈ ops[i].looksAt ops, a.tmps[t]? = (canon ops a0 v i).tmps[t]? := by
      intro t ht
      by_cases hex : ∃ j, j < ops.size ∧ writesTo ops j t = true
      · obtain ⟨j, hj, hw⟩ := hex
        obtain ⟨e, he, hb, hon⟩ := A.deps t ht j hj hw
        have hlt := A.early e he hb
        have hlist := Array.all_eq_true'.1 hafter e he
        rw [hb] at hlist
        simp only [Bool.not_true, Bool.false_or] at hlist
        have hDj : listed.getD j true = true := by
          rw [hon] at hlist
          simp only [Array.getD] at hlist ⊢
          split at hlist
          · rename_i h; rw [dif_pos h]; exact hlist
          · cases hlist
        by_cases htl : t < a0.tmps.size
        · rw [hinv.done t htl j hj hw hDj, hcan.done t htl j hj hw (by simp; omega)]
        · rw [Array.getElem?_eq_none (by rw [hinv.size]; exact Nat.le_of_not_lt htl), Array.getElem?_eq_none (by rw [hcan.size]; exact Nat.le_of_not_lt htl)]
      · rw [hinv.rest t fun j hj hw => absurd ⟨j, hj, hw⟩ hex, hcan.rest t fun j hj hw => absurd ⟨j, hj, hw⟩ hex]
    refine wpOp_mono ?_ (det_transfer (Q := Q) (v := v i) hget A.sel (hinv.size.trans hcan.size.symm) hagree (hop i ops[i] hget w hS))
    rintro a' w' ⟨rfl, hS'⟩
    have hsz' : (listed.setIfInBounds i true).size = ops.size := by simpa using hsz
    refine ih _ _ _ hsz' ?_ ?_ hS'
    · have hlt : ((List.range ops.size).filter fun k => !(listed.setIfInBounds i true).getD k true).length < ((List.range ops.size).filter fun k => !listed.getD k true).length := by
        have hsub : ((List.range ops.size).filter fun k => !(listed.setIfInBounds i true).getD k true) = ((List.range ops.size).filter fun k => !listed.getD k true).filter (fun k => k != i) := by
          rw [List.filter_filter]
          apply List.filter_congr
          intro k hk
          have hkl : k < listed.size := by rw [hsz]; exact List.mem_range.1 hk
          by_cases e : k = i
          · subst e; simp [Array.getD, hkl]
          · have : ¬ i = k := fun x => e x.symm
            simp [Array.getD, hkl, Array.getElem_setIfInBounds, e, this]
        rw [hsub]
        have hmem : i ∈ (List.range ops.size).filter fun k => !listed.getD k true := List.mem_filter.2 ⟨hir, hn⟩
        exact List.length_filter_lt_length_iff_exists.2 ⟨i, hmem, by simp⟩
      omega
    · have := hinv.put hok hget hn'
      have hf : (fun j => listed.getD j true || j == i) = fun j => (listed.setIfInBounds i true).getD j true := by
        funext j
        by_cases hjl : j < listed.size
        · by_cases e : j = i
          · subst e; simp [Array.getD, hjl]
          · have : ¬ i = j := fun x => e x.symm
            simp [Array.getD, hjl, Array.getElem_setIfInBounds, e, this]
        · simp [Array.getD, hjl]
      rwa [hf] at this
/-- A region that draws its order, walked in the order of its text. -/
theorem wp_region_det {id : Nat} {a : Act} {w : World} (hm : P.follows .mixedOrders = true) (hok : detOk ops = true) (S : World → Prop) (hS : S w.drew) (h : wpDet P ops S Q ops.toList a) : (Code.region id ops true).wp P Q a w := by
  obtain ⟨v, _, h2, h3⟩ := det_canon (P := P) (S := S) (Q := Q) a ops.toList 0 a (fun _ => undef) (fun j => by simp) rfl h
  refine wp_region_any hm (det_any (S := S) hok a v (fun j o ho => h2 j o (Nat.zero_le _) ho) (by simpa using h3) ops.size _ a _ (by simp) ?_ ?_ hS)
  · exact Nat.le_trans (List.length_filter_le _ _) (by simp)
  · have hf : (fun j => (Array.replicate ops.size false).getD j true) = fun j => !decide (j < ops.size) := by
      funext j
      by_cases h : j < ops.size <;> simp [Array.getD, h]
    rw [hf]
    exact ⟨rfl, rfl, fun t _ j hj _ hD => by simp [hj] at hD, fun t _ => rfl⟩
theorem wpDet_cons {o : Oper} {rest : List Oper} {a : Act} {v : Value} (h1 : DetOp P ops S o a v) (h2 : wpDet P ops S Q rest (a.put o.dst v)) : wpDet P ops S Q (o :: rest) a := ⟨v, h1, h2⟩
end
end Go.Proofs.YtgeclafcbgocgaaDoor

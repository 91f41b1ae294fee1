/- The law on a region whose order is open, with a tail whose order is forced: the first operations yield values under S, the tail is walked as it stands. Over any program. -/
import Derived.Test.YtgeclafcbgocgaaDoorDet
namespace Go.Proofs.YtgeclafcbgocgaaDoor
open Go.RowKit
def wpDetT (P : Program) (ops : Array Oper) (S : World → Prop) (Q : Exit → Act → World → Prop) : Nat → List Oper → Act → Prop
  | 0, l, a => ∀ w, S w → wpList P ops Q l a w
  | _ + 1, [], a => ∀ w, S w → Q .normal a w
  | m + 1, o :: rest, a => ∃ v, DetOp P ops S o a v ∧ wpDetT P ops S Q m rest (a.put o.dst v)
def reaches (ops : Array Oper) : Nat → Nat → Nat → Bool
  | 0, _, _ => false
  | f + 1, k, j => match ops[k]? with
    | none => false
    | some o => o.after.any fun e => Region.binds .any e && (e.on == j || reaches ops f e.on j)
/-- From number m on each operation waits for all that stand before it. -/
def tailOk (ops : Array Oper) (m : Nat) : Bool := (List.range ops.size).all fun k => decide (k < m) || (List.range k).all fun j => reaches ops ops.size k j
section
variable {P : Program} {ops : Array Oper} {S : World → Prop} {Q : Exit → Act → World → Prop}
theorem wpDetT_cons {m : Nat} {o : Oper} {rest : List Oper} {a : Act} {v : Value} (h1 : DetOp P ops S o a v) (h2 : wpDetT P ops S Q m rest (a.put o.dst v)) : wpDetT P ops S Q (m + 1) (o :: rest) a := ⟨v, h1, h2⟩
def lst (listed : Array Bool) (j : Nat) : Bool := listed.getD j true
structure Closed (ops : Array Oper) (listed : Array Bool) : Prop where
  size : listed.size = ops.size
  down : ∀ i o, ops[i]? = some o → lst listed i = true → ∀ e ∈ o.after, Region.binds .any e = true → lst listed e.on = true
theorem reaches_listed {listed : Array Bool} (hc : Closed ops listed) : ∀ (f k j : Nat) (o : Oper), ops[k]? = some o → (∀ e ∈ o.after, Region.binds .any e = true → lst listed e.on = true) → reaches ops f k j = true → lst listed j = true
  | 0, _, _, _, _, _, h => by cases h
  | f + 1, k, j, o, hk, hd, h => by
    unfold reaches at h
    rw [hk] at h
    obtain ⟨e, he, hb⟩ := Array.any_eq_true'.1 h
    simp only [Bool.and_eq_true, Bool.or_eq_true, beq_iff_eq] at hb
    have hl := hd e he hb.1
    rcases hb.2 with h1 | h1
    · rw [← h1]; exact hl
    · cases hon : ops[e.on]? with
      | none =>
        cases f with
        | zero => cases h1
        | succ f => unfold reaches at h1; rw [hon] at h1; cases h1
      | some o' => exact reaches_listed hc f e.on j o' hon (fun e' he' hb' => hc.down e.on o' hon hl e' he' hb') h1
theorem tail_listed {m : Nat} (ht : tailOk ops m = true) {listed : Array Bool} (hc : Closed ops listed) {k : Nat} {o : Oper} (hk : ops[k]? = some o) (hm : m ≤ k) (hd : ∀ e ∈ o.after, Region.binds .any e = true → lst listed e.on = true) : ∀ j, j < k → lst listed j = true := by
  intro j hj
  have hlt : k < ops.size := (Array.getElem?_eq_some_iff.1 hk).1
  have := List.all_eq_true.1 ht k (List.mem_range.2 hlt)
  rw [show decide (k < m) = false from by simpa using hm, Bool.false_or] at this
  exact reaches_listed hc ops.size k j o hk hd (List.all_eq_true.1 this j (List.mem_range.2 hj))
theorem ready_spec {listed : Array Bool} {i : Nat} (h : i ∈ Region.ready .any ops listed) : ∃ o, ops[i]? = some o ∧ lst listed i = false ∧ ∀ e ∈ o.after, Region.binds .any e = true → lst listed e.on = true ∧ e.on < listed.size := by
  unfold Region.ready at h
  rw [List.mem_filter] at h
  obtain ⟨hir, hc⟩ := h
  have hlt0 : i < ops.size := List.mem_range.1 hir
  have hget : ops[i]? = some ops[i] := Array.getElem?_eq_getElem hlt0
  rw [hget] at hc
  simp only [Bool.and_eq_true, Option.map_some, Option.getD_some] at hc
  refine ⟨_, hget, by simpa [lst] using hc.1, fun e he hb => ?_⟩
  have := Array.all_eq_true'.1 hc.2 e he
  rw [hb] at this
  simp only [Bool.not_true, Bool.false_or] at this
  simp only [lst, Array.getD] at this ⊢
  split at this
  · rename_i hlt; rw [dif_pos hlt]; exact ⟨this, hlt⟩
  · cases this
theorem lst_set {listed : Array Bool} {i : Nat} (hi : i < listed.size) (j : Nat) : lst (listed.setIfInBounds i true) j = (lst listed j || j == i) := by
  unfold lst
  by_cases hjl : j < listed.size
  · by_cases e : j = i
    · subst e; simp [Array.getD, hjl]
    · have : ¬ i = j := fun x => e x.symm
      simp [Array.getD, hjl, Array.getElem_setIfInBounds, e, this]
  · simp [Array.getD, hjl]
theorem Closed.set {listed : Array Bool} (hc : Closed ops listed) {i : Nat} {o : Oper} (hi : ops[i]? = some o) (hd : ∀ e ∈ o.after, Region.binds .any e = true → lst listed e.on = true) : Closed ops (listed.setIfInBounds i true) := by
  have hlt : i < listed.size := by rw [hc.size]; exact (Array.getElem?_eq_some_iff.1 hi).1
  refine ⟨by simpa using hc.size, fun k o' hk hl e he hb => ?_⟩
  rw [lst_set hlt] at hl ⊢
  by_cases e1 : k = i
  · subst e1
    rw [hi] at hk
    cases hk
    simp [hd e he hb]
  · have : lst listed k = true := by simpa [e1] using hl
    simp [hc.down k o' hk this e he hb]
/-- The tail. -/
theorem tail_any {m : Nat} (ht : tailOk ops m = true) (hearly : detOk ops = true) : ∀ (fuel c : Nat) (listed : Array Bool) (a : Act) (w : World), m ≤ c → c ≤ ops.size → ops.size - c ≤ fuel → Closed ops listed → (∀ j, j < ops.size → lst listed j = decide (j < c)) → wpList P ops Q (ops.toList.drop c) a w →
    wpAny P .any ops Q fuel listed a w := by
  have hnone : ∀ (c : Nat) (listed : Array Bool), c = ops.size → (∀ j, j < ops.size → lst listed j = decide (j < c)) → Region.ready .any ops listed = [] := by
    intro c listed hcs hl
    rw [List.eq_nil_iff_forall_not_mem]
    intro i hi
    obtain ⟨o, ho, hn, _⟩ := ready_spec hi
    have hlt := (Array.getElem?_eq_some_iff.1 ho).1
    rw [hl i hlt, hcs] at hn
    simp [hlt] at hn
  intro fuel
  induction fuel with
  | zero =>
    intro c listed a w hmc hcn hf hc hl h
    have hcs : c = ops.size := by omega
    rw [hcs, List.drop_of_length_le (by simp)] at h
    exact ⟨hnone c listed hcs hl, h⟩
  | succ fuel ih =>
    intro c listed a w hmc hcn hf hc hl h
    by_cases hcs : c = ops.size
    · have hno := hnone c listed hcs hl
      rw [hcs, List.drop_of_length_le (by simp)] at h
      refine ⟨fun _ => h, fun i hi => ?_⟩
      rw [hno] at hi
      cases hi
    · have hclt : c < ops.size := by omega
      have hget : ops[c]? = some ops[c] := Array.getElem?_eq_getElem hclt
      have hdrop : ops.toList.drop c = ops[c] :: ops.toList.drop (c + 1) := by
        rw [List.drop_eq_getElem_cons (by simpa using hclt)]
        simp
      rw [hdrop] at h
      have hdeps : ∀ e ∈ ops[c].after, Region.binds .any e = true → lst listed e.on = true := fun e he hb => by
        have := (detOk_at hearly hget).early e he hb
        rw [hl e.on (by omega)]
        simpa using this
      refine ⟨fun hr => ?_, fun i hi => ?_⟩
      · exfalso
        have : c ∈ Region.ready .any ops listed := by
          unfold Region.ready
          rw [List.mem_filter]
          refine ⟨List.mem_range.2 hclt, ?_⟩
          have hn := hl c hclt
          rw [hget]
          simp only [Option.map_some, Option.getD_some, Bool.and_eq_true]
          refine ⟨by unfold lst at hn; rw [hn]; simp, ?_⟩
          rw [Array.all_eq_true']
          intro e he
          cases hb : Region.binds .any e with
          | false => rfl
          | true =>
            have h1 := (detOk_at hearly hget).early e he hb
            have h2 := hdeps e he hb
            simp only [lst, Array.getD] at h2 ⊢
            have h3 : e.on < listed.size := by rw [hc.size]; omega
            rw [dif_pos h3] at h2 ⊢
            simpa using h2
        rw [hr] at this
        cases this
      · obtain ⟨o, ho, hn, hd⟩ := ready_spec hi
        have hilt := (Array.getElem?_eq_some_iff.1 ho).1
        have hci : c ≤ i := by
          rw [hl i hilt] at hn
          simpa using hn
        have hic : i = c := by
          rcases Nat.lt_or_ge c i with hlt | hge
          · have := tail_listed ht hc ho (by omega) (fun e he hb => (hd e he hb).1) c hlt
            rw [hl c hclt] at this
            simp at this
          · omega
        subst hic
        rw [hget] at ho
        cases ho
        unfold wpList at h
        unfold wpOp
        simp only [hget]
        have hnext : ∀ a' w', wpList P ops Q (ops.toList.drop (i + 1)) a' w' → wpAny P .any ops Q fuel (listed.setIfInBounds i true) a' w' := fun a' w' h' => by
          refine ih (i + 1) _ a' w' (by omega) (by omega) (by omega) (hc.set hget hdeps) (fun j hj => ?_) h'
          rw [lst_set (by rw [hc.size]; exact hclt), hl j hj]
          by_cases h1 : j < i
          · simp [h1, show j < i + 1 from by omega]
          · by_cases h2 : j = i
            · simp [h2]
            · simp [h1, h2, show ¬ j < i + 1 from by omega]
        split
        · rename_i hw
          rw [if_pos hw] at h
          exact h.imp (Oper.wp_mono hnext) id
        · rename_i hw
          rw [if_neg hw] at h
          exact hnext _ _ h
theorem detT_canon (a0 : Act) : ∀ (m : Nat) (l : List Oper) (k : Nat) (a : Act) (v : Nat → Value), (∀ j, l[j]? = ops[k + j]?) → m ≤ l.length → canon ops a0 v k = a → wpDetT P ops S Q m l a →
    ∃ v' : Nat → Value, (∀ j, j < k → v' j = v j) ∧ (∀ j o, k ≤ j → j < k + m → ops[j]? = some o → DetOp P ops S o (canon ops a0 v' j) (v' j)) ∧ (∀ w, S w → wpList P ops Q (l.drop m) (canon ops a0 v' (k + m)) w) := by
  intro m
  induction m with
  | zero =>
    intro l k a v hl _ ha h
    exact ⟨v, fun _ _ => rfl, fun j o h1 h2 => by omega, fun w hw => by simpa [ha] using h w hw⟩
  | succ m ih =>
    intro l k a v hl hm ha h
    cases l with
    | nil => simp at hm
    | cons o rest =>
      obtain ⟨u, hu, hrest⟩ := h
      have hk : ops[k]? = some o := by simpa using (hl 0).symm
      have same : ∀ (v1 v2 : Nat → Value) (m : Nat), (∀ j, j < m → v1 j = v2 j) → canon ops a0 v1 m = canon ops a0 v2 m := by
        intro v1 v2 m hm
        induction m with
        | zero => rfl
        | succ m ihm =>
          simp only [canon]
          rw [ihm fun j hj => hm j (by omega)]
          cases ops[m]? with
          | none => rfl
          | some o' => simp only [hm m (by omega)]
      let v2 : Nat → Value := fun j => if j = k then u else v j
      have hv2 : ∀ j, j < k → v2 j = v j := fun j hj => if_neg (by omega)
      have hck : canon ops a0 v2 k = a := (same v2 v k hv2).trans ha
      have hck1 : canon ops a0 v2 (k + 1) = a.put o.dst u := by
        show (match ops[k]? with | some o => (canon ops a0 v2 k).put o.dst (v2 k) | none => canon ops a0 v2 k) = _
        rw [hk, hck]
        simp [v2]
      obtain ⟨v', h1, h2, h3⟩ := ih rest (k + 1) _ v2 (fun j => by have := hl (j + 1); simpa [Nat.add_assoc, Nat.add_comm 1 j] using this) (by simpa using hm) hck1 hrest
      refine ⟨v', fun j hj => (h1 j (by omega)).trans (hv2 j hj), fun j o' hj hj2 ho => ?_, fun w hw => by have := h3 w hw; rwa [show k + 1 + m = k + (m + 1) from by omega] at this⟩
      by_cases e : j = k
      · subst e
        rw [hk] at ho
        cases ho
        rw [same v' v2 j fun m hm => h1 m (by omega), hck, h1 j (by omega)]
        simp only [v2, if_true]
        exact hu
      · exact h2 j o' (by omega) (by omega) ho
theorem detT_any {m : Nat} (hok : detOk ops = true) (ht : tailOk ops m = true) (hm : m ≤ ops.size) (a0 : Act) (v : Nat → Value) (hop : ∀ j o, j < m → ops[j]? = some o → DetOp P ops S o (canon ops a0 v j) (v j)) (hend : ∀ w, S w → wpList P ops Q (ops.toList.drop m) (canon ops a0 v m) w) :
    ∀ (fuel : Nat) (listed : Array Bool) (a : Act) (w : World), Closed ops listed → (∀ k, m ≤ k → k < ops.size → lst listed k = false) → ((List.range m).filter fun i => !lst listed i).length + (ops.size - m) ≤ fuel → DetInv ops a0 v (fun j => lst listed j) a → S w →
      wpAny P .any ops Q fuel listed a w := by
  have hdone : ∀ (fuel : Nat) (listed : Array Bool) (a : Act) (w : World), Closed ops listed → (∀ k, m ≤ k → k < ops.size → lst listed k = false) → (ops.size - m) ≤ fuel → DetInv ops a0 v (fun j => lst listed j) a → S w → (∀ j, j < m → lst listed j = true) → wpAny P .any ops Q fuel listed a w := by
    intro fuel listed a w hc hlate hf hinv hS hall
    have hcn := canon_inv hok a0 v m hm
    have hlst : ∀ j, j < ops.size → lst listed j = decide (j < m) := by
      intro j hj
      by_cases h : j < m
      · simp [h, hall j h]
      · simp [h, hlate j (by omega) hj]
    have heq : a = canon ops a0 v m := by
      have htm : a.tmps = (canon ops a0 v m).tmps := by
        apply Array.ext_getElem?
        intro t
        by_cases hex : ∃ j, j < ops.size ∧ writesTo ops j t = true ∧ j < m
        · obtain ⟨j, hj, hw, hjm⟩ := hex
          by_cases htl : t < a0.tmps.size
          · rw [hinv.done t htl j hj hw (hall j hjm), hcn.done t htl j hj hw (by simpa using hjm)]
          · rw [Array.getElem?_eq_none (by rw [hinv.size]; exact Nat.le_of_not_lt htl), Array.getElem?_eq_none (by rw [hcn.size]; exact Nat.le_of_not_lt htl)]
        · have hno : ∀ j, j < ops.size → writesTo ops j t = true → ¬ j < m := fun j hj hw hjm => hex ⟨j, hj, hw, hjm⟩
          rw [hinv.rest t fun j hj hw => by rw [hlst j hj]; simpa using hno j hj hw, hcn.rest t fun j hj hw => by simpa using hno j hj hw]
      have hd : a.defers = (canon ops a0 v m).defers := hinv.defers.trans hcn.defers.symm
      cases a
      cases hc2 : canon ops a0 v m
      rw [hc2] at htm hd
      simp only at htm hd
      rw [htm, hd]
    rw [heq]
    exact tail_any ht hok fuel m listed _ w (Nat.le_refl _) hm hf hc hlst (hend w hS)
  intro fuel
  induction fuel with
  | zero =>
    intro listed a w hc hlate hcount hinv hS
    refine hdone 0 listed a w hc hlate (by omega) hinv hS fun j hj => ?_
    have h0 : ((List.range m).filter fun i => !lst listed i) = [] := List.eq_nil_of_length_eq_zero (by omega)
    have hmem : j ∉ (List.range m).filter fun i => !lst listed i := by rw [h0]; simp
    rw [List.mem_filter] at hmem
    simp only [List.mem_range, hj, true_and] at hmem
    simpa using hmem
  | succ fuel ih =>
    intro listed a w hc hlate hcount hinv hS
    by_cases hall : ∀ j, j < m → lst listed j = true
    · have : ((List.range m).filter fun i => !lst listed i) = [] := by
        rw [List.filter_eq_nil_iff]
        intro i hi
        rw [hall i (List.mem_range.1 hi)]
        simp
      rw [this] at hcount
      exact hdone (fuel + 1) listed a w hc hlate (by simpa using hcount) hinv hS hall
    · obtain ⟨j0, hj0⟩ : ∃ j, j < m ∧ lst listed j = false := by
        apply Classical.byContradiction
        intro hno
        refine hall fun j hj => ?_
        apply Classical.byContradiction
        intro hne
        exact hno ⟨j, hj, by simpa using hne⟩
      refine ⟨fun hr => ?_, fun i hi => ?_⟩
      · exfalso
        have hmin : ∀ i, i < ops.size → lst listed i = true := by
          intro i
          induction i using Nat.strongRecOn with
          | ind i ihi =>
            intro hilt
            apply Classical.byContradiction
            intro hn
            have hn' : lst listed i = false := by simpa using hn
            have hget : ops[i]? = some ops[i] := Array.getElem?_eq_getElem hilt
            have : i ∈ Region.ready .any ops listed := by
              unfold Region.ready
              rw [List.mem_filter]
              refine ⟨List.mem_range.2 hilt, ?_⟩
              rw [hget]
              simp only [Option.map_some, Option.getD_some, Bool.and_eq_true]
              refine ⟨by unfold lst at hn'; rw [hn']; simp, ?_⟩
              rw [Array.all_eq_true']
              intro e he
              cases hb : Region.binds .any e with
              | false => rfl
              | true =>
                have h1 := (detOk_at hok hget).early e he hb
                have h2 := ihi e.on h1 (by omega)
                have h3 : e.on < listed.size := by rw [hc.size]; omega
                simp only [lst, Array.getD] at h2 ⊢
                rw [dif_pos h3] at h2 ⊢
                simpa using h2
            rw [hr] at this
            cases this
        have := hmin j0 (by omega)
        rw [hj0.2] at this
        cases this
      · obtain ⟨o, ho, hn, hd⟩ := ready_spec hi
        have hilt := (Array.getElem?_eq_some_iff.1 ho).1
        have him : i < m := by
          rcases Nat.lt_or_ge i m with h | h
          · exact h
          · have := tail_listed ht hc ho h (fun e he hb => (hd e he hb).1) j0 (by omega)
            rw [hj0.2] at this
            cases this
        have A := detOk_at hok ho
        have hcan := canon_inv hok a0 v i (by omega)
        have hagree : ∀ t ∈ o.looksAt ops, a.tmps[t]? = (canon ops a0 v i).tmps[t]? := by
          intro t htl
          by_cases hex : ∃ j, j < ops.size ∧ writesTo ops j t = true
          · obtain ⟨j, hj, hw⟩ := hex
            obtain ⟨e, he, hb, hon⟩ := A.deps t htl j hj hw
            have hlt := A.early e he hb
            have hDj : lst listed j = true := by rw [← hon]; exact (hd e he hb).1
            by_cases hsz : t < a0.tmps.size
            · rw [hinv.done t hsz j hj hw hDj, hcan.done t hsz j hj hw (by simp; omega)]
            · rw [Array.getElem?_eq_none (by rw [hinv.size]; exact Nat.le_of_not_lt hsz), Array.getElem?_eq_none (by rw [hcan.size]; exact Nat.le_of_not_lt hsz)]
          · rw [hinv.rest t fun j hj hw => absurd ⟨j, hj, hw⟩ hex, hcan.rest t fun j hj hw => absurd ⟨j, hj, hw⟩ hex]
        refine wpOp_mono ?_ (det_transfer (Q := Q) (v := v i) ho A.sel (hinv.size.trans hcan.size.symm) hagree (hop i o him ho w hS))
        rintro a' w' ⟨rfl, hS'⟩
        have hil : i < listed.size := by rw [hc.size]; exact hilt
        refine ih _ _ _ (hc.set ho fun e he hb => (hd e he hb).1) (fun k hk hk2 => ?_) ?_ ?_ hS'
        · rw [lst_set hil, hlate k hk hk2]
          simp
          omega
        · have hsub : ((List.range m).filter fun k => !lst (listed.setIfInBounds i true) k) = ((List.range m).filter fun k => !lst listed k).filter (fun k => k != i) := by
            rw [List.filter_filter]
            apply List.filter_congr
            intro k _
            rw [lst_set hil]
            by_cases e : k = i
            · subst e; simp
            · have e1 : (k == i) = false := by simpa using e
              have e2 : (k != i) = true := by simpa using e
              rw [e1, e2]
              simp
          rw [hsub]
          have hmem : i ∈ (List.range m).filter fun k => !lst listed k := List.mem_filter.2 ⟨List.mem_range.2 him, by simp [hn]⟩
          have : (((List.range m).filter fun k => !lst listed k).filter (fun k => k != i)).length < ((List.range m).filter fun k => !lst listed k).length :=
            List.length_filter_lt_length_iff_exists.2 ⟨i, hmem, by simp⟩
          omega
        · have := hinv.put hok ho hn
          have hf : (fun j => lst listed j || j == i) = fun j => lst (listed.setIfInBounds i true) j := by
            funext j
            rw [lst_set hil]
          rwa [hf] at this
/-- A region that draws its order: its first m operations in the order of the text under S, then its tail. -/
theorem wp_region_tail {id : Nat} {a : Act} {w : World} (m : Nat) (hm : P.follows .mixedOrders = true) (hok : (detOk ops && tailOk ops m && decide (m ≤ ops.size)) = true) (S : World → Prop) (hS : S w.drew) (h : wpDetT P ops S Q m ops.toList a) : (Code.region id ops true).wp P Q a w := by
  simp only [Bool.and_eq_true, decide_eq_true_eq] at hok
  obtain ⟨⟨h1, h2⟩, h3⟩ := hok
  obtain ⟨v, _, hv, hend⟩ := detT_canon (P := P) (S := S) (Q := Q) a m ops.toList 0 a (fun _ => undef) (fun j => by simp) (by simpa using h3) rfl h
  have hfalse : ∀ j, lst (Array.replicate ops.size false) j = !decide (j < ops.size) := by
    intro j
    unfold lst
    by_cases h : j < ops.size <;> simp [Array.getD, h]
  refine wp_region_any hm (detT_any (S := S) h1 h2 h3 a v (fun j o hj ho => hv j o (Nat.zero_le _) (by omega) ho) (by simpa using hend) ops.size _ a _ ⟨by simp, fun i o hi hl => ?_⟩ (fun k _ hk => by rw [hfalse]; simp [hk]) ?_ ?_ hS)
  · rw [hfalse] at hl
    have := (Array.getElem?_eq_some_iff.1 hi).1
    simp [this] at hl
  · have := List.length_filter_le (fun i => !lst (Array.replicate ops.size false) i) (List.range m)
    simp only [List.length_range] at this
    omega
  · exact ⟨rfl, rfl, fun t _ j hj _ hD => by rw [hfalse] at hD; simp [hj] at hD, fun t _ => rfl⟩
end
end Go.Proofs.YtgeclafcbgocgaaDoor

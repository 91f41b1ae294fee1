/- The law on a region whose order is open, with a tail whose order is forced, where the tail writes what the first operations read. Over any program. -/
import Derived.Test.YtgeclafcbgocgaaDoorDtl
namespace Go.Proofs.YtgeclafcbgocgaaDoor
open Go.RowKit
def detOkM (ops : Array Oper) (m : Nat) : Bool :=
  (List.range ops.size).all fun i => match ops[i]? with
    | none => true
    | some o => o.after.all (fun e => !Region.binds .any e || decide (e.on < i)) && (decide (m ≤ i) || (noSelect o &&
        (o.looksAt ops).all (fun t => (List.range m).all fun j => !writesTo ops j t || o.after.any fun e => Region.binds .any e && e.on == j) &&
        (match o.dst with | none => true | some d => (List.range ops.size).all fun j => j == i || !writesTo ops j d)))
section
variable {P : Program} {ops : Array Oper} {S : World → Prop} {Q : Exit → Act → World → Prop}
structure DetAtM (ops : Array Oper) (m i : Nat) (o : Oper) : Prop where
  sel : ∀ cs b, o.op ≠ .select cs b
  deps : ∀ t ∈ o.looksAt ops, ∀ j, j < m → writesTo ops j t = true → ∃ e ∈ o.after, Region.binds .any e = true ∧ e.on = j
  alone : ∀ d, o.dst = some d → ∀ j, j < ops.size → writesTo ops j d = true → j = i
theorem detOkM_early {m : Nat} (h : detOkM ops m = true) {i : Nat} {o : Oper} (hi : ops[i]? = some o) : ∀ e ∈ o.after, Region.binds .any e = true → e.on < i := by
  have hlt : i < ops.size := (Array.getElem?_eq_some_iff.1 hi).1
  have := List.all_eq_true.1 h i (List.mem_range.2 hlt)
  rw [hi] at this
  simp only [Bool.and_eq_true] at this
  intro e he hb
  have := Array.all_eq_true'.1 this.1 e he
  rw [hb] at this
  simpa using this
theorem detOkM_at {m : Nat} (h : detOkM ops m = true) {i : Nat} {o : Oper} (hi : ops[i]? = some o) (him : i < m) : DetAtM ops m i o := by
  have hlt : i < ops.size := (Array.getElem?_eq_some_iff.1 hi).1
  have := List.all_eq_true.1 h i (List.mem_range.2 hlt)
  rw [hi] at this
  have hnm : decide (m ≤ i) = false := decide_eq_false (by omega)
  simp only [Bool.and_eq_true, hnm, Bool.false_or] at this
  obtain ⟨-, ⟨h1, h3⟩, h4⟩ := this
  refine ⟨fun cs b e => ?_, fun t ht j hj hw => ?_, fun d hd j hj hw => ?_⟩
  · unfold noSelect at h1
    rw [e] at h1
    cases h1
  · have := List.all_eq_true.1 (List.all_eq_true.1 h3 t ht) j (List.mem_range.2 hj)
    rw [hw] at this
    simp only [Bool.not_true, Bool.false_or] at this
    obtain ⟨e, he, hb⟩ := Array.any_eq_true'.1 this
    simp only [Bool.and_eq_true, beq_iff_eq] at hb
    exact ⟨e, he, hb.1, hb.2⟩
  · rw [hd] at h4
    have := List.all_eq_true.1 h4 j (List.mem_range.2 hj)
    rw [hw] at this
    simpa using this
theorem DetInv.putM {m : Nat} (hok : detOkM ops m = true) {a0 a : Act} {v : Nat → Value} {D : Nat → Bool} (h : DetInv ops a0 v D a) {i : Nat} {o : Oper} (hi : ops[i]? = some o) (hn : D i = false) (him : i < m) :
    DetInv ops a0 v (fun j => D j || j == i) (a.put o.dst (v i)) := by
  have A := detOkM_at hok hi him
  have hlt : i < ops.size := (Array.getElem?_eq_some_iff.1 hi).1
  refine ⟨(put_defers _ _ _).trans h.defers, (put_size _ _ _).trans h.size, fun t ht j hj hw hD => ?_, fun t ht => ?_⟩
  · cases hd : o.dst with
    | none =>
      have hne : j ≠ i := by
        rintro rfl
        unfold writesTo at hw
        rw [hi] at hw
        simp [hd] at hw
      have hDj : D j = true := by simpa [hne] using hD
      exact h.done t ht j hj hw hDj
    | some d =>
      rw [put_get]
      by_cases e : t = d
      · subst e
        have : j = i := A.alone t hd j hj hw
        subst this
        rw [if_pos rfl, if_pos (by rw [h.size]; exact ht)]
      · rw [if_neg e]
        have hne : j ≠ i := by
          rintro rfl
          unfold writesTo at hw
          rw [hi] at hw
          simp [hd] at hw
          exact e hw.symm
        have hDj : D j = true := by simpa [hne] using hD
        exact h.done t ht j hj hw hDj
  · cases hd : o.dst with
    | none =>
      refine h.rest t fun j hj hw => ?_
      have := ht j hj hw
      simp only [Bool.or_eq_false_iff] at this
      exact this.1
    | some d =>
      rw [put_get]
      have hne : t ≠ d := by
        rintro rfl
        have := ht i hlt (by unfold writesTo; rw [hi]; simp [hd])
        simp at this
      rw [if_neg hne]
      refine h.rest t fun j hj hw => ?_
      have := ht j hj hw
      simp only [Bool.or_eq_false_iff] at this
      exact this.1
theorem canon_invM {m : Nat} (hok : detOkM ops m = true) (hms : m ≤ ops.size) (a0 : Act) (v : Nat → Value) : ∀ k, k ≤ m → DetInv ops a0 v (fun j => decide (j < k)) (canon ops a0 v k)
  | 0, _ => ⟨rfl, rfl, fun t _ j _ _ hD => by simp at hD, fun t _ => rfl⟩
  | k + 1, hk => by
    have ih := canon_invM hok hms a0 v k (by omega)
    have hget : ops[k]? = some ops[k] := Array.getElem?_eq_getElem (by omega)
    have := ih.putM hok hget (by simp) (by omega)
    have hc : canon ops a0 v (k + 1) = (canon ops a0 v k).put ops[k].dst (v k) := by
      show (match ops[k]? with | some o => (canon ops a0 v k).put o.dst (v k) | none => canon ops a0 v k) = _
      rw [hget]
    rw [hc]
    have hf : (fun j => decide (j < k) || j == k) = fun j => decide (j < k + 1) := by
      funext j
      by_cases h1 : j < k
      · simp [h1, show j < k + 1 from by omega]
      · by_cases h2 : j = k
        · simp [h2]
        · simp [h1, h2, show ¬ j < k + 1 from by omega]
    rwa [hf] at this
theorem tail_anyM {m : Nat} (ht : tailOk ops m = true) (hearly : detOkM ops m = true) : ∀ (fuel c : Nat) (listed : Array Bool) (a : Act) (w : World), m ≤ c → c ≤ ops.size → ops.size - c ≤ fuel → Closed ops listed → (∀ j, j < ops.size → lst listed j = decide (j < c)) → wpList P ops Q (ops.toList.drop c) a w →
    wpAny P .any ops Q fuel listed a w := by
  have hnone : ∀ (c : Nat) (listed : Array Bool), c = ops.size → (∀ j, j < ops.size → lst listed j = decide (j < c)) → Region.ready .any ops listed = [] := by
    intro c listed hcs hl
    rw [List.eq_nil_iff_forall_not_mem]
    intro i hi
    obtain ⟨o, ho, hn, _⟩ := ready_spec hi
    have hlt := (Array.getElem?_eq_some_iff.1 ho).1
    rw [hl i hlt, hcs] at hn
    simp [hlt] at hn
  intro fuel
  induction fuel with
  | zero =>
    intro c listed a w hmc hcn hf hc hl h
    have hcs : c = ops.size := by omega
    rw [hcs, List.drop_of_length_le (by simp)] at h
    exact ⟨hnone c listed hcs hl, h⟩
  | succ fuel ih =>
    intro c listed a w hmc hcn hf hc hl h
    by_cases hcs : c = ops.size
    · have hno := hnone c listed hcs hl
      rw [hcs, List.drop_of_length_le (by simp)] at h
      refine ⟨fun _ => h, fun i hi => ?_⟩
      rw [hno] at hi
      cases hi
    · have hclt : c < ops.size := by omega
      have hget : ops[c]? = some ops[c] := Array.getElem?_eq_getElem hclt
      have hdrop : ops.toList.drop c = ops[c] :: ops.toList.drop (c + 1) := by
        rw [List.drop_eq_getElem_cons (by simpa using hclt)]
        simp
      rw [hdrop] at h
      have hdeps : ∀ e ∈ ops[c].after, Region.binds .any e = true → lst listed e.on = true := fun e he hb => by
        have := detOkM_early hearly hget e he hb
        rw [hl e.on (by omega)]
        simpa using this
      refine ⟨fun hr => ?_, fun i hi => ?_⟩
      · exfalso
        have : c ∈ Region.ready .any ops listed := by
          unfold Region.ready
          rw [List.mem_filter]
          refine ⟨List.mem_range.2 hclt, ?_⟩
          have hn := hl c hclt
          rw [hget]
          simp only [Option.map_some, Option.getD_some, Bool.and_eq_true]
          refine ⟨by unfold lst at hn; rw [hn]; simp, ?_⟩
          rw [Array.all_eq_true']
          intro e he
          cases hb : Region.binds .any e with
          | false => rfl
          | true =>
            have h1 := detOkM_early hearly hget e he hb
            have h2 := hdeps e he hb
            simp only [lst, Array.getD] at h2 ⊢
            have h3 : e.on < listed.size := by rw [hc.size]; omega
            rw [dif_pos h3] at h2 ⊢
            simpa using h2
        rw [hr] at this
        cases this
      · obtain ⟨o, ho, hn, hd⟩ := ready_spec hi
        have hilt := (Array.getElem?_eq_some_iff.1 ho).1
        have hci : c ≤ i := by
          rw [hl i hilt] at hn
          simpa using hn
        have hic : i = c := by
          rcases Nat.lt_or_ge c i with hlt | hge
          · have := tail_listed ht hc ho (by omega) (fun e he hb => (hd e he hb).1) c hlt
            rw [hl c hclt] at this
            simp at this
          · omega
        subst hic
        rw [hget] at ho
        cases ho
        unfold wpList at h
        unfold wpOp
        simp only [hget]
        have hnext : ∀ a' w', wpList P ops Q (ops.toList.drop (i + 1)) a' w' → wpAny P .any ops Q fuel (listed.setIfInBounds i true) a' w' := fun a' w' h' => by
          refine ih (i + 1) _ a' w' (by omega) (by omega) (by omega) (hc.set hget hdeps) (fun j hj => ?_) h'
          rw [lst_set (by rw [hc.size]; exact hclt), hl j hj]
          by_cases h1 : j < i
          · simp [h1, show j < i + 1 from by omega]
          · by_cases h2 : j = i
            · simp [h2]
            · simp [h1, h2, show ¬ j < i + 1 from by omega]
        split
        · rename_i hw
          rw [if_pos hw] at h
          exact h.imp (Oper.wp_mono hnext) id
        · rename_i hw
          rw [if_neg hw] at h
          exact hnext _ _ h
theorem detT_anyM {m : Nat} (hok : detOkM ops m = true) (ht : tailOk ops m = true) (hm : m ≤ ops.size) (a0 : Act) (v : Nat → Value) (hop : ∀ j o, j < m → ops[j]? = some o → DetOp P ops S o (canon ops a0 v j) (v j)) (hend : ∀ w, S w → wpList P ops Q (ops.toList.drop m) (canon ops a0 v m) w) :
    ∀ (fuel : Nat) (listed : Array Bool) (a : Act) (w : World), Closed ops listed → (∀ k, m ≤ k → k < ops.size → lst listed k = false) → ((List.range m).filter fun i => !lst listed i).length + (ops.size - m) ≤ fuel → DetInv ops a0 v (fun j => lst listed j) a → S w →
      wpAny P .any ops Q fuel listed a w := by
  have hdone : ∀ (fuel : Nat) (listed : Array Bool) (a : Act) (w : World), Closed ops listed → (∀ k, m ≤ k → k < ops.size → lst listed k = false) → (ops.size - m) ≤ fuel → DetInv ops a0 v (fun j => lst listed j) a → S w → (∀ j, j < m → lst listed j = true) → wpAny P .any ops Q fuel listed a w := by
    intro fuel listed a w hc hlate hf hinv hS hall
    have hcn := canon_invM hok hm a0 v m (Nat.le_refl _)
    have hlst : ∀ j, j < ops.size → lst listed j = decide (j < m) := by
      intro j hj
      by_cases h : j < m
      · simp [h, hall j h]
      · simp [h, hlate j (by omega) hj]
    have heq : a = canon ops a0 v m := by
      have htm : a.tmps = (canon ops a0 v m).tmps := by
        apply Array.ext_getElem?
        intro t
        by_cases hex : ∃ j, j < ops.size ∧ writesTo ops j t = true ∧ j < m
        · obtain ⟨j, hj, hw, hjm⟩ := hex
          by_cases htl : t < a0.tmps.size
          · rw [hinv.done t htl j hj hw (hall j hjm), hcn.done t htl j hj hw (by simpa using hjm)]
          · rw [Array.getElem?_eq_none (by rw [hinv.size]; exact Nat.le_of_not_lt htl), Array.getElem?_eq_none (by rw [hcn.size]; exact Nat.le_of_not_lt htl)]
        · have hno : ∀ j, j < ops.size → writesTo ops j t = true → ¬ j < m := fun j hj hw hjm => hex ⟨j, hj, hw, hjm⟩
          rw [hinv.rest t fun j hj hw => by rw [hlst j hj]; simpa using hno j hj hw, hcn.rest t fun j hj hw => by simpa using hno j hj hw]
      have hd : a.defers = (canon ops a0 v m).defers := hinv.defers.trans hcn.defers.symm
      cases a
      cases hc2 : canon ops a0 v m
      rw [hc2] at htm hd
      simp only at htm hd
      rw [htm, hd]
    rw [heq]
    exact tail_anyM ht hok fuel m listed _ w (Nat.le_refl _) hm hf hc hlst (hend w hS)
  intro fuel
  induction fuel with
  | zero =>
    intro listed a w hc hlate hcount hinv hS
    refine hdone 0 listed a w hc hlate (by omega) hinv hS fun j hj => ?_
    have h0 : ((List.range m).filter fun i => !lst listed i) = [] := List.eq_nil_of_length_eq_zero (by omega)
    have hmem : j ∉ (List.range m).filter fun i => !lst listed i := by rw [h0]; simp
    rw [List.mem_filter] at hmem
    simp only [List.mem_range, hj, true_and] at hmem
    simpa using hmem
  | succ fuel ih =>
    intro listed a w hc hlate hcount hinv hS
    by_cases hall : ∀ j, j < m → lst listed j = true
    · have : ((List.range m).filter fun i => !lst listed i) = [] := by
        rw [List.filter_eq_nil_iff]
        intro i hi
        rw [hall i (List.mem_range.1 hi)]
        simp
      rw [this] at hcount
      exact hdone (fuel + 1) listed a w hc hlate (by simpa using hcount) hinv hS hall
    · obtain ⟨j0, hj0⟩ : ∃ j, j < m ∧ lst listed j = false := by
        apply Classical.byContradiction
        intro hno
        refine hall fun j hj => ?_
        apply Classical.byContradiction
        intro hne
        exact hno ⟨j, hj, by simpa using hne⟩
      refine ⟨fun hr => ?_, fun i hi => ?_⟩
      · exfalso
        have hmin : ∀ i, i < ops.size → lst listed i = true := by
          intro i
          induction i using Nat.strongRecOn with
          | ind i ihi =>
            intro hilt
            apply Classical.byContradiction
            intro hn
            have hn' : lst listed i = false := by simpa using hn
            have hget : ops[i]? = some ops[i] := Array.getElem?_eq_getElem hilt
            have : i ∈ Region.ready .any ops listed := by
              unfold Region.ready
              rw [List.mem_filter]
              refine ⟨List.mem_range.2 hilt, ?_⟩
              rw [hget]
              simp only [Option.map_some, Option.getD_some, Bool.and_eq_true]
              refine ⟨by unfold lst at hn'; rw [hn']; simp, ?_⟩
              rw [Array.all_eq_true']
              intro e he
              cases hb : Region.binds .any e with
              | false => rfl
              | true =>
                have h1 := detOkM_early hok hget e he hb
                have h2 := ihi e.on h1 (by omega)
                have h3 : e.on < listed.size := by rw [hc.size]; omega
                simp only [lst, Array.getD] at h2 ⊢
                rw [dif_pos h3] at h2 ⊢
                simpa using h2
            rw [hr] at this
            cases this
        have := hmin j0 (by omega)
        rw [hj0.2] at this
        cases this
      · obtain ⟨o, ho, hn, hd⟩ := ready_spec hi
        have hilt := (Array.getElem?_eq_some_iff.1 ho).1
        have him : i < m := by
          rcases Nat.lt_or_ge i m with h | h
          · exact h
          · have := tail_listed ht hc ho h (fun e he hb => (hd e he hb).1) j0 (by omega)
            rw [hj0.2] at this
            cases this
        have A := detOkM_at hok ho him
        have hcan := canon_invM hok hm a0 v i (by omega)
        have hagree : ∀ t ∈ o.looksAt ops, a.tmps[t]? = (canon ops a0 v i).tmps[t]? := by
          intro t htl
          by_cases hex : ∃ j, j < m ∧ writesTo ops j t = true
          · obtain ⟨j, hjm, hw⟩ := hex
            have hj : j < ops.size := by omega
            obtain ⟨e, he, hb, hon⟩ := A.deps t htl j hjm hw
            have hlt := detOkM_early hok ho e he hb
            have hDj : lst listed j = true := by rw [← hon]; exact (hd e he hb).1
            by_cases hsz : t < a0.tmps.size
            · rw [hinv.done t hsz j hj hw hDj, hcan.done t hsz j hj hw (by simp; omega)]
            · rw [Array.getElem?_eq_none (by rw [hinv.size]; exact Nat.le_of_not_lt hsz), Array.getElem?_eq_none (by rw [hcan.size]; exact Nat.le_of_not_lt hsz)]
          · have hno : ∀ j, j < ops.size → writesTo ops j t = true → m ≤ j := fun j hj hw => by
              rcases Nat.lt_or_ge j m with h | h
              · exact absurd ⟨j, h, hw⟩ hex
              · exact h
            rw [hinv.rest t fun j hj hw => hlate j (hno j hj hw) hj, hcan.rest t fun j hj hw => by have := hno j hj hw; simp; omega]
        refine wpOp_mono ?_ (det_transfer (Q := Q) (v := v i) ho A.sel (hinv.size.trans hcan.size.symm) hagree (hop i o him ho w hS))
        rintro a' w' ⟨rfl, hS'⟩
        have hil : i < listed.size := by rw [hc.size]; exact hilt
        refine ih _ _ _ (hc.set ho fun e he hb => (hd e he hb).1) (fun k hk hk2 => ?_) ?_ ?_ hS'
        · rw [lst_set hil, hlate k hk hk2]
          simp
          omega
        · have hsub : ((List.range m).filter fun k => !lst (listed.setIfInBounds i true) k) = ((List.range m).filter fun k => !lst listed k).filter (fun k => k != i) := by
            rw [List.filter_filter]
            apply List.filter_congr
            intro k _
            rw [lst_set hil]
            by_cases e : k = i
            · subst e; simp
            · have e1 : (k == i) = false := by simpa using e
              have e2 : (k != i) = true := by simpa using e
              rw [e1, e2]
              simp
          rw [hsub]
          have hmem : i ∈ (List.range m).filter fun k => !lst listed k := List.mem_filter.2 ⟨List.mem_range.2 him, by simp [hn]⟩
          have : (((List.range m).filter fun k => !lst listed k).filter (fun k => k != i)).length < ((List.range m).filter fun k => !lst listed k).length :=
            List.length_filter_lt_length_iff_exists.2 ⟨i, hmem, by simp⟩
          omega
        · have := hinv.putM hok ho hn him
          have hf : (fun j => lst listed j || j == i) = fun j => lst (listed.setIfInBounds i true) j := by
            funext j
            rw [lst_set hil]
          rwa [hf] at this
/-- A region that draws its order: its first m operations in the order of the text under S, then its tail; the tail may write what they read. -/
theorem wp_region_tailM {id : Nat} {a : Act} {w : World} (m : Nat) (hm : P.follows .mixedOrders = true) (hok : (detOkM ops m && tailOk ops m && decide (m ≤ ops.size)) = true) (S : World → Prop) (hS : S w.drew) (h : wpDetT P ops S Q m ops.toList a) : (Code.region id ops true).wp P Q a w := by
  simp only [Bool.and_eq_true, decide_eq_true_eq] at hok
  obtain ⟨⟨h1, h2⟩, h3⟩ := hok
  obtain ⟨v, _, hv, hend⟩ := detT_canon (P := P) (S := S) (Q := Q) a m ops.toList 0 a (fun _ => undef) (fun j => by simp) (by simpa using h3) rfl h
  have hfalse : ∀ j, lst (Array.replicate ops.size false) j = !decide (j < ops.size) := by
    intro j
    unfold lst
    by_cases h : j < ops.size <;> simp [Array.getD, h]
  refine wp_region_any hm (detT_anyM (S := S) h1 h2 h3 a v (fun j o hj ho => hv j o (Nat.zero_le _) (by omega) ho) (by simpa using hend) ops.size _ a _ ⟨by simp, fun i o hi hl => ?_⟩ (fun k _ hk => by rw [hfalse]; simp [hk]) ?_ ?_ hS)
  · rw [hfalse] at hl
    have := (Array.getElem?_eq_some_iff.1 hi).1
    simp [this] at hl
  · have := List.length_filter_le (fun i => !lst (Array.replicate ops.size false) i) (List.range m)
    simp only [List.length_range] at this
    omega
  · exact ⟨rfl, rfl, fun t _ j hj _ hD => by rw [hfalse] at hD; simp [hj] at hD, fun t _ => rfl⟩
end
end Go.Proofs.YtgeclafcbgocgaaDoor

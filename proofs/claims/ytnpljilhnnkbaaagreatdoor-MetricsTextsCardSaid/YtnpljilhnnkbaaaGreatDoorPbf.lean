/- A part of the proof. -/
import Derived.Test.YtnpljilhnnkbaaaGreatDoorPbe
import Derived.Lib.SplitLaws
import Derived.Lib.CutLaws
import Derived.Lib.AtoiTie
import Derived.Lib.ItoaLen
import Derived.Lib.ItoaMem
import Derived.Lib.IndexBytes
import Derived.Lib.AppendIntMem
import Derived.Tactics2
import Derived.Maps.RangeWalk
set_option linter.all false
section
namespace Go.Proofs.Seat4
open Go.RowKit
def wpDetT (P : Program) (ops : Array Oper) (S : World → Prop) (Q : Exit → Act → World → Prop) : Nat → List Oper → Act → Prop
  | 0, l, a => ∀ w, S w → wpList P ops Q l a w
  | _ + 1, [], a => ∀ w, S w → Q .normal a w
  | m + 1, o :: rest, a => ∃ v, DetOp P ops S o a v ∧ wpDetT P ops S Q m rest (a.put o.dst v)
def reaches (ops : Array Oper) : Nat → Nat → Nat → Bool
  | 0, _, _ => false
  | f + 1, k, j => match ops[k]? with
    | none => false
    | some o => o.after.any fun e => Region.binds .any e && (e.on == j || reaches ops f e.on j)
def tailOk (ops : Array Oper) (m : Nat) : Bool := (List.range ops.size).all fun k => decide (k < m) || (List.range k).all fun j => reaches ops ops.size k j
section
variable {P : Program} {ops : Array Oper} {S : World → Prop} {Q : Exit → Act → World → Prop}
theorem wpDetT_cons {m : Nat} {o : Oper} {rest : List Oper} {a : Act} {v : Value} (h1 : DetOp P ops S o a v) (h2 : wpDetT P ops S Q m rest (a.put o.dst v)) : wpDetT P ops S Q (m + 1) (o :: rest) a := ⟨v, h1, h2⟩
def lst (listed : Array Bool) (j : Nat) : Bool := listed.getD j true
structure Closed (ops : Array Oper) (listed : Array Bool) : Prop where
  size : listed.size = ops.size
  down : ∀ i o, ops[i]? = some o → lst listed i = true → ∀ e ∈ o.after, Region.binds .any e = true → lst listed e.on = true
theorem reaches_listed {listed : Array Bool} (hc : Closed ops listed) : ∀ (f k j : Nat) (o : Oper), ops[k]? = some o → (∀ e ∈ o.after, Region.binds .any e = true → lst listed e.on = true) → reaches ops f k j = true → lst listed j = true
  | 0, _, _, _, _, _, h => by cases h
  | f + 1, k, j, o, hk, hd, h => by
    unfold reaches at h
    rw [hk] at h
    obtain ⟨e, he, hb⟩ := Array.any_eq_true'.1 h
    simp only [Bool.and_eq_true, Bool.or_eq_true, beq_iff_eq] at hb
    have hl := hd e he hb.1
    rcases hb.2 with h1 | h1
    · rw [← h1]; exact hl
    · cases hon : ops[e.on]? with
      | none =>
        cases f with
        | zero => cases h1
        | succ f => unfold reaches at h1; rw [hon] at h1; cases h1
      | some o' => exact reaches_listed hc f e.on j o' hon (fun e' he' hb' => hc.down e.on o' hon hl e' he' hb') h1
theorem tail_listed {m : Nat} (ht : tailOk ops m = true) {listed : Array Bool} (hc : Closed ops listed) {k : Nat} {o : Oper} (hk : ops[k]? = some o) (hm : m ≤ k) (hd : ∀ e ∈ o.after, Region.binds .any e = true → lst listed e.on = true) : ∀ j, j < k → lst listed j = true := by
  intro j hj
  have hlt : k < ops.size := (Array.getElem?_eq_some_iff.1 hk).1
  have := List.all_eq_true.1 ht k (List.mem_range.2 hlt)
  rw [show decide (k < m) = false from by simpa using hm, Bool.false_or] at this
  exact reaches_listed hc ops.size k j o hk hd (List.all_eq_true.1 this j (List.mem_range.2 hj))
theorem ready_spec {listed : Array Bool} {i : Nat} (h : i ∈ Region.ready .any ops listed) : ∃ o, ops[i]? = some o ∧ lst listed i = false ∧ ∀ e ∈ o.after, Region.binds .any e = true → lst listed e.on = true ∧ e.on < listed.size := by
  unfold Region.ready at h
  rw [List.mem_filter] at h
  obtain ⟨hir, hc⟩ := h
  have hlt0 : i < ops.size := List.mem_range.1 hir
  have hget : ops[i]? = some ops[i] := Array.getElem?_eq_getElem hlt0
  rw [hget] at hc
  simp only [Bool.and_eq_true, Option.map_some, Option.getD_some] at hc
  refine ⟨_, hget, by simpa [lst] using hc.1, fun e he hb => ?_⟩
  have := Array.all_eq_true'.1 hc.2 e he
  rw [hb] at this
  simp only [Bool.not_true, Bool.false_or] at this
  simp only [lst, Array.getD] at this ⊢
  split at this
  · rename_i hlt; rw [dif_pos hlt]; exact ⟨this, hlt⟩
  · cases this
theorem lst_set {listed : Array Bool} {i : Nat} (hi : i < listed.size) (j : Nat) : lst (listed.setIfInBounds i true) j = (lst listed j || j == i) := by
  unfold lst
  by_cases hjl : j < listed.size
  · by_cases e : j = i
    · subst e; simp [Array.getD, hjl]
    · have : ¬ i = j := fun x => e x.symm
      simp [Array.getD, hjl, Array.getElem_setIfInBounds, e, this]
  · simp [Array.getD, hjl]
theorem Closed.set {listed : Array Bool} (hc : Closed ops listed) {i : Nat} {o : Oper} (hi : ops[i]? = some o) (hd : ∀ e ∈ o.after, Region.binds .any e = true → lst listed e.on = true) : Closed ops (listed.setIfInBounds i true) := by
  have hlt : i < listed.size := by rw [hc.size]; exact (Array.getElem?_eq_some_iff.1 hi).1
  refine ⟨by simpa using hc.size, fun k o' hk hl e he hb => ?_⟩
  rw [lst_set hlt] at hl ⊢
  by_cases e1 : k = i
  · subst e1
    rw [hi] at hk
    cases hk
    simp [hd e he hb]
  · have : lst listed k = true := by simpa [e1] using hl
    simp [hc.down k o' hk this e he hb]
theorem tail_any {m : Nat} (ht : tailOk ops m = true) (hearly : detOk ops = true) : ∀ (fuel c : Nat) (listed : Array Bool) (a : Act) (w : World), m ≤ c → c ≤ ops.size → ops.size - c ≤ fuel → Closed ops listed → (∀ j, j < ops.size → lst listed j = decide (j < c)) → wpList P ops Q (ops.toList.drop c) a w →
    wpAny P .any ops Q fuel listed a w := by
  have hnone : ∀ (c : Nat) (listed : Array Bool), c = ops.size → (∀ j, j < ops.size → lst listed j = decide (j < c)) → Region.ready .any ops listed = [] := by
    intro c listed hcs hl
    rw [List.eq_nil_iff_forall_not_mem]
    intro i hi
    obtain ⟨o, ho, hn, _⟩ := ready_spec hi
    have hlt := (Array.getElem?_eq_some_iff.1 ho).1
    rw [hl i hlt, hcs] at hn
    simp [hlt] at hn
  intro fuel
  induction fuel with
  | zero =>
    intro c listed a w hmc hcn hf hc hl h
    have hcs : c = ops.size := by omega
    rw [hcs, List.drop_of_length_le (by simp)] at h
    exact ⟨hnone c listed hcs hl, h⟩
  | succ fuel ih =>
    intro c listed a w hmc hcn hf hc hl h
    by_cases hcs : c = ops.size
    · have hno := hnone c listed hcs hl
      rw [hcs, List.drop_of_length_le (by simp)] at h
      refine ⟨fun _ => h, fun i hi => ?_⟩
      rw [hno] at hi
      cases hi
    · have hclt : c < ops.size := by omega
      have hget : ops[c]? = some ops[c] := Array.getElem?_eq_getElem hclt
      have hdrop : ops.toList.drop c = ops[c] :: ops.toList.drop (c + 1) := by
        rw [List.drop_eq_getElem_cons (by simpa using hclt)]
        simp
      rw [hdrop] at h
      have hdeps : ∀ e ∈ ops[c].after, Region.binds .any e = true → lst listed e.on = true := fun e he hb => by
        have := (detOk_at hearly hget).early e he hb
        rw [hl e.on (by omega)]
        simpa using this
      refine ⟨fun hr => ?_, fun i hi => ?_⟩
      · exfalso
        have : c ∈ Region.ready .any ops listed := by
          unfold Region.ready
          rw [List.mem_filter]
          refine ⟨List.mem_range.2 hclt, ?_⟩
          have hn := hl c hclt
          rw [hget]
          simp only [Option.map_some, Option.getD_some, Bool.and_eq_true]
          refine ⟨by unfold lst at hn; rw [hn]; simp, ?_⟩
          rw [Array.all_eq_true']
          intro e he
          cases hb : Region.binds .any e with
          | false => rfl
          | true =>
            have h1 := (detOk_at hearly hget).early e he hb
            have h2 := hdeps e he hb
            simp only [lst, Array.getD] at h2 ⊢
            have h3 : e.on < listed.size := by rw [hc.size]; omega
            rw [dif_pos h3] at h2 ⊢
            simpa using h2
        rw [hr] at this
        cases this
      · obtain ⟨o, ho, hn, hd⟩ := ready_spec hi
        have hilt := (Array.getElem?_eq_some_iff.1 ho).1
        have hci : c ≤ i := by
          rw [hl i hilt] at hn
          simpa using hn
        have hic : i = c := by
          rcases Nat.lt_or_ge c i with hlt | hge
          · have := tail_listed ht hc ho (by omega) (fun e he hb => (hd e he hb).1) c hlt
            rw [hl c hclt] at this
            simp at this
          · omega
        subst hic
        rw [hget] at ho
        cases ho
        unfold wpList at h
        unfold wpOp
        simp only [hget]
        have hnext : ∀ a' w', wpList P ops Q (ops.toList.drop (i + 1)) a' w' → wpAny P .any ops Q fuel (listed.setIfInBounds i true) a' w' := fun a' w' h' => by
          refine ih (i + 1) _ a' w' (by omega) (by omega) (by omega) (hc.set hget hdeps) (fun j hj => ?_) h'
          rw [lst_set (by rw [hc.size]; exact hclt), hl j hj]
          by_cases h1 : j < i
          · simp [h1, show j < i + 1 from by omega]
          · by_cases h2 : j = i
            · simp [h2]
            · simp [h1, h2, show ¬ j < i + 1 from by omega]
        split
        · rename_i hw
          rw [if_pos hw] at h
          exact h.imp (Oper.wp_mono hnext) id
        · rename_i hw
          rw [if_neg hw] at h
          exact hnext _ _ h
theorem detT_canon (a0 : Act) : ∀ (m : Nat) (l : List Oper) (k : Nat) (a : Act) (v : Nat → Value), (∀ j, l[j]? = ops[k + j]?) → m ≤ l.length → canon ops a0 v k = a → wpDetT P ops S Q m l a →
    ∃ v' : Nat → Value, (∀ j, j < k → v' j = v j) ∧ (∀ j o, k ≤ j → j < k + m → ops[j]? = some o → DetOp P ops S o (canon ops a0 v' j) (v' j)) ∧ (∀ w, S w → wpList P ops Q (l.drop m) (canon ops a0 v' (k + m)) w) := by
  intro m
  induction m with
  | zero =>
    intro l k a v hl _ ha h
    exact ⟨v, fun _ _ => rfl, fun j o h1 h2 => by omega, fun w hw => by simpa [ha] using h w hw⟩
  | succ m ih =>
    intro l k a v hl hm ha h
    cases l with
    | nil => simp at hm
    | cons o rest =>
      obtain ⟨u, hu, hrest⟩ := h
      have hk : ops[k]? = some o := by simpa using (hl 0).symm
      have same : ∀ (v1 v2 : Nat → Value) (m : Nat), (∀ j, j < m → v1 j = v2 j) → canon ops a0 v1 m = canon ops a0 v2 m := by
        intro v1 v2 m hm
        induction m with
        | zero => rfl
        | succ m ihm =>
          simp only [canon]
          rw [ihm fun j hj => hm j (by omega)]
          cases ops[m]? with
          | none => rfl
          | some o' => simp only [hm m (by omega)]
      let v2 : Nat → Value := fun j => if j = k then u else v j
      have hv2 : ∀ j, j < k → v2 j = v j := fun j hj => if_neg (by omega)
      have hck : canon ops a0 v2 k = a := (same v2 v k hv2).trans ha
      have hck1 : canon ops a0 v2 (k + 1) = a.put o.dst u := by
        show (match ops[k]? with | some o => (canon ops a0 v2 k).put o.dst (v2 k) | none => canon ops a0 v2 k) = _
        rw [hk, hck]
        simp [v2]
      obtain ⟨v', h1, h2, h3⟩ := ih rest (k + 1) _ v2 (fun j => by have := hl (j + 1); simpa [Nat.add_assoc, Nat.add_comm 1 j] using this) (by simpa using hm) hck1 hrest
      refine ⟨v', fun j hj => (h1 j (by omega)).trans (hv2 j hj), fun j o' hj hj2 ho => ?_, fun w hw => by have := h3 w hw; rwa [show k + 1 + m = k + (m + 1) from by omega] at this⟩
      by_cases e : j = k
      · subst e
        rw [hk] at ho
        cases ho
        rw [same v' v2 j fun m hm => h1 m (by omega), hck, h1 j (by omega)]
        simp only [v2, if_true]
        exact hu
      · exact h2 j o' (by omega) (by omega) ho
theorem detT_any {m : Nat} (hok : detOk ops = true) (ht : tailOk ops m = true) (hm : m ≤ ops.size) (a0 : Act) (v : Nat → Value) (hop : ∀ j o, j < m → ops[j]? = some o → DetOp P ops S o (canon ops a0 v j) (v j)) (hend : ∀ w, S w → wpList P ops Q (ops.toList.drop m) (canon ops a0 v m) w) :
    ∀ (fuel : Nat) (listed : Array Bool) (a : Act) (w : World), Closed ops listed → (∀ k, m ≤ k → k < ops.size → lst listed k = false) → ((List.range m).filter fun i => !lst listed i).length + (ops.size - m) ≤ fuel → DetInv ops a0 v (fun j => lst listed j) a → S w →
      wpAny P .any ops Q fuel listed a w := by
  have hdone : ∀ (fuel : Nat) (listed : Array Bool) (a : Act) (w : World), Closed ops listed → (∀ k, m ≤ k → k < ops.size → lst listed k = false) → (ops.size - m) ≤ fuel → DetInv ops a0 v (fun j => lst listed j) a → S w → (∀ j, j < m → lst listed j = true) → wpAny P .any ops Q fuel listed a w := by
    intro fuel listed a w hc hlate hf hinv hS hall
    have hcn := canon_inv hok a0 v m hm
    have hlst : ∀ j, j < ops.size → lst listed j = decide (j < m) := by
      intro j hj
      by_cases h : j < m
      · simp [h, hall j h]
      · simp [h, hlate j (by omega) hj]
    have heq : a = canon ops a0 v m := by
      have htm : a.tmps = (canon ops a0 v m).tmps := by
        apply Array.ext_getElem?
        intro t
        by_cases hex : ∃ j, j < ops.size ∧ writesTo ops j t = true ∧ j < m
        · obtain ⟨j, hj, hw, hjm⟩ := hex
          by_cases htl : t < a0.tmps.size
          · rw [hinv.done t htl j hj hw (hall j hjm), hcn.done t htl j hj hw (by simpa using hjm)]
          · rw [Array.getElem?_eq_none (by rw [hinv.size]; exact Nat.le_of_not_lt htl), Array.getElem?_eq_none (by rw [hcn.size]; exact Nat.le_of_not_lt htl)]
        · have hno : ∀ j, j < ops.size → writesTo ops j t = true → ¬ j < m := fun j hj hw hjm => hex ⟨j, hj, hw, hjm⟩
          rw [hinv.rest t fun j hj hw => by rw [hlst j hj]; simpa using hno j hj hw, hcn.rest t fun j hj hw => by simpa using hno j hj hw]
      have hd : a.defers = (canon ops a0 v m).defers := hinv.defers.trans hcn.defers.symm
      cases a
      cases hc2 : canon ops a0 v m
      rw [hc2] at htm hd
      simp only at htm hd
      rw [htm, hd]
    rw [heq]
    exact tail_any ht hok fuel m listed _ w (Nat.le_refl _) hm hf hc hlst (hend w hS)
  intro fuel
  induction fuel with
  | zero =>
    intro listed a w hc hlate hcount hinv hS
    refine hdone 0 listed a w hc hlate (by omega) hinv hS fun j hj => ?_
    have h0 : ((List.range m).filter fun i => !lst listed i) = [] := List.eq_nil_of_length_eq_zero (by omega)
    have hmem : j ∉ (List.range m).filter fun i => !lst listed i := by rw [h0]; simp
    rw [List.mem_filter] at hmem
    simp only [List.mem_range, hj, true_and] at hmem
    simpa using hmem
  | succ fuel ih =>
    intro listed a w hc hlate hcount hinv hS
    by_cases hall : ∀ j, j < m → lst listed j = true
    · have : ((List.range m).filter fun i => !lst listed i) = [] := by
        rw [List.filter_eq_nil_iff]
        intro i hi
        rw [hall i (List.mem_range.1 hi)]
        simp
      rw [this] at hcount
      exact hdone (fuel + 1) listed a w hc hlate (by simpa using hcount) hinv hS hall
    · obtain ⟨j0, hj0⟩ : ∃ j, j < m ∧ lst listed j = false := by
        apply Classical.byContradiction
        intro hno
        refine hall fun j hj => ?_
        apply Classical.byContradiction
        intro hne
        exact hno ⟨j, hj, by simpa using hne⟩
      refine ⟨fun hr => ?_, fun i hi => ?_⟩
      · exfalso
        have hmin : ∀ i, i < ops.size → lst listed i = true := by
          intro i
          induction i using Nat.strongRecOn with
          | ind i ihi =>
            intro hilt
            apply Classical.byContradiction
            intro hn
            have hn' : lst listed i = false := by simpa using hn
            have hget : ops[i]? = some ops[i] := Array.getElem?_eq_getElem hilt
            have : i ∈ Region.ready .any ops listed := by
              unfold Region.ready
              rw [List.mem_filter]
              refine ⟨List.mem_range.2 hilt, ?_⟩
              rw [hget]
              simp only [Option.map_some, Option.getD_some, Bool.and_eq_true]
              refine ⟨by unfold lst at hn'; rw [hn']; simp, ?_⟩
              rw [Array.all_eq_true']
              intro e he
              cases hb : Region.binds .any e with
              | false => rfl
              | true =>
                have h1 := (detOk_at hok hget).early e he hb
                have h2 := ihi e.on h1 (by omega)
                have h3 : e.on < listed.size := by rw [hc.size]; omega
                simp only [lst, Array.getD] at h2 ⊢
                rw [dif_pos h3] at h2 ⊢
                simpa using h2
            rw [hr] at this
            cases this
        have := hmin j0 (by omega)
        rw [hj0.2] at this
        cases this
      · obtain ⟨o, ho, hn, hd⟩ := ready_spec hi
        have hilt := (Array.getElem?_eq_some_iff.1 ho).1
        have him : i < m := by
          rcases Nat.lt_or_ge i m with h | h
          · exact h
          · have := tail_listed ht hc ho h (fun e he hb => (hd e he hb).1) j0 (by omega)
            rw [hj0.2] at this
            cases this
        have A := detOk_at hok ho
        have hcan := canon_inv hok a0 v i (by omega)
        have hagree : ∀ t ∈ o.looksAt ops, a.tmps[t]? = (canon ops a0 v i).tmps[t]? := by
          intro t htl
          by_cases hex : ∃ j, j < ops.size ∧ writesTo ops j t = true
          · obtain ⟨j, hj, hw⟩ := hex
            obtain ⟨e, he, hb, hon⟩ := A.deps t htl j hj hw
            have hlt := A.early e he hb
            have hDj : lst listed j = true := by rw [← hon]; exact (hd e he hb).1
            by_cases hsz : t < a0.tmps.size
            · rw [hinv.done t hsz j hj hw hDj, hcan.done t hsz j hj hw (by simp; omega)]
            · rw [Array.getElem?_eq_none (by rw [hinv.size]; exact Nat.le_of_not_lt hsz), Array.getElem?_eq_none (by rw [hcan.size]; exact Nat.le_of_not_lt hsz)]
          · rw [hinv.rest t fun j hj hw => absurd ⟨j, hj, hw⟩ hex, hcan.rest t fun j hj hw => absurd ⟨j, hj, hw⟩ hex]
        refine wpOp_mono ?_ (det_transfer (Q := Q) (v := v i) ho A.sel (hinv.size.trans hcan.size.symm) hagree (hop i o him ho w hS))
        rintro a' w' ⟨rfl, hS'⟩
        have hil : i < listed.size := by rw [hc.size]; exact hilt
        refine ih _ _ _ (hc.set ho fun e he hb => (hd e he hb).1) (fun k hk hk2 => ?_) ?_ ?_ hS'
        · rw [lst_set hil, hlate k hk hk2]
          simp
          omega
        · have hsub : ((List.range m).filter fun k => !lst (listed.setIfInBounds i true) k) = ((List.range m).filter fun k => !lst listed k).filter (fun k => k != i) := by
            rw [List.filter_filter]
            apply List.filter_congr
            intro k _
            rw [lst_set hil]
            by_cases e : k = i
            · subst e; simp
            · have e1 : (k == i) = false := by simpa using e
              have e2 : (k != i) = true := by simpa using e
              rw [e1, e2]
              simp
          rw [hsub]
          have hmem : i ∈ (List.range m).filter fun k => !lst listed k := List.mem_filter.2 ⟨List.mem_range.2 him, by simp [hn]⟩
          have : (((List.range m).filter fun k => !lst listed k).filter (fun k => k != i)).length < ((List.range m).filter fun k => !lst listed k).length :=
            List.length_filter_lt_length_iff_exists.2 ⟨i, hmem, by simp⟩
          omega
        · have := hinv.put hok ho hn
          have hf : (fun j => lst listed j || j == i) = fun j => lst (listed.setIfInBounds i true) j := by
            funext j
            rw [lst_set hil]
          rwa [hf] at this
theorem wp_region_tail {id : Nat} {a : Act} {w : World} (m : Nat) (hm : P.follows .mixedOrders = true) (hok : (detOk ops && tailOk ops m && decide (m ≤ ops.size)) = true) (S : World → Prop) (hS : S w.drew) (h : wpDetT P ops S Q m ops.toList a) : (Code.region id ops true).wp P Q a w := by
  simp only [Bool.and_eq_true, decide_eq_true_eq] at hok
  obtain ⟨⟨h1, h2⟩, h3⟩ := hok
  obtain ⟨v, _, hv, hend⟩ := detT_canon (P := P) (S := S) (Q := Q) a m ops.toList 0 a (fun _ => undef) (fun j => by simp) (by simpa using h3) rfl h
  have hfalse : ∀ j, lst (Array.replicate ops.size false) j = !decide (j < ops.size) := by
    intro j
    unfold lst
    by_cases h : j < ops.size <;> simp [Array.getD, h]
  refine wp_region_any hm (detT_any (S := S) h1 h2 h3 a v (fun j o hj ho => hv j o (Nat.zero_le _) (by omega) ho) (by simpa using hend) ops.size _ a _ ⟨by simp, fun i o hi hl => ?_⟩ (fun k _ hk => by rw [hfalse]; simp [hk]) ?_ ?_ hS)
  · rw [hfalse] at hl
    have := (Array.getElem?_eq_some_iff.1 hi).1
    simp [this] at hl
  · have := List.length_filter_le (fun i => !lst (Array.replicate ops.size false) i) (List.range m)
    simp only [List.length_range] at this
    omega
  · exact ⟨rfl, rfl, fun t _ j hj _ hD => by rw [hfalse] at hD; simp [hj] at hD, fun t _ => rfl⟩
end
end Go.Proofs.Seat4
end
section
namespace Go.Proofs.Seat8
open Go.RowKit Go.Proofs.Seat4 Go.Sort
structure Mt where
  name : List UInt8
  index : Int
  count : Int
  sum : Int
  mx : Int
  deriving DecidableEq, Inhabited
def mtCells (m : Mt) : List Value := [.string ⟨m.name.toArray⟩, .int .i64 m.index, .int .i64 m.count, .int .i64 m.sum, .int .i64 m.mx]
theorem mtCells_one (a : Mt) : ∀ u ∈ mtCells a, u.oneCell' = true := by
  intro u hu
  simp [mtCells] at hu
  rcases hu with rfl | rfl | rfl | rfl | rfl <;> rfl
def cfM (x y : Mt) : Int := orI (cfS x.name y.name) (cfI x.index y.index)
set_option maxRecDepth 100000 in
set_option maxHeartbeats 1000000 in
theorem cmp24 (x y : Mt) (W : World) : Calls Tryz.prog 31 #[.agg (mtCells x).toArray, .agg (mtCells y).toArray] W fun e w' => e = .returned (.int .i64 (cfM x y)) ∧ ∃ q os', w' = grow (W.drewN q) os' := by
  simp only [mtCells]
  unfold cfM
  generalize hs : cfS x.name y.name = s
  generalize hi : cfI x.index y.index = i
  have Hs := Lib.hid hs
  have Hi := Lib.hid hi
  clear hs hi
  go_enter Tryz.func31, Tryz.ntmps31
  go_wp2
  refine wp_region_tail 10 (by kernel_rfl) (by kernel_rfl) (fun W' => ∃ n, W' = (((W.alloc (.cells #[.string ⟨x.name.toArray⟩, .int .i64 x.index, .int .i64 x.count, .int .i64 x.sum, .int .i64 x.mx] 34)).alloc (.cells #[.string ⟨y.name.toArray⟩, .int .i64 y.index, .int .i64 y.count, .int .i64 y.sum, .int .i64 y.mx] 34)).drewN n)) ⟨1, rfl⟩ ?_
  iterate 10
    apply wpDetT_cons
    · rintro wx ⟨n, rfl⟩
      go_wp2_with (first | (go_at_call 53; refine (cmp38 _ _ _).mono ?_; rintro e w' ⟨rfl, rfl⟩; rw [Hs.out]) | (go_at_call 54; refine (cmp39 _ _ _).mono ?_; rintro e w' ⟨rfl, rfl⟩; rw [Hi.out]))
      exact ⟨rfl, rfl, n, rfl⟩
    go_frame
  rintro wx ⟨nq, rfl⟩
  go_wp2_with (go_at_call 52; refine (or37 s i _ _ _ (Row.new _ #[.int .i64 s, .int .i64 i] 3 _ (by simp) 0 _ rfl) (Row.new _ #[.int .i64 s, .int .i64 i] 3 _ (by simp) 1 _ rfl)).mono ?_; rintro e w' ⟨rfl, q, os', rfl⟩)
  go_ret
  refine ⟨rfl, nq + q, #[.cells #[.string ⟨x.name.toArray⟩, .int .i64 x.index, .int .i64 x.count, .int .i64 x.sum, .int .i64 x.mx] 34] ++ (#[.cells #[.string ⟨y.name.toArray⟩, .int .i64 y.index, .int .i64 y.count, .int .i64 y.sum, .int .i64 y.mx] 34] ++ (#[.cells #[.int .i64 s, .int .i64 i] 3] ++ os')), ?_⟩
  simp only [alloc_eq_grow, grow, World.drewN, Nat.add_assoc, Array.append_assoc]
theorem cfS_neg (l m : List UInt8) : cfS l m < 0 ↔ Op.bytesLess l m = true := by
  unfold cfS
  split
  · simp_all
  · split <;> simp_all
theorem cfS_zero (l m : List UInt8) : cfS l m = 0 ↔ l = m := by
  unfold cfS
  constructor
  · intro h
    split at h
    · omega
    · split at h
      · omega
      · exact bl_eq (by simpa using ‹¬ Op.bytesLess l m = true›) (by simpa using ‹¬ Op.bytesLess m l = true›)
  · rintro rfl
    simp [bl_irr]
theorem cfI_neg (x y : Int) : cfI x y < 0 ↔ x < y := by
  unfold cfI
  split
  · omega
  · split <;> omega
def Kl (x y : Mt) : Prop := Op.bytesLess x.name y.name = true ∨ (x.name = y.name ∧ x.index < y.index)
theorem cfM_neg (x y : Mt) : cfM x y < 0 ↔ Kl x y := by
  unfold cfM orI Kl
  split
  · rename_i h
    have e := (cfS_zero _ _).1 h
    rw [cfI_neg, e]
    simp [bl_irr]
  · rename_i h
    rw [cfS_neg]
    have e : ¬ x.name = y.name := fun e => h ((cfS_zero _ _).2 e)
    simp [e]
theorem Kl.irr (x : Mt) : ¬ Kl x x := by
  rintro (h | ⟨_, h⟩)
  · rw [bl_irr] at h; cases h
  · omega
theorem Kl.trans {x y z : Mt} (h1 : Kl x y) (h2 : Kl y z) : Kl x z := by
  rcases h1 with h1 | ⟨e1, h1⟩
  · rcases h2 with h2 | ⟨e2, h2⟩
    · exact .inl (bl_trans h1 h2)
    · exact .inl (e2 ▸ h1)
  · rcases h2 with h2 | ⟨e2, h2⟩
    · exact .inl (e1 ▸ h2)
    · exact .inr ⟨e1.trans e2, by omega⟩
theorem Kl.tri (x y : Mt) : Kl x y ∨ Kl y x ∨ (x.name = y.name ∧ x.index = y.index) := by
  rcases Bool.eq_false_or_eq_true (Op.bytesLess x.name y.name) with h1 | h1
  · exact .inl (.inl h1)
  · rcases Bool.eq_false_or_eq_true (Op.bytesLess y.name x.name) with h2 | h2
    · exact .inr (.inl (.inl h2))
    · have e := bl_eq h1 h2
      rcases Int.lt_trichotomy x.index y.index with h | h | h
      · exact .inl (.inr ⟨e, h⟩)
      · exact .inr (.inr ⟨e, h⟩)
      · exact .inr (.inl (.inr ⟨e.symm, h⟩))
theorem ltM (x y : Mt) : ltOf cfM x y = true ↔ Kl x y := by
  show decide (cfM x y < 0) = true ↔ _
  rw [decide_eq_true_eq, cfM_neg]
theorem ltM_not (x y : Mt) : ltOf cfM x y = false ↔ ¬ Kl x y := by rw [← ltM, Bool.not_eq_true]
theorem swoM : SWO (ltOf cfM) := by
  refine ⟨fun x => ?_, fun x y z h1 h2 => ?_, fun x y z h1 h2 => ?_⟩
  · rw [ltM_not]; exact Kl.irr x
  · rw [ltM] at *; exact h1.trans h2
  · rw [ltM_not] at *
    intro h
    rcases Kl.tri x y with e | e | ⟨e1, e2⟩
    · exact h1 e
    · exact h2 (e.trans h)
    · refine h2 ?_
      rcases h with h | ⟨h3, h4⟩
      · exact .inl (e1 ▸ h)
      · exact .inr ⟨e1 ▸ h3, by omega⟩
end Go.Proofs.Seat8
end
section
namespace Go.Proofs.Seat8
open Go.RowKit Go.Proofs.Seat4
section
variable {α : Type}
structure Enc (α : Type) where
  cells : α → List Value
  size : Nat
  len : ∀ x, (cells x).length = size
  one : ∀ x, ∀ u ∈ cells x, u.oneCell' = true
variable {α : Type}
def Enc.all (E : Enc α) (l : List α) : List Value := l.flatMap E.cells
theorem Enc.all_len (E : Enc α) (l : List α) : (E.all l).length = l.length * E.size := by
  induction l with
  | nil => simp [Enc.all]
  | cons e l ih =>
    show (E.cells e ++ E.all l).length = _
    rw [List.length_append, ih, E.len, List.length_cons, Nat.succ_mul, Nat.add_comm]
theorem Enc.all_snoc (E : Enc α) (l : List α) (e : α) : E.all (l ++ [e]) = E.all l ++ E.cells e := by simp [Enc.all]
def LAt (E : Enc α) (w : World) (b off : Nat) (l : List α) : Prop := ∀ k (h : k < l.length), Row w b (off + k * E.size) (E.cells l[k])
theorem LAt.below {E : Enc α} {w w' : World} {b off B : Nat} {l : List α} (h : LAt E w b off l) (hb : Below B w w') (hB : b < B) : LAt E w' b off l := fun k hk => (h k hk).below hb hB
theorem lAt_of_row {E : Enc α} {w : World} {b : Nat} : ∀ {l : List α} {off : Nat}, Row w b off (E.all l) → LAt E w b off l
  | [], _, _ => fun k h => absurd h (Nat.not_lt_zero _)
  | e :: l, off, h => fun k hk => by
    have h' : Row w b off (E.cells e ++ E.all l) := h
    obtain ⟨h1, h2⟩ := h'.append
    cases k with
    | zero => simpa using h1
    | succ k =>
      have := lAt_of_row h2 k (by simpa using hk)
      rw [E.len] at this
      rw [show off + (k + 1) * E.size = off + E.size + k * E.size from by rw [Nat.succ_mul]; omega]
      exact this
def LV (E : Enc α) (w : World) (v : Value) (l : List α) : Prop := ∃ A c, v = .slice A l.length c ∧ l.length ≤ c ∧ (l ≠ [] → ∃ b off, A = some ⟨b, off, none⟩ ∧ b < w.heap.size ∧ LAt E w b off l)
theorem LV.split {E : Enc α} {w : World} {v : Value} {l : List α} (h : LV E w v l) : (∃ A c, v = .slice A 0 c ∧ l = []) ∨ ∃ b off cap, v = .slice (some ⟨b, off, none⟩) l.length cap ∧ l.length ≤ cap ∧ b < w.heap.size ∧ LAt E w b off l := by
  obtain ⟨A, c, rfl, hc, hr⟩ := h
  cases l with
  | nil => exact .inl ⟨A, c, rfl, rfl⟩
  | cons e l =>
    obtain ⟨b, off, rfl, hb, hrow⟩ := hr (by simp)
    exact .inr ⟨b, off, c, rfl, hc, hb, hrow⟩
theorem LV.mk_ {E : Enc α} {w : World} {l : List α} {b off cap : Nat} (hc : l.length ≤ cap) (hb : b < w.heap.size) (h : LAt E w b off l) : LV E w (.slice (some ⟨b, off, none⟩) l.length cap) l := ⟨_, _, rfl, hc, fun _ => ⟨b, off, rfl, hb, h⟩⟩
theorem LV.nil_ (E : Enc α) (w : World) (A : Option Addr) (c : Nat) : LV E w (.slice A 0 c) [] := ⟨A, c, rfl, Nat.zero_le _, fun h => absurd rfl h⟩
theorem LV.below {E : Enc α} {w w' : World} {v : Value} {l : List α} (h : LV E w v l) (hb : Below w.heap.size w w') : LV E w' v l := by
  obtain ⟨A, c, h1, h2, hr⟩ := h
  refine ⟨A, c, h1, h2, fun hl => ?_⟩
  obtain ⟨b, off, h3, h4, h5⟩ := hr hl
  exact ⟨b, off, h3, Nat.lt_of_lt_of_le h4 hb.size, h5.below hb h4⟩
theorem lv_own {E : Enc α} {w : World} {base e size : Nat} {v : Value} {l : List α} (h : w.ownsRow base e size v l.length (E.all l)) : LV E w v l := by
  rcases ownsRow_row h with ⟨rfl, h0, -⟩ | ⟨g, cap, rfl, -, hg, hcap, hrow⟩
  · rw [List.eq_nil_of_length_eq_zero h0]
    exact LV.nil_ _ _ _ _
  · exact LV.mk_ hcap hg (lAt_of_row hrow)
theorem take_snoc {α : Type} (l : List α) (k : Nat) (h : k < l.length) : l.take (k + 1) = l.take k ++ [l[k]] := by
  rw [List.take_succ_eq_append_getElem h]
theorem cell_heap {w : World} {b : Nat} {cs : Array Value} {t : TypeId} {fr : Nat × Nat} (h : w.heap[b]? = some (.cells cs t fr)) (j : Nat) : w.cell? ⟨b, j, none⟩ = cs[j]? := by simp [World.cell?, h]
theorem frozen_heap {w : World} {b : Nat} {cs : Array Value} {t : TypeId} (h : w.heap[b]? = some (.cells cs t (0, 0))) (j : Nat) : w.frozen? ⟨b, j, none⟩ = false := by simp [World.frozen?, h]
theorem setCell_heap {w : World} {b : Nat} {cs : Array Value} {t : TypeId} {fr : Nat × Nat} (h : w.heap[b]? = some (.cells cs t fr)) (j : Nat) (v : Value) : (w.setCell ⟨b, j, none⟩ v).heap[b]? = some (.cells (cs.setIfInBounds j v) t fr) := by
  simp [World.setCell, Array.getElem?_modify, h]
theorem heap_alloc_lt (w : World) (o : Obj) {i : Nat} (h : i < w.heap.size) : (w.alloc o).heap[i]? = w.heap[i]? := ((Below.refl w.heap.size w).alloc (Nat.le_refl _) o).block i h
theorem setCell_other {w : World} {b i : Nat} (j : Nat) (v : Value) (h : i ≠ b) : (w.setCell ⟨b, j, none⟩ v).heap[i]? = w.heap[i]? := Below.heap_setCell _ _ _ _ h
end
def ME : Enc Mt := ⟨mtCells, 5, fun _ => rfl, mtCells_one⟩
abbrev MtV (w : World) (v : Value) (l : List Mt) : Prop := LV ME w v l
end Go.Proofs.Seat8
end
section
namespace Go.Proofs.Seat8
def splitA (c : UInt8) : List UInt8 → List UInt8 → List (List UInt8)
  | p, [] => [p]
  | p, x :: r => if x = c then p :: splitA c [] r else splitA c (p ++ [x]) r
theorem splitA_none {c : UInt8} : ∀ (s p : List UInt8), c ∉ s → splitA c p s = [p ++ s]
  | [], p, _ => by simp [splitA]
  | x :: r, p, h => by
    have hx : x ≠ c := fun e => h (by simp [e])
    rw [splitA, if_neg hx, splitA_none r _ (fun e => h (by simp [e]))]
    simp
theorem splitA_hit {c : UInt8} : ∀ (a r p : List UInt8), c ∉ a → splitA c p (a ++ c :: r) = (p ++ a) :: splitA c [] r
  | [], r, p, _ => by simp [splitA]
  | x :: a, r, p, h => by
    have hx : x ≠ c := fun e => h (by simp [e])
    rw [List.cons_append, splitA, if_neg hx, splitA_hit a r _ (fun e => h (by simp [e]))]
    simp
theorem splitA_ne (c : UInt8) : ∀ (s p : List UInt8), splitA c p s ≠ []
  | [], p => by simp [splitA]
  | x :: r, p => by
    rw [splitA]
    split
    · simp
    · exact splitA_ne c r _
theorem first_byte (c : UInt8) : ∀ s : List UInt8, c ∉ s ∨ ∃ a r, s = a ++ c :: r ∧ c ∉ a
  | [] => .inl (by simp)
  | x :: s => by
    by_cases hx : x = c
    · exact .inr ⟨[], s, by simp [hx], by simp⟩
    · rcases first_byte c s with h | ⟨a, r, rfl, h⟩
      · exact .inl (by simp only [List.mem_cons, not_or]; exact ⟨fun e => hx e.symm, h⟩)
      · exact .inr ⟨x :: a, r, rfl, by simp only [List.mem_cons, not_or]; exact ⟨fun e => hx e.symm, h⟩⟩
theorem index_none {c : UInt8} : ∀ s : List UInt8, c ∉ s → Lib.index s [c] = -1
  | [], _ => rfl
  | x :: s, h => by
    have hx : c ≠ x := fun e => h (by simp [e])
    have ih := index_none s (fun e => h (List.mem_cons_of_mem _ e))
    unfold Lib.index
    rw [ih]
    simp [List.isPrefixOf, hx]
theorem index_hit {c : UInt8} : ∀ a r : List UInt8, c ∉ a → Lib.index (a ++ c :: r) [c] = (a.length : Int)
  | [], r, _ => by simp [Lib.index, List.isPrefixOf]
  | x :: a, r, h => by
    have hx : c ≠ x := fun e => h (by simp [e])
    have ih := index_hit a r (fun e => h (List.mem_cons_of_mem _ e))
    rw [List.cons_append]
    unfold Lib.index
    rw [ih]
    have h1 : ((a.length : Int) == -1) = false := by simp
    simp [List.isPrefixOf, hx, h1]
theorem cut_none {c : UInt8} {s : List UInt8} (h : c ∉ s) : Lib.cut s [c] = (s, [], false) := by
  unfold Lib.cut
  rw [index_none s h]
  rfl
theorem cut_hit {c : UInt8} (a r : List UInt8) (h : c ∉ a) : Lib.cut (a ++ c :: r) [c] = (a, r, true) := by
  unfold Lib.cut
  rw [index_hit a r h]
  rw [if_pos (by omega)]
  simp
theorem splitB_eq (c : UInt8) : ∀ (n : Nat) (s : List UInt8), s.length ≤ n → (Lib.splitB ⟨#[c]⟩ 0 (Lib.countB ⟨s.toArray⟩ ⟨#[c]⟩) ⟨s.toArray⟩).map (fun b => b.data.toList) = splitA c [] s := by
  intro n
  induction n with
  | zero =>
    intro s hs
    have : s = [] := List.eq_nil_of_length_eq_zero (by omega)
    subst this
    have hi : Lib.indexB ⟨#[]⟩ ⟨#[c]⟩ = -1 := by unfold Lib.indexB; exact index_none [] (by simp)
    rw [Lib.splitB_miss _ _ _ _ hi]
    simp [splitA]
  | succ n ih =>
    intro s hs
    rcases first_byte c s with h | ⟨a, r, rfl, h⟩
    · have hi : Lib.indexB ⟨s.toArray⟩ ⟨#[c]⟩ = -1 := by unfold Lib.indexB; exact index_none s h
      rw [Lib.splitB_miss _ _ _ _ hi, splitA_none s [] h]
      simp
    · have hi : Lib.indexB ⟨(a ++ c :: r).toArray⟩ ⟨#[c]⟩ = (a.length : Int) := by unfold Lib.indexB; exact index_hit a r h
      have hc := Lib.countB_hit ⟨(a ++ c :: r).toArray⟩ ⟨#[c]⟩ a.length (Nat.le_refl 1) hi
      have hext : (ByteArray.mk (a ++ c :: r).toArray).extract (a.length + (ByteArray.mk #[c]).size) (ByteArray.mk (a ++ c :: r).toArray).size = ⟨r.toArray⟩ := by
        apply ByteArray.ext
        have := Lib.extract_to_end ⟨(a ++ c :: r).toArray⟩ (a.length + (ByteArray.mk #[c]).size)
        apply Array.toList_inj.1
        rw [this]
        show List.drop (a.length + 1) (a ++ c :: r) = r
        simp
      rw [hext] at hc
      rw [hc, Nat.add_comm, Lib.splitB_hit _ _ _ _ _ hi, hext, List.map_cons, splitA_hit a r [] h]
      have := ih r (by simp at hs; omega)
      rw [this, Lib.extract_data]
      simp
theorem countB_len (c : UInt8) (s : List UInt8) : Lib.countB ⟨s.toArray⟩ ⟨#[c]⟩ + 1 = (splitA c [] s).length := by
  rw [← splitB_eq c s.length s (Nat.le_refl _), List.length_map, Lib.splitB_all ⟨#[c]⟩ (Nat.le_refl 1) _ _ _ rfl]
theorem splitB_cells (c : UInt8) (s : List UInt8) : (Lib.splitB ⟨#[c]⟩ 0 (Lib.countB ⟨s.toArray⟩ ⟨#[c]⟩) ⟨s.toArray⟩).map Value.string = (splitA c [] s).map (fun l => Value.string ⟨l.toArray⟩) := by
  rw [← splitB_eq c s.length s (Nat.le_refl _), List.map_map]
  apply List.map_congr_left
  intro b _
  rfl
/-! ### numerals -/
theorem dec_bytes : ∀ (n u : Nat), u ≤ n → ∀ x ∈ Lib.decDigits u, 48 ≤ x.toNat ∧ x.toNat ≤ 57 := by
  intro n
  induction n with
  | zero =>
    intro u hu x hx
    have : u = 0 := by omega
    subst this
    rw [Lib.decDigits.eq_1, dif_pos (by omega)] at hx
    simp at hx
    subst hx
    decide
  | succ n ih =>
    intro u hu x hx
    rw [Lib.decDigits.eq_1] at hx
    have hd : ∀ d, d < 10 → 48 ≤ (UInt8.ofNat (48 + d)).toNat ∧ (UInt8.ofNat (48 + d)).toNat ≤ 57 := by
      intro d hd
      rw [UInt8.toNat_ofNat', Nat.mod_eq_of_lt (by omega)]
      omega
    split at hx
    · rename_i h
      simp only [List.mem_singleton] at hx
      subst hx
      exact hd u h
    · rcases List.mem_append.1 hx with h | h
      · exact ih (u / 10) (by omega) x h
      · simp only [List.mem_singleton] at h
        subst h
        exact hd _ (Nat.mod_lt _ (by omega))
theorem itoa_bytes (n : Int) : ∀ x ∈ Lib.itoa n, x.toNat = 45 ∨ (48 ≤ x.toNat ∧ x.toNat ≤ 57) := by
  intro x hx
  unfold Lib.itoa at hx
  split at hx
  · rcases List.mem_cons.1 hx with h | h
    · subst h; left; rfl
    · exact .inr (dec_bytes _ _ (Nat.le_refl _) x h)
  · exact .inr (dec_bytes _ _ (Nat.le_refl _) x hx)
theorem itoa_no (n : Int) (c : UInt8) (h1 : c.toNat ≠ 45) (h2 : c.toNat < 48 ∨ 57 < c.toNat) : c ∉ Lib.itoa n := by
  intro h
  have := itoa_bytes n c h
  omega
theorem digit_of (d : Nat) (hd : d < 10) : Lib.digitVal (UInt8.ofNat (48 + d)) = some d := by
  have : ∀ d : Fin 10, Lib.digitVal (UInt8.ofNat (48 + d.val)) = some d.val := by decide
  exact this ⟨d, hd⟩
theorem decFrom_append : ∀ (l : List UInt8) (acc m d : Nat), Lib.decFrom acc l = some m → d < 10 → Lib.decFrom acc (l ++ [UInt8.ofNat (48 + d)]) = some (m * 10 + d)
  | [], acc, m, d, h, hd => by
    simp only [Lib.decFrom, Option.some.injEq] at h
    subst h
    simp only [List.nil_append, Lib.decFrom, digit_of d hd]
  | x :: l, acc, m, d, h, hd => by
    simp only [List.cons_append, Lib.decFrom] at h ⊢
    cases hx : Lib.digitVal x with
    | none => rw [hx] at h; cases h
    | some y =>
      rw [hx] at h
      exact decFrom_append l _ m d h hd
theorem decFrom_dec : ∀ (n u : Nat), u ≤ n → Lib.decFrom 0 (Lib.decDigits u) = some u := by
  intro n
  induction n with
  | zero =>
    intro u hu
    have : u = 0 := by omega
    subst this
    rw [Lib.decDigits.eq_1, dif_pos (by omega)]
    decide
  | succ n ih =>
    intro u hu
    rw [Lib.decDigits.eq_1]
    split
    · rename_i h
      have := decFrom_append [] 0 0 u rfl h
      simpa using this
    · have := decFrom_append _ 0 (u / 10) (u % 10) (ih (u / 10) (by omega)) (Nat.mod_lt _ (by omega))
      rw [this]
      congr 1
      omega
theorem dec_ne (u : Nat) : Lib.decDigits u ≠ [] := by
  rw [Lib.decDigits.eq_1]
  split <;> simp
theorem decNat_dec (u : Nat) : Lib.decNat (Lib.decDigits u) = some u := by
  unfold Lib.decNat
  rw [if_neg (by simpa using dec_ne u)]
  exact decFrom_dec u u (Nat.le_refl _)
theorem dec_head (u : Nat) : ∃ x r, Lib.decDigits u = x :: r ∧ 48 ≤ x.toNat ∧ x.toNat ≤ 57 := by
  cases h : Lib.decDigits u with
  | nil => exact absurd h (dec_ne u)
  | cons x r => exact ⟨x, r, rfl, dec_bytes u u (Nat.le_refl _) x (by rw [h]; simp)⟩
theorem atoi_itoa (n : Int) : Lib.atoi (Lib.itoa n) = some n := by
  unfold Lib.itoa
  split
  · rename_i h
    simp only [Lib.atoi, beq_self_eq_true, if_true, decNat_dec, Option.map_some]
    congr 1
    omega
  · rename_i h
    obtain ⟨x, r, hx, h1, h2⟩ := dec_head n.toNat
    rw [hx]
    have e1 : (x == 45) = false := by
      rw [beq_eq_false_iff_ne]
      rintro rfl
      revert h1; decide
    have e2 : (x == 43) = false := by
      rw [beq_eq_false_iff_ne]
      rintro rfl
      revert h1; decide
    simp only [Lib.atoi, e1, e2, Bool.false_eq_true, if_false]
    rw [← hx, decNat_dec]
    simp only [Option.map_some]
    congr 1
    omega
theorem dec_len_lt : ∀ (k u : Nat), u < 10 ^ k → 1 ≤ k → (Lib.decDigits u).length ≤ k := by
  intro k
  induction k with
  | zero => intro u _ h; omega
  | succ k ih =>
    intro u hu _
    rw [Lib.decDigits.eq_1]
    split
    · simp
    · rename_i h
      have hk : 1 ≤ k := by
        rcases Nat.eq_zero_or_pos k with e | e
        · subst e; simp at hu; omega
        · exact e
      have := ih (u / 10) (by rw [Nat.div_lt_iff_lt_mul (by omega)]; rw [Nat.pow_succ] at hu; exact hu) hk
      simp
      omega
theorem atoiAll_itoa (n : Int) (h0 : -100000000000000000 < n) (h1 : n < 100000000000000000) : Lib.atoiAll (Lib.itoa n) = .ok n := by
  have hl : (Lib.itoa n).length ≤ 18 := by
    unfold Lib.itoa
    split
    · have := dec_len_lt 17 n.natAbs (by omega) (by omega)
      simp; omega
    · have := dec_len_lt 17 n.toNat (by omega) (by omega)
      omega
  rw [Lib.atoiAll_short _ hl, atoi_itoa]
  rfl
def numLoop : Nat → List UInt8 → Option Nat
  | n, [] => some n
  | n, c :: r => if c.toNat < 48 ∨ 57 < c.toNat ∨ 1099511627776 < n then none else numLoop (n * 10 + (c.toNat - 48)) r
def numR (s : List UInt8) : Int × Bool :=
  match (if s.head? = some 45 then numLoop 0 s.tail else numLoop 0 s) with
  | none => (0, false)
  | some n => if s.head? = some 45 then (-(n : Int), decide (Lib.itoa (-(n : Int)) = s)) else ((n : Int), decide (Lib.itoa (n : Int) = s))
theorem numLoop_append : ∀ (l : List UInt8) (acc m d : Nat), numLoop acc l = some m → d < 10 → m ≤ 1099511627776 → numLoop acc (l ++ [UInt8.ofNat (48 + d)]) = some (m * 10 + d)
  | [], acc, m, d, h, hd, hm => by
    simp only [numLoop, Option.some.injEq] at h
    subst h
    have e : (UInt8.ofNat (48 + d)).toNat = 48 + d := by rw [UInt8.toNat_ofNat', Nat.mod_eq_of_lt (by omega)]
    simp only [List.nil_append, numLoop, e]
    rw [if_neg (by omega), show 48 + d - 48 = d from by omega]
  | x :: l, acc, m, d, h, hd, hm => by
    simp only [List.cons_append, numLoop] at h ⊢
    split at h
    · cases h
    · rename_i hc
      rw [if_neg hc]
      exact numLoop_append l _ m d h hd hm
theorem numLoop_dec : ∀ (n u : Nat), u ≤ n → u ≤ 10995116277769 → numLoop 0 (Lib.decDigits u) = some u := by
  intro n
  induction n with
  | zero =>
    intro u hu _
    have : u = 0 := by omega
    subst this
    rw [Lib.decDigits.eq_1, dif_pos (by omega)]
    decide
  | succ n ih =>
    intro u hu hb
    rw [Lib.decDigits.eq_1]
    split
    · rename_i h
      have := numLoop_append [] 0 0 u rfl h (by omega)
      simpa using this
    · have := numLoop_append _ 0 (u / 10) (u % 10) (ih (u / 10) (by omega) (by omega)) (Nat.mod_lt _ (by omega)) (by omega)
      rw [this]
      congr 1
      omega
theorem numR_itoa (n : Int) (h0 : -1099511627776 ≤ n) (h1 : n ≤ 1099511627776) : numR (Lib.itoa n) = (n, true) := by
  by_cases hn : n < 0
  · obtain ⟨m, rfl⟩ : ∃ m : Nat, n = -(m : Int) := ⟨n.natAbs, by omega⟩
    have e : Lib.itoa (-(m : Int)) = 45 :: Lib.decDigits m := Lib.itoa_neg m (by omega)
    unfold numR
    rw [e]
    simp only [List.head?_cons, if_true, List.tail_cons]
    rw [numLoop_dec m m (Nat.le_refl _) (by omega)]
    simp [e]
  · obtain ⟨m, rfl⟩ : ∃ m : Nat, n = (m : Int) := ⟨n.toNat, by omega⟩
    have e : Lib.itoa (m : Int) = Lib.decDigits m := Lib.itoa_nonneg m
    obtain ⟨x, r, hx, hx1, hx2⟩ := dec_head m
    have hne : (Lib.decDigits m).head? ≠ some 45 := by
      rw [hx]
      simp only [List.head?_cons, ne_eq, Option.some.injEq]
      rintro rfl
      revert hx1; decide
    unfold numR
    rw [e]
    simp only [if_neg hne]
    rw [numLoop_dec m m (Nat.le_refl _) (by omega)]
    simp [e]
theorem numR_ok {s : List UInt8} {n : Int} (h : numR s = (n, true)) : s = Lib.itoa n := by
  unfold numR at h
  split at h
  · simp at h
  · split at h
    · simp only [Prod.mk.injEq, decide_eq_true_eq] at h
      rw [← h.1, h.2]
    · simp only [Prod.mk.injEq, decide_eq_true_eq] at h
      rw [← h.1, h.2]
end Go.Proofs.Seat8
end
section
namespace Go.Proofs.Seat8
open Go.RowKit Go.Proofs.Seat4
structure Env (w : World) : Prop where
  top : 4 ≤ w.heap.size
  maxlen : ∃ m, w.cell? ⟨3, 0, none⟩ = some (.int .i64 m)
  tab : Lib.TabIs Tryz.prog w "internal/strconv.uint64pow10" .u64 Lib.pow10Tab
  syn : ∃ tp p, w.var? Tryz.prog "strconv.ErrSyntax" = some #[.iface tp p]
  rng : ∃ tp p, w.var? Tryz.prog "strconv.ErrRange" = some #[.iface tp p]
theorem gTab : Tryz.prog.globalNamed "internal/strconv.uint64pow10" = some 2 := by kernel_rfl
theorem gSyn : Tryz.prog.globalNamed "strconv.ErrSyntax" = some 0 := by kernel_rfl
theorem gRng : Tryz.prog.globalNamed "strconv.ErrRange" = some 1 := by kernel_rfl
theorem Env.below' {w w' : World} {B : Nat} (h : Env w) (hb : Below B w w') (hB : 4 ≤ B) : Env w' := by
  refine ⟨Nat.le_trans h.top hb.size, ?_, var?_below hb gTab (by omega) h.tab, ?_, ?_⟩
  · obtain ⟨m, hm⟩ := h.maxlen
    exact ⟨m, (hb.cell (p := ⟨3, 0, none⟩) (show 3 < B by omega)).trans hm⟩
  · obtain ⟨tp, p, hp⟩ := h.syn
    exact ⟨tp, p, var?_below hb gSyn (by omega) hp⟩
  · obtain ⟨tp, p, hp⟩ := h.rng
    exact ⟨tp, p, var?_below hb gRng (by omega) hp⟩
theorem Env.below {w w' : World} (h : Env w) (hb : Below w.heap.size w w') : Env w' := h.below' hb h.top
theorem Env.alloc {w : World} (h : Env w) (o : Obj) : Env (w.alloc o) := h.below ((Below.refl _ _).alloc (Nat.le_refl _) o)
theorem below_drewN' (w : World) (n : Nat) : Below w.heap.size w (w.drewN n) := ⟨rfl, rfl, rfl, Nat.le_refl _, fun _ _ => rfl⟩
theorem itoa21 (n : Int) (w : World) (hE : Env w) (h0 : -9223372036854775808 ≤ n) (h1 : n ≤ 9223372036854775807) :
    Calls Tryz.prog 21 #[.int .i64 n] w fun e w' => e = .returned (.string ⟨(Lib.itoa n).toArray⟩) ∧ Below w.heap.size w w' :=
  (Tryz.strconv_Itoa n h0 h1 w hE.tab).mono fun e w' ⟨he, k, os, hw⟩ => ⟨he, by rw [hw]; exact Lib.below_grow _ _ (Nat.le_refl _) _ _⟩
theorem split25 (s sep : List UInt8) (w : World) (hE : Env w) (hs : s.length ≤ 1048576) (h1 : 1 ≤ sep.length) :
    Calls Tryz.prog 25 #[.string ⟨s.toArray⟩, .string ⟨sep.toArray⟩] w fun e w' => ∃ N, e = .returned (.slice (some ⟨N, 0, none⟩) (Lib.countB ⟨s.toArray⟩ ⟨sep.toArray⟩ + 1) (Lib.countB ⟨s.toArray⟩ ⟨sep.toArray⟩ + 1)) ∧
      N = w.heap.size ∧ w' = w.alloc (.cells ((Lib.splitB ⟨sep.toArray⟩ 0 (Lib.countB ⟨s.toArray⟩ ⟨sep.toArray⟩) ⟨s.toArray⟩).map Value.string).toArray 9) := by
  obtain ⟨m, hm⟩ := hE.maxlen
  exact (Tryz.strings_Split ⟨s.toArray⟩ ⟨sep.toArray⟩ m w (by show s.toArray.size < _; simp; omega) hm (by show 1 ≤ sep.toArray.size; simpa using h1)).mono fun e w' ⟨he, hw⟩ => ⟨_, he, rfl, hw⟩
def AtoiIs (s : List UInt8) (n : Int) (err : Value) : Prop := (Lib.atoiAll s = .ok n ∧ err = .nilIface) ∨ ((∀ m, Lib.atoiAll s ≠ .ok m) ∧ ∃ t p, err = .iface t (.pointer (some p)))
theorem below_bytesWorld (w : World) (t : TypeId) (s : ByteArray) : Below w.heap.size w (Lib.bytesWorld w t s) := by
  unfold Lib.bytesWorld
  have h1 : Below w.heap.size w (w.drew.alloc (.cells (Lib.bytesCells w t s) t)) := ((Below.refl _ _).drew).alloc (Nat.le_refl _) _
  refine h1.trans ⟨?_, ?_, ?_, ?_, ?_⟩
  · unfold World.freeze; split <;> rfl
  · unfold World.freeze; split <;> rfl
  · unfold World.freeze; split <;> rfl
  · unfold World.freeze; split <;> simp
  · intro k hk
    unfold World.freeze
    split
    · rfl
    · simp only [Array.getElem?_modify]
      rw [if_neg (by omega)]
theorem atoi27 (s : List UInt8) (w : World) (hE : Env w) (hs : s.length ≤ 1048576) :
    Calls Tryz.prog 27 #[.string ⟨s.toArray⟩] w fun e w' => ∃ n err, e = .returned (.tuple #[.int .i64 n, err]) ∧ AtoiIs s n err ∧ Below w.heap.size w w' := by
  have hsz : (ByteArray.mk s.toArray).size = s.length := by simp [ByteArray.size]
  rcases h : Lib.atoiAll s with v | - | -
  · refine (Tryz.strconv_Atoi_ok ⟨s.toArray⟩ (by rw [hsz]; omega) v h w).mono ?_
    rintro e w' ⟨he, hw | ⟨t, hw⟩⟩
    · exact ⟨v, _, he, .inl ⟨h, rfl⟩, by rw [hw]; exact Below.refl _ _⟩
    · exact ⟨v, _, he, .inl ⟨h, rfl⟩, by rw [hw]; exact below_bytesWorld _ _ _⟩
  · obtain ⟨tp, p, hp⟩ := hE.syn
    refine (Tryz.strconv_Atoi_syntax_var ⟨s.toArray⟩ (by rw [hsz]; omega) (h.trans (by kernel_rfl)) tp p w hp).mono ?_
    rintro e w' ⟨N, he, _, _, hb⟩
    exact ⟨_, _, he, .inr ⟨fun m e => by { rw [h] at e; cases e }, _, _, rfl⟩, hb⟩
  · obtain ⟨tp, p, hp⟩ := hE.rng
    refine (Tryz.strconv_Atoi_range_var ⟨s.toArray⟩ (by rw [hsz]; omega) h tp p w hp).mono ?_
    rintro e w' ⟨N, he, _, _, hb⟩
    exact ⟨_, _, he, .inr ⟨fun m e => by { rw [h] at e; cases e }, _, _, rfl⟩, hb⟩
end Go.Proofs.Seat8
end
section
namespace Go.Proofs.Seat4
open Go.RowKit
def mkEs : List (Value × Value) → Nat → List MapEntry
  | [], _ => []
  | (k, v) :: r, i => ⟨k, v, i⟩ :: mkEs r (i + 1)
theorem mkEs_append (a b : List (Value × Value)) (i : Nat) : mkEs (a ++ b) i = mkEs a i ++ mkEs b (i + a.length) := by
  induction a generalizing i with
  | nil => simp [mkEs]
  | cons x r ih =>
    obtain ⟨k, v⟩ := x
    simp only [List.cons_append, mkEs, ih, List.length_cons]
    rw [show i + 1 + r.length = i + (r.length + 1) from by omega]
theorem mkEs_length (a : List (Value × Value)) (i : Nat) : (mkEs a i).length = a.length := by
  induction a generalizing i with
  | nil => rfl
  | cons x r ih => obtain ⟨k, v⟩ := x; simp [mkEs, ih]
theorem mkEs_mem (a : List (Value × Value)) (i : Nat) : ∀ e ∈ mkEs a i, ∃ j, ∃ h : j < a.length, e = ⟨a[j].1, a[j].2, i + j⟩ := by
  induction a generalizing i with
  | nil => intro e he; cases he
  | cons x r ih =>
    obtain ⟨k, v⟩ := x
    intro e he
    simp only [mkEs, List.mem_cons] at he
    rcases he with rfl | he
    · exact ⟨0, by simp, rfl⟩
    · obtain ⟨j, hj, rfl⟩ := ih (i + 1) e he
      exact ⟨j + 1, by simpa using hj, by simp [show i + 1 + j = i + (j + 1) from by omega]⟩
theorem mkEs_get (a : List (Value × Value)) (i j : Nat) (h : j < a.length) : (mkEs a i)[j]? = some ⟨a[j].1, a[j].2, i + j⟩ := by
  induction a generalizing i j with
  | nil => simp at h
  | cons x r ih =>
    obtain ⟨k, v⟩ := x
    cases j with
    | zero => simp [mkEs]
    | succ j =>
      simp only [mkEs, List.getElem?_cons_succ, List.getElem_cons_succ]
      rw [ih (i + 1) j (by simpa using h), show i + 1 + j = i + (j + 1) from by omega]
def MapIs (w : World) (m : Nat) (kvs : List (Value × Value)) : Prop := w.heap[m]? = some (.map (mkEs kvs 0).toArray kvs.length)
theorem MapIs.lt {w : World} {m : Nat} {kvs : List (Value × Value)} (h : MapIs w m kvs) : m < w.heap.size := (Array.getElem?_eq_some_iff.1 h).1
theorem MapIs.below {w w' : World} {m B : Nat} {kvs : List (Value × Value)} (h : MapIs w m kvs) (hb : Below B w w') (hm : m < B) : MapIs w' m kvs := (hb.block m hm).trans h
section
variable {P : Program}
variable {ops : Array Oper} {rest : List Oper} {o : Oper} {a : Act} {w : World} {Q : Exit → Act → World → Prop}
theorem run_getObj_map (m : Nat) (es : Array MapEntry) (c : Nat) (h : w.heap[m]? = some (.map es c)) : (getObj m).run P w = .ok (.map es c) w := by
  simp [getObj, Sem.run, h]
theorem run_setObj_map (m : Nat) (es : Array MapEntry) (c : Nat) (o' : Obj) (h : w.heap[m]? = some (.map es c)) : (setObj m o').run P w = .ok () { w with heap := w.heap.setIfInBounds m o' } := by
  simp [setObj, Sem.run, h]
theorem below_set (w : World) (m : Nat) (o' : Obj) : Below m w { w with heap := w.heap.setIfInBounds m o' } :=
  ⟨rfl, rfl, rfl, by simp, fun k hk => by simp [show ¬ m = k from by omega]⟩
def IterIs (w : World) (r m n : Nat) (seen : Array Nat) : Prop := w.heap[r]? = some (.mapIter (some m) n seen n)
theorem wpList_range_mk (hg : o.guard = none) (t k e : TypeId) (m : Operand) (hop : o.op = .range t m) (ht : P.underlying t = some (.map k e))
    (b : Nat) (hm : a.eval m = .map (some b)) (kvs : List (Value × Value)) (hM : MapIs w b kvs)
    (hK : IterIs (w.alloc (.mapIter (some b) kvs.length #[] kvs.length)) w.heap.size b kvs.length #[] → wpList P ops Q rest (a.put o.dst (.pointer (some ⟨w.heap.size, 0, none⟩))) (w.alloc (.mapIter (some b) kvs.length #[] kvs.length))) : wpList P ops Q (o :: rest) a w := by
  refine wpList_plain hg fun K' hK' => ?_
  have hrun : (Instr.range t (.map (some b))).run P w = .ok (.pointer (some ⟨w.heap.size, 0, none⟩)) (w.alloc (.mapIter (some b) kvs.length #[] kvs.length)) := by
    unfold Instr.range
    simp only [Sem.run_bind, run_underlying ht, Result.andThen_ok, run_getObj_map _ _ _ hM, Sem.run_pure]
    rfl
  unfold Oper.wp
  simp only [execOp, hop, hm, Sem.run_bind, hrun, Result.andThen_ok, Sem.run_pure]
  exact hK' _ _ (hK (heap_alloc_new w _))
theorem run_choose_next (w : World) (n : Nat) (hn : 1 ≤ n) : ∃ c w', c < n ∧ (choose (.mapNext n)).run P w = .ok c w' ∧ w'.heap = w.heap ∧ w'.os = w.os ∧ w'.tape = w.tape ∧ w'.output = w.output := by
  by_cases h : n ≤ 1
  · refine ⟨0, w, by omega, ?_, rfl, rfl, rfl, rfl⟩
    simp [choose, Sem.run, Question.forced, h]
  · refine ⟨_, { w with drawn := w.drawn + 1 }, Nat.mod_lt (w.tape w.drawn (.mapNext n)) (by omega), ?_, rfl, rfl, rfl, rfl⟩
    simp [choose, Sem.run, Question.forced, h, Question.cut]
theorem wpList_next_mk (hg : o.guard = none) (it : Operand) (hop : o.op = .next it false) (r b : Nat) (hit : a.eval it = .pointer (some ⟨r, 0, none⟩)) (kvs : List (Value × Value)) (hM : MapIs w b kvs) (seen : Array Nat) (hI : IterIs w r b kvs.length seen)
    (hDone : ∀ w' : World, (∀ j, j < kvs.length → j ∈ seen) → (∀ i : Nat, w'.heap[i]? = w.heap[i]?) → Below w.heap.size w w' → wpList P ops Q rest (a.put o.dst (.tuple #[.bool false])) w')
    (hMore : ∀ (j : Nat) (hj : j < kvs.length) (w' : World), j ∉ seen → IterIs w' r b kvs.length (seen.push j) → Below r w w' → w'.heap.size = w.heap.size → (∀ i : Nat, i ≠ r → w'.heap[i]? = w.heap[i]?) →
      wpList P ops Q rest (a.put o.dst (.tuple #[.bool true, kvs[j].1, kvs[j].2])) w') : wpList P ops Q (o :: rest) a w := by
  refine wpList_plain hg fun K' hK' => ?_
  have hrb : r ≠ b := by
    intro e
    subst e
    unfold IterIs at hI
    unfold MapIs at hM
    rw [hM] at hI
    cases hI
  have hborn : ∀ x ∈ mkEs kvs 0, x.born < kvs.length := fun x hx => by
    obtain ⟨j, hj, rfl⟩ := mkEs_mem kvs 0 x hx
    simpa using hj
  unfold Oper.wp
  simp only [execOp, hop, hit, Sem.run_bind, Instr.next]
  have hgo : (getObj r).run P w = .ok (.mapIter (some b) kvs.length seen kvs.length) w := by
    unfold IterIs at hI
    simp [getObj, Sem.run, hI]
  simp only [hgo, Result.andThen_ok, Sem.run_bind, run_getObj_map _ _ _ hM]
  have hall : ((mkEs kvs 0).toArray.all (·.born ≥ kvs.length)) = true → (mkEs kvs 0) = [] := by
    intro h
    cases hk : mkEs kvs 0 with
    | nil => rfl
    | cons e r =>
      rw [hk] at h
      have := hborn e (by rw [hk]; simp)
      simp at h
      omega
  have hno : ((!seen.isEmpty && !(mkEs kvs 0).toArray.isEmpty && (mkEs kvs 0).toArray.all (·.born ≥ kvs.length)) = true) = False := by
    simp only [eq_iff_iff, iff_false, Bool.and_eq_true, not_and]
    rintro ⟨_, h2⟩ h3
    rw [hall h3] at h2
    simp at h2
  have hold : ∀ f : MapEntry → Bool, (((mkEs kvs 0).toArray.filter f).filter (·.born < kvs.length)) = (mkEs kvs 0).toArray.filter f := by
    intro f
    rw [Array.filter_eq_self]
    intro x hx
    have := hborn x (by simpa using (Array.mem_filter.1 hx).1)
    simpa using this
  have hnew : ∀ f : MapEntry → Bool, (((mkEs kvs 0).toArray.filter f).filter (·.born ≥ kvs.length)) = #[] := by
    intro f
    rw [Array.filter_eq_empty_iff]
    intro x hx
    have := hborn x (by simpa using (Array.mem_filter.1 hx).1)
    simp
    omega
  simp only [hno, if_false, hold, hnew, Sem.run_bind, Sem.run_pure, Array.append_empty]
  generalize hL : (mkEs kvs 0).toArray.filter (fun e => !seen.contains e.born) = L
  have hLm : ∀ x, x ∈ L ↔ x ∈ mkEs kvs 0 ∧ x.born ∉ seen := by
    intro x
    rw [← hL]
    simp
  by_cases hLe : L = #[]
  · subst hLe
    obtain ⟨c, w', hc, hrun, h1, h2, h3, h4⟩ := run_choose_next (P := P) w 1 (by omega)
    have hc0 : c = 0 := by omega
    subst hc0
    simp only [Array.isEmpty_empty, if_true, List.map_toArray, List.map_nil, Array.append_empty]
    rw [show (#[none] : Array (Option MapEntry)).size = 1 from rfl, hrun]
    simp only [Result.andThen_ok]
    refine hK' _ _ (hDone w' (fun j hj => ?_) (fun i => by rw [h1]) ⟨h2, h3, h4, by rw [h1]; exact Nat.le_refl _, fun k _ => by rw [h1]⟩)
    apply Classical.byContradiction
    intro hns
    have := (hLm ⟨kvs[j].1, kvs[j].2, 0 + j⟩).2 ⟨List.mem_of_getElem? (mkEs_get kvs 0 j hj), by simpa using hns⟩
    simp at this
  · have hpos : 1 ≤ L.size := by
      rcases Nat.eq_zero_or_pos L.size with h | h
      · exact absurd (Array.eq_empty_of_size_eq_zero h) hLe
      · exact h
    have hie : L.isEmpty = false := by simpa using hLe
    obtain ⟨c, w', hc, hrun, h1, h2, h3, h4⟩ := run_choose_next (P := P) w L.size hpos
    simp only [hie, Bool.false_eq_true, if_false, Array.empty_append, Array.size_map]
    rw [hrun]
    simp only [Result.andThen_ok, Array.getElem?_map, Array.getElem?_eq_getElem hc, Option.map_some]
    have hmem := (hLm L[c]).1 (Array.getElem_mem hc)
    obtain ⟨j, hj, hej⟩ := mkEs_mem kvs 0 _ hmem.1
    have hns : j ∉ seen := by have := hmem.2; rw [hej] at this; simpa using this
    have hIw : w'.heap[r]? = some (.mapIter (some b) kvs.length seen kvs.length) := by rw [h1]; exact hI
    have hset : (setObj r (.mapIter (some b) kvs.length (seen.push L[c].born) kvs.length)).run P w' = .ok () { w' with heap := w'.heap.setIfInBounds r (.mapIter (some b) kvs.length (seen.push L[c].born) kvs.length) } := by
      simp [setObj, Sem.run, hIw]
    simp only [Sem.run_bind, hset, Result.andThen_ok, Sem.run_pure]
    have hlt : r < w.heap.size := (Array.getElem?_eq_some_iff.1 hI).1
    refine hK' _ _ ?_
    have := hMore j hj { w' with heap := w'.heap.setIfInBounds r (.mapIter (some b) kvs.length (seen.push L[c].born) kvs.length) } hns ?_ ?_ ?_ ?_
    · rw [hej]
      rw [hej] at this
      exact this
    · unfold IterIs
      rw [Array.getElem?_setIfInBounds, if_pos rfl, if_pos (by rw [h1]; exact hlt), hej]
      simp
    · exact ⟨h2, h3, h4, by simp [h1], fun k hk => by simp [show ¬ r = k from by omega, h1]⟩
    · simp [h1]
    · intro i hi
      simp [show ¬ r = i from fun e => hi e.symm, h1]
theorem wpList_entry_mk (hg : o.guard = none) (it : Operand) (hop : o.op = .entry it) (r b : Nat) (hit : a.eval it = .pointer (some ⟨r, 0, none⟩)) (kvs : List (Value × Value)) (hM : MapIs w b kvs) (seen : Array Nat) (j : Nat) (hj : j < kvs.length) (hI : IterIs w r b kvs.length (seen.push j))
    (hK : wpList P ops Q rest (a.put o.dst (.tuple #[kvs[j].1, kvs[j].2])) w) : wpList P ops Q (o :: rest) a w := by
  refine wpList_plain hg fun K' hK' => ?_
  have hgo : (getObj r).run P w = .ok (.mapIter (some b) kvs.length (seen.push j) kvs.length) w := by
    unfold IterIs at hI
    simp [getObj, Sem.run, hI]
  have hfind : (mkEs kvs 0).toArray.find? (fun e => e.born == j) = some ⟨kvs[j].1, kvs[j].2, 0 + j⟩ := by
    have hg := mkEs_get kvs 0 j hj
    rw [List.find?_toArray]
    rw [List.find?_eq_some_iff_getElem]
    refine ⟨by simp, j, by rw [mkEs_length]; exact hj, ?_, ?_⟩
    · have := (List.getElem?_eq_some_iff.1 hg).2
      exact this
    · intro i hi
      have hik : i < kvs.length := by omega
      have := (List.getElem?_eq_some_iff.1 (mkEs_get kvs 0 i hik)).2
      rw [this]
      simp
      omega
  unfold Oper.wp
  simp only [execOp, hop, hit, Sem.run_bind, Instr.entry, hgo, Result.andThen_ok, Array.back?_push, run_getObj_map _ _ _ hM, hfind, Sem.run_pure, bne_self_eq_false, Bool.false_eq_true, if_false]
  exact hK' _ _ hK
end
theorem filter_lt {p q : Nat → Bool} (h : ∀ x, q x = true → p x = true) (j : Nat) (hp : p j = true) (hq : q j = false) : ∀ l : List Nat, j ∈ l → (l.filter q).length < (l.filter p).length := by
  have hle : ∀ l : List Nat, (l.filter q).length ≤ (l.filter p).length := by
    intro l
    induction l with
    | nil => simp
    | cons x l ih =>
      rw [List.filter_cons, List.filter_cons]
      by_cases hx : q x = true
      · rw [if_pos hx, if_pos (h x hx)]
        simpa using ih
      · rw [if_neg hx]
        split
        · simp; omega
        · exact ih
  intro l
  induction l with
  | nil => intro hj; cases hj
  | cons x l ih =>
    intro hj
    rw [List.filter_cons, List.filter_cons]
    rcases List.mem_cons.1 hj with rfl | hj
    · rw [if_pos hp, if_neg (by simp [hq])]
      have := hle l
      simp
      omega
    · have := ih hj
      by_cases hx : q x = true
      · rw [if_pos hx, if_pos (h x hx)]
        simpa using this
      · rw [if_neg hx]
        split
        · simp; omega
        · exact this
def leftOf (w : World) (r n : Nat) : Nat :=
  match w.heap[r]? with
  | some (.mapIter _ _ seen _) => ((List.range n).filter (fun j => !seen.contains j)).length
  | _ => 0
theorem leftOf_push {w w' : World} {r m n j : Nat} {seen : Array Nat} (h : IterIs w r m n seen) (h' : IterIs w' r m n (seen.push j)) (hj : j < n) (hn : j ∉ seen) : leftOf w' r n < leftOf w r n := by
  unfold IterIs at h h'
  unfold leftOf
  rw [h, h']
  refine filter_lt (fun x hx => ?_) j (by simpa using hn) (by simp) _ (by simpa using hj)
  simp at hx ⊢
  exact hx.1
end Go.Proofs.Seat4
end

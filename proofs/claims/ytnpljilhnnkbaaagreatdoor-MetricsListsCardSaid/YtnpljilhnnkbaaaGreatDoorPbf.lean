/- A part of the proof. -/
import Derived.Test.YtnpljilhnnkbaaaGreatDoorPbe
import Derived.Lib.SplitLaws
import Derived.Lib.CutLaws
import Derived.Lib.AtoiTie
import Derived.Lib.ItoaLen
import Derived.Lib.ItoaMem
import Derived.Lib.IndexBytes
import Derived.Lib.Hide
import Derived.Deep.Light
import Derived.Shelf.Strings.BuilderK
set_option linter.all false
section
namespace Go.Proofs.Seat4
open Go.RowKit
def wpDetT (P : Program) (ops : Array Oper) (S : World → Prop) (Q : Exit → Act → World → Prop) : Nat → List Oper → Act → Prop
  | 0, l, a => ∀ w, S w → wpList P ops Q l a w
  | _ + 1, [], a => ∀ w, S w → Q .normal a w
  | m + 1, o :: rest, a => ∃ v, DetOp P ops S o a v ∧ wpDetT P ops S Q m rest (a.put o.dst v)
def reaches (ops : Array Oper) : Nat → Nat → Nat → Bool
  | 0, _, _ => false
  | f + 1, k, j => match ops[k]? with
    | none => false
    | some o => o.after.any fun e => Region.binds .any e && (e.on == j || reaches ops f e.on j)
def tailOk (ops : Array Oper) (m : Nat) : Bool := (List.range ops.size).all fun k => decide (k < m) || (List.range k).all fun j => reaches ops ops.size k j
section
variable {P : Program} {ops : Array Oper} {S : World → Prop} {Q : Exit → Act → World → Prop}
theorem wpDetT_cons {m : Nat} {o : Oper} {rest : List Oper} {a : Act} {v : Value} (h1 : DetOp P ops S o a v) (h2 : wpDetT P ops S Q m rest (a.put o.dst v)) : wpDetT P ops S Q (m + 1) (o :: rest) a := ⟨v, h1, h2⟩
def lst (listed : Array Bool) (j : Nat) : Bool := listed.getD j true
structure Closed (ops : Array Oper) (listed : Array Bool) : Prop where
  size : listed.size = ops.size
  down : ∀ i o, ops[i]? = some o → lst listed i = true → ∀ e ∈ o.after, Region.binds .any e = true → lst listed e.on = true
theorem reaches_listed {listed : Array Bool} (hc : Closed ops listed) : ∀ (f k j : Nat) (o : Oper), ops[k]? = some o → (∀ e ∈ o.after, Region.binds .any e = true → lst listed e.on = true) → reaches ops f k j = true → lst listed j = true
  | 0, _, _, _, _, _, h => by cases h
  | f + 1, k, j, o, hk, hd, h => by
    unfold reaches at h
    rw [hk] at h
    obtain ⟨e, he, hb⟩ := Array.any_eq_true'.1 h
    simp only [Bool.and_eq_true, Bool.or_eq_true, beq_iff_eq] at hb
    have hl := hd e he hb.1
    rcases hb.2 with h1 | h1
    · rw [← h1]; exact hl
    · cases hon : ops[e.on]? with
      | none =>
        cases f with
        | zero => cases h1
        | succ f => unfold reaches at h1; rw [hon] at h1; cases h1
      | some o' => exact reaches_listed hc f e.on j o' hon (fun e' he' hb' => hc.down e.on o' hon hl e' he' hb') h1
theorem tail_listed {m : Nat} (ht : tailOk ops m = true) {listed : Array Bool} (hc : Closed ops listed) {k : Nat} {o : Oper} (hk : ops[k]? = some o) (hm : m ≤ k) (hd : ∀ e ∈ o.after, Region.binds .any e = true → lst listed e.on = true) : ∀ j, j < k → lst listed j = true := by
  intro j hj
  have hlt : k < ops.size := (Array.getElem?_eq_some_iff.1 hk).1
  have := List.all_eq_true.1 ht k (List.mem_range.2 hlt)
  rw [show decide (k < m) = false from by simpa using hm, Bool.false_or] at this
  exact reaches_listed hc ops.size k j o hk hd (List.all_eq_true.1 this j (List.mem_range.2 hj))
theorem ready_spec {listed : Array Bool} {i : Nat} (h : i ∈ Region.ready .any ops listed) : ∃ o, ops[i]? = some o ∧ lst listed i = false ∧ ∀ e ∈ o.after, Region.binds .any e = true → lst listed e.on = true ∧ e.on < listed.size := by
  unfold Region.ready at h
  rw [List.mem_filter] at h
  obtain ⟨hir, hc⟩ := h
  have hlt0 : i < ops.size := List.mem_range.1 hir
  have hget : ops[i]? = some ops[i] := Array.getElem?_eq_getElem hlt0
  rw [hget] at hc
  simp only [Bool.and_eq_true, Option.map_some, Option.getD_some] at hc
  refine ⟨_, hget, by simpa [lst] using hc.1, fun e he hb => ?_⟩
  have := Array.all_eq_true'.1 hc.2 e he
  rw [hb] at this
  simp only [Bool.not_true, Bool.false_or] at this
  simp only [lst, Array.getD] at this ⊢
  split at this
  · rename_i hlt; rw [dif_pos hlt]; exact ⟨this, hlt⟩
  · cases this
theorem lst_set {listed : Array Bool} {i : Nat} (hi : i < listed.size) (j : Nat) : lst (listed.setIfInBounds i true) j = (lst listed j || j == i) := by
  unfold lst
  by_cases hjl : j < listed.size
  · by_cases e : j = i
    · subst e; simp [Array.getD, hjl]
    · have : ¬ i = j := fun x => e x.symm
      simp [Array.getD, hjl, Array.getElem_setIfInBounds, e, this]
  · simp [Array.getD, hjl]
theorem Closed.set {listed : Array Bool} (hc : Closed ops listed) {i : Nat} {o : Oper} (hi : ops[i]? = some o) (hd : ∀ e ∈ o.after, Region.binds .any e = true → lst listed e.on = true) : Closed ops (listed.setIfInBounds i true) := by
  have hlt : i < listed.size := by rw [hc.size]; exact (Array.getElem?_eq_some_iff.1 hi).1
  refine ⟨by simpa using hc.size, fun k o' hk hl e he hb => ?_⟩
  rw [lst_set hlt] at hl ⊢
  by_cases e1 : k = i
  · subst e1
    rw [hi] at hk
    cases hk
    simp [hd e he hb]
  · have : lst listed k = true := by simpa [e1] using hl
    simp [hc.down k o' hk this e he hb]
theorem tail_any {m : Nat} (ht : tailOk ops m = true) (hearly : detOk ops = true) : ∀ (fuel c : Nat) (listed : Array Bool) (a : Act) (w : World), m ≤ c → c ≤ ops.size → ops.size - c ≤ fuel → Closed ops listed → (∀ j, j < ops.size → lst listed j = decide (j < c)) → wpList P ops Q (ops.toList.drop c) a w →
    wpAny P .any ops Q fuel listed a w := by
  have hnone : ∀ (c : Nat) (listed : Array Bool), c = ops.size → (∀ j, j < ops.size → lst listed j = decide (j < c)) → Region.ready .any ops listed = [] := by
    intro c listed hcs hl
    rw [List.eq_nil_iff_forall_not_mem]
    intro i hi
    obtain ⟨o, ho, hn, _⟩ := ready_spec hi
    have hlt := (Array.getElem?_eq_some_iff.1 ho).1
    rw [hl i hlt, hcs] at hn
    simp [hlt] at hn
  intro fuel
  induction fuel with
  | zero =>
    intro c listed a w hmc hcn hf hc hl h
    have hcs : c = ops.size := by omega
    rw [hcs, List.drop_of_length_le (by simp)] at h
    exact ⟨hnone c listed hcs hl, h⟩
  | succ fuel ih =>
    intro c listed a w hmc hcn hf hc hl h
    by_cases hcs : c = ops.size
    · have hno := hnone c listed hcs hl
      rw [hcs, List.drop_of_length_le (by simp)] at h
      refine ⟨fun _ => h, fun i hi => ?_⟩
      rw [hno] at hi
      cases hi
    · have hclt : c < ops.size := by omega
      have hget : ops[c]? = some ops[c] := Array.getElem?_eq_getElem hclt
      have hdrop : ops.toList.drop c = ops[c] :: ops.toList.drop (c + 1) := by
        rw [List.drop_eq_getElem_cons (by simpa using hclt)]
        simp
      rw [hdrop] at h
      have hdeps : ∀ e ∈ ops[c].after, Region.binds .any e = true → lst listed e.on = true := fun e he hb => by
        have := (detOk_at hearly hget).early e he hb
        rw [hl e.on (by omega)]
        simpa using this
      refine ⟨fun hr => ?_, fun i hi => ?_⟩
      · exfalso
        have : c ∈ Region.ready .any ops listed := by
          unfold Region.ready
          rw [List.mem_filter]
          refine ⟨List.mem_range.2 hclt, ?_⟩
          have hn := hl c hclt
          rw [hget]
          simp only [Option.map_some, Option.getD_some, Bool.and_eq_true]
          refine ⟨by unfold lst at hn; rw [hn]; simp, ?_⟩
          rw [Array.all_eq_true']
          intro e he
          cases hb : Region.binds .any e with
          | false => rfl
          | true =>
            have h1 := (detOk_at hearly hget).early e he hb
            have h2 := hdeps e he hb
            simp only [lst, Array.getD] at h2 ⊢
            have h3 : e.on < listed.size := by rw [hc.size]; omega
            rw [dif_pos h3] at h2 ⊢
            simpa using h2
        rw [hr] at this
        cases this
      · obtain ⟨o, ho, hn, hd⟩ := ready_spec hi
        have hilt := (Array.getElem?_eq_some_iff.1 ho).1
        have hci : c ≤ i := by
          rw [hl i hilt] at hn
          simpa using hn
        have hic : i = c := by
          rcases Nat.lt_or_ge c i with hlt | hge
          · have := tail_listed ht hc ho (by omega) (fun e he hb => (hd e he hb).1) c hlt
            rw [hl c hclt] at this
            simp at this
          · omega
        subst hic
        rw [hget] at ho
        cases ho
        unfold wpList at h
        unfold wpOp
        simp only [hget]
        have hnext : ∀ a' w', wpList P ops Q (ops.toList.drop (i + 1)) a' w' → wpAny P .any ops Q fuel (listed.setIfInBounds i true) a' w' := fun a' w' h' => by
          refine ih (i + 1) _ a' w' (by omega) (by omega) (by omega) (hc.set hget hdeps) (fun j hj => ?_) h'
          rw [lst_set (by rw [hc.size]; exact hclt), hl j hj]
          by_cases h1 : j < i
          · simp [h1, show j < i + 1 from by omega]
          · by_cases h2 : j = i
            · simp [h2]
            · simp [h1, h2, show ¬ j < i + 1 from by omega]
        split
        · rename_i hw
          rw [if_pos hw] at h
          exact h.imp (Oper.wp_mono hnext) id
        · rename_i hw
          rw [if_neg hw] at h
          exact hnext _ _ h
theorem detT_canon (a0 : Act) : ∀ (m : Nat) (l : List Oper) (k : Nat) (a : Act) (v : Nat → Value), (∀ j, l[j]? = ops[k + j]?) → m ≤ l.length → canon ops a0 v k = a → wpDetT P ops S Q m l a →
    ∃ v' : Nat → Value, (∀ j, j < k → v' j = v j) ∧ (∀ j o, k ≤ j → j < k + m → ops[j]? = some o → DetOp P ops S o (canon ops a0 v' j) (v' j)) ∧ (∀ w, S w → wpList P ops Q (l.drop m) (canon ops a0 v' (k + m)) w) := by
  intro m
  induction m with
  | zero =>
    intro l k a v hl _ ha h
    exact ⟨v, fun _ _ => rfl, fun j o h1 h2 => by omega, fun w hw => by simpa [ha] using h w hw⟩
  | succ m ih =>
    intro l k a v hl hm ha h
    cases l with
    | nil => simp at hm
    | cons o rest =>
      obtain ⟨u, hu, hrest⟩ := h
      have hk : ops[k]? = some o := by simpa using (hl 0).symm
      have same : ∀ (v1 v2 : Nat → Value) (m : Nat), (∀ j, j < m → v1 j = v2 j) → canon ops a0 v1 m = canon ops a0 v2 m := by
        intro v1 v2 m hm
        induction m with
        | zero => rfl
        | succ m ihm =>
          simp only [canon]
          rw [ihm fun j hj => hm j (by omega)]
          cases ops[m]? with
          | none => rfl
          | some o' => simp only [hm m (by omega)]
      let v2 : Nat → Value := fun j => if j = k then u else v j
      have hv2 : ∀ j, j < k → v2 j = v j := fun j hj => if_neg (by omega)
      have hck : canon ops a0 v2 k = a := (same v2 v k hv2).trans ha
      have hck1 : canon ops a0 v2 (k + 1) = a.put o.dst u := by
        show (match ops[k]? with | some o => (canon ops a0 v2 k).put o.dst (v2 k) | none => canon ops a0 v2 k) = _
        rw [hk, hck]
        simp [v2]
      obtain ⟨v', h1, h2, h3⟩ := ih rest (k + 1) _ v2 (fun j => by have := hl (j + 1); simpa [Nat.add_assoc, Nat.add_comm 1 j] using this) (by simpa using hm) hck1 hrest
      refine ⟨v', fun j hj => (h1 j (by omega)).trans (hv2 j hj), fun j o' hj hj2 ho => ?_, fun w hw => by have := h3 w hw; rwa [show k + 1 + m = k + (m + 1) from by omega] at this⟩
      by_cases e : j = k
      · subst e
        rw [hk] at ho
        cases ho
        rw [same v' v2 j fun m hm => h1 m (by omega), hck, h1 j (by omega)]
        simp only [v2, if_true]
        exact hu
      · exact h2 j o' (by omega) (by omega) ho
theorem detT_any {m : Nat} (hok : detOk ops = true) (ht : tailOk ops m = true) (hm : m ≤ ops.size) (a0 : Act) (v : Nat → Value) (hop : ∀ j o, j < m → ops[j]? = some o → DetOp P ops S o (canon ops a0 v j) (v j)) (hend : ∀ w, S w → wpList P ops Q (ops.toList.drop m) (canon ops a0 v m) w) :
    ∀ (fuel : Nat) (listed : Array Bool) (a : Act) (w : World), Closed ops listed → (∀ k, m ≤ k → k < ops.size → lst listed k = false) → ((List.range m).filter fun i => !lst listed i).length + (ops.size - m) ≤ fuel → DetInv ops a0 v (fun j => lst listed j) a → S w →
      wpAny P .any ops Q fuel listed a w := by
  have hdone : ∀ (fuel : Nat) (listed : Array Bool) (a : Act) (w : World), Closed ops listed → (∀ k, m ≤ k → k < ops.size → lst listed k = false) → (ops.size - m) ≤ fuel → DetInv ops a0 v (fun j => lst listed j) a → S w → (∀ j, j < m → lst listed j = true) → wpAny P .any ops Q fuel listed a w := by
    intro fuel listed a w hc hlate hf hinv hS hall
    have hcn := canon_inv hok a0 v m hm
    have hlst : ∀ j, j < ops.size → lst listed j = decide (j < m) := by
      intro j hj
      by_cases h : j < m
      · simp [h, hall j h]
      · simp [h, hlate j (by omega) hj]
    have heq : a = canon ops a0 v m := by
      have htm : a.tmps = (canon ops a0 v m).tmps := by
        apply Array.ext_getElem?
        intro t
        by_cases hex : ∃ j, j < ops.size ∧ writesTo ops j t = true ∧ j < m
        · obtain ⟨j, hj, hw, hjm⟩ := hex
          by_cases htl : t < a0.tmps.size
          · rw [hinv.done t htl j hj hw (hall j hjm), hcn.done t htl j hj hw (by simpa using hjm)]
          · rw [Array.getElem?_eq_none (by rw [hinv.size]; exact Nat.le_of_not_lt htl), Array.getElem?_eq_none (by rw [hcn.size]; exact Nat.le_of_not_lt htl)]
        · have hno : ∀ j, j < ops.size → writesTo ops j t = true → ¬ j < m := fun j hj hw hjm => hex ⟨j, hj, hw, hjm⟩
          rw [hinv.rest t fun j hj hw => by rw [hlst j hj]; simpa using hno j hj hw, hcn.rest t fun j hj hw => by simpa using hno j hj hw]
      have hd : a.defers = (canon ops a0 v m).defers := hinv.defers.trans hcn.defers.symm
      cases a
      cases hc2 : canon ops a0 v m
      rw [hc2] at htm hd
      simp only at htm hd
      rw [htm, hd]
    rw [heq]
    exact tail_any ht hok fuel m listed _ w (Nat.le_refl _) hm hf hc hlst (hend w hS)
  intro fuel
  induction fuel with
  | zero =>
    intro listed a w hc hlate hcount hinv hS
    refine hdone 0 listed a w hc hlate (by omega) hinv hS fun j hj => ?_
    have h0 : ((List.range m).filter fun i => !lst listed i) = [] := List.eq_nil_of_length_eq_zero (by omega)
    have hmem : j ∉ (List.range m).filter fun i => !lst listed i := by rw [h0]; simp
    rw [List.mem_filter] at hmem
    simp only [List.mem_range, hj, true_and] at hmem
    simpa using hmem
  | succ fuel ih =>
    intro listed a w hc hlate hcount hinv hS
    by_cases hall : ∀ j, j < m → lst listed j = true
    · have : ((List.range m).filter fun i => !lst listed i) = [] := by
        rw [List.filter_eq_nil_iff]
        intro i hi
        rw [hall i (List.mem_range.1 hi)]
        simp
      rw [this] at hcount
      exact hdone (fuel + 1) listed a w hc hlate (by simpa using hcount) hinv hS hall
    · obtain ⟨j0, hj0⟩ : ∃ j, j < m ∧ lst listed j = false := by
        apply Classical.byContradiction
        intro hno
        refine hall fun j hj => ?_
        apply Classical.byContradiction
        intro hne
        exact hno ⟨j, hj, by simpa using hne⟩
      refine ⟨fun hr => ?_, fun i hi => ?_⟩
      · exfalso
        have hmin : ∀ i, i < ops.size → lst listed i = true := by
          intro i
          induction i using Nat.strongRecOn with
          | ind i ihi =>
            intro hilt
            apply Classical.byContradiction
            intro hn
            have hn' : lst listed i = false := by simpa using hn
            have hget : ops[i]? = some ops[i] := Array.getElem?_eq_getElem hilt
            have : i ∈ Region.ready .any ops listed := by
              unfold Region.ready
              rw [List.mem_filter]
              refine ⟨List.mem_range.2 hilt, ?_⟩
              rw [hget]
              simp only [Option.map_some, Option.getD_some, Bool.and_eq_true]
              refine ⟨by unfold lst at hn'; rw [hn']; simp, ?_⟩
              rw [Array.all_eq_true']
              intro e he
              cases hb : Region.binds .any e with
              | false => rfl
              | true =>
                have h1 := (detOk_at hok hget).early e he hb
                have h2 := ihi e.on h1 (by omega)
                have h3 : e.on < listed.size := by rw [hc.size]; omega
                simp only [lst, Array.getD] at h2 ⊢
                rw [dif_pos h3] at h2 ⊢
                simpa using h2
            rw [hr] at this
            cases this
        have := hmin j0 (by omega)
        rw [hj0.2] at this
        cases this
      · obtain ⟨o, ho, hn, hd⟩ := ready_spec hi
        have hilt := (Array.getElem?_eq_some_iff.1 ho).1
        have him : i < m := by
          rcases Nat.lt_or_ge i m with h | h
          · exact h
          · have := tail_listed ht hc ho h (fun e he hb => (hd e he hb).1) j0 (by omega)
            rw [hj0.2] at this
            cases this
        have A := detOk_at hok ho
        have hcan := canon_inv hok a0 v i (by omega)
        have hagree : ∀ t ∈ o.looksAt ops, a.tmps[t]? = (canon ops a0 v i).tmps[t]? := by
          intro t htl
          by_cases hex : ∃ j, j < ops.size ∧ writesTo ops j t = true
          · obtain ⟨j, hj, hw⟩ := hex
            obtain ⟨e, he, hb, hon⟩ := A.deps t htl j hj hw
            have hlt := A.early e he hb
            have hDj : lst listed j = true := by rw [← hon]; exact (hd e he hb).1
            by_cases hsz : t < a0.tmps.size
            · rw [hinv.done t hsz j hj hw hDj, hcan.done t hsz j hj hw (by simp; omega)]
            · rw [Array.getElem?_eq_none (by rw [hinv.size]; exact Nat.le_of_not_lt hsz), Array.getElem?_eq_none (by rw [hcan.size]; exact Nat.le_of_not_lt hsz)]
          · rw [hinv.rest t fun j hj hw => absurd ⟨j, hj, hw⟩ hex, hcan.rest t fun j hj hw => absurd ⟨j, hj, hw⟩ hex]
        refine wpOp_mono ?_ (det_transfer (Q := Q) (v := v i) ho A.sel (hinv.size.trans hcan.size.symm) hagree (hop i o him ho w hS))
        rintro a' w' ⟨rfl, hS'⟩
        have hil : i < listed.size := by rw [hc.size]; exact hilt
        refine ih _ _ _ (hc.set ho fun e he hb => (hd e he hb).1) (fun k hk hk2 => ?_) ?_ ?_ hS'
        · rw [lst_set hil, hlate k hk hk2]
          simp
          omega
        · have hsub : ((List.range m).filter fun k => !lst (listed.setIfInBounds i true) k) = ((List.range m).filter fun k => !lst listed k).filter (fun k => k != i) := by
            rw [List.filter_filter]
            apply List.filter_congr
            intro k _
            rw [lst_set hil]
            by_cases e : k = i
            · subst e; simp
            · have e1 : (k == i) = false := by simpa using e
              have e2 : (k != i) = true := by simpa using e
              rw [e1, e2]
              simp
          rw [hsub]
          have hmem : i ∈ (List.range m).filter fun k => !lst listed k := List.mem_filter.2 ⟨List.mem_range.2 him, by simp [hn]⟩
          have : (((List.range m).filter fun k => !lst listed k).filter (fun k => k != i)).length < ((List.range m).filter fun k => !lst listed k).length :=
            List.length_filter_lt_length_iff_exists.2 ⟨i, hmem, by simp⟩
          omega
        · have := hinv.put hok ho hn
          have hf : (fun j => lst listed j || j == i) = fun j => lst (listed.setIfInBounds i true) j := by
            funext j
            rw [lst_set hil]
          rwa [hf] at this
theorem wp_region_tail {id : Nat} {a : Act} {w : World} (m : Nat) (hm : P.follows .mixedOrders = true) (hok : (detOk ops && tailOk ops m && decide (m ≤ ops.size)) = true) (S : World → Prop) (hS : S w.drew) (h : wpDetT P ops S Q m ops.toList a) : (Code.region id ops true).wp P Q a w := by
  simp only [Bool.and_eq_true, decide_eq_true_eq] at hok
  obtain ⟨⟨h1, h2⟩, h3⟩ := hok
  obtain ⟨v, _, hv, hend⟩ := detT_canon (P := P) (S := S) (Q := Q) a m ops.toList 0 a (fun _ => undef) (fun j => by simp) (by simpa using h3) rfl h
  have hfalse : ∀ j, lst (Array.replicate ops.size false) j = !decide (j < ops.size) := by
    intro j
    unfold lst
    by_cases h : j < ops.size <;> simp [Array.getD, h]
  refine wp_region_any hm (detT_any (S := S) h1 h2 h3 a v (fun j o hj ho => hv j o (Nat.zero_le _) (by omega) ho) (by simpa using hend) ops.size _ a _ ⟨by simp, fun i o hi hl => ?_⟩ (fun k _ hk => by rw [hfalse]; simp [hk]) ?_ ?_ hS)
  · rw [hfalse] at hl
    have := (Array.getElem?_eq_some_iff.1 hi).1
    simp [this] at hl
  · have := List.length_filter_le (fun i => !lst (Array.replicate ops.size false) i) (List.range m)
    simp only [List.length_range] at this
    omega
  · exact ⟨rfl, rfl, fun t _ j hj _ hD => by rw [hfalse] at hD; simp [hj] at hD, fun t _ => rfl⟩
end
end Go.Proofs.Seat4
end
section
namespace Go.Proofs.Seat8
open Go.RowKit Go.Proofs.Seat4 Go.Sort
structure Mt where
  name : List UInt8
  index : Int
  count : Int
  sum : Int
  mx : Int
  deriving DecidableEq, Inhabited
def mtCells (m : Mt) : List Value := [.string ⟨m.name.toArray⟩, .int .i64 m.index, .int .i64 m.count, .int .i64 m.sum, .int .i64 m.mx]
theorem mtCells_one (a : Mt) : ∀ u ∈ mtCells a, u.oneCell' = true := by
  intro u hu
  simp [mtCells] at hu
  rcases hu with rfl | rfl | rfl | rfl | rfl <;> rfl
def cfM (x y : Mt) : Int := orI (cfS x.name y.name) (cfI x.index y.index)
set_option maxRecDepth 100000 in
set_option maxHeartbeats 1000000 in
theorem cmp24 (x y : Mt) (W : World) : Calls Tryz.prog 31 #[.agg (mtCells x).toArray, .agg (mtCells y).toArray] W fun e w' => e = .returned (.int .i64 (cfM x y)) ∧ ∃ q os', w' = grow (W.drewN q) os' := by
  simp only [mtCells]
  unfold cfM
  generalize hs : cfS x.name y.name = s
  generalize hi : cfI x.index y.index = i
  have Hs := Lib.hid hs
  have Hi := Lib.hid hi
  clear hs hi
  go_enter Tryz.func31, Tryz.ntmps31
  go_wp2
  refine wp_region_tail 10 (by kernel_rfl) (by kernel_rfl) (fun W' => ∃ n, W' = (((W.alloc (.cells #[.string ⟨x.name.toArray⟩, .int .i64 x.index, .int .i64 x.count, .int .i64 x.sum, .int .i64 x.mx] 34)).alloc (.cells #[.string ⟨y.name.toArray⟩, .int .i64 y.index, .int .i64 y.count, .int .i64 y.sum, .int .i64 y.mx] 34)).drewN n)) ⟨1, rfl⟩ ?_
  iterate 10
    apply wpDetT_cons
    · rintro wx ⟨n, rfl⟩
      go_wp2_with (first | (go_at_call 53; refine (cmp38 _ _ _).mono ?_; rintro e w' ⟨rfl, rfl⟩; rw [Hs.out]) | (go_at_call 54; refine (cmp39 _ _ _).mono ?_; rintro e w' ⟨rfl, rfl⟩; rw [Hi.out]))
      exact ⟨rfl, rfl, n, rfl⟩
    go_frame
  rintro wx ⟨nq, rfl⟩
  go_wp2_with (go_at_call 52; refine (or37 s i _ _ _ (Row.new _ #[.int .i64 s, .int .i64 i] 3 _ (by simp) 0 _ rfl) (Row.new _ #[.int .i64 s, .int .i64 i] 3 _ (by simp) 1 _ rfl)).mono ?_; rintro e w' ⟨rfl, q, os', rfl⟩)
  go_ret
  refine ⟨rfl, nq + q, #[.cells #[.string ⟨x.name.toArray⟩, .int .i64 x.index, .int .i64 x.count, .int .i64 x.sum, .int .i64 x.mx] 34] ++ (#[.cells #[.string ⟨y.name.toArray⟩, .int .i64 y.index, .int .i64 y.count, .int .i64 y.sum, .int .i64 y.mx] 34] ++ (#[.cells #[.int .i64 s, .int .i64 i] 3] ++ os')), ?_⟩
  simp only [alloc_eq_grow, grow, World.drewN, Nat.add_assoc, Array.append_assoc]
theorem cfS_neg (l m : List UInt8) : cfS l m < 0 ↔ Op.bytesLess l m = true := by
  unfold cfS
  split
  · simp_all
  · split <;> simp_all
theorem cfS_zero (l m : List UInt8) : cfS l m = 0 ↔ l = m := by
  unfold cfS
  constructor
  · intro h
    split at h
    · omega
    · split at h
      · omega
      · exact bl_eq (by simpa using ‹¬ Op.bytesLess l m = true›) (by simpa using ‹¬ Op.bytesLess m l = true›)
  · rintro rfl
    simp [bl_irr]
theorem cfI_neg (x y : Int) : cfI x y < 0 ↔ x < y := by
  unfold cfI
  split
  · omega
  · split <;> omega
def Kl (x y : Mt) : Prop := Op.bytesLess x.name y.name = true ∨ (x.name = y.name ∧ x.index < y.index)
theorem cfM_neg (x y : Mt) : cfM x y < 0 ↔ Kl x y := by
  unfold cfM orI Kl
  split
  · rename_i h
    have e := (cfS_zero _ _).1 h
    rw [cfI_neg, e]
    simp [bl_irr]
  · rename_i h
    rw [cfS_neg]
    have e : ¬ x.name = y.name := fun e => h ((cfS_zero _ _).2 e)
    simp [e]
theorem Kl.irr (x : Mt) : ¬ Kl x x := by
  rintro (h | ⟨_, h⟩)
  · rw [bl_irr] at h; cases h
  · omega
theorem Kl.trans {x y z : Mt} (h1 : Kl x y) (h2 : Kl y z) : Kl x z := by
  rcases h1 with h1 | ⟨e1, h1⟩
  · rcases h2 with h2 | ⟨e2, h2⟩
    · exact .inl (bl_trans h1 h2)
    · exact .inl (e2 ▸ h1)
  · rcases h2 with h2 | ⟨e2, h2⟩
    · exact .inl (e1 ▸ h2)
    · exact .inr ⟨e1.trans e2, by omega⟩
theorem Kl.tri (x y : Mt) : Kl x y ∨ Kl y x ∨ (x.name = y.name ∧ x.index = y.index) := by
  rcases Bool.eq_false_or_eq_true (Op.bytesLess x.name y.name) with h1 | h1
  · exact .inl (.inl h1)
  · rcases Bool.eq_false_or_eq_true (Op.bytesLess y.name x.name) with h2 | h2
    · exact .inr (.inl (.inl h2))
    · have e := bl_eq h1 h2
      rcases Int.lt_trichotomy x.index y.index with h | h | h
      · exact .inl (.inr ⟨e, h⟩)
      · exact .inr (.inr ⟨e, h⟩)
      · exact .inr (.inl (.inr ⟨e.symm, h⟩))
theorem ltM (x y : Mt) : ltOf cfM x y = true ↔ Kl x y := by
  show decide (cfM x y < 0) = true ↔ _
  rw [decide_eq_true_eq, cfM_neg]
theorem ltM_not (x y : Mt) : ltOf cfM x y = false ↔ ¬ Kl x y := by rw [← ltM, Bool.not_eq_true]
theorem swoM : SWO (ltOf cfM) := by
  refine ⟨fun x => ?_, fun x y z h1 h2 => ?_, fun x y z h1 h2 => ?_⟩
  · rw [ltM_not]; exact Kl.irr x
  · rw [ltM] at *; exact h1.trans h2
  · rw [ltM_not] at *
    intro h
    rcases Kl.tri x y with e | e | ⟨e1, e2⟩
    · exact h1 e
    · exact h2 (e.trans h)
    · refine h2 ?_
      rcases h with h | ⟨h3, h4⟩
      · exact .inl (e1 ▸ h)
      · exact .inr ⟨e1 ▸ h3, by omega⟩
end Go.Proofs.Seat8
end
section
namespace Go.Proofs.Seat8
open Go.RowKit Go.Proofs.Seat4
section
variable {α : Type}
structure Enc (α : Type) where
  cells : α → List Value
  size : Nat
  len : ∀ x, (cells x).length = size
  one : ∀ x, ∀ u ∈ cells x, u.oneCell' = true
variable {α : Type}
def Enc.all (E : Enc α) (l : List α) : List Value := l.flatMap E.cells
theorem Enc.all_len (E : Enc α) (l : List α) : (E.all l).length = l.length * E.size := by
  induction l with
  | nil => simp [Enc.all]
  | cons e l ih =>
    show (E.cells e ++ E.all l).length = _
    rw [List.length_append, ih, E.len, List.length_cons, Nat.succ_mul, Nat.add_comm]
theorem Enc.all_snoc (E : Enc α) (l : List α) (e : α) : E.all (l ++ [e]) = E.all l ++ E.cells e := by simp [Enc.all]
def LAt (E : Enc α) (w : World) (b off : Nat) (l : List α) : Prop := ∀ k (h : k < l.length), Row w b (off + k * E.size) (E.cells l[k])
theorem LAt.below {E : Enc α} {w w' : World} {b off B : Nat} {l : List α} (h : LAt E w b off l) (hb : Below B w w') (hB : b < B) : LAt E w' b off l := fun k hk => (h k hk).below hb hB
theorem lAt_of_row {E : Enc α} {w : World} {b : Nat} : ∀ {l : List α} {off : Nat}, Row w b off (E.all l) → LAt E w b off l
  | [], _, _ => fun k h => absurd h (Nat.not_lt_zero _)
  | e :: l, off, h => fun k hk => by
    have h' : Row w b off (E.cells e ++ E.all l) := h
    obtain ⟨h1, h2⟩ := h'.append
    cases k with
    | zero => simpa using h1
    | succ k =>
      have := lAt_of_row h2 k (by simpa using hk)
      rw [E.len] at this
      rw [show off + (k + 1) * E.size = off + E.size + k * E.size from by rw [Nat.succ_mul]; omega]
      exact this
def LV (E : Enc α) (w : World) (v : Value) (l : List α) : Prop := ∃ A c, v = .slice A l.length c ∧ l.length ≤ c ∧ (l ≠ [] → ∃ b off, A = some ⟨b, off, none⟩ ∧ b < w.heap.size ∧ LAt E w b off l)
theorem LV.split {E : Enc α} {w : World} {v : Value} {l : List α} (h : LV E w v l) : (∃ A c, v = .slice A 0 c ∧ l = []) ∨ ∃ b off cap, v = .slice (some ⟨b, off, none⟩) l.length cap ∧ l.length ≤ cap ∧ b < w.heap.size ∧ LAt E w b off l := by
  obtain ⟨A, c, rfl, hc, hr⟩ := h
  cases l with
  | nil => exact .inl ⟨A, c, rfl, rfl⟩
  | cons e l =>
    obtain ⟨b, off, rfl, hb, hrow⟩ := hr (by simp)
    exact .inr ⟨b, off, c, rfl, hc, hb, hrow⟩
theorem LV.mk_ {E : Enc α} {w : World} {l : List α} {b off cap : Nat} (hc : l.length ≤ cap) (hb : b < w.heap.size) (h : LAt E w b off l) : LV E w (.slice (some ⟨b, off, none⟩) l.length cap) l := ⟨_, _, rfl, hc, fun _ => ⟨b, off, rfl, hb, h⟩⟩
theorem LV.nil_ (E : Enc α) (w : World) (A : Option Addr) (c : Nat) : LV E w (.slice A 0 c) [] := ⟨A, c, rfl, Nat.zero_le _, fun h => absurd rfl h⟩
theorem LV.below {E : Enc α} {w w' : World} {v : Value} {l : List α} (h : LV E w v l) (hb : Below w.heap.size w w') : LV E w' v l := by
  obtain ⟨A, c, h1, h2, hr⟩ := h
  refine ⟨A, c, h1, h2, fun hl => ?_⟩
  obtain ⟨b, off, h3, h4, h5⟩ := hr hl
  exact ⟨b, off, h3, Nat.lt_of_lt_of_le h4 hb.size, h5.below hb h4⟩
theorem lv_own {E : Enc α} {w : World} {base e size : Nat} {v : Value} {l : List α} (h : w.ownsRow base e size v l.length (E.all l)) : LV E w v l := by
  rcases ownsRow_row h with ⟨rfl, h0, -⟩ | ⟨g, cap, rfl, -, hg, hcap, hrow⟩
  · rw [List.eq_nil_of_length_eq_zero h0]
    exact LV.nil_ _ _ _ _
  · exact LV.mk_ hcap hg (lAt_of_row hrow)
theorem take_snoc {α : Type} (l : List α) (k : Nat) (h : k < l.length) : l.take (k + 1) = l.take k ++ [l[k]] := by
  rw [List.take_succ_eq_append_getElem h]
theorem cell_heap {w : World} {b : Nat} {cs : Array Value} {t : TypeId} {fr : Nat × Nat} (h : w.heap[b]? = some (.cells cs t fr)) (j : Nat) : w.cell? ⟨b, j, none⟩ = cs[j]? := by simp [World.cell?, h]
theorem frozen_heap {w : World} {b : Nat} {cs : Array Value} {t : TypeId} (h : w.heap[b]? = some (.cells cs t (0, 0))) (j : Nat) : w.frozen? ⟨b, j, none⟩ = false := by simp [World.frozen?, h]
theorem setCell_heap {w : World} {b : Nat} {cs : Array Value} {t : TypeId} {fr : Nat × Nat} (h : w.heap[b]? = some (.cells cs t fr)) (j : Nat) (v : Value) : (w.setCell ⟨b, j, none⟩ v).heap[b]? = some (.cells (cs.setIfInBounds j v) t fr) := by
  simp [World.setCell, Array.getElem?_modify, h]
theorem heap_alloc_lt (w : World) (o : Obj) {i : Nat} (h : i < w.heap.size) : (w.alloc o).heap[i]? = w.heap[i]? := ((Below.refl w.heap.size w).alloc (Nat.le_refl _) o).block i h
theorem setCell_other {w : World} {b i : Nat} (j : Nat) (v : Value) (h : i ≠ b) : (w.setCell ⟨b, j, none⟩ v).heap[i]? = w.heap[i]? := Below.heap_setCell _ _ _ _ h
end
def ME : Enc Mt := ⟨mtCells, 5, fun _ => rfl, mtCells_one⟩
abbrev MtV (w : World) (v : Value) (l : List Mt) : Prop := LV ME w v l
end Go.Proofs.Seat8
end
section
namespace Go.Proofs.Seat8
def splitA (c : UInt8) : List UInt8 → List UInt8 → List (List UInt8)
  | p, [] => [p]
  | p, x :: r => if x = c then p :: splitA c [] r else splitA c (p ++ [x]) r
theorem splitA_none {c : UInt8} : ∀ (s p : List UInt8), c ∉ s → splitA c p s = [p ++ s]
  | [], p, _ => by simp [splitA]
  | x :: r, p, h => by
    have hx : x ≠ c := fun e => h (by simp [e])
    rw [splitA, if_neg hx, splitA_none r _ (fun e => h (by simp [e]))]
    simp
theorem splitA_hit {c : UInt8} : ∀ (a r p : List UInt8), c ∉ a → splitA c p (a ++ c :: r) = (p ++ a) :: splitA c [] r
  | [], r, p, _ => by simp [splitA]
  | x :: a, r, p, h => by
    have hx : x ≠ c := fun e => h (by simp [e])
    rw [List.cons_append, splitA, if_neg hx, splitA_hit a r _ (fun e => h (by simp [e]))]
    simp
theorem splitA_ne (c : UInt8) : ∀ (s p : List UInt8), splitA c p s ≠ []
  | [], p => by simp [splitA]
  | x :: r, p => by
    rw [splitA]
    split
    · simp
    · exact splitA_ne c r _
theorem first_byte (c : UInt8) : ∀ s : List UInt8, c ∉ s ∨ ∃ a r, s = a ++ c :: r ∧ c ∉ a
  | [] => .inl (by simp)
  | x :: s => by
    by_cases hx : x = c
    · exact .inr ⟨[], s, by simp [hx], by simp⟩
    · rcases first_byte c s with h | ⟨a, r, rfl, h⟩
      · exact .inl (by simp only [List.mem_cons, not_or]; exact ⟨fun e => hx e.symm, h⟩)
      · exact .inr ⟨x :: a, r, rfl, by simp only [List.mem_cons, not_or]; exact ⟨fun e => hx e.symm, h⟩⟩
theorem index_none {c : UInt8} : ∀ s : List UInt8, c ∉ s → Lib.index s [c] = -1
  | [], _ => rfl
  | x :: s, h => by
    have hx : c ≠ x := fun e => h (by simp [e])
    have ih := index_none s (fun e => h (List.mem_cons_of_mem _ e))
    unfold Lib.index
    rw [ih]
    simp [List.isPrefixOf, hx]
theorem index_hit {c : UInt8} : ∀ a r : List UInt8, c ∉ a → Lib.index (a ++ c :: r) [c] = (a.length : Int)
  | [], r, _ => by simp [Lib.index, List.isPrefixOf]
  | x :: a, r, h => by
    have hx : c ≠ x := fun e => h (by simp [e])
    have ih := index_hit a r (fun e => h (List.mem_cons_of_mem _ e))
    rw [List.cons_append]
    unfold Lib.index
    rw [ih]
    have h1 : ((a.length : Int) == -1) = false := by simp
    simp [List.isPrefixOf, hx, h1]
theorem cut_none {c : UInt8} {s : List UInt8} (h : c ∉ s) : Lib.cut s [c] = (s, [], false) := by
  unfold Lib.cut
  rw [index_none s h]
  rfl
theorem cut_hit {c : UInt8} (a r : List UInt8) (h : c ∉ a) : Lib.cut (a ++ c :: r) [c] = (a, r, true) := by
  unfold Lib.cut
  rw [index_hit a r h]
  rw [if_pos (by omega)]
  simp
theorem splitB_eq (c : UInt8) : ∀ (n : Nat) (s : List UInt8), s.length ≤ n → (Lib.splitB ⟨#[c]⟩ 0 (Lib.countB ⟨s.toArray⟩ ⟨#[c]⟩) ⟨s.toArray⟩).map (fun b => b.data.toList) = splitA c [] s := by
  intro n
  induction n with
  | zero =>
    intro s hs
    have : s = [] := List.eq_nil_of_length_eq_zero (by omega)
    subst this
    have hi : Lib.indexB ⟨#[]⟩ ⟨#[c]⟩ = -1 := by unfold Lib.indexB; exact index_none [] (by simp)
    rw [Lib.splitB_miss _ _ _ _ hi]
    simp [splitA]
  | succ n ih =>
    intro s hs
    rcases first_byte c s with h | ⟨a, r, rfl, h⟩
    · have hi : Lib.indexB ⟨s.toArray⟩ ⟨#[c]⟩ = -1 := by unfold Lib.indexB; exact index_none s h
      rw [Lib.splitB_miss _ _ _ _ hi, splitA_none s [] h]
      simp
    · have hi : Lib.indexB ⟨(a ++ c :: r).toArray⟩ ⟨#[c]⟩ = (a.length : Int) := by unfold Lib.indexB; exact index_hit a r h
      have hc := Lib.countB_hit ⟨(a ++ c :: r).toArray⟩ ⟨#[c]⟩ a.length (Nat.le_refl 1) hi
      have hext : (ByteArray.mk (a ++ c :: r).toArray).extract (a.length + (ByteArray.mk #[c]).size) (ByteArray.mk (a ++ c :: r).toArray).size = ⟨r.toArray⟩ := by
        apply ByteArray.ext
        have := Lib.extract_to_end ⟨(a ++ c :: r).toArray⟩ (a.length + (ByteArray.mk #[c]).size)
        apply Array.toList_inj.1
        rw [this]
        show List.drop (a.length + 1) (a ++ c :: r) = r
        simp
      rw [hext] at hc
      rw [hc, Nat.add_comm, Lib.splitB_hit _ _ _ _ _ hi, hext, List.map_cons, splitA_hit a r [] h]
      have := ih r (by simp at hs; omega)
      rw [this, Lib.extract_data]
      simp
theorem countB_len (c : UInt8) (s : List UInt8) : Lib.countB ⟨s.toArray⟩ ⟨#[c]⟩ + 1 = (splitA c [] s).length := by
  rw [← splitB_eq c s.length s (Nat.le_refl _), List.length_map, Lib.splitB_all ⟨#[c]⟩ (Nat.le_refl 1) _ _ _ rfl]
theorem splitB_cells (c : UInt8) (s : List UInt8) : (Lib.splitB ⟨#[c]⟩ 0 (Lib.countB ⟨s.toArray⟩ ⟨#[c]⟩) ⟨s.toArray⟩).map Value.string = (splitA c [] s).map (fun l => Value.string ⟨l.toArray⟩) := by
  rw [← splitB_eq c s.length s (Nat.le_refl _), List.map_map]
  apply List.map_congr_left
  intro b _
  rfl
/-! ### numerals -/
theorem dec_bytes : ∀ (n u : Nat), u ≤ n → ∀ x ∈ Lib.decDigits u, 48 ≤ x.toNat ∧ x.toNat ≤ 57 := by
  intro n
  induction n with
  | zero =>
    intro u hu x hx
    have : u = 0 := by omega
    subst this
    rw [Lib.decDigits.eq_1, dif_pos (by omega)] at hx
    simp at hx
    subst hx
    decide
  | succ n ih =>
    intro u hu x hx
    rw [Lib.decDigits.eq_1] at hx
    have hd : ∀ d, d < 10 → 48 ≤ (UInt8.ofNat (48 + d)).toNat ∧ (UInt8.ofNat (48 + d)).toNat ≤ 57 := by
      intro d hd
      rw [UInt8.toNat_ofNat', Nat.mod_eq_of_lt (by omega)]
      omega
    split at hx
    · rename_i h
      simp only [List.mem_singleton] at hx
      subst hx
      exact hd u h
    · rcases List.mem_append.1 hx with h | h
      · exact ih (u / 10) (by omega) x h
      · simp only [List.mem_singleton] at h
        subst h
        exact hd _ (Nat.mod_lt _ (by omega))
theorem itoa_bytes (n : Int) : ∀ x ∈ Lib.itoa n, x.toNat = 45 ∨ (48 ≤ x.toNat ∧ x.toNat ≤ 57) := by
  intro x hx
  unfold Lib.itoa at hx
  split at hx
  · rcases List.mem_cons.1 hx with h | h
    · subst h; left; rfl
    · exact .inr (dec_bytes _ _ (Nat.le_refl _) x h)
  · exact .inr (dec_bytes _ _ (Nat.le_refl _) x hx)
theorem itoa_no (n : Int) (c : UInt8) (h1 : c.toNat ≠ 45) (h2 : c.toNat < 48 ∨ 57 < c.toNat) : c ∉ Lib.itoa n := by
  intro h
  have := itoa_bytes n c h
  omega
theorem digit_of (d : Nat) (hd : d < 10) : Lib.digitVal (UInt8.ofNat (48 + d)) = some d := by
  have : ∀ d : Fin 10, Lib.digitVal (UInt8.ofNat (48 + d.val)) = some d.val := by decide
  exact this ⟨d, hd⟩
theorem decFrom_append : ∀ (l : List UInt8) (acc m d : Nat), Lib.decFrom acc l = some m → d < 10 → Lib.decFrom acc (l ++ [UInt8.ofNat (48 + d)]) = some (m * 10 + d)
  | [], acc, m, d, h, hd => by
    simp only [Lib.decFrom, Option.some.injEq] at h
    subst h
    simp only [List.nil_append, Lib.decFrom, digit_of d hd]
  | x :: l, acc, m, d, h, hd => by
    simp only [List.cons_append, Lib.decFrom] at h ⊢
    cases hx : Lib.digitVal x with
    | none => rw [hx] at h; cases h
    | some y =>
      rw [hx] at h
      exact decFrom_append l _ m d h hd
theorem decFrom_dec : ∀ (n u : Nat), u ≤ n → Lib.decFrom 0 (Lib.decDigits u) = some u := by
  intro n
  induction n with
  | zero =>
    intro u hu
    have : u = 0 := by omega
    subst this
    rw [Lib.decDigits.eq_1, dif_pos (by omega)]
    decide
  | succ n ih =>
    intro u hu
    rw [Lib.decDigits.eq_1]
    split
    · rename_i h
      have := decFrom_append [] 0 0 u rfl h
      simpa using this
    · have := decFrom_append _ 0 (u / 10) (u % 10) (ih (u / 10) (by omega)) (Nat.mod_lt _ (by omega))
      rw [this]
      congr 1
      omega
theorem dec_ne (u : Nat) : Lib.decDigits u ≠ [] := by
  rw [Lib.decDigits.eq_1]
  split <;> simp
theorem decNat_dec (u : Nat) : Lib.decNat (Lib.decDigits u) = some u := by
  unfold Lib.decNat
  rw [if_neg (by simpa using dec_ne u)]
  exact decFrom_dec u u (Nat.le_refl _)
theorem dec_head (u : Nat) : ∃ x r, Lib.decDigits u = x :: r ∧ 48 ≤ x.toNat ∧ x.toNat ≤ 57 := by
  cases h : Lib.decDigits u with
  | nil => exact absurd h (dec_ne u)
  | cons x r => exact ⟨x, r, rfl, dec_bytes u u (Nat.le_refl _) x (by rw [h]; simp)⟩
theorem atoi_itoa (n : Int) : Lib.atoi (Lib.itoa n) = some n := by
  unfold Lib.itoa
  split
  · rename_i h
    simp only [Lib.atoi, beq_self_eq_true, if_true, decNat_dec, Option.map_some]
    congr 1
    omega
  · rename_i h
    obtain ⟨x, r, hx, h1, h2⟩ := dec_head n.toNat
    rw [hx]
    have e1 : (x == 45) = false := by
      rw [beq_eq_false_iff_ne]
      rintro rfl
      revert h1; decide
    have e2 : (x == 43) = false := by
      rw [beq_eq_false_iff_ne]
      rintro rfl
      revert h1; decide
    simp only [Lib.atoi, e1, e2, Bool.false_eq_true, if_false]
    rw [← hx, decNat_dec]
    simp only [Option.map_some]
    congr 1
    omega
theorem dec_len_lt : ∀ (k u : Nat), u < 10 ^ k → 1 ≤ k → (Lib.decDigits u).length ≤ k := by
  intro k
  induction k with
  | zero => intro u _ h; omega
  | succ k ih =>
    intro u hu _
    rw [Lib.decDigits.eq_1]
    split
    · simp
    · rename_i h
      have hk : 1 ≤ k := by
        rcases Nat.eq_zero_or_pos k with e | e
        · subst e; simp at hu; omega
        · exact e
      have := ih (u / 10) (by rw [Nat.div_lt_iff_lt_mul (by omega)]; rw [Nat.pow_succ] at hu; exact hu) hk
      simp
      omega
theorem atoiAll_itoa (n : Int) (h0 : -100000000000000000 < n) (h1 : n < 100000000000000000) : Lib.atoiAll (Lib.itoa n) = .ok n := by
  have hl : (Lib.itoa n).length ≤ 18 := by
    unfold Lib.itoa
    split
    · have := dec_len_lt 17 n.natAbs (by omega) (by omega)
      simp; omega
    · have := dec_len_lt 17 n.toNat (by omega) (by omega)
      omega
  rw [Lib.atoiAll_short _ hl, atoi_itoa]
  rfl
def numLoop : Nat → List UInt8 → Option Nat
  | n, [] => some n
  | n, c :: r => if c.toNat < 48 ∨ 57 < c.toNat ∨ 1099511627776 < n then none else numLoop (n * 10 + (c.toNat - 48)) r
def numR (s : List UInt8) : Int × Bool :=
  match (if s.head? = some 45 then numLoop 0 s.tail else numLoop 0 s) with
  | none => (0, false)
  | some n => if s.head? = some 45 then (-(n : Int), decide (Lib.itoa (-(n : Int)) = s)) else ((n : Int), decide (Lib.itoa (n : Int) = s))
theorem numLoop_append : ∀ (l : List UInt8) (acc m d : Nat), numLoop acc l = some m → d < 10 → m ≤ 1099511627776 → numLoop acc (l ++ [UInt8.ofNat (48 + d)]) = some (m * 10 + d)
  | [], acc, m, d, h, hd, hm => by
    simp only [numLoop, Option.some.injEq] at h
    subst h
    have e : (UInt8.ofNat (48 + d)).toNat = 48 + d := by rw [UInt8.toNat_ofNat', Nat.mod_eq_of_lt (by omega)]
    simp only [List.nil_append, numLoop, e]
    rw [if_neg (by omega), show 48 + d - 48 = d from by omega]
  | x :: l, acc, m, d, h, hd, hm => by
    simp only [List.cons_append, numLoop] at h ⊢
    split at h
    · cases h
    · rename_i hc
      rw [if_neg hc]
      exact numLoop_append l _ m d h hd hm
theorem numLoop_dec : ∀ (n u : Nat), u ≤ n → u ≤ 10995116277769 → numLoop 0 (Lib.decDigits u) = some u := by
  intro n
  induction n with
  | zero =>
    intro u hu _
    have : u = 0 := by omega
    subst this
    rw [Lib.decDigits.eq_1, dif_pos (by omega)]
    decide
  | succ n ih =>
    intro u hu hb
    rw [Lib.decDigits.eq_1]
    split
    · rename_i h
      have := numLoop_append [] 0 0 u rfl h (by omega)
      simpa using this
    · have := numLoop_append _ 0 (u / 10) (u % 10) (ih (u / 10) (by omega) (by omega)) (Nat.mod_lt _ (by omega)) (by omega)
      rw [this]
      congr 1
      omega
theorem numR_itoa (n : Int) (h0 : -1099511627776 ≤ n) (h1 : n ≤ 1099511627776) : numR (Lib.itoa n) = (n, true) := by
  by_cases hn : n < 0
  · obtain ⟨m, rfl⟩ : ∃ m : Nat, n = -(m : Int) := ⟨n.natAbs, by omega⟩
    have e : Lib.itoa (-(m : Int)) = 45 :: Lib.decDigits m := Lib.itoa_neg m (by omega)
    unfold numR
    rw [e]
    simp only [List.head?_cons, if_true, List.tail_cons]
    rw [numLoop_dec m m (Nat.le_refl _) (by omega)]
    simp [e]
  · obtain ⟨m, rfl⟩ : ∃ m : Nat, n = (m : Int) := ⟨n.toNat, by omega⟩
    have e : Lib.itoa (m : Int) = Lib.decDigits m := Lib.itoa_nonneg m
    obtain ⟨x, r, hx, hx1, hx2⟩ := dec_head m
    have hne : (Lib.decDigits m).head? ≠ some 45 := by
      rw [hx]
      simp only [List.head?_cons, ne_eq, Option.some.injEq]
      rintro rfl
      revert hx1; decide
    unfold numR
    rw [e]
    simp only [if_neg hne]
    rw [numLoop_dec m m (Nat.le_refl _) (by omega)]
    simp [e]
theorem numR_ok {s : List UInt8} {n : Int} (h : numR s = (n, true)) : s = Lib.itoa n := by
  unfold numR at h
  split at h
  · simp at h
  · split at h
    · simp only [Prod.mk.injEq, decide_eq_true_eq] at h
      rw [← h.1, h.2]
    · simp only [Prod.mk.injEq, decide_eq_true_eq] at h
      rw [← h.1, h.2]
end Go.Proofs.Seat8
end
section
namespace Go.Proofs.Seat8
open Go.RowKit Go.Proofs.Seat4
theorem conv1 (W : World) (x : Int) (h0 : 0 ≤ x) (h1 : x < 256) :
    (convert 57 9 (.slice (some ⟨W.heap.size, 0, none⟩) 1 1)).run Tryz.prog (W.alloc (.cells #[.int .u8 x] 5)) = .ok (.string ⟨#[UInt8.ofNat x.toNat]⟩) (W.alloc (.cells #[.int .u8 x] 5)) := by
  have := run_convert_bytes_back (P := Tryz.prog) (W.alloc (.cells #[.int .u8 x] 5)) 57 9 5 ⟨W.heap.size, 0, none⟩ 1 [UInt8.ofNat x.toNat] Tryz.underlying57 Tryz.underlying5 Tryz.underlying9 (fun j hj => by
    have hj0 : j = 0 := by simpa using hj
    subst hj0
    rw [plain_add, cell_of_row _ _ _ #[.int .u8 x] 5 (0, 0) (heap_alloc_new W _)]
    simp only [List.getElem_cons_zero, Nat.add_zero]
    rw [UInt8.toNat_ofNat', Nat.mod_eq_of_lt (by omega), show ((x.toNat : Nat) : Int) = x from by omega]
    rfl)
  exact this
theorem dec_step (m : Nat) (h : 9 < m) (l : List UInt8) : Lib.decDigits (m / 10) ++ (48 + UInt8.ofNat (m % 10)) :: l = Lib.decDigits m ++ l := by
  rw [Lib.decDigits.eq_1 m, dif_neg (by omega)]
  simp
theorem dec_last (m : Nat) (h : m ≤ 9) (l : List UInt8) : (48 + UInt8.ofNat m) :: l = Lib.decDigits m ++ l := by
  rw [Lib.decDigits.eq_1 m, dif_pos (by omega)]
  simp
theorem cat1 (x : UInt8) (l : List UInt8) : (ByteArray.mk #[x]) ++ (ByteArray.mk l.toArray) = ByteArray.mk (x :: l).toArray := ByteArray.mk_append_mk [x] l
theorem decD_len (n : Nat) (h : n ≤ 9223372036854775807) : (Lib.decDigits n).length ≤ 21 := by
  have hlen := Lib.itoa_length_le (n : Int) (by omega) (by omega)
  rwa [Lib.itoa_nonneg] at hlen
theorem dg_eq (m : Nat) : UInt8.ofNat (48 + m % 10) = 48 + UInt8.ofNat (m % 10) := by
  have : ∀ d : Fin 10, UInt8.ofNat (48 + d.val) = 48 + UInt8.ofNat d.val := by decide
  exact this ⟨m % 10, Nat.mod_lt _ (by omega)⟩
set_option maxRecDepth 100000 in
set_option maxHeartbeats 1000000 in
theorem decimal55p (N : Nat) (w : World) (hN : N ≤ 9223372036854775807) : Calls Tryz.prog 55 #[.int .i64 (N : Int)] w fun e w' => e = .returned (.string ⟨(Lib.decDigits N).toArray⟩) ∧ Below w.heap.size w w' := by
  have hcv0 := conv1 w (48 + (N : Int) % 10) (by omega) (by omega)
  go_enter Tryz.func55, Tryz.ntmps55
  go_wp2
  go_loopw [0, 3] (fun n out wr => ∃ (m : Nat) (l : List UInt8), n = .int .i64 m ∧ out = .string ⟨((48 + UInt8.ofNat (m % 10)) :: l).toArray⟩ ∧ m ≤ N ∧ Hid (Lib.decDigits m ++ l = Lib.decDigits N) ∧ Below w.heap.size w wr) (fun n _ _ => (intOf n).toNat)
  case atStart => exact ⟨N, [], rfl, congrArg (fun x => Value.string ⟨#[x]⟩) (dg_eq N), Nat.le_refl _, by simp [Hid], (Below.refl _ _).alloc (Nat.le_refl _) _⟩
  case round =>
    obtain ⟨m, l, rfl, rfl, hm, hl, hb⟩ := hrel
    have hll : l.length ≤ 21 := by
      have := decD_len N hN
      rw [← hl.out] at this
      simp at this
      omega
    have hsz := hb.size
    by_cases h : 9 < m
    · have hcv := conv1 wr (48 + (m : Int) / 10 % 10) (by omega) (by omega)
      go_wp2
      go_roundw
      case rel => exact ⟨m / 10, (48 + UInt8.ofNat (m % 10)) :: l, by go_num, congrArg Value.string (cat1 _ _), by omega, (dec_step m h l).trans hl.out, hb.alloc hsz _⟩
      case measure => simp [intOf]; omega
    · have Hd := Lib.hid ((dec_last m (by omega) l).trans hl.out)
      clear hcv0
      go_wp2
      go_ret
      refine ⟨?_, hb⟩
      have hd := Hd.out
      have hm10 : m % 10 = m := by omega
      rw [hm10, hd]
      rfl
theorem decimal55 (n : Int) (w : World) (h0 : -9223372036854775807 ≤ n) (h1 : n ≤ 9223372036854775807) : Calls Tryz.prog 55 #[.int .i64 n] w fun e w' => e = .returned (.string ⟨(Lib.itoa n).toArray⟩) ∧ Below w.heap.size w w' := by
  by_cases hn : n < 0
  · obtain ⟨m, hm⟩ : ∃ m : Nat, n = -(m : Int) := ⟨n.natAbs, by omega⟩
    subst hm
    have l1 := decD_len m (by omega)
    have hp := decimal55p m w (by omega)
    go_enter Tryz.func55, Tryz.ntmps55
    go_wp2_with (go_at_call 55; refine hp.mono ?_; rintro e w1 ⟨rfl, hb1⟩)
    go_ret
    refine ⟨congrArg (fun b => Ending.returned (Value.string b)) ((cat1 45 _).trans ?_), hb1⟩
    rw [Lib.itoa_neg m (by omega)]
  · obtain ⟨m, hm⟩ : ∃ m : Nat, n = (m : Int) := ⟨n.natAbs, by omega⟩
    subst hm
    have := decimal55p m w (by omega)
    rwa [show Lib.itoa (m : Int) = Lib.decDigits m from Lib.itoa_nonneg m]
end Go.Proofs.Seat8
end
section
namespace Go.Proofs.Seat8
open Go.RowKit Go.Proofs.Seat4
structure But (b lo : Nat) (w w' : World) : Prop where
  os : w'.os = w.os
  tape : w'.tape = w.tape
  output : w'.output = w.output
  size : w.heap.size ≤ w'.heap.size
  block : ∀ k, k < lo → k ≠ b → w'.heap[k]? = w.heap[k]?
  kept : ∀ X cs t g, X ≠ b → t ≠ 5 → w.heap[X]? = some (.cells cs t g) → w'.heap[X]? = some (.cells cs t g)
theorem But.refl (b lo : Nat) (w : World) : But b lo w w := ⟨rfl, rfl, rfl, Nat.le_refl _, fun _ _ _ => rfl, fun _ _ _ _ _ _ h => h⟩
theorem But.trans {b lo : Nat} {w w' w'' : World} (h : But b lo w w') (k : But b lo w' w'') : But b lo w w'' :=
  ⟨k.os.trans h.os, k.tape.trans h.tape, k.output.trans h.output, Nat.le_trans h.size k.size, fun i hi hn => (k.block i hi hn).trans (h.block i hi hn), fun X cs t g hX ht e => k.kept X cs t g hX ht (h.kept X cs t g hX ht e)⟩
theorem heap_lt {w : World} {b : Nat} {o : Obj} (h : w.heap[b]? = some o) : b < w.heap.size := (Array.getElem?_eq_some_iff.1 h).1
theorem But.of_below {b lo : Nat} {w w' : World} (h : Below w.heap.size w w') (hl : lo ≤ w.heap.size) : But b lo w w' := ⟨h.os, h.tape, h.output, h.size, fun k hk _ => h.block k (by omega), fun X _ _ _ _ _ e => (h.block X (heap_lt e)).trans e⟩
theorem But.below {b lo : Nat} {w w' : World} (h : But b lo w w') (hb : b ≤ lo) : Below b w w' := ⟨h.os, h.tape, h.output, h.size, fun k hk => h.block k (by omega) (by omega)⟩
theorem But.setCell {b lo : Nat} {w w' : World} (h : But b lo w w') (off : Nat) (v : Value) : But b lo w (w'.setCell ⟨b, off, none⟩ v) :=
  h.trans ⟨rfl, rfl, rfl, by simp [World.setCell], fun k _ hn => Below.heap_setCell _ _ _ _ hn, fun X _ _ _ hX _ e => (Below.heap_setCell _ _ _ _ hX).trans e⟩
theorem own5 {w : World} {lo n k : Nat} {v : Value} {xs : List Value} {c : Array Value} {t : TypeId} {g : Nat × Nat} (h : w.ownsRow lo 5 1 v n xs) (hk : v.ownBlock = some k) (e : w.heap[k]? = some (.cells c t g)) : t = 5 := by
  rcases h.2 with ⟨rfl, _⟩ | ⟨g', cap, cur, rfl, hb, hg, _⟩
  · simp [Value.ownBlock] at hk
  · simp [Value.ownBlock] at hk
    subst hk
    rw [hg] at e
    cases e
    rfl
theorem But.grown {b lo n : Nat} {w w' w'' : World} {v : Value} {xs : List Value} (h : But b lo w w') (h5 : w'.ownsRow lo 5 1 v n xs) (hg : w'.grownBy w'' v.ownBlock) (hlo : lo ≤ w'.heap.size) : But b lo w w'' :=
  h.trans ⟨hg.os, hg.tape, hg.output, hg.size, fun k hk _ => hg.block k (by omega) (fun e => by have := (h5.lt k e.symm).1; omega), fun X _ _ _ _ ht e => (hg.block X (heap_lt e) (fun e' => ht (own5 h5 e'.symm e))).trans e⟩
theorem But.alloc {b lo : Nat} {w w' : World} (h : But b lo w w') (hlo : lo ≤ w'.heap.size) (o : Obj) : But b lo w (w'.alloc o) :=
  h.trans (But.of_below ((Below.refl _ w').alloc (Nat.le_refl _) o) hlo)
theorem But.cell {b lo : Nat} {w w' : World} (h : But b lo w w') {p : Addr} (hp : p.block < lo) (hn : p.block ≠ b) : w'.cell? p = w.cell? p := World.cell?_of_block (h.block p.block hp hn)
def IsB (w : World) (b lo : Nat) (l : List UInt8) : Prop :=
  b < lo ∧ lo ≤ w.heap.size ∧ ∃ p v, w.heap[b]? = some (.cells #[p, v] 59 (0, 0)) ∧ (p = .pointer none ∨ p = .pointer (some ⟨b, 0, none⟩)) ∧ w.ownsRow lo 5 1 v l.length (Lib.byteCells l)
def IsBU (w : World) (b lo : Nat) (l : List UInt8) : Prop :=
  b < lo ∧ lo ≤ w.heap.size ∧ ∃ v, w.heap[b]? = some (.cells #[.pointer (some ⟨b, 0, none⟩), v] 59 (0, 0)) ∧ w.ownsRow lo 5 1 v l.length (Lib.byteCells l)
theorem IsBU.isB {w : World} {b lo : Nat} {l : List UInt8} (h : IsBU w b lo l) : IsB w b lo l := by
  obtain ⟨h1, h2, v, h3, h4⟩ := h
  exact ⟨h1, h2, _, v, h3, .inr rfl, h4⟩
theorem ownsRow_mono {w : World} {lo lo' e size n : Nat} {v : Value} {xs : List Value} (h : w.ownsRow lo e size v n xs) (hl : lo' ≤ lo) : w.ownsRow lo' e size v n xs := by
  refine ⟨h.1, ?_⟩
  rcases h.2 with h | ⟨g, cap, cur, h1, h2, h3⟩
  · exact .inl h
  · exact .inr ⟨g, cap, cur, h1, Nat.le_trans hl h2, h3⟩
theorem IsB.lib {w : World} {b lo : Nat} {l : List UInt8} (h : IsB w b lo l) : Lib.IsBuilder 59 5 b b (Lib.byteCells l) w := by
  obtain ⟨h1, h2, p, v, h3, h4, h5⟩ := h
  have hat : Lib.BuilderAt 59 5 b b p (Lib.byteCells l) w := by
    refine ⟨Nat.le_refl _, v, h3, ?_, fun e => ?_⟩
    · rw [Lib.byteCells_length]
      exact ownsRow_mono h5 (Nat.le_of_lt h1)
    · have := (h5.lt b e).1
      omega
  rcases h4 with rfl | rfl
  · exact .inl hat
  · exact .inr hat
theorem IsB.new (w : World) (b : Nat) (o : Obj → Prop) (hb : w.heap[b]? = some (.cells #[.pointer none, .slice none 0 0] 59 (0, 0))) (lo : Nat) (h1 : b < lo) (h2 : lo ≤ w.heap.size) : IsB w b lo [] :=
  ⟨h1, h2, _, _, hb, .inl rfl, World.ownsRow_nil _ _ _ _⟩
theorem IsB.keep {w w' : World} {b lo : Nat} {l : List UInt8} (h : IsB w b lo l) (hb : Below w.heap.size w w') : IsB w' b lo l := by
  obtain ⟨h1, h2, p, v, h3, h4, h5⟩ := h
  refine ⟨h1, Nat.le_trans h2 hb.size, p, v, (hb.block b (heap_lt h3)).trans h3, h4, ?_⟩
  exact h5.kept (row := none) ⟨hb.os, hb.tape, hb.output, hb.size, fun k hk _ => hb.block k hk⟩ (by cases v.ownBlock <;> simp)
theorem size88 : ∃ j, Tryz.prog.info? 59 = some j ∧ j.size = 2 := by
  have h : (Tryz.prog.info? 59).map (·.size) = some 2 := by kernel_rfl
  obtain ⟨j, hj, hs⟩ := Option.map_eq_some_iff.1 h
  exact ⟨j, hj, hs⟩
theorem lies88 : liesAt Tryz.prog Tryz.prog.depth 59 (2 / Tryz.prog.cellsOf 59) 0 59 1 = true := by kernel_rfl
set_option maxRecDepth 100000 in
theorem copyCheck_used (b : Nat) (w : World) (h0 : w.cell? ⟨b, 0, none⟩ = some (.pointer (some ⟨b, 0, none⟩))) :
    Calls Tryz.prog 43 #[.pointer (some ⟨b, 0, none⟩)] w fun e w' => e = .returned (.tuple #[]) ∧ w = w' := by
  obtain ⟨j, hj, _⟩ := size88
  go_enter Tryz.func43, Tryz.ntmps43
  go_wp2
  rw [Lib.run_neq_ptr_same w _ Tryz.underlying56 hj]
  go_wp2
  go_end0
  exact ⟨rfl, rfl⟩
set_option maxRecDepth 100000 in
theorem copyCheck_fresh (b : Nat) (w : World) (h0 : w.cell? ⟨b, 0, none⟩ = some (.pointer none)) (hsh : w.shape? b = some (59, 2)) (hfz : w.frozen? ⟨b, 0, none⟩ = false) :
    Calls Tryz.prog 43 #[.pointer (some ⟨b, 0, none⟩)] w fun e w' => e = .returned (.tuple #[]) ∧ w.setCell ⟨b, 0, none⟩ (.pointer (some ⟨b, 0, none⟩)) = w' := by
  obtain ⟨j, hj, hjs⟩ := size88
  go_enter Tryz.func43, Tryz.ntmps43
  go_wp2
  rw [Lib.run_to_unsafe w ⟨b, 0, none⟩ Tryz.underlying56 Tryz.underlying127 hj (by rw [hjs]; decide) hsh (Nat.zero_lt_succ 1)]
  simp only [Result.andThen]
  rw [Oper.upon_value]
  go_wp2
  rw [run_callFunc_extern Tryz.func71 (by kernel_rfl) (by kernel_rfl) (by kernel_rfl) (e := Extern.AbiNoEscape.same) (by kernel_rfl)]
  rw [Lib.run_noEscape]
  simp only [Result.andThen]
  rw [Oper.upon_value]
  go_wp2
  rw [Lib.run_from_unsafe w ⟨b, 0, none⟩ Tryz.underlying127 Tryz.underlying56 hj hsh lies88]
  simp only [Result.andThen]
  rw [Oper.upon_value]
  go_wp2
  go_end0
  exact ⟨rfl, rfl⟩
theorem copyCheck53 (b lo : Nat) (l : List UInt8) (w : World) (h : IsB w b lo l) :
    Calls Tryz.prog 43 #[.pointer (some ⟨b, 0, none⟩)] w fun e w' => e = .returned (.tuple #[]) ∧ IsBU w' b lo l ∧ But b lo w w' := by
  obtain ⟨h1, h2, p, v, h3, h4, h5⟩ := h
  have hlt := heap_lt h3
  rcases h4 with rfl | rfl
  · refine (copyCheck_fresh b w (by simp [World.cell?, h3]) (by simp [World.shape?, h3]) (by simp [World.frozen?, h3])).mono ?_
    rintro e w' ⟨rfl, rfl⟩
    refine ⟨rfl, ⟨h1, by simpa [World.setCell] using h2, v, by simp [World.setCell, Array.getElem?_modify, h3], ?_⟩, (But.refl _ _ _).setCell _ _⟩
    refine h5.kept (row := some b) ⟨rfl, rfl, rfl, by simp [World.setCell], fun k _ hk => Below.heap_setCell _ _ _ _ (fun e => hk (by simp [e]))⟩ (.inr fun e => ?_)
    have := (h5.lt b e).1
    omega
  · refine (copyCheck_used b w (by simp [World.cell?, h3])).mono ?_
    rintro e w' ⟨rfl, rfl⟩
    exact ⟨rfl, ⟨h1, h2, v, h3, h5⟩, But.refl _ _ _⟩
theorem T86 : ElemT Tryz.prog 57 5 1 1 := ElemT.mk' Tryz.underlying57 (z := .int .u8 0) (by kernel_rfl) rfl (by decide)
theorem IsBU.stored {w w2 : World} {b lo n : Nat} {l l' : List UInt8} {v v' : Value} (h1 : b < lo) (h2 : lo ≤ w2.heap.size) (h3 : w2.heap[b]? = some (.cells #[.pointer (some ⟨b, 0, none⟩), v] 59 (0, 0))) (h5 : w2.ownsRow lo 5 1 v' n (Lib.byteCells l')) (hn : n = l'.length) :
    IsBU (w2.setCell ⟨b, 1, none⟩ v') b lo l' := by
  subst hn
  refine ⟨h1, by simpa [World.setCell] using h2, v', by simp [World.setCell, Array.getElem?_modify, h3], ?_⟩
  refine h5.kept (row := some b) ⟨rfl, rfl, rfl, by simp [World.setCell], fun k _ hk => Below.heap_setCell _ _ _ _ (fun e => hk (by simp [e]))⟩ (.inr fun e => ?_)
  have := (h5.lt b e).1
  omega
set_option maxRecDepth 100000 in
theorem writeByte32 (b lo : Nat) (l : List UInt8) (c : UInt8) (w : World) (h : IsB w b lo l) (hlen : l.length + 1 ≤ 1048576) :
    Calls Tryz.prog 22 #[.pointer (some ⟨b, 0, none⟩), .int .u8 c.toNat] w fun e w' => e = .returned .nilIface ∧ IsBU w' b lo (l ++ [c]) ∧ But b lo w w' := by
  go_enter Tryz.func22, Tryz.ntmps22
  go_wp2_with fail
  refine (copyCheck53 b lo l w h).mono ?_
  rintro e w1 ⟨rfl, ⟨h1, h2, v, h3, h5⟩, hb1⟩
  have hlt := heap_lt h3
  have c0 : w1.cell? ⟨b, 0, none⟩ = some (.pointer (some ⟨b, 0, none⟩)) := by rw [Lib.cell_of_heap h3]; rfl
  have c1 : w1.cell? ⟨b, 1, none⟩ = some v := by rw [Lib.cell_of_heap h3]; rfl
  go_wp2_with (at_builtin; refine wpList_app rfl _ _ 57 rfl lo 5 1 1 T86 v _ _ rfl (h5.alloc _) w1.heap.size [.int .u8 c.toNat] rfl rfl (Row.new _ _ _ _ rfl) (by intro u hu; simp at hu; subst hu; rfl) hlen (by omega) (by simp; omega) ?_)
  intro v' w2 hown' hgrow
  have hb2 : w2.heap[b]? = some (.cells #[.pointer (some ⟨b, 0, none⟩), v] 59 (0, 0)) := by
    rw [hgrow.block b (by simp; omega) (fun e => by have := (h5.lt b e.symm).1; omega), Lib.alloc_old w1 _ b hlt]
    exact h3
  have d0 : w2.cell? ⟨b, 0, none⟩ = some (.pointer (some ⟨b, 0, none⟩)) := by rw [Lib.cell_of_heap hb2]; rfl
  have d1 : w2.cell? ⟨b, 1, none⟩ = some v := by rw [Lib.cell_of_heap hb2]; rfl
  have f1 : w2.frozen? ⟨b, 1, none⟩ = false := Lib.frozen_of_heap hb2 1
  have hsz := hgrow.size
  obtain ⟨g, cap, rfl⟩ : ∃ g cap, v' = .slice (some ⟨g, 0, none⟩) (l.length + 1) cap := by
    rcases hown'.2 with ⟨_, h0⟩ | ⟨g, cap, cur, hv, _⟩
    · omega
    · exact ⟨g, cap, hv⟩
  go_wp2
  go_ret
  refine ⟨rfl, IsBU.stored (w := w2) (l := l) h1 (by simp at hsz; omega) hb2 (l' := l ++ [c]) (by simpa [Lib.byteCells] using hown') (by simp), ?_⟩
  exact ((hb1.alloc h2 _).grown (h5.alloc _) hgrow (by simp; omega)).setCell _ _
set_option maxRecDepth 100000 in
theorem writeString30 (b lo : Nat) (l s : List UInt8) (w : World) (h : IsB w b lo l) (hlen : l.length + s.length ≤ 1048576) :
    Calls Tryz.prog 20 #[.pointer (some ⟨b, 0, none⟩), .string ⟨s.toArray⟩] w fun e w' => e = .returned (.tuple #[.int .i64 s.length, .nilIface]) ∧ IsBU w' b lo (l ++ s) ∧ But b lo w w' := by
  obtain ⟨ht, ⟨i, z, hi, hz, hsize, hby, hzs⟩, hsz0⟩ := T86
  go_enter Tryz.func20, Tryz.ntmps20
  go_wp2_with fail
  refine (copyCheck53 b lo l w h).mono ?_
  rintro e w1 ⟨rfl, ⟨h1, h2, v, h3, h5⟩, hb1⟩
  have hlt := heap_lt h3
  have c0 : w1.cell? ⟨b, 0, none⟩ = some (.pointer (some ⟨b, 0, none⟩)) := by rw [Lib.cell_of_heap h3]; rfl
  have c1 : w1.cell? ⟨b, 1, none⟩ = some v := by rw [Lib.cell_of_heap h3]; rfl
  have i0 : i.zero = some (.int .u8 0) := by
    have h0 : (Tryz.prog.info? 5).map (·.zero) = some (some (.int .u8 0)) := by kernel_rfl
    rw [hi] at h0
    exact Option.some.inj h0
  go_wp2_with (at_builtin; refine Lib.wpList_append_own_string _ rfl _ _ 57 9 rfl lo 5 i Tryz.underlying57 Tryz.underlying9 hi i0 hsize hby _ _ _ rfl h5 ⟨s.toArray⟩ rfl ?c3 ?c4 ?c5 ?_)
  case c3 => have e : (ByteArray.mk s.toArray).size = s.length := by simp [ByteArray.size]
             unfold maxLen; rw [e]; omega
  case c4 => have e : (ByteArray.mk s.toArray).size = s.length := by simp [ByteArray.size]
             rw [e]; omega
  case c5 => omega
  intro v' w2 hown' hgrow _
  have hb2 : w2.heap[b]? = some (.cells #[.pointer (some ⟨b, 0, none⟩), v] 59 (0, 0)) := by
    rw [hgrow.block b hlt (fun e => by have := (h5.lt b e.symm).1; omega)]
    exact h3
  have d0 : w2.cell? ⟨b, 0, none⟩ = some (.pointer (some ⟨b, 0, none⟩)) := by rw [Lib.cell_of_heap hb2]; rfl
  have d1 : w2.cell? ⟨b, 1, none⟩ = some v := by rw [Lib.cell_of_heap hb2]; rfl
  have f1 : w2.frozen? ⟨b, 1, none⟩ = false := Lib.frozen_of_heap hb2 1
  have hsz := hgrow.size
  obtain ⟨q, n, cap, rfl⟩ : ∃ q n cap, v' = .slice q n cap := by
    rcases hown'.2 with ⟨hv, _⟩ | ⟨g, cap, cur, hv, _⟩
    · exact ⟨_, _, _, hv⟩
    · exact ⟨_, _, _, hv⟩
  go_wp2
  go_ret2
  refine ⟨rfl, IsBU.stored (w := w2) (l := l) h1 (by omega) hb2 (l' := l ++ s) (by simpa [Lib.byteCells, Lib.strCells] using hown') (by simp), ?_⟩
  exact (hb1.grown h5 hgrow h2).setCell _ _
theorem string33 (b lo : Nat) (l : List UInt8) (w : World) (h : IsB w b lo l) :
    Calls Tryz.prog 23 #[.pointer (some ⟨b, 0, none⟩)] w fun e w' => e = .returned (.string ⟨l.toArray⟩) ∧ Below b w w' :=
  (Tryz.Builder_String_any b b l w h.lib (by have := h.1; have := h.2.1; omega)).mono fun e w' h => ⟨h.1, h.2⟩
end Go.Proofs.Seat8
end

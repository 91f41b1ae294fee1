/- A part of the proof. -/
import Derived.Test.YtdimfodgmaelhaaGreatDoorPay
import Derived.Shelf.SlSortCmp.SmallK
import Derived.Shelf.Small.Bits
import Derived.Shelf.Strings.Builder1
import Derived.Shelf.Strings.BuilderF
import Derived.Shelf.Strings.BuilderK
import Derived.Shelf.Strconv.Itoa0
import Derived.Shelf.Strconv.Itoa1
import Derived.Shelf.LaysM
import Derived.Shelf.Strconv.Itoa2
import Derived.Shelf.Strconv.Itoa3
import Derived.Ground.SlsfProg
import Derived.Ground.NamesProg
import Derived.Ground.Names2Prog
import Derived.Test.YtdimfodgmaelhaaGreatDoorProg
set_option linter.all false
section
namespace Go.Proofs.Seat4
open Go.RowKit
def wpDetT (P : Program) (ops : Array Oper) (S : World → Prop) (Q : Exit → Act → World → Prop) : Nat → List Oper → Act → Prop
 | 0, l, a => ∀ w, S w → wpList P ops Q l a w
 | _ + 1, [], a => ∀ w, S w → Q .normal a w
 | m + 1, o :: rest, a => ∃ v, DetOp P ops S o a v ∧ wpDetT P ops S Q m rest (a.put o.dst v)
def reaches (ops : Array Oper) : Nat → Nat → Nat → Bool
 | 0, _, _ => false
 | f + 1, k, j => match ops[k]? with
   | none => false
   | some o => o.after.any fun e => Region.binds .any e && (e.on == j || reaches ops f e.on j)
def tailOk (ops : Array Oper) (m : Nat) : Bool := (List.range ops.size).all fun k => decide (k < m) || (List.range k).all fun j => reaches ops ops.size k j
section
variable {P : Program} {ops : Array Oper} {S : World → Prop} {Q : Exit → Act → World → Prop}
theorem wpDetT_cons {m : Nat} {o : Oper} {rest : List Oper} {a : Act} {v : Value} (h1 : DetOp P ops S o a v) (h2 : wpDetT P ops S Q m rest (a.put o.dst v)) : wpDetT P ops S Q (m + 1) (o :: rest) a := ⟨v, h1, h2⟩
def lst (listed : Array Bool) (j : Nat) : Bool := listed.getD j true
structure Closed (ops : Array Oper) (listed : Array Bool) : Prop where
 size : listed.size = ops.size
 down : ∀ i o, ops[i]? = some o → lst listed i = true → ∀ e ∈ o.after, Region.binds .any e = true → lst listed e.on = true
theorem reaches_listed {listed : Array Bool} (hc : Closed ops listed) : ∀ (f k j : Nat) (o : Oper), ops[k]? = some o → (∀ e ∈ o.after, Region.binds .any e = true → lst listed e.on = true) → reaches ops f k j = true → lst listed j = true
 | 0, _, _, _, _, _, h => by cases h
 | f + 1, k, j, o, hk, hd, h => by
   unfold reaches at h
   rw [hk] at h
   obtain ⟨e, he, hb⟩ := Array.any_eq_true'.1 h
   simp only [Bool.and_eq_true, Bool.or_eq_true, beq_iff_eq] at hb
   have hl := hd e he hb.1
   rcases hb.2 with h1 | h1
   ·rw [← h1]; exact hl
   ·cases hon : ops[e.on]? with
    | none =>
      cases f with
      | zero => cases h1
      | succ f => unfold reaches at h1; rw [hon] at h1; cases h1
    | some o' => exact reaches_listed hc f e.on j o' hon (fun e' he' hb' => hc.down e.on o' hon hl e' he' hb') h1
theorem tail_listed {m : Nat} (ht : tailOk ops m = true) {listed : Array Bool} (hc : Closed ops listed) {k : Nat} {o : Oper} (hk : ops[k]? = some o) (hm : m ≤ k) (hd : ∀ e ∈ o.after, Region.binds .any e = true → lst listed e.on = true) : ∀ j, j < k → lst listed j = true := by
 intro j hj
 have hlt : k < ops.size := (Array.getElem?_eq_some_iff.1 hk).1
 have := List.all_eq_true.1 ht k (List.mem_range.2 hlt)
 rw [show decide (k < m) = false from by simpa using hm, Bool.false_or] at this
 exact reaches_listed hc ops.size k j o hk hd (List.all_eq_true.1 this j (List.mem_range.2 hj))
theorem ready_spec {listed : Array Bool} {i : Nat} (h : i ∈ Region.ready .any ops listed) : ∃ o, ops[i]? = some o ∧ lst listed i = false ∧ ∀ e ∈ o.after, Region.binds .any e = true → lst listed e.on = true ∧ e.on < listed.size := by
 unfold Region.ready at h
 rw [List.mem_filter] at h
 obtain ⟨hir, hc⟩ := h
 have hlt0 : i < ops.size := List.mem_range.1 hir
 have hget : ops[i]? = some ops[i] := Array.getElem?_eq_getElem hlt0
 rw [hget] at hc
 simp only [Bool.and_eq_true, Option.map_some, Option.getD_some] at hc
 refine ⟨_, hget, by simpa [lst] using hc.1, fun e he hb => ?_⟩
 have := Array.all_eq_true'.1 hc.2 e he
 rw [hb] at this
 simp only [Bool.not_true, Bool.false_or] at this
 simp only [lst, Array.getD] at this ⊢
 split at this
 ·rename_i hlt; rw [dif_pos hlt]; exact ⟨this, hlt⟩
 ·cases this
theorem lst_set {listed : Array Bool} {i : Nat} (hi : i < listed.size) (j : Nat) : lst (listed.setIfInBounds i true) j = (lst listed j || j == i) := by
 unfold lst
 by_cases hjl : j < listed.size
 ·by_cases e : j = i
  ·subst e; simp [Array.getD, hjl]
  ·have : ¬ i = j := fun x => e x.symm
   simp [Array.getD, hjl, Array.getElem_setIfInBounds, e, this]
 ·simp [Array.getD, hjl]
theorem Closed.set {listed : Array Bool} (hc : Closed ops listed) {i : Nat} {o : Oper} (hi : ops[i]? = some o) (hd : ∀ e ∈ o.after, Region.binds .any e = true → lst listed e.on = true) : Closed ops (listed.setIfInBounds i true) := by
 have hlt : i < listed.size := by rw [hc.size]; exact (Array.getElem?_eq_some_iff.1 hi).1
 refine ⟨by simpa using hc.size, fun k o' hk hl e he hb => ?_⟩
 rw [lst_set hlt] at hl ⊢
 by_cases e1 : k = i
 ·subst e1
  rw [hi] at hk
  cases hk
  simp [hd e he hb]
 ·have : lst listed k = true := by simpa [e1] using hl
  simp [hc.down k o' hk this e he hb]
theorem tail_any {m : Nat} (ht : tailOk ops m = true) (hearly : detOkT ops m = true) : ∀ (fuel c : Nat) (listed : Array Bool) (a : Act) (w : World), m ≤ c → c ≤ ops.size → ops.size - c ≤ fuel → Closed ops listed → (∀ j, j < ops.size → lst listed j = decide (j < c)) → wpList P ops Q (ops.toList.drop c) a w →
 wpAny P .any ops Q fuel listed a w := by
 have hnone : ∀ (c : Nat) (listed : Array Bool), c = ops.size → (∀ j, j < ops.size → lst listed j = decide (j < c)) → Region.ready .any ops listed = [] := by
  intro c listed hcs hl
  rw [List.eq_nil_iff_forall_not_mem]
  intro i hi
  obtain ⟨o, ho, hn, _⟩ := ready_spec hi
  have hlt := (Array.getElem?_eq_some_iff.1 ho).1
  rw [hl i hlt, hcs] at hn
  simp [hlt] at hn
 intro fuel
 induction fuel with
 | zero =>
   intro c listed a w hmc hcn hf hc hl h
   have hcs : c = ops.size := by omega
   rw [hcs, List.drop_of_length_le (by simp)] at h
   exact ⟨hnone c listed hcs hl, h⟩
 | succ fuel ih =>
   intro c listed a w hmc hcn hf hc hl h
   by_cases hcs : c = ops.size
   ·have hno := hnone c listed hcs hl
    rw [hcs, List.drop_of_length_le (by simp)] at h
    refine ⟨fun _ => h, fun i hi => ?_⟩
    rw [hno] at hi
    cases hi
   ·have hclt : c < ops.size := by omega
    have hget : ops[c]? = some ops[c] := Array.getElem?_eq_getElem hclt
    have hdrop : ops.toList.drop c = ops[c] :: ops.toList.drop (c + 1) := by
     rw [List.drop_eq_getElem_cons (by simpa using hclt)]
     simp
    rw [hdrop] at h
    have hdeps : ∀ e ∈ ops[c].after, Region.binds .any e = true → lst listed e.on = true := fun e he hb => by
     have := (detOk_at hearly hget).early e he hb
     rw [hl e.on (by omega)]
     simpa using this
    refine ⟨fun hr => ?_, fun i hi => ?_⟩
    ·exfalso
     have : c ∈ Region.ready .any ops listed := by
      unfold Region.ready
      rw [List.mem_filter]
      refine ⟨List.mem_range.2 hclt, ?_⟩
      have hn := hl c hclt
      rw [hget]
      simp only [Option.map_some, Option.getD_some, Bool.and_eq_true]
      refine ⟨by unfold lst at hn; rw [hn]; simp, ?_⟩
      rw [Array.all_eq_true']
      intro e he
      cases hb : Region.binds .any e with
      | false => rfl
      | true =>
        have h1 := (detOk_at hearly hget).early e he hb
        have h2 := hdeps e he hb
        simp only [lst, Array.getD] at h2 ⊢
        have h3 : e.on < listed.size := by rw [hc.size]; omega
        rw [dif_pos h3] at h2 ⊢
        simpa using h2
     rw [hr] at this
     cases this
    ·obtain ⟨o, ho, hn, hd⟩ := ready_spec hi
     have hilt := (Array.getElem?_eq_some_iff.1 ho).1
     have hci : c ≤ i := by
      rw [hl i hilt] at hn
      simpa using hn
     have hic : i = c := by
      rcases Nat.lt_or_ge c i with hlt | hge
      ·have := tail_listed ht hc ho (by omega) (fun e he hb => (hd e he hb).1) c hlt
       rw [hl c hclt] at this
       simp at this
      ·omega
     subst hic
     rw [hget] at ho
     cases ho
     unfold wpList at h
     unfold wpOp
     simp only [hget]
     have hnext : ∀ a' w', wpList P ops Q (ops.toList.drop (i + 1)) a' w' → wpAny P .any ops Q fuel (listed.setIfInBounds i true) a' w' := fun a' w' h' => by
      refine ih (i + 1) _ a' w' (by omega) (by omega) (by omega) (hc.set hget hdeps) (fun j hj => ?_) h'
      rw [lst_set (by rw [hc.size]; exact hclt), hl j hj]
      by_cases h1 : j < i
      ·simp [h1, show j < i + 1 from by omega]
      ·by_cases h2 : j = i
       ·simp [h2]
       ·simp [h1, h2, show ¬ j < i + 1 from by omega]
     split
     ·rename_i hw
      rw [if_pos hw] at h
      exact h.imp (Oper.wp_mono hnext) id
     ·rename_i hw
      rw [if_neg hw] at h
      exact hnext _ _ h
theorem detT_canon (a0 : Act) : ∀ (m : Nat) (l : List Oper) (k : Nat) (a : Act) (v : Nat → Value), (∀ j, l[j]? = ops[k + j]?) → m ≤ l.length → canon ops a0 v k = a → wpDetT P ops S Q m l a →
 ∃ v' : Nat → Value, (∀ j, j < k → v' j = v j) ∧ (∀ j o, k ≤ j → j < k + m → ops[j]? = some o → DetOp P ops S o (canon ops a0 v' j) (v' j)) ∧ (∀ w, S w → wpList P ops Q (l.drop m) (canon ops a0 v' (k + m)) w) := by
 intro m
 induction m with
 | zero =>
   intro l k a v hl _ ha h
   exact ⟨v, fun _ _ => rfl, fun j o h1 h2 => by omega, fun w hw => by simpa [ha] using h w hw⟩
 | succ m ih =>
   intro l k a v hl hm ha h
   cases l with
   | nil => simp at hm
   | cons o rest =>
     obtain ⟨u, hu, hrest⟩ := h
     have hk : ops[k]? = some o := by simpa using (hl 0).symm
     have same : ∀ (v1 v2 : Nat → Value) (m : Nat), (∀ j, j < m → v1 j = v2 j) → canon ops a0 v1 m = canon ops a0 v2 m := by
      intro v1 v2 m hm
      induction m with
      | zero => rfl
      | succ m ihm =>
        simp only [canon]
        rw [ihm fun j hj => hm j (by omega)]
        cases ops[m]? with
        | none => rfl
        | some o' => simp only [hm m (by omega)]
     let v2 : Nat → Value := fun j => if j = k then u else v j
     have hv2 : ∀ j, j < k → v2 j = v j := fun j hj => if_neg (by omega)
     have hck : canon ops a0 v2 k = a := (same v2 v k hv2).trans ha
     have hck1 : canon ops a0 v2 (k + 1) = a.put o.dst u := by
      show (match ops[k]? with | some o => (canon ops a0 v2 k).put o.dst (v2 k) | none => canon ops a0 v2 k) = _
      rw [hk, hck]
      simp [v2]
     obtain ⟨v', h1, h2, h3⟩ := ih rest (k + 1) _ v2 (fun j => by have := hl (j + 1); simpa [Nat.add_assoc, Nat.add_comm 1 j] using this) (by simpa using hm) hck1 hrest
     refine ⟨v', fun j hj => (h1 j (by omega)).trans (hv2 j hj), fun j o' hj hj2 ho => ?_, fun w hw => by have := h3 w hw; rwa [show k + 1 + m = k + (m + 1) from by omega] at this⟩
     by_cases e : j = k
     ·subst e
      rw [hk] at ho
      cases ho
      rw [same v' v2 j fun m hm => h1 m (by omega), hck, h1 j (by omega)]
      simp only [v2, if_true]
      exact hu
     ·exact h2 j o' (by omega) (by omega) ho
theorem detT_any {m : Nat} (hok : detOkT ops m = true) (ht : tailOk ops m = true) (hm : m ≤ ops.size) (a0 : Act) (v : Nat → Value) (hop : ∀ j o, j < m → ops[j]? = some o → DetOp P ops S o (canon ops a0 v j) (v j)) (hend : ∀ w, S w → wpList P ops Q (ops.toList.drop m) (canon ops a0 v m) w) :
 ∀ (fuel : Nat) (listed : Array Bool) (a : Act) (w : World), Closed ops listed → (∀ k, m ≤ k → k < ops.size → lst listed k = false) → ((List.range m).filter fun i => !lst listed i).length + (ops.size - m) ≤ fuel → DetInv ops a0 v (fun j => lst listed j) a → S w →
  wpAny P .any ops Q fuel listed a w := by
 have hdone : ∀ (fuel : Nat) (listed : Array Bool) (a : Act) (w : World), Closed ops listed → (∀ k, m ≤ k → k < ops.size → lst listed k = false) → (ops.size - m) ≤ fuel → DetInv ops a0 v (fun j => lst listed j) a → S w → (∀ j, j < m → lst listed j = true) → wpAny P .any ops Q fuel listed a w := by
  intro fuel listed a w hc hlate hf hinv hS hall
  have hcn := canon_inv hok a0 v m hm
  have hlst : ∀ j, j < ops.size → lst listed j = decide (j < m) := by
   intro j hj
   by_cases h : j < m
   ·simp [h, hall j h]
   ·simp [h, hlate j (by omega) hj]
  have heq : a = canon ops a0 v m := by
   have htm : a.tmps = (canon ops a0 v m).tmps := by
    apply Array.ext_getElem?
    intro t
    by_cases hex : ∃ j, j < ops.size ∧ writesTo ops j t = true ∧ j < m
    ·obtain ⟨j, hj, hw, hjm⟩ := hex
     by_cases htl : t < a0.tmps.size
     ·rw [hinv.done t htl j hj hw (hall j hjm), hcn.done t htl j hj hw (by simpa using hjm)]
     ·rw [Array.getElem?_eq_none (by rw [hinv.size]; exact Nat.le_of_not_lt htl), Array.getElem?_eq_none (by rw [hcn.size]; exact Nat.le_of_not_lt htl)]
    ·have hno : ∀ j, j < ops.size → writesTo ops j t = true → ¬ j < m := fun j hj hw hjm => hex ⟨j, hj, hw, hjm⟩
     rw [hinv.rest t fun j hj hw => by rw [hlst j hj]; simpa using hno j hj hw, hcn.rest t fun j hj hw => by simpa using hno j hj hw]
   have hd : a.defers = (canon ops a0 v m).defers := hinv.defers.trans hcn.defers.symm
   cases a
   cases hc2 : canon ops a0 v m
   rw [hc2] at htm hd
   simp only at htm hd
   rw [htm, hd]
  rw [heq]
  exact tail_any ht hok fuel m listed _ w (Nat.le_refl _) hm hf hc hlst (hend w hS)
 intro fuel
 induction fuel with
 | zero =>
   intro listed a w hc hlate hcount hinv hS
   refine hdone 0 listed a w hc hlate (by omega) hinv hS fun j hj => ?_
   have h0 : ((List.range m).filter fun i => !lst listed i) = [] := List.eq_nil_of_length_eq_zero (by omega)
   have hmem : j ∉ (List.range m).filter fun i => !lst listed i := by rw [h0]; simp
   rw [List.mem_filter] at hmem
   simp only [List.mem_range, hj, true_and] at hmem
   simpa using hmem
 | succ fuel ih =>
   intro listed a w hc hlate hcount hinv hS
   by_cases hall : ∀ j, j < m → lst listed j = true
   ·have : ((List.range m).filter fun i => !lst listed i) = [] := by
     rw [List.filter_eq_nil_iff]
     intro i hi
     rw [hall i (List.mem_range.1 hi)]
     simp
    rw [this] at hcount
    exact hdone (fuel + 1) listed a w hc hlate (by simpa using hcount) hinv hS hall
   ·obtain ⟨j0, hj0⟩ : ∃ j, j < m ∧ lst listed j = false := by
     apply Classical.byContradiction
     intro hno
     refine hall fun j hj => ?_
     apply Classical.byContradiction
     intro hne
     exact hno ⟨j, hj, by simpa using hne⟩
    refine ⟨fun hr => ?_, fun i hi => ?_⟩
    ·exfalso
     have hmin : ∀ i, i < ops.size → lst listed i = true := by
      intro i
      induction i using Nat.strongRecOn with
      | ind i ihi =>
        intro hilt
        apply Classical.byContradiction
        intro hn
        have hn' : lst listed i = false := by simpa using hn
        have hget : ops[i]? = some ops[i] := Array.getElem?_eq_getElem hilt
        have : i ∈ Region.ready .any ops listed := by
         unfold Region.ready
         rw [List.mem_filter]
         refine ⟨List.mem_range.2 hilt, ?_⟩
         rw [hget]
         simp only [Option.map_some, Option.getD_some, Bool.and_eq_true]
         refine ⟨by unfold lst at hn'; rw [hn']; simp, ?_⟩
         rw [Array.all_eq_true']
         intro e he
         cases hb : Region.binds .any e with
         | false => rfl
         | true =>
           have h1 := (detOk_at hok hget).early e he hb
           have h2 := ihi e.on h1 (by omega)
           have h3 : e.on < listed.size := by rw [hc.size]; omega
           simp only [lst, Array.getD] at h2 ⊢
           rw [dif_pos h3] at h2 ⊢
           simpa using h2
        rw [hr] at this
        cases this
     have := hmin j0 (by omega)
     rw [hj0.2] at this
     cases this
    ·obtain ⟨o, ho, hn, hd⟩ := ready_spec hi
     have hilt := (Array.getElem?_eq_some_iff.1 ho).1
     have him : i < m := by
      rcases Nat.lt_or_ge i m with h | h
      ·exact h
      ·have := tail_listed ht hc ho h (fun e he hb => (hd e he hb).1) j0 (by omega)
       rw [hj0.2] at this
       cases this
     have A := detOk_at hok ho
     have hcan := canon_inv hok a0 v i (by omega)
     have hagree : ∀ t ∈ o.looksAt ops, a.tmps[t]? = (canon ops a0 v i).tmps[t]? := by
      intro t htl
      by_cases hex : ∃ j, j < m ∧ writesTo ops j t = true
      ·obtain ⟨j, hj, hw⟩ := hex
       obtain ⟨e, he, hb, hon⟩ := A.deps him t htl j hj hw
       have hlt := A.early e he hb
       have hDj : lst listed j = true := by rw [← hon]; exact (hd e he hb).1
       by_cases hsz : t < a0.tmps.size
       ·rw [hinv.done t hsz j (by omega) hw hDj, hcan.done t hsz j (by omega) hw (by simp; omega)]
       ·rw [Array.getElem?_eq_none (by rw [hinv.size]; exact Nat.le_of_not_lt hsz), Array.getElem?_eq_none (by rw [hcan.size]; exact Nat.le_of_not_lt hsz)]
      ·rw [hinv.rest t fun j hj hw => hlate j (Nat.le_of_not_lt fun hjm => hex ⟨j, hjm, hw⟩) hj, hcan.rest t fun j hj hw => by have : ¬ j < m := fun hjm => hex ⟨j, hjm, hw⟩; simp; omega]
     refine wpOp_mono ?_ (det_transfer (Q := Q) (v := v i) ho A.sel (hinv.size.trans hcan.size.symm) hagree (hop i o him ho w hS))
     rintro a' w' ⟨rfl, hS'⟩
     have hil : i < listed.size := by rw [hc.size]; exact hilt
     refine ih _ _ _ (hc.set ho fun e he hb => (hd e he hb).1) (fun k hk hk2 => ?_) ?_ ?_ hS'
     ·rw [lst_set hil, hlate k hk hk2]
      simp
      omega
     ·have hsub : ((List.range m).filter fun k => !lst (listed.setIfInBounds i true) k) = ((List.range m).filter fun k => !lst listed k).filter (fun k => k != i) := by
       rw [List.filter_filter]
       apply List.filter_congr
       intro k _
       rw [lst_set hil]
       by_cases e : k = i
       ·subst e; simp
       ·have e1 : (k == i) = false := by simpa using e
        have e2 : (k != i) = true := by simpa using e
        rw [e1, e2]
        simp
      rw [hsub]
      have hmem : i ∈ (List.range m).filter fun k => !lst listed k := List.mem_filter.2 ⟨List.mem_range.2 him, by simp [hn]⟩
      have : (((List.range m).filter fun k => !lst listed k).filter (fun k => k != i)).length < ((List.range m).filter fun k => !lst listed k).length :=
       List.length_filter_lt_length_iff_exists.2 ⟨i, hmem, by simp⟩
      omega
     ·have := hinv.put hok ho hn
      have hf : (fun j => lst listed j || j == i) = fun j => lst (listed.setIfInBounds i true) j := by
       funext j
       rw [lst_set hil]
      rwa [hf] at this
theorem wp_region_tail {id : Nat} {a : Act} {w : World} (m : Nat) (hm : P.follows .mixedOrders = true) (hok : (detOkT ops m && tailOk ops m && decide (m ≤ ops.size)) = true) (S : World → Prop) (hS : S w.drew) (h : wpDetT P ops S Q m ops.toList a) : (Code.region id ops true).wp P Q a w := by
 simp only [Bool.and_eq_true, decide_eq_true_eq] at hok
 obtain ⟨⟨h1, h2⟩, h3⟩ := hok
 obtain ⟨v, _, hv, hend⟩ := detT_canon (P := P) (S := S) (Q := Q) a m ops.toList 0 a (fun _ => undef) (fun j => by simp) (by simpa using h3) rfl h
 have hfalse : ∀ j, lst (Array.replicate ops.size false) j = !decide (j < ops.size) := by
  intro j
  unfold lst
  by_cases h : j < ops.size <;> simp [Array.getD, h]
 refine wp_region_any hm (detT_any (S := S) h1 h2 h3 a v (fun j o hj ho => hv j o (Nat.zero_le _) (by omega) ho) (by simpa using hend) ops.size _ a _ ⟨by simp, fun i o hi hl => ?_⟩ (fun k _ hk => by rw [hfalse]; simp [hk]) ?_ ?_ hS)
 ·rw [hfalse] at hl
  have := (Array.getElem?_eq_some_iff.1 hi).1
  simp [this] at hl
 ·have := List.length_filter_le (fun i => !lst (Array.replicate ops.size false) i) (List.range m)
  simp only [List.length_range] at this
  omega
 ·exact ⟨rfl, rfl, fun t _ j hj _ hD => by rw [hfalse] at hD; simp [hj] at hD, fun t _ => rfl⟩
end
end Go.Proofs.Seat4
end
section
namespace Go.Proofs.Seat9
open Go.RowKit Go.Proofs.Seat4
theorem overS_split (a b : Sp) : (((b.to_ == -1) = true ∨ ((b.to_ == -1) = false ∧ a.from_ < b.to_)) ∧ (((a.to_ == -1) = true ∧ overS a b = true) ∨ ((a.to_ == -1) = false ∧ b.from_ < a.to_ ∧ overS a b = true) ∨ ((a.to_ == -1) = false ∧ ¬ b.from_ < a.to_ ∧ overS a b = false))) ∨ ((b.to_ == -1) = false ∧ ¬ a.from_ < b.to_ ∧ overS a b = false) := by
 unfold overS
 by_cases h1 : b.to_ = -1 <;> by_cases h2 : a.from_ < b.to_ <;> by_cases h3 : a.to_ = -1 <;> by_cases h4 : b.from_ < a.to_ <;> simp_all
set_option maxRecDepth 100000 in
set_option maxHeartbeats 1000000 in
theorem overlap31 (x y : Sp) (W : World) : Calls Tryz.prog 31 #[.agg #[.int .i64 x.kind, .int .i64 x.task, .int .i64 x.index, .int .i64 x.from_, .int .i64 x.to_, .int .i64 x.start, .int .i64 x.end_], .agg #[.int .i64 y.kind, .int .i64 y.task, .int .i64 y.index, .int .i64 y.from_, .int .i64 y.to_, .int .i64 y.start, .int .i64 y.end_]] W fun e w' => e = .returned (.bool (overS x y)) ∧ Below W.heap.size W w' := by
 rcases overS_split x y with ⟨h1 | ⟨h1, h2⟩, ⟨h3, hc⟩ | ⟨h3, h4, hc⟩ | ⟨h3, h4, hc⟩⟩ | ⟨h1, h2, hc⟩
 all_goals
  rw [hc]
  clear hc
  go_enter Tryz.func31, Tryz.ntmps31
  go_wp2
  go_ret
  exact ⟨rfl, ((Below.refl _ _).alloc (Nat.le_refl _) _).alloc (by simp) _⟩
theorem cf0 (x y : Int) : (cfI x y = -1 ∧ x < y) ∨ (cfI x y = 0 ∧ x = y) ∨ (cfI x y = 1 ∧ y < x) := by
 unfold cfI
 by_cases h1 : x < y
 ·exact .inl ⟨if_pos h1, h1⟩
 ·by_cases h2 : y < x
  ·exact .inr (.inr ⟨by rw [if_neg h1, if_pos h2], h2⟩)
  ·exact .inr (.inl ⟨by rw [if_neg h1, if_neg h2], by omega⟩)
def or4 (a b c d : Int) : Int := if a ≠ 0 then a else if b ≠ 0 then b else if c ≠ 0 then c else d
def cfS (x y : Sp) : Int := or4 (cfI x.kind y.kind) (cfI x.from_ y.from_) (cfI x.task y.task) (cfI x.index y.index)
theorem cfS_less (x y : Sp) : (0 ≤ cfS x y ↔ lessS x y = false) := by
 unfold cfS or4 lessS
 have h1 := cf0 x.kind y.kind
 have h2 := cf0 x.from_ y.from_
 have h3 := cf0 x.task y.task
 have h4 := cf0 x.index y.index
 simp only [decide_eq_false_iff_not]
 generalize cfI x.kind y.kind = a at *
 generalize cfI x.from_ y.from_ = b at *
 generalize cfI x.task y.task = c at *
 generalize cfI x.index y.index = d at *
 split
 ·omega
 ·split
  ·omega
  ·split <;> omega
set_option maxRecDepth 100000 in
set_option maxHeartbeats 1000000 in
theorem or42 (a b c d : Int) (B : Nat) (w : World) (h : Row w B 0 [.int .i64 a, .int .i64 b, .int .i64 c, .int .i64 d]) : Calls Tryz.prog 42 #[.slice (some ⟨B, 0, none⟩) 4 4] w fun e w' => e = .returned (.int .i64 (or4 a b c d)) ∧ w = w' := by
 have c0 : w.cell? ⟨B, 0, none⟩ = some (.int .i64 a) := by simpa using h 0 _ rfl
 have c1 : w.cell? ⟨B, 1, none⟩ = some (.int .i64 b) := by simpa using h 1 _ rfl
 have c2 : w.cell? ⟨B, 2, none⟩ = some (.int .i64 c) := by simpa using h 2 _ rfl
 have c3 : w.cell? ⟨B, 3, none⟩ = some (.int .i64 d) := by simpa using h 3 _ rfl
 clear h
 by_cases h1 : a = 0
 ·by_cases h2 : b = 0
  ·by_cases h3 : c = 0
   ·by_cases h4 : d = 0
    ·have hc : or4 a b c d = 0 := by unfold or4; rw [if_neg (by simpa using h1), if_neg (by simpa using h2), if_neg (by simpa using h3)]; exact h4
     rw [hc]
     subst h1 h2 h3 h4
     clear hc
     go_enter Tryz.func42, Tryz.ntmps42
     go_wp2
     refine wp_loop_rounds 5 ?_
     iterate 5
      rw [rounds_succ]
      go_wp2_with fail
     go_ret
     exact ⟨rfl, rfl⟩
    ·have hc : or4 a b c d = d := by unfold or4; rw [if_neg (by simpa using h1), if_neg (by simpa using h2), if_neg (by simpa using h3)]
     rw [hc]
     subst h1 h2 h3
     clear hc
     have h4b : (d == 0) = false := by simpa using h4
     go_enter Tryz.func42, Tryz.ntmps42
     go_wp2
     refine wp_loop_rounds 4 ?_
     iterate 4
      rw [rounds_succ]
      go_wp2_with fail
     go_ret
     exact ⟨rfl, rfl⟩
   ·have hc : or4 a b c d = c := by unfold or4; rw [if_neg (by simpa using h1), if_neg (by simpa using h2), if_pos h3]
    rw [hc]
    subst h1 h2
    clear hc
    have h4b : (c == 0) = false := by simpa using h3
    go_enter Tryz.func42, Tryz.ntmps42
    go_wp2
    refine wp_loop_rounds 3 ?_
    iterate 3
     rw [rounds_succ]
     go_wp2_with fail
    go_ret
    exact ⟨rfl, rfl⟩
  ·have hc : or4 a b c d = b := by unfold or4; rw [if_neg (by simpa using h1), if_pos h2]
   rw [hc]
   subst h1
   clear hc
   have h4b : (b == 0) = false := by simpa using h2
   go_enter Tryz.func42, Tryz.ntmps42
   go_wp2
   refine wp_loop_rounds 2 ?_
   iterate 2
    rw [rounds_succ]
    go_wp2_with fail
   go_ret
   exact ⟨rfl, rfl⟩
 ·have hc : or4 a b c d = a := by unfold or4; rw [if_pos h1]
  rw [hc]
  clear hc
  have h4b : (a == 0) = false := by simpa using h1
  go_enter Tryz.func42, Tryz.ntmps42
  go_wp2
  refine wp_loop_rounds 1 ?_
  iterate 1
   rw [rounds_succ]
   go_wp2_with fail
  go_ret
  exact ⟨rfl, rfl⟩
end Go.Proofs.Seat9
end
section
namespace Go.Proofs.Seat4
open Go.RowKit
def DetOpD (P : Program) (ops : Array Oper) (S : Bool → World → Prop) (K i : Nat) (o : Oper) (a : Act) (v : Value) : Prop := ∀ b w, (i = K → b = false) → ((o.after.any fun e => Region.binds .any e && e.on == K) = true → b = true) → S b w → wpList P ops (DetPost (S (b || K == i)) o a v) [o] a w
def wpDetD (P : Program) (ops : Array Oper) (S : Bool → World → Prop) (K : Nat) (Q : Exit → Act → World → Prop) : Nat → List Oper → Act → Prop
 | _, [], a => ∀ w, S true w → Q .normal a w
 | i, o :: rest, a => ∃ v, DetOpD P ops S K i o a v ∧ wpDetD P ops S K Q (i + 1) rest (a.put o.dst v)
section
variable {P : Program} {ops : Array Oper} {S : Bool → World → Prop} {K : Nat} {Q : Exit → Act → World → Prop}
theorem wpDetD_cons {i : Nat} {o : Oper} {rest : List Oper} {a : Act} {v : Value} (hne : (K == i) = false) (h1 : ∀ b, DetOp P ops (S b) o a v) (h2 : wpDetD P ops S K Q (i + 1) rest (a.put o.dst v)) : wpDetD P ops S K Q i (o :: rest) a :=
 ⟨v, fun b w _ _ hS => by rw [hne, Bool.or_false]; exact h1 b w hS, h2⟩
theorem wpDetD_at {i : Nat} {o : Oper} {rest : List Oper} {a : Act} {v : Value} (he : (K == i) = true) (h1 : ∀ w, S false w → wpList P ops (DetPost (S true) o a v) [o] a w) (h2 : wpDetD P ops S K Q (i + 1) rest (a.put o.dst v)) : wpDetD P ops S K Q i (o :: rest) a :=
 ⟨v, fun b w hb _ hS => by
   have e : i = K := (beq_iff_eq.1 he).symm
   obtain rfl := hb e
   rw [he]
   exact h1 w hS, h2⟩
theorem wpDetD_behind {i : Nat} {o : Oper} {rest : List Oper} {a : Act} {v : Value} (hne : (K == i) = false) (hd : (o.after.any fun e => Region.binds .any e && e.on == K) = true) (h1 : DetOp P ops (S true) o a v) (h2 : wpDetD P ops S K Q (i + 1) rest (a.put o.dst v)) : wpDetD P ops S K Q i (o :: rest) a :=
 ⟨v, fun b w _ hb hS => by
   obtain rfl := hb hd
   rw [hne, Bool.or_false]
   exact h1 w hS, h2⟩
theorem det_canonD (a0 : Act) : ∀ (l : List Oper) (k : Nat) (a : Act) (v : Nat → Value), (∀ j, l[j]? = ops[k + j]?) → canon ops a0 v k = a → wpDetD P ops S K Q k l a →
 ∃ v' : Nat → Value, (∀ j, j < k → v' j = v j) ∧ (∀ j o, k ≤ j → ops[j]? = some o → DetOpD P ops S K j o (canon ops a0 v' j) (v' j)) ∧ (∀ w, S true w → Q .normal (canon ops a0 v' (k + l.length)) w) := by
 intro l
 induction l with
 | nil =>
   intro k a v hl ha h
   refine ⟨v, fun _ _ => rfl, fun j o hj ho => ?_, fun w hw => by simpa [ha] using h w hw⟩
   have hnone : ops[j]? = none := by
    have := hl (j - k)
    rw [show k + (j - k) = j from by omega] at this
    simpa using this.symm
   rw [hnone] at ho
   cases ho
 | cons o rest ih =>
   intro k a v hl ha h
   obtain ⟨u, hu, hrest⟩ := h
   have hk : ops[k]? = some o := by simpa using (hl 0).symm
   have same : ∀ (v1 v2 : Nat → Value) (m : Nat), (∀ j, j < m → v1 j = v2 j) → canon ops a0 v1 m = canon ops a0 v2 m := by
    intro v1 v2 m hm
    induction m with
    | zero => rfl
    | succ m ihm =>
      simp only [canon]
      rw [ihm fun j hj => hm j (by omega)]
      cases ops[m]? with
      | none => rfl
      | some o' => simp only [hm m (by omega)]
   let v2 : Nat → Value := fun j => if j = k then u else v j
   have hv2 : ∀ j, j < k → v2 j = v j := fun j hj => if_neg (by omega)
   have hck : canon ops a0 v2 k = a := (same v2 v k hv2).trans ha
   have hck1 : canon ops a0 v2 (k + 1) = a.put o.dst u := by
    show (match ops[k]? with | some o => (canon ops a0 v2 k).put o.dst (v2 k) | none => canon ops a0 v2 k) = _
    rw [hk, hck]
    simp [v2]
   obtain ⟨v', h1, h2, h3⟩ := ih (k + 1) _ v2 (fun j => by have := hl (j + 1); simpa [Nat.add_assoc, Nat.add_comm 1 j] using this) hck1 hrest
   refine ⟨v', fun j hj => (h1 j (by omega)).trans (hv2 j hj), fun j o' hj ho => ?_, fun w hw => by have := h3 w hw; rwa [show k + 1 + rest.length = k + (o :: rest).length from by simp; omega] at this⟩
   by_cases e : j = k
   ·subst e
    rw [hk] at ho
    cases ho
    rw [same v' v2 j fun m hm => h1 m (by omega), hck, h1 j (by omega)]
    simp only [v2, if_true]
    exact hu
   ·exact h2 j o' (by omega) ho
theorem det_anyD (hok : detOk ops = true) (a0 : Act) (v : Nat → Value) (hop : ∀ j o, ops[j]? = some o → DetOpD P ops S K j o (canon ops a0 v j) (v j)) (hend : ∀ w, S true w → Q .normal (canon ops a0 v ops.size) w) :
 ∀ (fuel : Nat) (listed : Array Bool) (a : Act) (w : World), listed.size = ops.size → ((List.range ops.size).filter fun i => !listed.getD i true).length ≤ fuel → DetInv ops a0 v (fun j => listed.getD j true) a → S (listed.getD K true) w →
  wpAny P .any ops Q fuel listed a w := by
 have hall : ∀ (listed : Array Bool) (a : Act) (w : World), listed.size = ops.size → DetInv ops a0 v (fun j => listed.getD j true) a → S (listed.getD K true) w → (∀ i, i < ops.size → listed.getD i true = true) → Q .normal a w := by
  intro listed a w hsz hinv hS hl
  have hc := canon_inv hok a0 v ops.size (Nat.le_refl _)
  have : a = canon ops a0 v ops.size := by
   have ht : a.tmps = (canon ops a0 v ops.size).tmps := by
    apply Array.ext_getElem?
    intro t
    by_cases hex : ∃ j, j < ops.size ∧ writesTo ops j t = true
    ·obtain ⟨j, hj, hw⟩ := hex
     by_cases htl : t < a0.tmps.size
     ·rw [hinv.done t htl j hj hw (hl j hj), hc.done t htl j hj hw (by simpa using hj)]
     ·rw [Array.getElem?_eq_none (by rw [hinv.size]; omega), Array.getElem?_eq_none (by rw [hc.size]; omega)]
    ·rw [hinv.rest t fun j hj hw => absurd ⟨j, hj, hw⟩ hex, hc.rest t fun j hj hw => absurd ⟨j, hj, hw⟩ hex]
   have hd : a.defers = (canon ops a0 v ops.size).defers := hinv.defers.trans hc.defers.symm
   cases a
   cases hcn : canon ops a0 v ops.size
   rw [hcn] at ht hd
   simp only at ht hd
   rw [ht, hd]
  rw [this]
  refine hend w ?_
  have hK : listed.getD K true = true := by
   by_cases h : K < ops.size
   ·exact hl K h
   ·simp [Array.getD, show ¬ K < listed.size by omega]
  rwa [hK] at hS
 have hready : ∀ (listed : Array Bool), Region.ready .any ops listed = [] → ∀ i, i < ops.size → listed.getD i true = true := by
  intro listed hr i
  induction i using Nat.strongRecOn with
  | ind i ih =>
    intro hi
    apply Classical.byContradiction
    intro hn
    have hn' : listed.getD i true = false := by simpa using hn
    have : i ∈ Region.ready .any ops listed := by
     unfold Region.ready
     rw [List.mem_filter]
     refine ⟨List.mem_range.2 hi, ?_⟩
     have hget : ops[i]? = some ops[i] := Array.getElem?_eq_getElem hi
     rw [hn', hget]
     simp only [Bool.not_false, Bool.true_and, Option.map_some, Option.getD_some]
     rw [Array.all_eq_true']
     intro e he
     cases hb : Region.binds .any e with
     | false => rfl
     | true =>
       have hlt := (detOk_at hok hget).early e he hb
       have := ih e.on hlt (by omega)
       have hlt' : e.on < listed.size ∨ ¬ e.on < listed.size := by omega
       rcases hlt' with h | h
       ·simp only [Array.getD, h, dif_pos] at this ⊢
        exact this
       ·exfalso
        have h1 : i < listed.size ∨ ¬ i < listed.size := by omega
        rcases h1 with h1 | h1
        ·omega
        ·simp [Array.getD, h1] at hn'
    rw [hr] at this
    cases this
 intro fuel
 induction fuel with
 | zero =>
   intro listed a w hsz hcount hinv hS
   have hl : ∀ i, i < ops.size → listed.getD i true = true := by
    intro i hi
    have := List.eq_nil_of_length_eq_zero (Nat.le_zero.1 hcount)
    have hmem : i ∉ (List.range ops.size).filter fun i => !listed.getD i true := by rw [this]; simp
    rw [List.mem_filter] at hmem
    simp only [List.mem_range, hi, true_and] at hmem
    simpa using hmem
   refine ⟨?_, hall listed a w hsz hinv hS hl⟩
   unfold Region.ready
   rw [List.filter_eq_nil_iff]
   intro i hi
   rw [hl i (List.mem_range.1 hi)]
   simp
 | succ fuel ih =>
   intro listed a w hsz hcount hinv hS
   refine ⟨fun hr => hall listed a w hsz hinv hS (hready listed hr), fun i hi => ?_⟩
   unfold Region.ready at hi
   rw [List.mem_filter] at hi
   obtain ⟨hir, hc⟩ := hi
   have hil : i < ops.size := List.mem_range.1 hir
   have hget : ops[i]? = some ops[i] := Array.getElem?_eq_getElem hil
   rw [hget] at hc
   simp only [Bool.and_eq_true, Option.map_some, Option.getD_some] at hc
   obtain ⟨hn, hafter⟩ := hc
   have hn' : listed.getD i true = false := by simpa using hn
   have A := detOk_at hok hget
   have hcan := canon_inv hok a0 v i (by omega)
   have hagree : ∀ t ∈ ops[i].looksAt ops, a.tmps[t]? = (canon ops a0 v i).tmps[t]? := by
    intro t ht
    by_cases hex : ∃ j, j < ops.size ∧ writesTo ops j t = true
    ·obtain ⟨j, hj, hw⟩ := hex
     obtain ⟨e, he, hb, hon⟩ := A.deps hil t ht j hj hw
     have hlt := A.early e he hb
     have hlist := Array.all_eq_true'.1 hafter e he
     rw [hb] at hlist
     simp only [Bool.not_true, Bool.false_or] at hlist
     have hDj : listed.getD j true = true := by
      rw [hon] at hlist
      simp only [Array.getD] at hlist ⊢
      split at hlist
      ·rename_i h; rw [dif_pos h]; exact hlist
      ·cases hlist
     by_cases htl : t < a0.tmps.size
     ·rw [hinv.done t htl j hj hw hDj, hcan.done t htl j hj hw (by simp; omega)]
     ·rw [Array.getElem?_eq_none (by rw [hinv.size]; exact Nat.le_of_not_lt htl), Array.getElem?_eq_none (by rw [hcan.size]; exact Nat.le_of_not_lt htl)]
    ·rw [hinv.rest t fun j hj hw => absurd ⟨j, hj, hw⟩ hex, hcan.rest t fun j hj hw => absurd ⟨j, hj, hw⟩ hex]
   have hdep : (ops[i].after.any fun e => Region.binds .any e && e.on == K) = true → listed.getD K true = true := by
    intro h
    obtain ⟨e, he, h2⟩ := Array.any_eq_true'.1 h
    simp only [Bool.and_eq_true, beq_iff_eq] at h2
    have hlist := Array.all_eq_true'.1 hafter e he
    rw [h2.1, h2.2] at hlist
    simp only [Bool.not_true, Bool.false_or] at hlist
    simp only [Array.getD] at hlist ⊢
    split at hlist
    ·rename_i h; rw [dif_pos h]; exact hlist
    ·cases hlist
   refine wpOp_mono ?_ (det_transfer (Q := Q) (v := v i) hget A.sel (hinv.size.trans hcan.size.symm) hagree (hop i ops[i] hget (listed.getD K true) w (fun e => e ▸ hn') (fun h => hdep h) hS))
   rintro a' w' ⟨rfl, hS'⟩
   have hsz' : (listed.setIfInBounds i true).size = ops.size := by simpa using hsz
   have hKn : (listed.getD K true || K == i) = (listed.setIfInBounds i true).getD K true := by
    by_cases hjl : K < listed.size
    ·by_cases e : K = i
     ·rw [e] at hjl ⊢; simp [Array.getD, hjl]
     ·have : ¬ i = K := fun x => e x.symm
      simp [Array.getD, hjl, Array.getElem_setIfInBounds, e, this]
    ·simp [Array.getD, hjl]
   rw [hKn] at hS'
   refine ih _ _ _ hsz' ?_ ?_ hS'
   ·have hlt : ((List.range ops.size).filter fun k => !(listed.setIfInBounds i true).getD k true).length < ((List.range ops.size).filter fun k => !listed.getD k true).length := by
     have hsub : ((List.range ops.size).filter fun k => !(listed.setIfInBounds i true).getD k true) = ((List.range ops.size).filter fun k => !listed.getD k true).filter (fun k => k != i) := by
      rw [List.filter_filter]
      apply List.filter_congr
      intro k hk
      have hkl : k < listed.size := by rw [hsz]; exact List.mem_range.1 hk
      by_cases e : k = i
      ·subst e; simp [Array.getD, hkl]
      ·have : ¬ i = k := fun x => e x.symm
       simp [Array.getD, hkl, Array.getElem_setIfInBounds, e, this]
     rw [hsub]
     have hmem : i ∈ (List.range ops.size).filter fun k => !listed.getD k true := List.mem_filter.2 ⟨hir, hn⟩
     exact List.length_filter_lt_length_iff_exists.2 ⟨i, hmem, by simp⟩
    omega
   ·have := hinv.put hok hget hn'
    have hf : (fun j => listed.getD j true || j == i) = fun j => (listed.setIfInBounds i true).getD j true := by
     funext j
     by_cases hjl : j < listed.size
     ·by_cases e : j = i
      ·subst e; simp [Array.getD, hjl]
      ·have : ¬ i = j := fun x => e x.symm
       simp [Array.getD, hjl, Array.getElem_setIfInBounds, e, this]
     ·simp [Array.getD, hjl]
    rwa [hf] at this
theorem wp_region_detD {id : Nat} {a : Act} {w : World} (hm : P.follows .mixedOrders = true) (K : Nat) (hok : (detOk ops && decide (K < ops.size)) = true) (S : Bool → World → Prop) (hS : S false w.drew) (h : wpDetD P ops S K Q 0 ops.toList a) : (Code.region id ops true).wp P Q a w := by
 simp only [Bool.and_eq_true, decide_eq_true_eq] at hok
 obtain ⟨hok, hK⟩ := hok
 have hS2 : ∀ W, S false W → S ((Array.replicate ops.size false).getD K true) W := fun W h => by rw [show (Array.replicate ops.size false).getD K true = false from by simp [Array.getD, hK]]; exact h
 obtain ⟨v, _, h2, h3⟩ := det_canonD (P := P) (S := S) (K := K) (Q := Q) a ops.toList 0 a (fun _ => undef) (fun j => by simp) rfl h
 refine wp_region_any hm (det_anyD (S := S) (K := K) hok a v (fun j o ho => h2 j o (Nat.zero_le _) ho) (by simpa using h3) ops.size _ a _ (by simp) ?_ ?_ (hS2 _ hS))
 ·exact Nat.le_trans (List.length_filter_le _ _) (by simp)
 ·have hf : (fun j => (Array.replicate ops.size false).getD j true) = fun j => !decide (j < ops.size) := by
   funext j
   by_cases h : j < ops.size <;> simp [Array.getD, h]
  rw [hf]
  exact ⟨rfl, rfl, fun t _ j hj _ hD => by simp [hj] at hD, fun t _ => rfl⟩
end
end Go.Proofs.Seat4
end
section
namespace Go.Proofs.Seat9
open Go.RowKit Go.Proofs.Seat4
abbrev spA (x : Sp) : Value := .agg #[.int .i64 x.kind, .int .i64 x.task, .int .i64 x.index, .int .i64 x.from_, .int .i64 x.to_, .int .i64 x.start, .int .i64 x.end_]
set_option maxRecDepth 100000 in
set_option maxHeartbeats 4000000 in
theorem compare28 (x y : Sp) (c : Int) (hc : cfS x y = c) (W : World) : Calls Tryz.prog 28 #[spA x, spA y] W fun e w' => e = .returned (.int .i64 c) ∧ Below W.heap.size W w' := by
 have Hc := Lib.hid hc
 clear hc
 go_enter Tryz.func28, Tryz.ntmps28
 go_wp2_with fail
 obtain ⟨W1, hW1⟩ : ∃ W1, W1 = (W.alloc (.cells #[.int .i64 x.kind, .int .i64 x.task, .int .i64 x.index, .int .i64 x.from_, .int .i64 x.to_, .int .i64 x.start, .int .i64 x.end_] 46)).alloc (.cells #[.int .i64 y.kind, .int .i64 y.task, .int .i64 y.index, .int .i64 y.from_, .int .i64 y.to_, .int .i64 y.start, .int .i64 y.end_] 46) := ⟨_, rfl⟩
 rw [← hW1]
 have rx : Row W1 W.heap.size 0 (spCells x) := by
  rw [hW1]
  exact (Row.new W #[.int .i64 x.kind, .int .i64 x.task, .int .i64 x.index, .int .i64 x.from_, .int .i64 x.to_, .int .i64 x.start, .int .i64 x.end_] 46 _ rfl).alloc (by simp) _
 have ry : Row W1 (W.heap.size + 1) 0 (spCells y) := by
  rw [hW1]
  exact Row.new _ #[.int .i64 y.kind, .int .i64 y.task, .int .i64 y.index, .int .i64 y.from_, .int .i64 y.to_, .int .i64 y.start, .int .i64 y.end_] 46 _ (by simp)
 have hb : Below W.heap.size W W1 := by rw [hW1]; exact ((Below.refl _ _).alloc (Nat.le_refl _) _).alloc (by simp) _
 have hz : W1.heap.size = W.heap.size + 2 := by rw [hW1]; simp
 have hsz : (W.alloc (.cells #[.int .i64 x.kind, .int .i64 x.task, .int .i64 x.index, .int .i64 x.from_, .int .i64 x.to_, .int .i64 x.start, .int .i64 x.end_] 46)).heap.size = W.heap.size + 1 := by simp
 generalize hN : W.heap.size = N at *
 have Hb := Lib.hid hb
 have RX := Lib.hid rx
 have RY := Lib.hid ry
 have HN := Lib.hid hN
 clear hW1 hb rx ry hN
 generalize hA : (#[Value.int .i64 (cfI x.kind y.kind), .int .i64 (cfI x.from_ y.from_), .int .i64 (cfI x.task y.task), .int .i64 (cfI x.index y.index)] : Array Value) = A
 have kc : ∀ bb n b j v, b < N + 2 → W1.cell? ⟨b, j, none⟩ = some v → ((bif bb then (W1.alloc (.cells A 3)) else W1).drewN n).cell? ⟨b, j, none⟩ = some v := by
  intro bb n b j v hlt h
  cases bb
  ·exact h
  ·exact ((Below.refl W1.heap.size W1).alloc (Nat.le_refl _) _).cell (p := ⟨b, j, none⟩) (show b < W1.heap.size by rw [hz]; exact hlt) |>.trans h
 have kx0 := fun bb n => kc bb n N 0 _ (by omega) (by simpa using RX.out 0 _ rfl)
 have kx1 := fun bb n => kc bb n N 1 _ (by omega) (by simpa using RX.out 1 _ rfl)
 have kx2 := fun bb n => kc bb n N 2 _ (by omega) (by simpa using RX.out 2 _ rfl)
 have kx3 := fun bb n => kc bb n N 3 _ (by omega) (by simpa using RX.out 3 _ rfl)
 have ky0 := fun bb n => kc bb n (N + 1) 0 _ (by omega) (by simpa using RY.out 0 _ rfl)
 have ky1 := fun bb n => kc bb n (N + 1) 1 _ (by omega) (by simpa using RY.out 1 _ rfl)
 have ky2 := fun bb n => kc bb n (N + 1) 2 _ (by omega) (by simpa using RY.out 2 _ rfl)
 have ky3 := fun bb n => kc bb n (N + 1) 3 _ (by omega) (by simpa using RY.out 3 _ rfl)
 clear kc
 refine wp_region_detD (by kernel_rfl) 20 (by kernel_rfl) (fun bb wx => ∃ n, wx = (bif bb then (W1.alloc (.cells A 3)) else W1).drewN n) ⟨1, rfl⟩ ?_
 iterate 20
  apply wpDetD_cons rfl
  ·rintro bb wx ⟨n, rfl⟩
   have x0 := kx0 bb n
   have x1 := kx1 bb n
   have x2 := kx2 bb n
   have x3 := kx3 bb n
   have y0 := ky0 bb n
   have y1 := ky1 bb n
   have y2 := ky2 bb n
   have y3 := ky3 bb n
   generalize hWx : (bif bb then (W1.alloc (.cells A 3)) else W1).drewN n = Wx at *
   go_wp2_with (go_at_call 43; refine (cmp43 _ _ _).mono ?_; rintro e w' ⟨rfl, rfl⟩)
   exact ⟨rfl, rfl, n, hWx.symm⟩
  go_frame
 apply wpDetD_at (v := .slice (some ⟨N + 2, 0, none⟩) 4 4) rfl
 ·rintro wx ⟨n, rfl⟩
  have hz2 : (W1.drewN n).heap.size = N + 2 := hz
  go_wp2_with fail
  exact ⟨rfl, rfl, n, rfl⟩
 go_frame
 apply wpDetD_behind (v := .int .i64 c) rfl (by kernel_rfl)
 ·rintro wx ⟨n, rfl⟩
  have hrow : Row ((W1.alloc (.cells A 3)).drewN n) (N + 2) 0 [.int .i64 (cfI x.kind y.kind), .int .i64 (cfI x.from_ y.from_), .int .i64 (cfI x.task y.task), .int .i64 (cfI x.index y.index)] := by
   have := Row.new W1 A 3 (N + 2) hz.symm
   rw [← hA] at this ⊢
   exact this
  have h42 := or42 _ _ _ _ (N + 2) _ hrow
  rw [show or4 (cfI x.kind y.kind) (cfI x.from_ y.from_) (cfI x.task y.task) (cfI x.index y.index) = c from Hc.out] at h42
  have H42 := Lib.hid h42
  clear h42 hrow
  go_wp2_with (go_at_call 42; refine H42.out.mono ?_; rintro e w' ⟨rfl, rfl⟩)
  exact ⟨rfl, rfl, n, rfl⟩
 go_frame
 apply wpDetD_cons rfl
 ·rintro bb wx ⟨n, rfl⟩
  go_wp2_with fail
  exact ⟨rfl, rfl, n, rfl⟩
 go_frame
 rintro W2 ⟨n, rfl⟩
 go_wp2_with fail
 go_ret
 refine ⟨rfl, ?_⟩
 have h0 : Below N W1 (W1.alloc (.cells A 3)) := below_mono ((Below.refl W1.heap.size W1).alloc (Nat.le_refl _) _) (by omega)
 have h1 : Below N W1 ((W1.alloc (.cells A 3)).drewN n) := h0.trans ⟨rfl, rfl, rfl, Nat.le_refl _, fun _ _ => rfl⟩
 rw [HN.out]
 exact Hb.out.trans h1
end Go.Proofs.Seat9
end
section
namespace Go.Proofs.Seat9
open Go.RowKit Go.Proofs.Seat4
def mostA : Array Value := #[.int .i64 0, .int .i64 0, .int .i64 0, .int .i64 31, .int .i64 1, .int .i64 5, .int .i64 0, .int .i64 31, .int .i64 0, .int .i64 15]
theorem beq_beq (a b c d : Int) : ((a == b) = (c == d)) = (a = b ↔ c = d) := by
 rw [eq_iff_iff, Bool.eq_iff_iff, beq_iff_eq, beq_iff_eq]
theorem kinds4 {n : Int} (h : wi n 1 4 = true) : n = 1 ∨ n = 2 ∨ n = 3 ∨ n = 4 := by
 simp only [wi, decide_eq_true_eq] at h
 omega
set_option maxRecDepth 100000 in
set_option maxHeartbeats 4000000 in
theorem valid27 (x : Sp) (W : World) : Calls Tryz.prog 27 #[spA x] W fun e w' => e = .returned (.bool (validS x)) ∧ Below W.heap.size W w' := by
 go_enter Tryz.func27, Tryz.ntmps27
 go_wp2_with fail
 obtain ⟨W2, hW2⟩ : ∃ W2, W2 = (W.alloc (.cells #[.int .i64 x.kind, .int .i64 x.task, .int .i64 x.index, .int .i64 x.from_, .int .i64 x.to_, .int .i64 x.start, .int .i64 x.end_] 46)).alloc (.cells mostA 102) := ⟨_, rfl⟩
 have hW2' := hW2
 unfold mostA at hW2'
 rw [← hW2']
 clear hW2'
 have rx : Row W2 W.heap.size 0 (spCells x) := by
  rw [hW2]
  exact (Row.new W #[.int .i64 x.kind, .int .i64 x.task, .int .i64 x.index, .int .i64 x.from_, .int .i64 x.to_, .int .i64 x.start, .int .i64 x.end_] 46 _ rfl).alloc (by simp) _
 have rm : Row W2 (W.heap.size + 1) 0 mostA.toList := by
  rw [hW2]
  exact Row.new _ mostA 102 _ (by simp)
 have hb : Below W.heap.size W W2 := by rw [hW2]; exact ((Below.refl _ _).alloc (Nat.le_refl _) _).alloc (by simp) _
 clear hW2
 generalize hN : W.heap.size = N at *
 have Hb := Lib.hid hb
 have kx : ∀ n j v, (spCells x)[j]? = some v → (W2.drewN n).cell? ⟨N, j, none⟩ = some v := fun n j v h => by have := rx j v h; rw [Nat.zero_add] at this; exact this
 have km : ∀ n j v, mostA.toList[j]? = some v → (W2.drewN n).cell? ⟨N + 1, j, none⟩ = some v := fun n j v h => by have := rm j v h; rw [Nat.zero_add] at this; exact this
 clear hb rx rm
 have Kx := Lib.hid kx
 have Km := Lib.hid km
 clear kx km
 have fin : ∀ n, Below N W (W2.drewN n) := fun n => ⟨Hb.out.os, Hb.out.tape, Hb.out.output, Hb.out.size, Hb.out.block⟩
 have Fin := Lib.hid fin
 clear fin
 have hw0 : wi x.from_ 0 2000 = true → wrap64 (x.from_ + 1) = x.from_ + 1 := fun h => by
  simp only [wi, decide_eq_true_eq] at h
  unfold wrap64
  omega
 have HW := Lib.hid hw0
 clear hw0
 rcases Bool.eq_false_or_eq_true (wi x.kind 1 4) with h1 | h1
 ·rcases kinds4 h1 with hk | hk | hk | hk
  all_goals
   refine wp_region_det (by kernel_rfl) (by kernel_rfl) (fun wx => ∃ n, wx = W2.drewN n) ⟨1, rfl⟩ ?_
   iterate 20
    apply wpDet_cons
    ·rintro wx ⟨n, rfl⟩
     have x0 := Kx.out n 0 _ rfl
     have x2 := Kx.out n 2 _ rfl
     have m2 := Km.out n 2 _ rfl
     have m3 := Km.out n 3 _ rfl
     have m4 := Km.out n 4 _ rfl
     have m5 := Km.out n 5 _ rfl
     have m6 := Km.out n 6 _ rfl
     have m7 := Km.out n 7 _ rfl
     have m8 := Km.out n 8 _ rfl
     have m9 := Km.out n 9 _ rfl
     rw [hk] at x0 h1
     generalize hWx : W2.drewN n = Wx at *
     go_wp2_with (go_at_call 16; refine (within16 _ _ _ _).mono ?_; rintro e w' ⟨rfl, rfl⟩)
     exact ⟨rfl, rfl, n, hWx.symm⟩
    go_frame
   rintro wx ⟨n, rfl⟩
   have x0 := Kx.out n 0 _ rfl
   have x1 := Kx.out n 1 _ rfl
   have x2 := Kx.out n 2 _ rfl
   have x3 := Kx.out n 3 _ rfl
   have x4 := Kx.out n 4 _ rfl
   have x5 := Kx.out n 5 _ rfl
   have x6 := Kx.out n 6 _ rfl
   have hB := Fin.out n
   rw [hk] at x0
   have Hk := Lib.hid hk
   have H1 := Lib.hid h1
   clear hk h1
   generalize W2.drewN n = Wx at *
   have HB := Lib.hid hB
   clear hB
   go_wp2_with (go_at_call 16; refine (within16 _ _ _ _).mono ?_; rintro e w' ⟨rfl, rfl⟩)
   all_goals
    go_ret
    refine ⟨?_, by rw [hN]; exact HB.out⟩
    have hk := Hk.out
    have h1 := H1.out
    clear x0 x1 x2 x3 x4 x5 x6 Kx Km Fin Hb HB
    unfold validS rootS endsS loI hiI
    rw [h1, hk]
    have hwr := HW.out
    clear HW Hk H1
    congr 2
    simp_all [beq_beq]
    try first | rfl | (simp_all; done) | (intros; split <;> simp_all; done)
 ·refine wp_region_det (by kernel_rfl) (by kernel_rfl) (fun wx => ∃ n, wx = W2.drewN n) ⟨1, rfl⟩ ?_
  iterate 20
   apply wpDet_cons
   ·rintro wx ⟨n, rfl⟩
    have x0 := Kx.out n 0 _ rfl
    generalize hWx : W2.drewN n = Wx at *
    go_wp2_with (go_at_call 16; refine (within16 _ _ _ _).mono ?_; rintro e w' ⟨rfl, rfl⟩)
    exact ⟨rfl, rfl, n, hWx.symm⟩
   go_frame
  rintro wx ⟨n, rfl⟩
  have hB := Fin.out n
  generalize W2.drewN n = Wx at *
  have HB := Lib.hid hB
  have H1 := Lib.hid h1
  clear hB h1
  go_wp2
  go_ret
  refine ⟨?_, by rw [hN]; exact HB.out⟩
  unfold validS
  rw [H1.out]
  rfl
end Go.Proofs.Seat9
end
section
namespace Go.Proofs.Seat9
open Go.RowKit Go.Proofs.Seat4
theorem kind_cases (n : Int) : n = 1 ∨ n = 2 ∨ n = 3 ∨ n = 4 ∨ wi n 1 4 = false ∧ (n == 1) = false ∧ (n == 2) = false ∧ (n == 3) = false ∧ (n == 4) = false := by
 by_cases h1 : n = 1
 ·exact .inl h1
 ·by_cases h2 : n = 2
  ·exact .inr (.inl h2)
  ·by_cases h3 : n = 3
   ·exact .inr (.inr (.inl h3))
   ·by_cases h4 : n = 4
    ·exact .inr (.inr (.inr (.inl h4)))
    ·refine .inr (.inr (.inr (.inr ⟨?_, by simpa using h1, by simpa using h2, by simpa using h3, by simpa using h4⟩)))
     simp only [wi, decide_eq_false_iff_not]
     omega
theorem wi_task (t : Int) : wi t (-1) 15 = (decide (t = -1) || wi t 0 15) := by
 rw [Bool.eq_iff_iff]
 simp only [wi, Bool.or_eq_true, decide_eq_true_eq]
 omega
set_option maxRecDepth 100000 in
set_option maxHeartbeats 4000000 in
theorem valid29 (x : Sp) (W : World) : Calls Tryz.prog 29 #[spA x] W fun e w' => e = .returned (.bool (validS x)) ∧ Below W.heap.size W w' := by
 have hw0 : wi x.from_ 0 2000 = true → wrap64 (x.from_ + 1) = x.from_ + 1 := fun h => by
  simp only [wi, decide_eq_true_eq] at h
  unfold wrap64
  omega
 have HW := Lib.hid hw0
 clear hw0
 have hb : Below W.heap.size W (W.alloc (.cells #[.int .i64 x.kind, .int .i64 x.task, .int .i64 x.index, .int .i64 x.from_, .int .i64 x.to_, .int .i64 x.start, .int .i64 x.end_] 46)) := (Below.refl _ _).alloc (Nat.le_refl _) _
 have rx : Row (W.alloc (.cells #[.int .i64 x.kind, .int .i64 x.task, .int .i64 x.index, .int .i64 x.from_, .int .i64 x.to_, .int .i64 x.start, .int .i64 x.end_] 46)) W.heap.size 0 (spCells x) := Row.new W #[.int .i64 x.kind, .int .i64 x.task, .int .i64 x.index, .int .i64 x.from_, .int .i64 x.to_, .int .i64 x.start, .int .i64 x.end_] 46 _ rfl
 rcases kind_cases x.kind with hk | hk | hk | hk | ⟨hk, hk1, hk2, hk3, hk4⟩
 case inr.inr.inr.inr =>
  clear rx
  go_enter Tryz.func29, Tryz.ntmps29
  go_wp2
  go_ret
  refine ⟨?_, hb⟩
  unfold validS
  rw [hk]
  rfl
 all_goals
  have Hb := Lib.hid hb
  clear hb rx
  go_enter Tryz.func29, Tryz.ntmps29
  go_wp2_with (go_at_call 44; refine (within44 _ _ _ _).mono ?_; rintro e w' ⟨rfl, rfl⟩)
  all_goals
   go_ret
   refine ⟨?_, (Below.refl _ _).alloc (Nat.le_refl _) _⟩
   have hwr := HW.out
   clear HW Hb
   unfold validS rootS endsS loI hiI
   rw [hk]
   congr 2
   have wk1 : wi 1 1 4 = true := rfl
   have wk2 : wi 2 1 4 = true := rfl
   have wk3 : wi 3 1 4 = true := rfl
   have wk4 : wi 4 1 4 = true := rfl
   simp_all [beq_beq, wi_task]
   try first | rfl | (simp_all; done) | (intros; split <;> simp_all; done) | (rcases ‹x.index = 0 ∨ wi x.task 0 15 = true› with g | g <;> (simp only [g, decide_true, Bool.true_or, Bool.or_true, Bool.true_and]; rfl))
end Go.Proofs.Seat9
end
section
namespace Go.Proofs
open Go.Shelf
def Tryz.sortAc_ren : Go.Shelf.Ren := ⟨fun | 6 => 530 | 15 => 61 | 14 => 582 | 28 => 107 | 29 => 108 | 20 => 595 | 21 => 596 | 22 => 597 | 23 => 598 | 24 => 599 | 25 => 600 | 26 => 601 | 27 => 602 | 46 => 607 | 47 => 213 | 48 => 214 | 49 => 608 | 50 => 609 | 57 => 612 | n => n, fun | 22 => 298 | 24 => 144 | 25 => 549 | 3 => 3 | 39 => 141 | 0 => 0 | 53 => 205 | 55 => 207 | 4 => 4 | 46 => 199 | 45 => 198 | 50 => 91 | 5 => 5 | 9 => 9 | 66 => 292 | 70 => 296 | 76 => 470 | 77 => 221 | n => n, fun | n => n⟩
theorem Tryz.sortAc : Go.Proofs.SlLaysF0.n6 Tryz.prog Tryz.sortAc_ren := {
 mixed := by kernel_rfl
 f6 := ⟨Tryz.f530.name, by decide, Tryz.func530.trans (congrArg some (by kernel_rfl))⟩
 f14 := ⟨Tryz.f582.name, by decide, Tryz.func582.trans (congrArg some (by kernel_rfl))⟩
 f15 := Tryz.func61.trans (congrArg some (by kernel_rfl))
 f20 := ⟨Tryz.f595.name, by decide, Tryz.func595.trans (congrArg some (by kernel_rfl))⟩
 f21 := ⟨Tryz.f596.name, by decide, Tryz.func596.trans (congrArg some (by kernel_rfl))⟩
 f22 := ⟨Tryz.f597.name, by decide, Tryz.func597.trans (congrArg some (by kernel_rfl))⟩
 f23 := ⟨Tryz.f598.name, by decide, Tryz.func598.trans (congrArg some (by kernel_rfl))⟩
 f24 := ⟨Tryz.f599.name, by decide, Tryz.func599.trans (congrArg some (by kernel_rfl))⟩
 f25 := ⟨Tryz.f600.name, by decide, Tryz.func600.trans (congrArg some (by kernel_rfl))⟩
 f26 := ⟨Tryz.f601.name, by decide, Tryz.func601.trans (congrArg some (by kernel_rfl))⟩
 f27 := ⟨Tryz.f602.name, by decide, Tryz.func602.trans (congrArg some (by kernel_rfl))⟩
 f28 := Tryz.func107.trans (congrArg some (by kernel_rfl))
 f29 := Tryz.func108.trans (congrArg some (by kernel_rfl))
 f46 := ⟨Tryz.f607.name, by decide, Tryz.func607.trans (congrArg some (by kernel_rfl))⟩
 f47 := Tryz.func213.trans (congrArg some (by kernel_rfl))
 f48 := Tryz.func214.trans (congrArg some (by kernel_rfl))
 f49 := ⟨Tryz.f608.name, by decide, Tryz.func608.trans (congrArg some (by kernel_rfl))⟩
 f50 := ⟨Tryz.f609.name, by decide, Tryz.func609.trans (congrArg some (by kernel_rfl))⟩
 f57 := ⟨Tryz.f612.name, by decide, Tryz.func612.trans (congrArg some (by kernel_rfl))⟩
 t0 := Tryz.underlying0
 a0 := Tryz.isAgg0
 z0 := Tryz.sizeOf0
 v0 := Tryz.zeroValue0
 t3 := Tryz.underlying3
 a3 := Tryz.isAgg3
 z3 := Tryz.sizeOf3
 v3 := Tryz.zeroValue3
 t4 := Tryz.underlying4
 a4 := Tryz.isAgg4
 z4 := Tryz.sizeOf4
 v4 := Tryz.zeroValue4
 t5 := Tryz.underlying5
 a5 := Tryz.isAgg5
 z5 := Tryz.sizeOf5
 v5 := Tryz.zeroValue5
 t9 := Tryz.underlying9
 a9 := Tryz.isAgg9
 z9 := Tryz.sizeOf9
 v9 := Tryz.zeroValue9
 t22 := Tryz.underlying298
 a22 := Tryz.isAgg298
 z22 := Tryz.sizeOf298
 v22 := Tryz.zeroValue298
 t25 := Tryz.underlying549
 a25 := Tryz.isAgg549
 z25 := Tryz.sizeOf549
 v25 := Tryz.zeroValue549
 t39 := Tryz.underlying141
 a39 := Tryz.isAgg141
 z39 := Tryz.sizeOf141
 v39 := Tryz.zeroValue141
 t45 := Tryz.underlying198
 a45 := Tryz.isAgg198
 z45 := Tryz.sizeOf198
 v45 := Tryz.zeroValue198
 t46 := Tryz.underlying199
 a46 := Tryz.isAgg199
 z46 := Tryz.sizeOf199
 v46 := Tryz.zeroValue199
 t50 := Tryz.underlying91
 a50 := Tryz.isAgg91
 z50 := Tryz.sizeOf91
 v50 := Tryz.zeroValue91
 t53 := Tryz.underlying205
 a53 := Tryz.isAgg205
 z53 := Tryz.sizeOf205
 v53 := Tryz.zeroValue205
 t55 := Tryz.underlying207
 a55 := Tryz.isAgg207
 z55 := Tryz.sizeOf207
 v55 := Tryz.zeroValue207
 t66 := Tryz.underlying292
 a66 := Tryz.isAgg292
 z66 := Tryz.sizeOf292
 v66 := Tryz.zeroValue292
 t70 := Tryz.underlying296
 a70 := Tryz.isAgg296
 z70 := Tryz.sizeOf296
 v70 := Tryz.zeroValue296
 t76 := Tryz.underlying470
 a76 := Tryz.isAgg470
 z76 := Tryz.sizeOf470
 v76 := Tryz.zeroValue470
 t77 := Tryz.underlying221
 a77 := Tryz.isAgg221
 z77 := Tryz.sizeOf221
 v77 := Tryz.zeroValue221 }
def Tryz.bitsLen_ren : Go.Shelf.Ren := ⟨fun | 125 => 61 | 128 => 107 | 129 => 108 | n => n, fun | 46 => 141 | 3 => 3 | 51 => 205 | 53 => 207 | 4 => 4 | 5 => 5 | 9 => 9 | n => n, fun | n => n⟩
theorem Tryz.bitsLen : Go.Proofs.Lays.n125 Tryz.prog Tryz.bitsLen_ren := {
 mixed := by kernel_rfl
 f125 := Tryz.func61.trans (congrArg some (by kernel_rfl))
 f128 := Tryz.func107.trans (congrArg some (by kernel_rfl))
 f129 := Tryz.func108.trans (congrArg some (by kernel_rfl))
 t3 := Tryz.underlying3
 a3 := Tryz.isAgg3
 z3 := Tryz.sizeOf3
 v3 := Tryz.zeroValue3
 t4 := Tryz.underlying4
 a4 := Tryz.isAgg4
 z4 := Tryz.sizeOf4
 v4 := Tryz.zeroValue4
 t5 := Tryz.underlying5
 a5 := Tryz.isAgg5
 z5 := Tryz.sizeOf5
 v5 := Tryz.zeroValue5
 t9 := Tryz.underlying9
 a9 := Tryz.isAgg9
 z9 := Tryz.sizeOf9
 v9 := Tryz.zeroValue9
 t46 := Tryz.underlying141
 a46 := Tryz.isAgg141
 z46 := Tryz.sizeOf141
 v46 := Tryz.zeroValue141
 t51 := Tryz.underlying205
 a51 := Tryz.isAgg205
 z51 := Tryz.sizeOf205
 v51 := Tryz.zeroValue205
 t53 := Tryz.underlying207
 a53 := Tryz.isAgg207
 z53 := Tryz.sizeOf207
 v53 := Tryz.zeroValue207 }
def Tryz.lays169_ren : Go.Shelf.Ren := ⟨fun | 169 => 24 | n => n, fun | 70 => 52 | 9 => 9 | 0 => 0 | 72 => 55 | 37 => 53 | 127 => 100 | 3 => 3 | 5 => 5 | n => n, fun | n => n⟩
theorem Tryz.lays169 : Go.Proofs.Lays.n169 Tryz.prog Tryz.lays169_ren := {
 mixed := by kernel_rfl
 f169 := Tryz.func24.trans (congrArg some (by kernel_rfl))
 t0 := Tryz.underlying0
 a0 := Tryz.isAgg0
 z0 := Tryz.sizeOf0
 v0 := Tryz.zeroValue0
 t3 := Tryz.underlying3
 a3 := Tryz.isAgg3
 z3 := Tryz.sizeOf3
 v3 := Tryz.zeroValue3
 t9 := Tryz.underlying9
 a9 := Tryz.isAgg9
 z9 := Tryz.sizeOf9
 v9 := Tryz.zeroValue9
 t37 := Tryz.underlying53
 a37 := Tryz.isAgg53
 z37 := Tryz.sizeOf53
 v37 := Tryz.zeroValue53
 t70 := Tryz.underlying52
 a70 := Tryz.isAgg52
 z70 := Tryz.sizeOf52
 v70 := Tryz.zeroValue52
 t72 := Tryz.underlying55
 a72 := Tryz.isAgg55
 z72 := Tryz.sizeOf55
 v72 := Tryz.zeroValue55
 t127 := Tryz.underlying100
 a127 := Tryz.isAgg100
 z127 := Tryz.sizeOf100
 v127 := Tryz.zeroValue100 }
theorem Tryz.Builder_Extra_169 : Builder.Extra Tryz.prog Tryz.lays169_ren := {
 sizeBuilder := by kernel_rfl
 liesBuilder := by kernel_rfl
 t5 := Tryz.underlying5
 a5 := Tryz.isAgg5
 z5 := Tryz.sizeOf5
 v5 := Tryz.zeroValue5
 infoByte := by kernel_rfl
 cellsByte := by kernel_rfl
 sizeByte := by kernel_rfl
 neB5 := by decide }
open Go.RowKit in
open Go.RowKit in
open Go.RowKit in
theorem Tryz.Builder_String_any (B b : Nat) (l : List UInt8) (w : World) (h : Lib.IsBuilder 55 5 B b (Lib.byteCells l) w) (hBw : B ≤ w.heap.size) :
 Calls Tryz.prog 24 #[.pointer (some ⟨b, 0, none⟩)] w fun e w' => e = .returned (.string ⟨l.toArray⟩) ∧ Below B w w' := Any.Builder_String_any Tryz.lays169 Tryz.Builder_Extra_169 B b l w h hBw
def Tryz.laysM171_ren : Go.Shelf.Ren := ⟨fun | 171 => 21 | 243 => 41 | 246 => 66 | 283 => 114 | 284 => 115 | 285 => 116 | 286 => 117 | 129 => 108 | 317 => 237 | 318 => 238 | 319 => 239 | 320 => 240 | 337 => 414 | 338 => 415 | n => n, fun | 3 => 3 | 9 => 9 | 2 => 2 | 4 => 4 | 171 => 217 | 0 => 0 | 53 => 207 | 37 => 53 | 5 => 5 | 173 => 219 | 212 => 321 | 51 => 205 | 20 => 20 | 213 => 322 | 46 => 141 | 232 => 552 | 233 => 553 | n => n, fun | 17 => 0 | 18 => 2 | 19 => 3 | n => n⟩
theorem Tryz.laysM171 : Go.Proofs.LaysM.n171 Tryz.prog Tryz.laysM171_ren := {
 mixed := by kernel_rfl
 f129 := Tryz.func108.trans (congrArg some (by kernel_rfl))
 f171 := Tryz.func21.trans (congrArg some (by kernel_rfl))
 f243 := Tryz.func41.trans (congrArg some (by kernel_rfl))
 f246 := Tryz.func66.trans (congrArg some (by kernel_rfl))
 f283 := Tryz.func114.trans (congrArg some (by kernel_rfl))
 f284 := Tryz.func115.trans (congrArg some (by kernel_rfl))
 f285 := Tryz.func116.trans (congrArg some (by kernel_rfl))
 f286 := Tryz.func117.trans (congrArg some (by kernel_rfl))
 f317 := Tryz.func237.trans (congrArg some (by kernel_rfl))
 f318 := Tryz.func238.trans (congrArg some (by kernel_rfl))
 f319 := Tryz.func239.trans (congrArg some (by kernel_rfl))
 f320 := Tryz.func240.trans (congrArg some (by kernel_rfl))
 f337 := Tryz.func414.trans (congrArg some (by kernel_rfl))
 f338 := Tryz.func415.trans (congrArg some (by kernel_rfl))
 t0 := Tryz.underlying0
 a0 := Tryz.isAgg0
 z0 := Tryz.sizeOf0
 v0 := Tryz.zeroValue0
 t2 := Tryz.underlying2
 a2 := Tryz.isAgg2
 z2 := Tryz.sizeOf2
 v2 := Tryz.zeroValue2
 t3 := Tryz.underlying3
 a3 := Tryz.isAgg3
 z3 := Tryz.sizeOf3
 v3 := Tryz.zeroValue3
 t4 := Tryz.underlying4
 a4 := Tryz.isAgg4
 z4 := Tryz.sizeOf4
 v4 := Tryz.zeroValue4
 t5 := Tryz.underlying5
 a5 := Tryz.isAgg5
 z5 := Tryz.sizeOf5
 v5 := Tryz.zeroValue5
 t9 := Tryz.underlying9
 a9 := Tryz.isAgg9
 z9 := Tryz.sizeOf9
 v9 := Tryz.zeroValue9
 t20 := Tryz.underlying20
 a20 := Tryz.isAgg20
 z20 := Tryz.sizeOf20
 v20 := Tryz.zeroValue20
 t37 := Tryz.underlying53
 a37 := Tryz.isAgg53
 z37 := Tryz.sizeOf53
 v37 := Tryz.zeroValue53
 t46 := Tryz.underlying141
 a46 := Tryz.isAgg141
 z46 := Tryz.sizeOf141
 v46 := Tryz.zeroValue141
 t51 := Tryz.underlying205
 a51 := Tryz.isAgg205
 z51 := Tryz.sizeOf205
 v51 := Tryz.zeroValue205
 t53 := Tryz.underlying207
 a53 := Tryz.isAgg207
 z53 := Tryz.sizeOf207
 v53 := Tryz.zeroValue207
 t171 := Tryz.underlying217
 a171 := Tryz.isAgg217
 z171 := Tryz.sizeOf217
 v171 := Tryz.zeroValue217
 t173 := Tryz.underlying219
 a173 := Tryz.isAgg219
 z173 := Tryz.sizeOf219
 v173 := Tryz.zeroValue219
 t212 := Tryz.underlying321
 a212 := Tryz.isAgg321
 z212 := Tryz.sizeOf321
 v212 := Tryz.zeroValue321
 t213 := Tryz.underlying322
 a213 := Tryz.isAgg322
 z213 := Tryz.sizeOf322
 t232 := Tryz.underlying552
 a232 := Tryz.isAgg552
 z232 := Tryz.sizeOf552
 v232 := Tryz.zeroValue552
 t233 := Tryz.underlying553
 a233 := Tryz.isAgg553
 z233 := Tryz.sizeOf553
 v233 := Tryz.zeroValue553
 g17 := by kernel_rfl
 g18 := by kernel_rfl
 g19 := by kernel_rfl
 i0 := by kernel_rfl
 i2 := by kernel_rfl
 i3 := by kernel_rfl
 i4 := by kernel_rfl
 i5 := by kernel_rfl
 i9 := by kernel_rfl
 i20 := by kernel_rfl
 i37 := by kernel_rfl
 i46 := by kernel_rfl
 i51 := by kernel_rfl
 i53 := by kernel_rfl
 i171 := by kernel_rfl
 i173 := by kernel_rfl
 i212 := by kernel_rfl
 i232 := by kernel_rfl
 i233 := by kernel_rfl
 m17 := by kernel_rfl
 m18 := by kernel_rfl
 m19 := by kernel_rfl }
open Go.RowKit Go.Sort Go.Lib in
theorem Tryz.strconv_Itoa (n : Int) (h0 : -9223372036854775808 ≤ n) (h1 : n ≤ 9223372036854775807) (w : World) (htab : Lib.TabIs Tryz.prog w "internal/strconv.uint64pow10" .u64 Lib.pow10Tab) :
 Calls Tryz.prog 21 #[.int .i64 n] w fun e w' => e = .returned (.string ⟨(Lib.itoa n).toArray⟩) ∧ ∃ k os, w' = grow (w.drewN k) os := Any.strconv_Itoa Tryz.laysM171 n h0 h1 w htab
def Tryz.lays171_ren : Go.Shelf.Ren := ⟨fun | 171 => 21 | 243 => 41 | 246 => 66 | 283 => 114 | 284 => 115 | 285 => 116 | 286 => 117 | 129 => 108 | 317 => 237 | 318 => 238 | 319 => 239 | 320 => 240 | 337 => 414 | 338 => 415 | n => n, fun | 3 => 3 | 9 => 9 | 2 => 2 | 4 => 4 | 171 => 217 | 0 => 0 | 53 => 207 | 37 => 53 | 5 => 5 | 173 => 219 | 212 => 321 | 51 => 205 | 20 => 20 | 213 => 322 | 46 => 141 | 232 => 552 | 233 => 553 | n => n, fun | 17 => 0 | 18 => 2 | 19 => 3 | n => n⟩
theorem Tryz.lays171 : Go.Proofs.Lays.n171 Tryz.prog Tryz.lays171_ren := {
 mixed := by kernel_rfl
 f129 := Tryz.func108.trans (congrArg some (by kernel_rfl))
 f171 := Tryz.func21.trans (congrArg some (by kernel_rfl))
 f243 := Tryz.func41.trans (congrArg some (by kernel_rfl))
 f246 := Tryz.func66.trans (congrArg some (by kernel_rfl))
 f283 := Tryz.func114.trans (congrArg some (by kernel_rfl))
 f284 := Tryz.func115.trans (congrArg some (by kernel_rfl))
 f285 := Tryz.func116.trans (congrArg some (by kernel_rfl))
 f286 := Tryz.func117.trans (congrArg some (by kernel_rfl))
 f317 := Tryz.func237.trans (congrArg some (by kernel_rfl))
 f318 := Tryz.func238.trans (congrArg some (by kernel_rfl))
 f319 := Tryz.func239.trans (congrArg some (by kernel_rfl))
 f320 := Tryz.func240.trans (congrArg some (by kernel_rfl))
 f337 := Tryz.func414.trans (congrArg some (by kernel_rfl))
 f338 := Tryz.func415.trans (congrArg some (by kernel_rfl))
 t0 := Tryz.underlying0
 a0 := Tryz.isAgg0
 z0 := Tryz.sizeOf0
 v0 := Tryz.zeroValue0
 t2 := Tryz.underlying2
 a2 := Tryz.isAgg2
 z2 := Tryz.sizeOf2
 v2 := Tryz.zeroValue2
 t3 := Tryz.underlying3
 a3 := Tryz.isAgg3
 z3 := Tryz.sizeOf3
 v3 := Tryz.zeroValue3
 t4 := Tryz.underlying4
 a4 := Tryz.isAgg4
 z4 := Tryz.sizeOf4
 v4 := Tryz.zeroValue4
 t5 := Tryz.underlying5
 a5 := Tryz.isAgg5
 z5 := Tryz.sizeOf5
 v5 := Tryz.zeroValue5
 t9 := Tryz.underlying9
 a9 := Tryz.isAgg9
 z9 := Tryz.sizeOf9
 v9 := Tryz.zeroValue9
 t20 := Tryz.underlying20
 a20 := Tryz.isAgg20
 z20 := Tryz.sizeOf20
 v20 := Tryz.zeroValue20
 t37 := Tryz.underlying53
 a37 := Tryz.isAgg53
 z37 := Tryz.sizeOf53
 v37 := Tryz.zeroValue53
 t46 := Tryz.underlying141
 a46 := Tryz.isAgg141
 z46 := Tryz.sizeOf141
 v46 := Tryz.zeroValue141
 t51 := Tryz.underlying205
 a51 := Tryz.isAgg205
 z51 := Tryz.sizeOf205
 v51 := Tryz.zeroValue205
 t53 := Tryz.underlying207
 a53 := Tryz.isAgg207
 z53 := Tryz.sizeOf207
 v53 := Tryz.zeroValue207
 t171 := Tryz.underlying217
 a171 := Tryz.isAgg217
 z171 := Tryz.sizeOf217
 v171 := Tryz.zeroValue217
 t173 := Tryz.underlying219
 a173 := Tryz.isAgg219
 z173 := Tryz.sizeOf219
 v173 := Tryz.zeroValue219
 t212 := Tryz.underlying321
 a212 := Tryz.isAgg321
 z212 := Tryz.sizeOf321
 v212 := Tryz.zeroValue321
 t213 := Tryz.underlying322
 a213 := Tryz.isAgg322
 z213 := Tryz.sizeOf322
 t232 := Tryz.underlying552
 a232 := Tryz.isAgg552
 z232 := Tryz.sizeOf552
 v232 := Tryz.zeroValue552
 t233 := Tryz.underlying553
 a233 := Tryz.isAgg553
 z233 := Tryz.sizeOf553
 v233 := Tryz.zeroValue553
 g17 := by kernel_rfl
 g18 := by kernel_rfl
 g19 := by kernel_rfl }
open Go.RowKit Go.Sort Go.Lib in
theorem Tryz.strconv_Itoa_small (i : Nat) (hi : i < 100) (w : World) :
 Calls Tryz.prog 21 #[.int .i64 i] w fun e w' => e = .returned (.string ⟨(Lib.decDigits i).toArray⟩) ∧ w' = w := Any.strconv_Itoa_small Tryz.lays171 i hi w
end Go.Proofs
end

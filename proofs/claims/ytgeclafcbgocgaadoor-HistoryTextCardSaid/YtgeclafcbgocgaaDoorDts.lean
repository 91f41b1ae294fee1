/- The law on a region whose order is open, where one operation writes: what holds of the world behind each operation is said once for before it and once for behind it. Over any program. -/
import Derived.Test.YtgeclafcbgocgaaDoorDet
namespace Go.Proofs.YtgeclafcbgocgaaDoor
open Go.RowKit
def DetOpS (P : Program) (ops : Array Oper) (S : Bool → World → Prop) (K i : Nat) (o : Oper) (a : Act) (v : Value) : Prop := ∀ b w, (i = K → b = false) → S b w → wpList P ops (DetPost (S (b || K == i)) o a v) [o] a w
def wpDetS (P : Program) (ops : Array Oper) (S : Bool → World → Prop) (K : Nat) (Q : Exit → Act → World → Prop) : Nat → List Oper → Act → Prop
  | _, [], a => ∀ w, S true w → Q .normal a w
  | i, o :: rest, a => ∃ v, DetOpS P ops S K i o a v ∧ wpDetS P ops S K Q (i + 1) rest (a.put o.dst v)
section
variable {P : Program} {ops : Array Oper} {S : Bool → World → Prop} {K : Nat} {Q : Exit → Act → World → Prop}
theorem wpDetS_cons {i : Nat} {o : Oper} {rest : List Oper} {a : Act} {v : Value} (hne : (K == i) = false) (h1 : ∀ b, DetOp P ops (S b) o a v) (h2 : wpDetS P ops S K Q (i + 1) rest (a.put o.dst v)) : wpDetS P ops S K Q i (o :: rest) a :=
  ⟨v, fun b w _ hS => by rw [hne, Bool.or_false]; exact h1 b w hS, h2⟩
theorem wpDetS_at {i : Nat} {o : Oper} {rest : List Oper} {a : Act} {v : Value} (he : (K == i) = true) (h1 : ∀ w, S false w → wpList P ops (DetPost (S true) o a v) [o] a w) (h2 : wpDetS P ops S K Q (i + 1) rest (a.put o.dst v)) : wpDetS P ops S K Q i (o :: rest) a :=
  ⟨v, fun b w hb hS => by
    have e : i = K := (beq_iff_eq.1 he).symm
    obtain rfl := hb e
    rw [he]
    exact h1 w hS, h2⟩
theorem det_canonS (a0 : Act) : ∀ (l : List Oper) (k : Nat) (a : Act) (v : Nat → Value), (∀ j, l[j]? = ops[k + j]?) → canon ops a0 v k = a → wpDetS P ops S K Q k l a →
    ∃ v' : Nat → Value, (∀ j, j < k → v' j = v j) ∧ (∀ j o, k ≤ j → ops[j]? = some o → DetOpS P ops S K j o (canon ops a0 v' j) (v' j)) ∧ (∀ w, S true w → Q .normal (canon ops a0 v' (k + l.length)) w) := by
  intro l
  induction l with
  | nil =>
    intro k a v hl ha h
    refine ⟨v, fun _ _ => rfl, fun j o hj ho => ?_, fun w hw => by simpa [ha] using h w hw⟩
    have hnone : ops[j]? = none := by
      have := hl (j - k)
      rw [show k + (j - k) = j from by omega] at this
      simpa using this.symm
    rw [hnone] at ho
    cases ho
  | cons o rest ih =>
    intro k a v hl ha h
    obtain ⟨u, hu, hrest⟩ := h
    have hk : ops[k]? = some o := by simpa using (hl 0).symm
    have same : ∀ (v1 v2 : Nat → Value) (m : Nat), (∀ j, j < m → v1 j = v2 j) → canon ops a0 v1 m = canon ops a0 v2 m := by
      intro v1 v2 m hm
      induction m with
      | zero => rfl
      | succ m ihm =>
        simp only [canon]
        rw [ihm fun j hj => hm j (by omega)]
        cases ops[m]? with
        | none => rfl
        | some o' => simp only [hm m (by omega)]
    let v2 : Nat → Value := fun j => if j = k then u else v j
    have hv2 : ∀ j, j < k → v2 j = v j := fun j hj => if_neg (by omega)
    have hck : canon ops a0 v2 k = a := (same v2 v k hv2).trans ha
    have hck1 : canon ops a0 v2 (k + 1) = a.put o.dst u := by
      show (match ops[k]? with | some o => (canon ops a0 v2 k).put o.dst (v2 k) | none => canon ops a0 v2 k) = _
      rw [hk, hck]
      simp [v2]
    obtain ⟨v', h1, h2, h3⟩ := ih (k + 1) _ v2 (fun j => by have := hl (j + 1); simpa [Nat.add_assoc, Nat.add_comm 1 j] using this) hck1 hrest
    refine ⟨v', fun j hj => (h1 j (by omega)).trans (hv2 j hj), fun j o' hj ho => ?_, fun w hw => by have := h3 w hw; rwa [show k + 1 + rest.length = k + (o :: rest).length from by simp; omega] at this⟩
    by_cases e : j = k
    · subst e
      rw [hk] at ho
      cases ho
      rw [same v' v2 j fun m hm => h1 m (by omega), hck, h1 j (by omega)]
      simp only [v2, if_true]
      exact hu
    · exact h2 j o' (by omega) ho
theorem det_anyS (hok : detOk ops = true) (a0 : Act) (v : Nat → Value) (hop : ∀ j o, ops[j]? = some o → DetOpS P ops S K j o (canon ops a0 v j) (v j)) (hend : ∀ w, S true w → Q .normal (canon ops a0 v ops.size) w) :
    ∀ (fuel : Nat) (listed : Array Bool) (a : Act) (w : World), listed.size = ops.size → ((List.range ops.size).filter fun i => !listed.getD i true).length ≤ fuel → DetInv ops a0 v (fun j => listed.getD j true) a → S (listed.getD K true) w →
      wpAny P .any ops Q fuel listed a w := by
  have hall : ∀ (listed : Array Bool) (a : Act) (w : World), listed.size = ops.size → DetInv ops a0 v (fun j => listed.getD j true) a → S (listed.getD K true) w → (∀ i, i < ops.size → listed.getD i true = true) → Q .normal a w := by
    intro listed a w hsz hinv hS hl
    have hc := canon_inv hok a0 v ops.size (Nat.le_refl _)
    have : a = canon ops a0 v ops.size := by
      have ht : a.tmps = (canon ops a0 v ops.size).tmps := by
        apply Array.ext_getElem?
        intro t
        by_cases hex : ∃ j, j < ops.size ∧ writesTo ops j t = true
        · obtain ⟨j, hj, hw⟩ := hex
          by_cases htl : t < a0.tmps.size
          · rw [hinv.done t htl j hj hw (hl j hj), hc.done t htl j hj hw (by simpa using hj)]
          · rw [Array.getElem?_eq_none (by rw [hinv.size]; omega), Array.getElem?_eq_none (by rw [hc.size]; omega)]
        · rw [hinv.rest t fun j hj hw => absurd ⟨j, hj, hw⟩ hex, hc.rest t fun j hj hw => absurd ⟨j, hj, hw⟩ hex]
      have hd : a.defers = (canon ops a0 v ops.size).defers := hinv.defers.trans hc.defers.symm
      cases a
      cases hcn : canon ops a0 v ops.size
      rw [hcn] at ht hd
      simp only at ht hd
      rw [ht, hd]
    rw [this]
    refine hend w ?_
    have hK : listed.getD K true = true := by
      by_cases h : K < ops.size
      · exact hl K h
      · simp [Array.getD, show ¬ K < listed.size by omega]
    rwa [hK] at hS
  have hready : ∀ (listed : Array Bool), Region.ready .any ops listed = [] → ∀ i, i < ops.size → listed.getD i true = true := by
    intro listed hr i
    induction i using Nat.strongRecOn with
    | ind i ih =>
      intro hi
      apply Classical.byContradiction
      intro hn
      have hn' : listed.getD i true = false := by simpa using hn
      have : i ∈ Region.ready .any ops listed := by
        unfold Region.ready
        rw [List.mem_filter]
        refine ⟨List.mem_range.2 hi, ?_⟩
        have hget : ops[i]? = some ops[i] := Array.getElem?_eq_getElem hi
        rw [hn', hget]
        simp only [Bool.not_false, Bool.true_and, Option.map_some, Option.getD_some]
        rw [Array.all_eq_true']
        intro e he
        cases hb : Region.binds .any e with
        | false => rfl
        | true =>
          have hlt := (detOk_at hok hget).early e he hb
          have := ih e.on hlt (by omega)
          have hlt' : e.on < listed.size ∨ ¬ e.on < listed.size := by omega
          rcases hlt' with h | h
          · simp only [Array.getD, h, dif_pos] at this ⊢
            exact this
          · exfalso
            have h1 : i < listed.size ∨ ¬ i < listed.size := by omega
            rcases h1 with h1 | h1
            · omega
            · simp [Array.getD, h1] at hn'
      rw [hr] at this
      cases this
  intro fuel
  induction fuel with
  | zero =>
    intro listed a w hsz hcount hinv hS
    have hl : ∀ i, i < ops.size → listed.getD i true = true := by
      intro i hi
      have := List.eq_nil_of_length_eq_zero (Nat.le_zero.1 hcount)
      have hmem : i ∉ (List.range ops.size).filter fun i => !listed.getD i true := by rw [this]; simp
      rw [List.mem_filter] at hmem
      simp only [List.mem_range, hi, true_and] at hmem
      simpa using hmem
    refine ⟨?_, hall listed a w hsz hinv hS hl⟩
    unfold Region.ready
    rw [List.filter_eq_nil_iff]
    intro i hi
    rw [hl i (List.mem_range.1 hi)]
    simp
  | succ fuel ih =>
    intro listed a w hsz hcount hinv hS
    refine ⟨fun hr => hall listed a w hsz hinv hS (hready listed hr), fun i hi => ?_⟩
    unfold Region.ready at hi
    rw [List.mem_filter] at hi
    obtain ⟨hir, hc⟩ := hi
    have hil : i < ops.size := List.mem_range.1 hir
    have hget : ops[i]? = some ops[i] := Array.getElem?_eq_getElem hil
    rw [hget] at hc
    simp only [Bool.and_eq_true, Option.map_some, Option.getD_some] at hc
    obtain ⟨hn, hafter⟩ := hc
    have hn' : listed.getD i true = false := by simpa using hn
    have A := detOk_at hok hget
    have hcan := canon_inv hok a0 v i (by omega)
    have hagree : ∀ t ∈ ops[i].looksAt ops, a.tmps[t]? = (canon ops a0 v i).tmps[t]? := by
      intro t ht
      by_cases hex : ∃ j, j < ops.size ∧ writesTo ops j t = true
      · obtain ⟨j, hj, hw⟩ := hex
        obtain ⟨e, he, hb, hon⟩ := A.deps t ht j hj hw
        have hlt := A.early e he hb
        have hlist := Array.all_eq_true'.1 hafter e he
        rw [hb] at hlist
        simp only [Bool.not_true, Bool.false_or] at hlist
        have hDj : listed.getD j true = true := by
          rw [hon] at hlist
          simp only [Array.getD] at hlist ⊢
          split at hlist
          · rename_i h; rw [dif_pos h]; exact hlist
          · cases hlist
        by_cases htl : t < a0.tmps.size
        · rw [hinv.done t htl j hj hw hDj, hcan.done t htl j hj hw (by simp; omega)]
        · rw [Array.getElem?_eq_none (by rw [hinv.size]; exact Nat.le_of_not_lt htl), Array.getElem?_eq_none (by rw [hcan.size]; exact Nat.le_of_not_lt htl)]
      · rw [hinv.rest t fun j hj hw => absurd ⟨j, hj, hw⟩ hex, hcan.rest t fun j hj hw => absurd ⟨j, hj, hw⟩ hex]
    refine wpOp_mono ?_ (det_transfer (Q := Q) (v := v i) hget A.sel (hinv.size.trans hcan.size.symm) hagree (hop i ops[i] hget (listed.getD K true) w (fun e => e ▸ hn') hS))
    rintro a' w' ⟨rfl, hS'⟩
    have hsz' : (listed.setIfInBounds i true).size = ops.size := by simpa using hsz
    have hKn : (listed.getD K true || K == i) = (listed.setIfInBounds i true).getD K true := by
      by_cases hjl : K < listed.size
      · by_cases e : K = i
        · rw [e] at hjl ⊢; simp [Array.getD, hjl]
        · have : ¬ i = K := fun x => e x.symm
          simp [Array.getD, hjl, Array.getElem_setIfInBounds, e, this]
      · simp [Array.getD, hjl]
    rw [hKn] at hS'
    refine ih _ _ _ hsz' ?_ ?_ hS'
    · have hlt : ((List.range ops.size).filter fun k => !(listed.setIfInBounds i true).getD k true).length < ((List.range ops.size).filter fun k => !listed.getD k true).length := by
        have hsub : ((List.range ops.size).filter fun k => !(listed.setIfInBounds i true).getD k true) = ((List.range ops.size).filter fun k => !listed.getD k true).filter (fun k => k != i) := by
          rw [List.filter_filter]
          apply List.filter_congr
          intro k hk
          have hkl : k < listed.size := by rw [hsz]; exact List.mem_range.1 hk
          by_cases e : k = i
          · subst e; simp [Array.getD, hkl]
          · have : ¬ i = k := fun x => e x.symm
            simp [Array.getD, hkl, Array.getElem_setIfInBounds, e, this]
        rw [hsub]
        have hmem : i ∈ (List.range ops.size).filter fun k => !listed.getD k true := List.mem_filter.2 ⟨hir, hn⟩
        exact List.length_filter_lt_length_iff_exists.2 ⟨i, hmem, by simp⟩
      omega
    · have := hinv.put hok hget hn'
      have hf : (fun j => listed.getD j true || j == i) = fun j => (listed.setIfInBounds i true).getD j true := by
        funext j
        by_cases hjl : j < listed.size
        · by_cases e : j = i
          · subst e; simp [Array.getD, hjl]
          · have : ¬ i = j := fun x => e x.symm
            simp [Array.getD, hjl, Array.getElem_setIfInBounds, e, this]
        · simp [Array.getD, hjl]
      rwa [hf] at this
theorem wp_region_detS {id : Nat} {a : Act} {w : World} (hm : P.follows .mixedOrders = true) (K : Nat) (hok : (detOk ops && decide (K < ops.size)) = true) (S : Bool → World → Prop) (hS : S false w.drew) (h : wpDetS P ops S K Q 0 ops.toList a) : (Code.region id ops true).wp P Q a w := by
  simp only [Bool.and_eq_true, decide_eq_true_eq] at hok
  obtain ⟨hok, hK⟩ := hok
  have hS2 : ∀ W, S false W → S ((Array.replicate ops.size false).getD K true) W := fun W h => by rw [show (Array.replicate ops.size false).getD K true = false from by simp [Array.getD, hK]]; exact h
  obtain ⟨v, _, h2, h3⟩ := det_canonS (P := P) (S := S) (K := K) (Q := Q) a ops.toList 0 a (fun _ => undef) (fun j => by simp) rfl h
  refine wp_region_any hm (det_anyS (S := S) (K := K) hok a v (fun j o ho => h2 j o (Nat.zero_le _) ho) (by simpa using h3) ops.size _ a _ (by simp) ?_ ?_ (hS2 _ hS))
  · exact Nat.le_trans (List.length_filter_le _ _) (by simp)
  · have hf : (fun j => (Array.replicate ops.size false).getD j true) = fun j => !decide (j < ops.size) := by
      funext j
      by_cases h : j < ops.size <;> simp [Array.getD, h]
    rw [hf]
    exact ⟨rfl, rfl, fun t _ j hj _ hD => by simp [hj] at hD, fun t _ => rfl⟩
end
end Go.Proofs.YtgeclafcbgocgaaDoor

/- A part of the proof. -/
import Derived.Test.YtfekipocjifehaaGreatDoorPat
import Derived.Test.YtfekipocjifehaaGreatDoorPau
import Derived.Test.YtfekipocjifehaaGreatDoorPas
import Derived.Test.YtfekipocjifehaaGreatDoorPbc
set_option linter.all false
section
namespace Go.Proofs.Seat7
open Go.RowKit Go.Proofs.Seat4
theorem sameK_self (x : Mt) : sameK x x = true := (sameK_iff x x).2 ⟨rfl, rfl⟩
theorem sameK_symm {x y : Mt} (h : sameK x y = true) : sameK y x = true := by rw [sameK_iff] at *; exact ⟨h.1.symm, h.2.symm⟩
theorem sameK_trans {x y z : Mt} (h : sameK x y = true) (k : sameK y z = true) : sameK x z = true := by rw [sameK_iff] at *; exact ⟨h.1.trans k.1, h.2.trans k.2⟩
theorem sameK_congr {x y z : Mt} (h : sameK x y = true) : sameK x z = sameK y z := by
  rw [Bool.eq_iff_iff]
  exact ⟨fun k => sameK_trans (sameK_symm h) k, fun k => sameK_trans h k⟩
theorem Kl_ne {x y : Mt} (h : Kl x y) : sameK x y = false := by
  cases e : sameK x y with
  | false => rfl
  | true =>
    obtain ⟨h1, h2⟩ := (sameK_iff x y).1 e
    rcases h with h | ⟨_, h⟩
    · rw [h1, bl_irr] at h; cases h
    · omega
theorem find_congr {d : List Mt} {x y : Mt} (h : sameK x y = true) : findM d x = findM d y := by
  induction d with
  | nil => rfl
  | cons z r ih => unfold findM; rw [sameK_congr h, ih]
theorem find_mem : ∀ {d : List Mt} {x y : Mt}, findM d x = some y → y ∈ d ∧ sameK x y = true
  | z :: r, x, y, h => by
    unfold findM at h
    split at h
    · cases h; exact ⟨by simp, ‹_›⟩
    · obtain ⟨h1, h2⟩ := find_mem h
      exact ⟨List.mem_cons_of_mem _ h1, h2⟩
def DK (d : List Mt) : Prop := d.Pairwise fun x y => sameK x y = false
theorem find_none {d : List Mt} {x : Mt} : findM d x = none ↔ ∀ y ∈ d, sameK x y = false := by
  induction d with
  | nil => simp [findM]
  | cons z r ih =>
    unfold findM
    cases h : sameK x z with
    | true => simp [h]
    | false => simp [h, ih]
theorem find_of {d : List Mt} (hd : DK d) {y : Mt} (hy : y ∈ d) : findM d y = some y := by
  induction d with
  | nil => cases hy
  | cons z r ih =>
    unfold findM
    rcases List.mem_cons.1 hy with rfl | hy
    · rw [if_pos (sameK_self _)]
    · have h1 := (List.pairwise_cons.1 hd).1 y hy
      have : ¬ sameK y z = true := fun e => by rw [sameK_symm e] at h1; cases h1
      rw [if_neg this]
      exact ih (List.pairwise_cons.1 hd).2 hy
theorem find_put : ∀ (d : List Mt) (x y : Mt), findM (putM d y) x = if sameK x y = true then some y else findM d x
  | [], x, y => by simp [putM, findM]
  | z :: r, x, y => by
    unfold putM
    by_cases h : sameK y z = true
    · rw [if_pos h]
      by_cases hx : sameK x y = true
      · simp [findM, hx]
      · have : ¬ sameK x z = true := fun e => hx (sameK_trans e (sameK_symm h))
        simp [findM, hx, this]
    · rw [if_neg h]
      by_cases hz : sameK x z = true
      · have : ¬ sameK x y = true := fun e => h (sameK_trans (sameK_symm e) hz)
        simp [findM, hz, this]
      · simp [findM, hz, find_put r x y]
theorem mem_put : ∀ {d : List Mt} {y z : Mt}, z ∈ putM d y → z = y ∨ z ∈ d
  | [], y, z, h => by simp [putM] at h; exact .inl h
  | u :: r, y, z, h => by
    unfold putM at h
    split at h
    · rcases List.mem_cons.1 h with h | h
      · exact .inl h
      · exact .inr (List.mem_cons_of_mem _ h)
    · rcases List.mem_cons.1 h with h | h
      · exact .inr (by simp [h])
      · exact (mem_put h).imp id (List.mem_cons_of_mem _)
theorem dk_put : ∀ {d : List Mt} (y : Mt), DK d → DK (putM d y)
  | [], y, _ => List.pairwise_singleton _ _
  | z :: r, y, h => by
    have h1 := List.pairwise_cons.1 h
    unfold putM
    by_cases hk : sameK y z = true
    · rw [if_pos hk]
      exact List.pairwise_cons.2 ⟨fun u hu => by rw [sameK_congr hk]; exact h1.1 u hu, h1.2⟩
    · rw [if_neg hk]
      refine List.pairwise_cons.2 ⟨fun u hu => ?_, dk_put y h1.2⟩
      rcases mem_put hu with rfl | hu
      · cases e : sameK z u with
        | false => rfl
        | true => exact absurd (sameK_symm e) hk
      · exact h1.1 u hu
theorem dk_fold : ∀ (l d : List Mt), DK d → DK (l.foldl addM d)
  | [], d, h => h
  | x :: r, d, h => dk_fold r _ (dk_put _ h)
theorem sameK_add {d : List Mt} {x y : Mt} : sameK x (addV d y) = sameK x y := by
  unfold addV
  cases findM d y with
  | none => rfl
  | some z => rfl
theorem find_fold : ∀ (l d : List Mt) (x : Mt), DK l → findM (l.foldl addM d) x = match findM l x with | some y => some ((findM d y).elim y (comb y)) | none => findM d x
  | [], d, x, _ => rfl
  | y :: r, d, x, h => by
    have h1 := List.pairwise_cons.1 h
    show findM (r.foldl addM (addM d y)) x = _
    rw [find_fold r (addM d y) x h1.2]
    have hf : ∀ z, findM (addM d y) z = if sameK z y = true then some (addV d y) else findM d z := fun z => by
      unfold addM
      rw [find_put, sameK_add]
    by_cases hx : sameK x y = true
    · have hn : findM r x = none := find_none.2 fun u hu => by
        rw [sameK_congr hx]; exact h1.1 u hu
      rw [hn]
      show findM (addM d y) x = _
      rw [hf, if_pos hx]
      have : findM (y :: r) x = some y := by unfold findM; rw [if_pos hx]
      rw [this]
      rfl
    · have : findM (y :: r) x = findM r x := by conv => lhs; unfold findM; rw [if_neg hx]
      rw [this]
      cases hr : findM r x with
      | none => show findM (addM d y) x = findM d x; rw [hf, if_neg hx]
      | some z =>
        obtain ⟨hz, hxz⟩ := find_mem hr
        have : ¬ sameK z y = true := fun e => hx (sameK_trans hxz e)
        show some ((findM (addM d y) z).elim z (comb z)) = _
        rw [hf, if_neg this]
end Go.Proofs.Seat7
end
section
namespace Go.Proofs.Seat7
open Go.RowKit Go.Proofs.Seat4
def SO (l : List Mt) : Prop := l.Pairwise Kl
theorem SO.dk {l : List Mt} (h : SO l) : DK l := h.imp fun {x y} h => Kl_ne h
theorem chkR_ord (l : List Mt) : ∀ (r : List Mt) (i : Nat), l.drop i = r → chkR l r i = 0 → ∀ j (h : j < l.length), i ≤ j → 0 < j → Kl (l[j - 1]'(by omega)) l[j]
  | [], i, hd, _, j, h, hij, _ => by
    have := List.drop_eq_nil_iff.1 hd
    omega
  | m :: r, i, hd, hc, j, h, hij, hj => by
    have hi : i < l.length := by
      apply Classical.byContradiction
      intro hn
      rw [List.drop_eq_nil_of_le (by omega)] at hd
      cases hd
    rw [List.drop_eq_getElem_cons hi] at hd
    injection hd with e1 e2
    unfold chkR at hc
    by_cases h1 : chk1 l i m = 0
    · rw [if_pos h1] at hc
      rcases Nat.lt_or_ge i j with hlt | hge
      · exact chkR_ord l r (i + 1) e2 hc j h hlt hj
      · have e3 : i = j := by omega
        subst e3
        unfold chk1 at h1
        split at h1
        · cases h1
        · split at h1
          · cases h1
          · split at h1
            · cases h1
            · rename_i h9
              have h10 : l.getD (i - 1) default = l[i - 1]'(by omega) := by simp [List.getD_eq_getElem?_getD, show i - 1 < l.length from by omega]
              rw [h10] at h9
              rw [e1]
              refine (cfM_neg _ _).1 (Int.not_le.1 fun h => h9 ⟨hj, h⟩)
    · rw [if_neg h1] at hc
      exact absurd hc h1
theorem so_of_adj : ∀ {l : List Mt}, (∀ j (h : j + 1 < l.length), Kl (l[j]'(by omega)) l[j + 1]) → SO l
  | [], _ => List.Pairwise.nil
  | [x], _ => List.pairwise_singleton _ _
  | x :: y :: r, h => by
    have ih : SO (y :: r) := so_of_adj fun j hj => h (j + 1) (by simpa using hj)
    have h0 : Kl x y := h 0 (by simp)
    refine List.pairwise_cons.2 ⟨fun z hz => ?_, ih⟩
    rcases List.mem_cons.1 hz with rfl | hz
    · exact h0
    · exact Kl.trans h0 ((List.pairwise_cons.1 ih).1 z hz)
theorem chk_so {l : List Mt} (h : chk l = 0) : SO l := by
  unfold chk at h
  split at h
  · cases h
  · refine so_of_adj fun j hj => ?_
    have := chkR_ord l l 0 rfl h (j + 1) hj (Nat.zero_le _) (Nat.succ_pos _)
    simpa using this
theorem so_ext {l l' : List Mt} (h : SO l) (h' : SO l') (he : ∀ x, findM l x = findM l' x) : l = l' := by
  have hmem : ∀ x, x ∈ l ↔ x ∈ l' := fun x => by
    constructor
    · intro hx
      have := find_of h.dk hx
      rw [he] at this
      exact (find_mem this).1
    · intro hx
      have := find_of h'.dk hx
      rw [← he] at this
      exact (find_mem this).1
  have hnd : ∀ {d : List Mt}, SO d → d.Nodup := fun {d} hd => hd.imp fun {x y} hxy e => by subst e; exact Kl.irr _ hxy
  have hp : l.Perm l' := (List.perm_ext_iff_of_nodup (hnd h) (hnd h')).2 hmem
  refine List.Perm.eq_of_pairwise (le := Kl) (fun a b _ _ h3 h4 => absurd (Kl.trans h3 h4) (Kl.irr _)) h h' hp
end Go.Proofs.Seat7
end
section
namespace Go.Proofs.Seat7
open Go.RowKit Go.Proofs.Seat4
def cmbO : Option Mt → Option Mt → Option Mt
  | some p, some q => some (comb p q)
  | some p, none => some p
  | none, o => o
theorem comb_same (x y : Mt) (z : Mt) : sameK (comb x y) z = sameK x z := rfl
theorem Kl_or {x y : Mt} (h1 : lessM x y = false) (h2 : lessM y x = false) : sameK x y = true := by
  have g1 : ¬ Kl x y := fun h => by rw [(lessM_iff x y).2 h] at h1; cases h1
  have g2 : ¬ Kl y x := fun h => by rw [(lessM_iff y x).2 h] at h2; cases h2
  have n1 : cfM x y = 0 := by
    have a1 : ¬ cfM x y < 0 := fun h => g1 ((cfM_neg x y).1 h)
    have a2 : ¬ cfM y x < 0 := fun h => g2 ((cfM_neg y x).1 h)
    have e1 : x.name = y.name := by
      refine bl_eq ?_ ?_
      · cases h : Op.bytesLess x.name y.name with
        | false => rfl
        | true => exact absurd (.inl h) g1
      · cases h : Op.bytesLess y.name x.name with
        | false => rfl
        | true => exact absurd (.inl h) g2
    have e2 : x.index = y.index := by
      have b1 : ¬ x.index < y.index := fun h => g1 (.inr ⟨e1, h⟩)
      have b2 : ¬ y.index < x.index := fun h => g2 (.inr ⟨e1.symm, h⟩)
      omega
    unfold cfM
    rw [(cfS_zero _ _).2 e1]
    unfold orI cfI
    simp [e2]
  unfold cfM orI at n1
  split at n1
  · rename_i h
    have e1 := (cfS_zero _ _).1 h
    refine (sameK_iff x y).2 ⟨e1, ?_⟩
    have b1 : ¬ x.index < y.index := fun h => g1 (.inr ⟨e1, h⟩)
    have b2 : ¬ y.index < x.index := fun h => g2 (.inr ⟨e1.symm, h⟩)
    omega
  · rename_i h
    exact absurd n1 h
theorem find_lt {l : List Mt} {x z : Mt} (h : ∀ y ∈ l, Kl z y) (hk : sameK x z = true) : findM l x = none := find_none.2 fun y hy => by
  rw [sameK_congr hk]
  exact Kl_ne (h y hy)
theorem find_mrg : ∀ (a b : List Mt) (x : Mt), SO a → SO b → findM (mrg a b) x = cmbO (findM a x) (findM b x)
  | [], b, x, _, _ => by simp [mrg, findM, cmbO]
  | y :: a, [], x, _, _ => by
    rw [mrg_nil]
    cases findM (y :: a) x <;> simp [findM, cmbO]
  | y :: a, z :: b, x, ha, hb => by
    have ha1 := List.pairwise_cons.1 ha
    have hb1 := List.pairwise_cons.1 hb
    rw [mrg]
    by_cases h1 : lessM y z = true
    · rw [if_pos h1]
      have hk := (lessM_iff y z).1 h1
      have ih := find_mrg a (z :: b) x ha1.2 hb
      by_cases hx : sameK x y = true
      · have hn : findM (z :: b) x = none := find_lt (z := y) (fun u hu => by
          rcases List.mem_cons.1 hu with rfl | hu
          · exact hk
          · exact Kl.trans hk (hb1.1 u hu)) hx
        rw [hn]
        simp [findM, hx, cmbO]
      · have e1 : findM (y :: mrg a (z :: b)) x = findM (mrg a (z :: b)) x := by conv => lhs; unfold findM; rw [if_neg hx]
        have e2 : findM (y :: a) x = findM a x := by conv => lhs; unfold findM; rw [if_neg hx]
        rw [e1, e2, ih]
    · rw [if_neg h1]
      by_cases h2 : lessM z y = true
      · rw [if_pos h2]
        have hk := (lessM_iff z y).1 h2
        have ih := find_mrg (y :: a) b x ha hb1.2
        by_cases hx : sameK x z = true
        · have hn : findM (y :: a) x = none := find_lt (z := z) (fun u hu => by
            rcases List.mem_cons.1 hu with rfl | hu
            · exact hk
            · exact Kl.trans hk (ha1.1 u hu)) hx
          rw [hn]
          simp [findM, hx, cmbO]
        · have e1 : findM (z :: mrg (y :: a) b) x = findM (mrg (y :: a) b) x := by conv => lhs; unfold findM; rw [if_neg hx]
          have e2 : findM (z :: b) x = findM b x := by conv => lhs; unfold findM; rw [if_neg hx]
          rw [e1, e2, ih]
      · rw [if_neg h2]
        have hs := Kl_or (x := y) (y := z) (by simpa using h1) (by simpa using h2)
        have ih := find_mrg a b x ha1.2 hb1.2
        by_cases hx : sameK x y = true
        · have hx2 := sameK_trans hx hs
          have e1 : findM (comb y z :: mrg a b) x = some (comb y z) := by
            unfold findM
            rw [if_pos (show sameK x (comb y z) = true from hx)]
          rw [e1]
          simp [findM, hx, hx2, cmbO]
        · have hx2 : ¬ sameK x z = true := fun e => hx (sameK_trans e (sameK_symm hs))
          have e1 : findM (comb y z :: mrg a b) x = findM (mrg a b) x := by
            conv => lhs; unfold findM; rw [if_neg (show ¬ sameK x (comb y z) = true from hx)]
          have e2 : findM (y :: a) x = findM a x := by conv => lhs; unfold findM; rw [if_neg hx]
          have e3 : findM (z :: b) x = findM b x := by conv => lhs; unfold findM; rw [if_neg hx2]
          rw [e1, e2, e3, ih]
termination_by a b => a.length + b.length
end Go.Proofs.Seat7
end
section
namespace Go.Proofs.Seat7
open Go.RowKit Go.Proofs.Seat4
theorem Kl_congr_l {x x' y : Mt} (h : sameK x x' = true) (hk : Kl x y) : Kl x' y := by
  obtain ⟨h1, h2⟩ := (sameK_iff x x').1 h
  unfold Kl at *
  rw [← h1, ← h2]
  exact hk
theorem Kl_congr_r {x y y' : Mt} (h : sameK y y' = true) (hk : Kl x y) : Kl x y' := by
  obtain ⟨h1, h2⟩ := (sameK_iff y y').1 h
  unfold Kl at *
  rw [← h1, ← h2]
  exact hk
theorem mrg_ahead : ∀ (a b : List Mt) (w : Mt), (∀ y ∈ a, Kl w y) → (∀ y ∈ b, Kl w y) → ∀ y ∈ mrg a b, Kl w y
  | [], b, w, _, hb => by simpa [mrg] using hb
  | y :: a, [], w, ha, _ => by rw [mrg_nil]; exact ha
  | y :: a, z :: b, w, ha, hb => by
    have hy := ha y (by simp)
    have hz := hb z (by simp)
    rw [mrg]
    split
    · intro u hu
      rcases List.mem_cons.1 hu with rfl | hu
      · exact hy
      · exact mrg_ahead a (z :: b) w (fun v hv => ha v (List.mem_cons_of_mem _ hv)) hb u hu
    · split
      · intro u hu
        rcases List.mem_cons.1 hu with rfl | hu
        · exact hz
        · exact mrg_ahead (y :: a) b w ha (fun v hv => hb v (List.mem_cons_of_mem _ hv)) u hu
      · intro u hu
        rcases List.mem_cons.1 hu with rfl | hu
        · exact Kl_congr_r (y := y) (y' := comb y z) (sameK_self y) hy
        · exact mrg_ahead a b w (fun v hv => ha v (List.mem_cons_of_mem _ hv)) (fun v hv => hb v (List.mem_cons_of_mem _ hv)) u hu
termination_by a b => a.length + b.length
theorem so_mrg : ∀ (a b : List Mt), SO a → SO b → SO (mrg a b)
  | [], b, _, hb => by simpa [mrg] using hb
  | y :: a, [], ha, _ => by rw [mrg_nil]; exact ha
  | y :: a, z :: b, ha, hb => by
    have ha1 := List.pairwise_cons.1 ha
    have hb1 := List.pairwise_cons.1 hb
    rw [mrg]
    by_cases h1 : lessM y z = true
    · rw [if_pos h1]
      have hk := (lessM_iff y z).1 h1
      refine List.pairwise_cons.2 ⟨mrg_ahead a (z :: b) y ha1.1 (fun u hu => ?_), so_mrg a (z :: b) ha1.2 hb⟩
      rcases List.mem_cons.1 hu with rfl | hu
      · exact hk
      · exact Kl.trans hk (hb1.1 u hu)
    · rw [if_neg h1]
      by_cases h2 : lessM z y = true
      · rw [if_pos h2]
        have hk := (lessM_iff z y).1 h2
        refine List.pairwise_cons.2 ⟨mrg_ahead (y :: a) b z (fun u hu => ?_) hb1.1, so_mrg (y :: a) b ha hb1.2⟩
        rcases List.mem_cons.1 hu with rfl | hu
        · exact hk
        · exact Kl.trans hk (ha1.1 u hu)
      · rw [if_neg h2]
        have hs := Kl_or (x := y) (y := z) (by simpa using h1) (by simpa using h2)
        refine List.pairwise_cons.2 ⟨mrg_ahead a b (comb y z) (fun u hu => Kl_congr_l (x := y) (x' := comb y z) (sameK_self y) (ha1.1 u hu)) (fun u hu => Kl_congr_l (x := z) (x' := comb y z) (sameK_symm hs) (hb1.1 u hu)), so_mrg a b ha1.2 hb1.2⟩
termination_by a b => a.length + b.length
theorem Kl_tri {x y : Mt} (h : sameK x y = false) (h2 : ¬ Kl y x) : Kl x y := by
  apply Classical.byContradiction
  intro h1
  have := Kl_or (x := x) (y := y) (by cases e : lessM x y with | false => rfl | true => exact absurd ((lessM_iff x y).1 e) h1) (by cases e : lessM y x with | false => rfl | true => exact absurd ((lessM_iff y x).1 e) h2)
  rw [this] at h
  cases h
theorem so_of {D : List Mt} (h : InOrd D) (hd : DK D) : SO D := (h.and hd).imp fun {x y} h => Kl_tri h.2 h.1
theorem find_perm {d d' : List Mt} (h : d.Perm d') (hd : DK d) (x : Mt) : findM d x = findM d' x := by
  have hd' : DK d' := hd.perm h fun {x y} e => by
    cases e2 : sameK y x with
    | false => rfl
    | true => rw [sameK_symm e2] at e; cases e
  cases e : findM d x with
  | none =>
    have := find_none.1 e
    exact (find_none.2 fun y hy => this y (h.mem_iff.2 hy)).symm
  | some y =>
    obtain ⟨hy, hk⟩ := find_mem e
    have := find_of hd' (h.mem_iff.1 hy)
    rw [find_congr hk, this]
theorem find_self {a : List Mt} (ha : DK a) (x : Mt) : findM (foldM a) x = findM a x := by
  unfold foldM
  rw [find_fold a [] x ha]
  cases findM a x <;> rfl
theorem comb_comm {x y : Mt} (h : sameK x y = true) : comb x y = comb y x := by
  obtain ⟨h1, h2⟩ := (sameK_iff x y).1 h
  simp only [comb, h1, h2, Int.add_comm, Int.max_comm]
theorem find_both {a b : List Mt} (ha : DK a) (hb : DK b) (x : Mt) : findM (foldM (a ++ b)) x = cmbO (findM a x) (findM b x) := by
  have h : foldM (a ++ b) = b.foldl addM (foldM a) := by unfold foldM; rw [List.foldl_append]
  rw [h, find_fold b (foldM a) x hb]
  cases hy : findM b x with
  | none => rw [find_self ha]; cases findM a x <;> rfl
  | some y =>
    have hk := (find_mem hy).2
    show some ((findM (foldM a) y).elim y (comb y)) = _
    rw [find_self ha, ← find_congr hk]
    cases hp : findM a x with
    | none => rfl
    | some p =>
      show some (comb y p) = some (comb p y)
      rw [comb_comm (sameK_trans (sameK_symm hk) (find_mem hp).2)]
theorem sorted_mrg {a b D : List Mt} (ca : chk a = 0) (cb : chk b = 0) (hp : D.Perm (foldM (a ++ b))) (ho : InOrd D) : D = mrg a b := by
  have sa := chk_so ca
  have sb := chk_so cb
  have hdk : DK (foldM (a ++ b)) := dk_fold _ _ List.Pairwise.nil
  have hD : DK D := hdk.perm hp.symm fun {x y} e => by
    cases e2 : sameK y x with
    | false => rfl
    | true => rw [sameK_symm e2] at e; cases e
  exact so_ext (so_of ho hD) (so_mrg a b sa sb) fun x => by rw [find_perm hp hD, find_both sa.dk sb.dk, find_mrg a b x sa sb]
theorem goodN_of {a b : List Mt} (ca : chk a = 0) (cb : chk b = 0) : GoodN (a ++ b) := by
  have da := (chk_so ca).dk
  have db := (chk_so cb).dk
  intro k hk old ho
  have hget := List.getElem_mem hk
  have hr : rngB (a ++ b)[k] = true := by
    rcases List.mem_append.1 hget with h | h
    · exact chk_rng ca _ h
    · exact chk_rng cb _ h
  refine ⟨?_, hr⟩
  by_cases hka : k < a.length
  · exfalso
    have e1 : (a ++ b).take k = a.take k := by rw [List.take_append_of_le_length (by omega)]
    have e2 : (a ++ b)[k] = a[k] := List.getElem_append_left hka
    rw [e1, e2, find_self (da.sublist (List.take_sublist _ _))] at ho
    obtain ⟨hm, hs⟩ := find_mem ho
    obtain ⟨j, hj, rfl⟩ := List.getElem_of_mem hm
    rw [List.getElem_take] at hs
    have hj' : j < k := by simp at hj; omega
    have := List.pairwise_iff_getElem.1 da j k (by omega) hka hj'
    rw [sameK_symm hs] at this
    cases this
  · have hkb : k - a.length < b.length := by rw [List.length_append] at hk; omega
    have e1 : (a ++ b).take k = a ++ b.take (k - a.length) := by rw [List.take_append, List.take_of_length_le (by omega)]
    have e2 : (a ++ b)[k] = b[k - a.length] := List.getElem_append_right (by omega)
    rw [e1, e2, find_both da (db.sublist (List.take_sublist _ _))] at ho
    have hn : findM (b.take (k - a.length)) b[k - a.length] = none := find_none.2 fun y hy => by
      obtain ⟨j, hj, rfl⟩ := List.getElem_of_mem hy
      rw [List.getElem_take]
      have hj' : j < k - a.length := by simp at hj; omega
      have := List.pairwise_iff_getElem.1 db j (k - a.length) (by omega) hkb hj'
      cases e : sameK b[k - a.length] b[j] with
      | false => rfl
      | true => rw [sameK_symm e] at this; cases this
    rw [hn] at ho
    cases hp : findM a b[k - a.length] with
    | none => rw [hp] at ho; cases ho
    | some p =>
      rw [hp] at ho
      cases ho
      exact chk_rng ca _ (find_mem hp).1
end Go.Proofs.Seat7
end
section
namespace Go.Proofs.Seat7
open Go.RowKit Go.Proofs.Seat4
theorem great_len {l : List Mt} (h : greatM l = false) (hl : l.length ≤ 500) : l.length ≤ 40 := by
  unfold greatM at h
  simp only [Bool.or_eq_false_iff, Bool.and_eq_false_iff, decide_eq_false_iff_not] at h
  omega
theorem merge_both {a b : List Mt} {w w1 w2 : World} {e1 e2 : Ending} (h1 : MPost a b w e1 w1) (h2 : RPost a b w1 e2 w2) :
    ∃ v v' n l, e1 = .returned (.tuple #[v, .int .i64 n]) ∧ e2 = .returned (.tuple #[v', .int .i64 n]) ∧ LV ME w1 v l ∧ LV ME w2 v' l ∧ l.length ≤ 100000 ∧ Below w.heap.size w w1 ∧ Below w1.heap.size w1 w2 := by
  obtain ⟨hb1, h1⟩ := h1
  obtain ⟨hb2, v', h2⟩ := h2
  by_cases hc : chk a = 0 ∧ chk b = 0
  · rw [if_pos hc] at h1 h2
    obtain ⟨D, p1, p2, h1⟩ := h1
    obtain rfl := sorted_mrg hc.1 hc.2 p1 p2
    by_cases ho : (mrg a b).any overM = true
    · rw [if_pos ho] at h1 h2
      exact ⟨_, v', 14, [], h1, h2.1, LV.nil_ _ _ _ _, h2.2, by simp, hb1, hb2⟩
    · rw [if_neg ho] at h1 h2
      obtain ⟨v, h1, hown⟩ := h1
      refine ⟨v, v', 0, mrg a b, h1, h2.1, lv_own hown, h2.2, ?_, hb1, hb2⟩
      rw [p1.length_eq]
      have := foldM_len (a ++ b)
      rw [List.length_append] at this
      have := chk_len hc.1
      have := chk_len hc.2
      omega
  · rw [if_neg hc] at h1 h2
    exact ⟨_, v', 1, [], h1, h2.1, LV.nil_ _ _ _ _, h2.2, by simp, hb1, hb2⟩
theorem mpost_form {a b : List Mt} {w w1 : World} {e : Ending} (h : MPost a b w e w1) : ∃ v n, e = .returned (.tuple #[v, .int .i64 n]) := by
  obtain ⟨_, h⟩ := h
  split at h
  · obtain ⟨D, _, _, h⟩ := h
    split at h
    · exact ⟨_, _, h⟩
    · obtain ⟨v, h, _⟩ := h
      exact ⟨_, _, h⟩
  · exact ⟨_, _, h⟩
theorem rpost_form {a b : List Mt} {w w1 : World} {e : Ending} (h : RPost a b w e w1) : ∃ v n, e = .returned (.tuple #[v, .int .i64 n]) := by
  obtain ⟨_, v, h⟩ := h
  split at h
  · split at h
    · exact ⟨_, _, h.1⟩
    · exact ⟨_, _, h.1⟩
  · exact ⟨_, _, h.1⟩
set_option maxRecDepth 100000 in
set_option maxHeartbeats 1000000 in
theorem metricsMerge3 (a b : List Mt) (va vb : Value) (w : World) (ha : LV ME w va a) (hb : LV ME w vb b) (hna : NilOk va) (hnb : NilOk vb) :
    Calls Tryz.prog 3 #[va, vb] w fun e w' => e = .returned (.bool true) ∧ Below w.heap.size w w' := by
  have Hga := Lib.hid (great5 a va w ha)
  have Hgb := Lib.hid (fun w1 (h1 : Below w.heap.size w w1) => great5 b vb w1 (hb.below h1))
  have Haw := Lib.hid AvT.anchor
  cases hqa : greatM a with
  | true =>
    rw [hqa] at Hga
    go_enter Tryz.func3, Tryz.ntmps3
    go_wp2_with (first | (go_at_call 5; with_reducible refine Calls.mono Hga.out ?_; rintro e w1 ⟨rfl, hb1⟩) | (go_at_call 6; refine (Haw.out _).mono ?_; rintro e w2 ⟨rfl, hb2⟩))
    go_ret
    exact ⟨rfl, hb1.trans (below_mono hb2 hb1.size)⟩
  | false =>
    cases hqb : greatM b with
    | true =>
      rw [hqa] at Hga
      rw [hqb] at Hgb
      go_enter Tryz.func3, Tryz.ntmps3
      go_wp2_with (first | (go_at_call 5; first | (with_reducible refine Calls.mono Hga.out ?_; rintro e w1 ⟨rfl, hb1⟩) | (with_reducible refine Calls.mono (Hgb.out _ hb1) ?_; rintro e w2 ⟨rfl, hb2⟩)) | (go_at_call 6; refine (Haw.out _).mono ?_; rintro e w3 ⟨rfl, hb3⟩))
      go_ret
      have h12 := hb1.trans (below_mono hb2 hb1.size)
      exact ⟨rfl, h12.trans (below_mono hb3 h12.size)⟩
    | false =>
      have hlen : chk a = 0 → chk b = 0 → a.length + b.length ≤ 500 := fun ca cb => by
        have := great_len hqa (chk_len ca)
        have := great_len hqb (chk_len cb)
        omega
      rw [hqa] at Hga
      rw [hqb] at Hgb
      have Hm := Lib.hid (fun w1 (h1 : Below w.heap.size w w1) => merge7 a b va vb w1 (ha.below h1) (hb.below h1) hna hnb hlen fun ca cb => goodN_of ca cb)
      have Hr := Lib.hid (fun w1 (h1 : Below w.heap.size w w1) => rmerge8 a b va vb w1 (ha.below h1) (hb.below h1) hlen)
      clear hlen ha hb hna hnb
      go_enter Tryz.func3, Tryz.ntmps3
      go_upto_region 3 with (go_at_call 5; first | (with_reducible refine Calls.mono Hga.out ?_; rintro e w1 ⟨rfl, hb1⟩) | (with_reducible refine Calls.mono (Hgb.out _ hb1) ?_; rintro e w2 ⟨rfl, hb2⟩))
      have h12 := hb1.trans (below_mono hb2 hb1.size)
      go_upto_region 5 with (first | (go_at_call 7; refine (Hm.out _ h12).mono ?_; intro e w3 hmp; obtain ⟨v, n, rfl⟩ := mpost_form hmp; have h13 := h12.trans (below_mono hmp.1 h12.size)) | (go_at_call 8; refine (Hr.out _ h13).mono ?_; intro e w4 hrp; obtain ⟨v', n', rfl⟩ := rpost_form hrp))
      obtain ⟨u, u', q, l, e1, e2, l1, l2, hl, hb4, hb5⟩ := merge_both hmp hrp
      injection e1 with e1
      injection e1 with e1
      injection e2 with e2
      injection e2 with e2
      obtain ⟨rfl, rfl⟩ : v = u ∧ n = q := by simpa using e1
      obtain ⟨rfl, rfl⟩ : v' = u' ∧ n' = n := by simpa using e2
      have Hs := Lib.hid (same9 l l v v' w4 (l1.below hb5) l2 hl)
      have h14 := h13.trans (below_mono hb5 h13.size)
      have H14 := Lib.hid h14
      clear hmp hrp e1 e2 l1 l2 hb4 hb5 h14
      simp only [decide_true] at Hs
      go_wp2_with (first | (go_at_call 9; refine Hs.out.mono ?_; rintro e w5 ⟨rfl, hb6⟩) | (go_at_call 6; refine (Haw.out _).mono ?_; rintro e w6 ⟨rfl, hb7⟩))
      go_ret
      have h15 := H14.out.trans (below_mono hb6 H14.out.size)
      exact ⟨rfl, h15.trans (below_mono hb7 h15.size)⟩
end Go.Proofs.Seat7
end

/- A part of the proof. -/
import Derived.Test.YtfekipocjifehaaGreatDoorPat
import Derived.Test.YtfekipocjifehaaGreatDoorPau
import Derived.Test.YtfekipocjifehaaGreatDoorPas
import Derived.Test.YtfekipocjifehaaGreatDoorPbc
set_option linter.all false
section
namespace Go.Proofs.Seat7
open Go.RowKit Go.Proofs.Seat4
theorem sameK_self (x : Mt) : sameK x x = true := (sameK_iff x x).2 ⟨rfl, rfl⟩
theorem sameK_symm {x y : Mt} (h : sameK x y = true) : sameK y x = true := by rw [sameK_iff] at *; exact ⟨h.1.symm, h.2.symm⟩
theorem sameK_trans {x y z : Mt} (h : sameK x y = true) (k : sameK y z = true) : sameK x z = true := by rw [sameK_iff] at *; exact ⟨h.1.trans k.1, h.2.trans k.2⟩
theorem sameK_congr {x y z : Mt} (h : sameK x y = true) : sameK x z = sameK y z := by
  rw [Bool.eq_iff_iff]
  exact ⟨fun k => sameK_trans (sameK_symm h) k, fun k => sameK_trans h k⟩
theorem Kl_ne {x y : Mt} (h : Kl x y) : sameK x y = false := by
  cases e : sameK x y with
  | false => rfl
  | true =>
    obtain ⟨h1, h2⟩ := (sameK_iff x y).1 e
    rcases h with h | ⟨_, h⟩
    · rw [h1, bl_irr] at h; cases h
    · omega
theorem find_congr {d : List Mt} {x y : Mt} (h : sameK x y = true) : findM d x = findM d y := by
  induction d with
  | nil => rfl
  | cons z r ih => unfold findM; rw [sameK_congr h, ih]
theorem find_mem : ∀ {d : List Mt} {x y : Mt}, findM d x = some y → y ∈ d ∧ sameK x y = true
  | z :: r, x, y, h => by
    unfold findM at h
    split at h
    · cases h; exact ⟨by simp, ‹_›⟩
    · obtain ⟨h1, h2⟩ := find_mem h
      exact ⟨List.mem_cons_of_mem _ h1, h2⟩
def DK (d : List Mt) : Prop := d.Pairwise fun x y => sameK x y = false
theorem find_none {d : List Mt} {x : Mt} : findM d x = none ↔ ∀ y ∈ d, sameK x y = false := by
  induction d with
  | nil => simp [findM]
  | cons z r ih =>
    unfold findM
    cases h : sameK x z with
    | true => simp [h]
    | false => simp [h, ih]
theorem find_of {d : List Mt} (hd : DK d) {y : Mt} (hy : y ∈ d) : findM d y = some y := by
  induction d with
  | nil => cases hy
  | cons z r ih =>
    unfold findM
    rcases List.mem_cons.1 hy with rfl | hy
    · rw [if_pos (sameK_self _)]
    · have h1 := (List.pairwise_cons.1 hd).1 y hy
      have : ¬ sameK y z = true := fun e => by rw [sameK_symm e] at h1; cases h1
      rw [if_neg this]
      exact ih (List.pairwise_cons.1 hd).2 hy
theorem find_put : ∀ (d : List Mt) (x y : Mt), findM (putM d y) x = if sameK x y = true then some y else findM d x
  | [], x, y => by simp [putM, findM]
  | z :: r, x, y => by
    unfold putM
    by_cases h : sameK y z = true
    · rw [if_pos h]
      by_cases hx : sameK x y = true
      · simp [findM, hx]
      · have : ¬ sameK x z = true := fun e => hx (sameK_trans e (sameK_symm h))
        simp [findM, hx, this]
    · rw [if_neg h]
      by_cases hz : sameK x z = true
      · have : ¬ sameK x y = true := fun e => h (sameK_trans (sameK_symm e) hz)
        simp [findM, hz, this]
      · simp [findM, hz, find_put r x y]
theorem mem_put : ∀ {d : List Mt} {y z : Mt}, z ∈ putM d y → z = y ∨ z ∈ d
  | [], y, z, h => by simp [putM] at h; exact .inl h
  | u :: r, y, z, h => by
    unfold putM at h
    split at h
    · rcases List.mem_cons.1 h with h | h
      · exact .inl h
      · exact .inr (List.mem_cons_of_mem _ h)
    · rcases List.mem_cons.1 h with h | h
      · exact .inr (by simp [h])
      · exact (mem_put h).imp id (List.mem_cons_of_mem _)
theorem dk_put : ∀ {d : List Mt} (y : Mt), DK d → DK (putM d y)
  | [], y, _ => List.pairwise_singleton _ _
  | z :: r, y, h => by
    have h1 := List.pairwise_cons.1 h
    unfold putM
    by_cases hk : sameK y z = true
    · rw [if_pos hk]
      exact List.pairwise_cons.2 ⟨fun u hu => by rw [sameK_congr hk]; exact h1.1 u hu, h1.2⟩
    · rw [if_neg hk]
      refine List.pairwise_cons.2 ⟨fun u hu => ?_, dk_put y h1.2⟩
      rcases mem_put hu with rfl | hu
      · cases e : sameK z u with
        | false => rfl
        | true => exact absurd (sameK_symm e) hk
      · exact h1.1 u hu
theorem dk_fold : ∀ (l d : List Mt), DK d → DK (l.foldl addM d)
  | [], d, h => h
  | x :: r, d, h => dk_fold r _ (dk_put _ h)
theorem sameK_add {d : List Mt} {x y : Mt} : sameK x (addV d y) = sameK x y := by
  unfold addV
  cases findM d y with
  | none => rfl
  | some z => rfl
theorem find_fold : ∀ (l d : List Mt) (x : Mt), DK l → findM (l.foldl addM d) x = match findM l x with | some y => some ((findM d y).elim y (comb y)) | none => findM d x
  | [], d, x, _ => rfl
  | y :: r, d, x, h => by
    have h1 := List.pairwise_cons.1 h
    show findM (r.foldl addM (addM d y)) x = _
    rw [find_fold r (addM d y) x h1.2]
    have hf : ∀ z, findM (addM d y) z = if sameK z y = true then some (addV d y) else findM d z := fun z => by
      unfold addM
      rw [find_put, sameK_add]
    by_cases hx : sameK x y = true
    · have hn : findM r x = none := find_none.2 fun u hu => by
        rw [sameK_congr hx]; exact h1.1 u hu
      rw [hn]
      show findM (addM d y) x = _
      rw [hf, if_pos hx]
      have : findM (y :: r) x = some y := by unfold findM; rw [if_pos hx]
      rw [this]
      rfl
    · have : findM (y :: r) x = findM r x := by conv => lhs; unfold findM; rw [if_neg hx]
      rw [this]
      cases hr : findM r x with
      | none => show findM (addM d y) x = findM d x; rw [hf, if_neg hx]
      | some z =>
        obtain ⟨hz, hxz⟩ := find_mem hr
        have : ¬ sameK z y = true := fun e => hx (sameK_trans hxz e)
        show some ((findM (addM d y) z).elim z (comb z)) = _
        rw [hf, if_neg this]
end Go.Proofs.Seat7
end
section
namespace Go.Proofs.Seat7
open Go.RowKit Go.Proofs.Seat4
def SO (l : List Mt) : Prop := l.Pairwise Kl
theorem SO.dk {l : List Mt} (h : SO l) : DK l := h.imp fun {x y} h => Kl_ne h
theorem chkR_ord (l : List Mt) : ∀ (r : List Mt) (i : Nat), l.drop i = r → chkR l r i = 0 → ∀ j (h : j < l.length), i ≤ j → 0 < j → Kl (l[j - 1]'(by omega)) l[j]
  | [], i, hd, _, j, h, hij, _ => by
    have := List.drop_eq_nil_iff.1 hd
    omega
  | m :: r, i, hd, hc, j, h, hij, hj => by
    have hi : i < l.length := by
      apply Classical.byContradiction
      intro hn
      rw [List.drop_eq_nil_of_le (by omega)] at hd
      cases hd
    rw [List.drop_eq_getElem_cons hi] at hd
    injection hd with e1 e2
    unfold chkR at hc
    by_cases h1 : chk1 l i m = 0
    · rw [if_pos h1] at hc
      rcases Nat.lt_or_ge i j with hlt | hge
      · exact chkR_ord l r (i + 1) e2 hc j h hlt hj
      · have e3 : i = j := by omega
        subst e3
        unfold chk1 at h1
        split at h1
        · cases h1
        · split at h1
          · cases h1
          · split at h1
            · cases h1
            · rename_i h9
              have h10 : l.getD (i - 1) default = l[i - 1]'(by omega) := by simp [List.getD_eq_getElem?_getD, show i - 1 < l.length from by omega]
              rw [h10] at h9
              rw [e1]
              refine (cfM_neg _ _).1 (Int.not_le.1 fun h => h9 ⟨hj, h⟩)
    · rw [if_neg h1] at hc
      exact absurd hc h1
theorem so_of_adj : ∀ {l : List Mt}, (∀ j (h : j + 1 < l.length), Kl (l[j]'(by omega)) l[j + 1]) → SO l
  | [], _ => List.Pairwise.nil
  | [x], _ => List.pairwise_singleton _ _
  | x :: y :: r, h => by
    have ih : SO (y :: r) := so_of_adj fun j hj => h (j + 1) (by simpa using hj)
    have h0 : Kl x y := h 0 (by simp)
    refine List.pairwise_cons.2 ⟨fun z hz => ?_, ih⟩
    rcases List.mem_cons.1 hz with rfl | hz
    · exact h0
    · exact Kl.trans h0 ((List.pairwise_cons.1 ih).1 z hz)
theorem chk_so {l : List Mt} (h : chk l = 0) : SO l := by
  unfold chk at h
  split at h
  · cases h
  · refine so_of_adj fun j hj => ?_
    have := chkR_ord l l 0 rfl h (j + 1) hj (Nat.zero_le _) (Nat.succ_pos _)
    simpa using this
theorem so_ext {l l' : List Mt} (h : SO l) (h' : SO l') (he : ∀ x, findM l x = findM l' x) : l = l' := by
  have hmem : ∀ x, x ∈ l ↔ x ∈ l' := fun x => by
    constructor
    · intro hx
      have := find_of h.dk hx
      rw [he] at this
      exact (find_mem this).1
    · intro hx
      have := find_of h'.dk hx
      rw [← he] at this
      exact (find_mem this).1
  have hnd : ∀ {d : List Mt}, SO d → d.Nodup := fun {d} hd => hd.imp fun {x y} hxy e => by subst e; exact Kl.irr _ hxy
  have hp : l.Perm l' := (List.perm_ext_iff_of_nodup (hnd h) (hnd h')).2 hmem
  refine List.Perm.eq_of_pairwise (le := Kl) (fun a b _ _ h3 h4 => absurd (Kl.trans h3 h4) (Kl.irr _)) h h' hp
end Go.Proofs.Seat7
end
section
namespace Go.Proofs.Seat7
open Go.RowKit Go.Proofs.Seat4
def cmbO : Option Mt → Option Mt → Option Mt
  | some p, some q => some (comb p q)
  | some p, none => some p
  | none, o => o
theorem comb_same (x y : Mt) (z : Mt) : sameK (comb x y) z = sameK x z := rfl
theorem Kl_or {x y : Mt} (h1 : lessM x y = false) (h2 : lessM y x = false) : sameK x y = true := by
  have g1 : ¬ Kl x y := fun h => by rw [(lessM_iff x y).2 h] at h1; cases h1
  have g2 : ¬ Kl y x := fun h => by rw [(lessM_iff y x).2 h] at h2; cases h2
  have n1 : cfM x y = 0 := by
    have a1 : ¬ cfM x y < 0 := fun h => g1 ((cfM_neg x y).1 h)
    have a2 : ¬ cfM y x < 0 := fun h => g2 ((cfM_neg y x).1 h)
    have e1 : x.name = y.name := by
      refine bl_eq ?_ ?_
      · cases h : Op.bytesLess x.name y.name with
        | false => rfl
        | true => exact absurd (.inl h) g1
      · cases h : Op.bytesLess y.name x.name with
        | false => rfl
        | true => exact absurd (.inl h) g2
    have e2 : x.index = y.index := by
      have b1 : ¬ x.index < y.index := fun h => g1 (.inr ⟨e1, h⟩)
      have b2 : ¬ y.index < x.index := fun h => g2 (.inr ⟨e1.symm, h⟩)
      omega
    unfold cfM
    rw [(cfS_zero _ _).2 e1]
    unfold orI cfI
    simp [e2]
  unfold cfM orI at n1
  split at n1
  · rename_i h
    have e1 := (cfS_zero _ _).1 h
    refine (sameK_iff x y).2 ⟨e1, ?_⟩
    have b1 : ¬ x.index < y.index := fun h => g1 (.inr ⟨e1, h⟩)
    have b2 : ¬ y.index < x.index := fun h => g2 (.inr ⟨e1.symm, h⟩)
    omega
  · rename_i h
    exact absurd n1 h
theorem find_lt {l : List Mt} {x z : Mt} (h : ∀ y ∈ l, Kl z y) (hk : sameK x z = true) : findM l x = none := find_none.2 fun y hy => by
  rw [sameK_congr hk]
  exact Kl_ne (h y hy)
theorem find_mrg : ∀ (a b : List Mt) (x : Mt), SO a → SO b → findM (mrg a b) x = cmbO (findM a x) (findM b x)
  | [], b, x, _, _ => by simp [mrg, findM, cmbO]
  | y :: a, [], x, _, _ => by
    rw [mrg_nil]
    cases findM (y :: a) x <;> simp [findM, cmbO]
  | y :: a, z :: b, x, ha, hb => by
    have ha1 := List.pairwise_cons.1 ha
    have hb1 := List.pairwise_cons.1 hb
    rw [mrg]
    by_cases h1 : lessM y z = true
    · rw [if_pos h1]
      have hk := (lessM_iff y z).1 h1
      have ih := find_mrg a (z :: b) x ha1.2 hb
      by_cases hx : sameK x y = true
      · have hn : findM (z :: b) x = none := find_lt (z := y) (fun u hu => by
          rcases List.mem_cons.1 hu with rfl | hu
          · exact hk
          · exact Kl.trans hk (hb1.1 u hu)) hx
        rw [hn]
        simp [findM, hx, cmbO]
      · have e1 : findM (y :: mrg a (z :: b)) x = findM (mrg a (z :: b)) x := by conv => lhs; unfold findM; rw [if_neg hx]
        have e2 : findM (y :: a) x = findM a x := by conv => lhs; unfold findM; rw [if_neg hx]
        rw [e1, e2, ih]
    · rw [if_neg h1]
      by_cases h2 : lessM z y = true
      · rw [if_pos h2]
        have hk := (lessM_iff z y).1 h2
        have ih := find_mrg (y :: a) b x ha hb1.2
        by_cases hx : sameK x z = true
        · have hn : findM (y :: a) x = none := find_lt (z := z) (fun u hu => by
            rcases List.mem_cons.1 hu with rfl | hu
            · exact hk
            · exact Kl.trans hk (ha1.1 u hu)) hx
          rw [hn]
          simp [findM, hx, cmbO]
        · have e1 : findM (z :: mrg (y :: a) b) x = findM (mrg (y :: a) b) x := by conv => lhs; unfold findM; rw [if_neg hx]
          have e2 : findM (z :: b) x = findM b x := by conv => lhs; unfold findM; rw [if_neg hx]
          rw [e1, e2, ih]
      · rw [if_neg h2]
        have hs := Kl_or (x := y) (y := z) (by simpa using h1) (by simpa using h2)
        have ih := find_mrg a b x ha1.2 hb1.2
        by_cases hx : sameK x y = true
        · have hx2 := sameK_trans hx hs
          have e1 : findM (comb y z :: mrg a b) x = some (comb y z) := by
            unfold findM
            rw [if_pos (show sameK x (comb y z) = true from hx)]
          rw [e1]
          simp [findM, hx, hx2, cmbO]
        · have hx2 : ¬ sameK x z = true := fun e => hx (sameK_trans e (sameK_symm hs))
          have e1 : findM (comb y z :: mrg a b) x = findM (mrg a b) x := by
            conv => lhs; unfold findM; rw [if_neg (show ¬ sameK x (comb y z) = true from hx)]
          have e2 : findM (y :: a) x = findM a x := by conv => lhs; unfold findM; rw [if_neg hx]
          have e3 : findM (z :: b) x = findM b x := by conv => lhs; unfold findM; rw [if_neg hx2]
          rw [e1, e2, e3, ih]
termination_by a b => a.length + b.length
end Go.Proofs.Seat7
end
section
namespace Go.Proofs.Seat7
open Go.RowKit Go.Proofs.Seat4
theorem Kl_congr_l {x x' y : Mt} (h : sameK x x' = true) (hk : Kl x y) : Kl x' y := by
  obtain ⟨h1, h2⟩ := (sameK_iff x x').1 h
  unfold Kl at *
  rw [← h1, ← h2]
  exact hk
theorem Kl_congr_r {x y y' : Mt} (h : sameK y y' = true) (hk : Kl x y) : Kl x y' := by
  obtain ⟨h1, h2⟩ := (sameK_iff y y').1 h
  unfold Kl at *
  rw [← h1, ← h2]
  exact hk
theorem mrg_ahead : ∀ (a b : List Mt) (w : Mt), (∀ y ∈ a, Kl w y) → (∀ y ∈ b, Kl w y) → ∀ y ∈ mrg a b, Kl w y
  | [], b, w, _, hb => by simpa [mrg] using hb
  | y :: a, [], w, ha, _ => by rw [mrg_nil]; exact ha
  | y :: a, z :: b, w, ha, hb => by
    have hy := ha y (by simp)
    have hz := hb z (by simp)
    rw [mrg]
    split
    · intro u hu
      rcases List.mem_cons.1 hu with rfl | hu
      · exact hy
      · exact mrg_ahead a (z :: b) w (fun v hv => ha v (List.mem_cons_of_mem _ hv)) hb u hu
    · split
      · intro u hu
        rcases List.mem_cons.1 hu with rfl | hu
        · exact hz
        · exact mrg_ahead (y :: a) b w ha (fun v hv => hb v (List.mem_cons_of_mem _ hv)) u hu
      · intro u hu
        rcases List.mem_cons.1 hu with rfl | hu
        · exact Kl_congr_r (y := y) (y' := comb y z) (sameK_self y) hy
        · exact mrg_ahead a b w (fun v hv => ha v (List.mem_cons_of_mem _ hv)) (fun v hv => hb v (List.mem_cons_of_mem _ hv)) u hu
termination_by a b => a.length + b.length
theorem so_mrg : ∀ (a b : List Mt), SO a → SO b → SO (mrg a b)
  | [], b, _, hb => by simpa [mrg] using hb
  | y :: a, [], ha, _ => by rw [mrg_nil]; exact ha
  | y :: a, z :: b, ha, hb => by
    have ha1 := List.pairwise_cons.1 ha
    have hb1 := List.pairwise_cons.1 hb
    rw [mrg]
    by_cases h1 : lessM y z = true
    · rw [if_pos h1]
      have hk := (lessM_iff y z).1 h1
      refine List.pairwise_cons.2 ⟨mrg_ahead a (z :: b) y ha1.1 (fun u hu => ?_), so_mrg a (z :: b) ha1.2 hb⟩
      rcases List.mem_cons.1 hu with rfl | hu
      · exact hk
      · exact Kl.trans hk (hb1.1 u hu)
    · rw [if_neg h1]
      by_cases h2 : lessM z y = true
      · rw [if_pos h2]
        have hk := (lessM_iff z y).1 h2
        refine List.pairwise_cons.2 ⟨mrg_ahead (y :: a) b z (fun u hu => ?_) hb1.1, so_mrg (y :: a) b ha hb1.2⟩
        rcases List.mem_cons.1 hu with rfl | hu
        · exact hk
        · exact Kl.trans hk (ha1.1 u hu)
      · rw [if_neg h2]
        have hs := Kl_or (x := y) (y := z) (by simpa using h1) (by simpa using h2)
        refine List.pairwise_cons.2 ⟨mrg_ahead a b (comb y z) (fun u hu => Kl_congr_l (x := y) (x' := comb y z) (sameK_self y) (ha1.1 u hu)) (fun u hu => Kl_congr_l (x := z) (x' := comb y z) (sameK_symm hs) (hb1.1 u hu)), so_mrg a b ha1.2 hb1.2⟩
termination_by a b => a.length + b.length
theorem Kl_tri {x y : Mt} (h : sameK x y = false) (h2 : ¬ Kl y x) : Kl x y := by
  apply Classical.byContradiction
  intro h1
  have := Kl_or (x := x) (y := y) (by cases e : lessM x y with | false => rfl | true => exact absurd ((lessM_iff x y).1 e) h1) (by cases e : lessM y x with | false => rfl | true => exact absurd ((lessM_iff y x).1 e) h2)
  rw [this] at h
  cases h
theorem so_of {D : List Mt} (h : InOrd D) (hd : DK D) : SO D := (h.and hd).imp fun {x y} h => Kl_tri h.2 h.1
theorem find_perm {d d' : List Mt} (h : d.Perm d') (hd : DK d) (x : Mt) : findM d x = findM d' x := by
  have hd' : DK d' := hd.perm h fun {x y} e => by
    cases e2 : sameK y x with
    | false => rfl
    | true => rw [sameK_symm e2] at e; cases e
  cases e : findM d x with
  | none =>
    have := find_none.1 e
    exact (find_none.2 fun y hy => this y (h.mem_iff.2 hy)).symm
  | some y =>
    obtain ⟨hy, hk⟩ := find_mem e
    have := find_of hd' (h.mem_iff.1 hy)
    rw [find_congr hk, this]
theorem find_self {a : List Mt} (ha : DK a) (x : Mt) : findM (foldM a) x = findM a x := by
  unfold foldM
  rw [find_fold a [] x ha]
  cases findM a x <;> rfl
theorem comb_comm {x y : Mt} (h : sameK x y = true) : comb x y = comb y x := by
  obtain ⟨h1, h2⟩ := (sameK_iff x y).1 h
  simp only [comb, h1, h2, Int.add_comm, Int.max_comm]
theorem find_both {a b : List Mt} (ha : DK a) (hb : DK b) (x : Mt) : findM (foldM (a ++ b)) x = cmbO (findM a x) (findM b x) := by
  have h : foldM (a ++ b) = b.foldl addM (foldM a) := by unfold foldM; rw [List.foldl_append]
  rw [h, find_fold b (foldM a) x hb]
  cases hy : findM b x with
  | none => rw [find_self ha]; cases findM a x <;> rfl
  | some y =>
    have hk := (find_mem hy).2
    show some ((findM (foldM a) y).elim y (comb y)) = _
    rw [find_self ha, ← find_congr hk]
    cases hp : findM a x with
    | none => rfl
    | some p =>
      show some (comb y p) = some (comb p y)
      rw [comb_comm (sameK_trans (sameK_symm hk) (find_mem hp).2)]
theorem sorted_mrg {a b D : List Mt} (ca : chk a = 0) (cb : chk b = 0) (hp : D.Perm (foldM (a ++ b))) (ho : InOrd D) : D = mrg a b := by
  have sa := chk_so ca
  have sb := chk_so cb
  have hdk : DK (foldM (a ++ b)) := dk_fold _ _ List.Pairwise.nil
  have hD : DK D := hdk.perm hp.symm fun {x y} e => by
    cases e2 : sameK y x with
    | false => rfl
    | true => rw [sameK_symm e2] at e; cases e
  exact so_ext (so_of ho hD) (so_mrg a b sa sb) fun x => by rw [find_perm hp hD, find_both sa.dk sb.dk, find_mrg a b x sa sb]
theorem goodN_of {a b : List Mt} (ca : chk a = 0) (cb : chk b = 0) : GoodN (a ++ b) := by
  have da := (chk_so ca).dk
  have db := (chk_so cb).dk
  intro k hk old ho
  have hget := List.getElem_mem hk
  have hr : rngB (a ++ b)[k] = true := by
    rcases List.mem_append.1 hget with h | h
    · exact chk_rng ca _ h
    · exact chk_rng cb _ h
  refine ⟨?_, hr⟩
  by_cases hka : k < a.length
  · exfalso
    have e1 : (a ++ b).take k = a.take k := by rw [List.take_append_of_le_length (by omega)]
    have e2 : (a ++ b)[k] = a[k] := List.getElem_append_left hka
    rw [e1, e2, find_self (da.sublist (List.take_sublist _ _))] at ho
    obtain ⟨hm, hs⟩ := find_mem ho
    obtain ⟨j, hj, rfl⟩ := List.getElem_of_mem hm
    rw [List.getElem_take] at hs
    have hj' : j < k := by simp at hj; omega
    have := List.pairwise_iff_getElem.1 da j k (by omega) hka hj'
    rw [sameK_symm hs] at this
    cases this
  · have hkb : k - a.length < b.length := by rw [List.length_append] at hk; omega
    have e1 : (a ++ b).take k = a ++ b.take (k - a.length) := by rw [List.take_append, List.take_of_length_le (by omega)]
    have e2 : (a ++ b)[k] = b[k - a.length] := List.getElem_append_right (by omega)
    rw [e1, e2, find_both da (db.sublist (List.take_sublist _ _))] at ho
    have hn : findM (b.take (k - a.length)) b[k - a.length] = none := find_none.2 fun y hy => by
      obtain ⟨j, hj, rfl⟩ := List.getElem_of_mem hy
      rw [List.getElem_take]
      have hj' : j < k - a.length := by simp at hj; omega
      have := List.pairwise_iff_getElem.1 db j (k - a.length) (by omega) hkb hj'
      cases e : sameK b[k - a.length] b[j] with
      | false => rfl
      | true => rw [sameK_symm e] at this; cases this
    rw [hn] at ho
    cases hp : findM a b[k - a.length] with
    | none => rw [hp] at ho; cases ho
    | some p =>
      rw [hp] at ho
      cases ho
      exact chk_rng ca _ (find_mem hp).1
end Go.Proofs.Seat7
end
section
namespace Go.Proofs.Seat7
open Go.RowKit Go.Proofs.Seat4
theorem mrg_comm {a b : List Mt} (ha : SO a) (hb : SO b) : mrg a b = mrg b a :=
  so_ext (so_mrg a b ha hb) (so_mrg b a hb ha) fun x => by
    rw [find_mrg a b x ha hb, find_mrg b a x hb ha]
    cases hp : findM a x with
    | none => cases findM b x <;> rfl
    | some p =>
      cases hq : findM b x with
      | none => rfl
      | some q => exact congrArg some (comb_comm (sameK_trans (sameK_symm (find_mem hp).2) (find_mem hq).2))
theorem comb_assoc (p q r : Mt) : comb (comb p q) r = comb p (comb q r) := by
  simp only [comb, Int.add_assoc, Int.max_assoc]
theorem mrg_assoc {a b c : List Mt} (ha : SO a) (hb : SO b) (hc : SO c) : mrg (mrg a b) c = mrg a (mrg b c) :=
  so_ext (so_mrg _ c (so_mrg a b ha hb) hc) (so_mrg a _ ha (so_mrg b c hb hc)) fun x => by
    rw [find_mrg _ c x (so_mrg a b ha hb) hc, find_mrg a b x ha hb, find_mrg a _ x ha (so_mrg b c hb hc), find_mrg b c x hb hc]
    cases findM a x <;> cases findM b x <;> cases findM c x <;> first | rfl | exact congrArg some (comb_assoc _ _ _)
theorem mrg_nil' (a : List Mt) : mrg [] a = a := by rw [mrg]
theorem mrg_len : ∀ (a b : List Mt), (mrg a b).length ≤ a.length + b.length
  | [], b => by rw [mrg_nil']; simp
  | y :: a, [] => by rw [mrg_nil]; simp
  | y :: a, z :: b => by
    rw [mrg]
    split
    · have := mrg_len a (z :: b)
      simp only [List.length_cons] at *
      omega
    · split
      · have := mrg_len (y :: a) b
        simp only [List.length_cons] at *
        omega
      · have := mrg_len a b
        simp only [List.length_cons] at *
        omega
termination_by a b => a.length + b.length
theorem mem_mrg {a b : List Mt} (ha : SO a) (hb : SO b) {y : Mt} (hy : y ∈ mrg a b) : y ∈ a ∨ y ∈ b ∨ ∃ p q, p ∈ a ∧ q ∈ b ∧ y = comb p q := by
  have h := find_of (so_mrg a b ha hb).dk hy
  rw [find_mrg a b y ha hb] at h
  cases hp : findM a y with
  | none =>
    cases hq : findM b y with
    | none => rw [hp, hq] at h; cases h
    | some q =>
      rw [hp, hq] at h
      cases h
      exact .inr (.inl (find_mem hq).1)
  | some p =>
    cases hq : findM b y with
    | none =>
      rw [hp, hq] at h
      cases h
      exact .inl (find_mem hp).1
    | some q =>
      rw [hp, hq] at h
      cases h
      exact .inr (.inr ⟨p, q, (find_mem hp).1, (find_mem hq).1, rfl⟩)
def one (m : Mt) : Prop := nmL.contains m.name = true ∧ rngB m = true
theorem chk1_one {l : List Mt} {i : Nat} {m : Mt} (h : chk1 l i m = 0) : one m := by
  unfold chk1 at h
  split at h
  · cases h
  · split at h
    · cases h
    · rename_i h1 h2
      exact ⟨by simpa using h1, by simpa using h2⟩
theorem chkR_one (l : List Mt) : ∀ (r : List Mt) (i : Nat), chkR l r i = 0 → ∀ m ∈ r, one m
  | [], _, _, m, hm => by cases hm
  | x :: r, i, h, m, hm => by
    unfold chkR at h
    by_cases h1 : chk1 l i x = 0
    · rw [if_pos h1] at h
      rcases List.mem_cons.1 hm with rfl | hm
      · exact chk1_one h1
      · exact chkR_one l r (i + 1) h m hm
    · rw [if_neg h1] at h
      exact absurd h h1
theorem chk_one {l : List Mt} (h : chk l = 0) : ∀ m ∈ l, one m := by
  have hl := chk_len h
  unfold chk at h
  rw [if_neg (by omega)] at h
  exact chkR_one l l 0 h
theorem chkR_of (l : List Mt) (ho : ∀ m ∈ l, one m) (hs : SO l) : ∀ (r : List Mt) (i : Nat), l.drop i = r → chkR l r i = 0
  | [], _, _ => rfl
  | x :: r, i, hd => by
    have hi : i < l.length := by
      apply Classical.byContradiction
      intro hn
      rw [List.drop_eq_nil_of_le (by omega)] at hd
      cases hd
    rw [List.drop_eq_getElem_cons hi] at hd
    injection hd with e1 e2
    have hx : one x := ho x (by rw [← e1]; exact List.getElem_mem hi)
    have h0 : chk1 l i x = 0 := by
      unfold chk1
      rw [if_neg (by rw [hx.1]; decide), if_neg (by rw [hx.2]; decide)]
      refine if_neg fun hh => ?_
      have hj := hh.1
      have h := hh.2
      clear hh
      have hi1 : i - 1 < l.length := by omega
      have h10 : l.getD (i - 1) default = l[i - 1] := by simp [List.getD_eq_getElem?_getD, hi1]
      rw [h10, ← e1] at h
      have hk : Kl l[i - 1] l[i] := List.pairwise_iff_getElem.1 hs (i - 1) i hi1 hi (by omega)
      have := (cfM_neg _ _).2 hk
      omega
    unfold chkR
    rw [if_pos h0]
    exact chkR_of l ho hs r (i + 1) e2
theorem chk_of {l : List Mt} (hl : l.length ≤ 500) (ho : ∀ m ∈ l, one m) (hs : SO l) : chk l = 0 := by
  unfold chk
  rw [if_neg (by omega)]
  exact chkR_of l ho hs l 0 rfl
theorem one_comb {p q : Mt} (hp : one p) (hq : one q) (ho : overM (comb p q) = false) : one (comb p q) := by
  obtain ⟨h1, h2⟩ := hp
  obtain ⟨_, h3⟩ := hq
  refine ⟨h1, ?_⟩
  have hn : ¬ (1099511627776 < (comb p q).count ∨ (comb p q).sum < -1152921504606846976 ∨ 1152921504606846976 < (comb p q).sum) := fun h => by rw [(overM_iff _).2 h] at ho; cases ho
  simp only [rngB, wi, Bool.and_eq_true, decide_eq_true_eq] at h2 h3 ⊢
  simp only [comb] at hn ⊢
  omega
def mgL (a b : List Mt) : List Mt := if (mrg a b).any overM = true then [] else mrg a b
def mgE (a b : List Mt) : Int := if (mrg a b).any overM = true then 14 else 0
theorem chk_nil : chk [] = 0 := by
  unfold chk
  rw [if_neg (by simp)]
  rfl
theorem mgL_len (a b : List Mt) : (mgL a b).length ≤ a.length + b.length := by
  unfold mgL
  split
  · simp
  · exact mrg_len a b
theorem chk_mg {a b : List Mt} (ca : chk a = 0) (cb : chk b = 0) (hl : a.length + b.length ≤ 500) : chk (mgL a b) = 0 := by
  unfold mgL
  split
  · exact chk_nil
  · rename_i h
    have sa := chk_so ca
    have sb := chk_so cb
    refine chk_of (Nat.le_trans (mrg_len a b) hl) (fun m hm => ?_) (so_mrg a b sa sb)
    have ho : overM m = false := by
      cases e : overM m with
      | false => rfl
      | true => exact absurd (List.any_eq_true.2 ⟨m, hm, e⟩) h
    rcases mem_mrg sa sb hm with h | h | ⟨p, q, hp, hq, rfl⟩
    · exact chk_one ca m h
    · exact chk_one cb m h
    · exact one_comb (chk_one ca p hp) (chk_one cb q hq) ho
theorem mgE_comm {a b : List Mt} (ca : chk a = 0) (cb : chk b = 0) : mgE a b = mgE b a := by
  unfold mgE
  rw [mrg_comm (chk_so ca) (chk_so cb)]
theorem mgL_comm {a b : List Mt} (ca : chk a = 0) (cb : chk b = 0) : mgL a b = mgL b a := by
  unfold mgL
  rw [mrg_comm (chk_so ca) (chk_so cb)]
theorem no_over {a : List Mt} (ca : chk a = 0) : a.any overM = false := by
  cases e : a.any overM with
  | false => rfl
  | true =>
    obtain ⟨m, hm, h⟩ := List.any_eq_true.1 e
    rw [rng_over (chk_rng ca m hm)] at h
    cases h
theorem mg_nil {a : List Mt} (ca : chk a = 0) : mgL [] a = a ∧ mgE [] a = 0 := by
  unfold mgL mgE
  rw [mrg_nil', no_over ca]
  exact ⟨rfl, rfl⟩
theorem mgE_zero {a b : List Mt} (h : mgE a b = 0) : mgL a b = mrg a b := by
  unfold mgE at h
  unfold mgL
  split at h
  · cases h
  · rename_i h1
    rw [if_neg h1]
theorem mgE_or (a b : List Mt) : mgE a b = 0 ∨ mgE a b = 14 := by
  unfold mgE
  split
  · exact .inr rfl
  · exact .inl rfl
theorem mg_assoc {a b c : List Mt} (ca : chk a = 0) (cb : chk b = 0) (cc : chk c = 0) (h1 : mgE a b = 0) (h2 : mgE b c = 0) (h3 : mgE (mgL a b) c = 0) (h4 : mgE a (mgL b c) = 0) : mgL (mgL a b) c = mgL a (mgL b c) := by
  rw [mgE_zero h3, mgE_zero h4, mgE_zero h1, mgE_zero h2]
  exact mrg_assoc (chk_so ca) (chk_so cb) (chk_so cc)
theorem nilOk_own {w : World} {base e size n : Nat} {xs : List Value} {v : Value} (h : w.ownsRow base e size v n xs) : NilOk v := by
  rcases h.2 with ⟨rfl, -⟩ | ⟨g, cap, cur, rfl, -⟩
  · intro n c e; cases e; rfl
  · intro n c e; cases e
theorem mpost_vals {a b : List Mt} {w w1 : World} {e : Ending} (ca : chk a = 0) (cb : chk b = 0) (h : MPost a b w e w1) :
    ∃ v, e = .returned (.tuple #[v, .int .i64 (mgE a b)]) ∧ LV ME w1 v (mgL a b) ∧ NilOk v ∧ Below w.heap.size w w1 := by
  obtain ⟨hb, h⟩ := h
  rw [if_pos ⟨ca, cb⟩] at h
  obtain ⟨D, p1, p2, h⟩ := h
  obtain rfl := sorted_mrg ca cb p1 p2
  unfold mgE mgL
  by_cases ho : (mrg a b).any overM = true
  · rw [if_pos ho] at h
    rw [if_pos ho, if_pos ho]
    exact ⟨_, h, LV.nil_ _ _ _ _, fun n c e => by cases e; rfl, hb⟩
  · rw [if_neg ho] at h
    rw [if_neg ho, if_neg ho]
    obtain ⟨v, h, hown⟩ := h
    exact ⟨v, h, lv_own hown, nilOk_own hown, hb⟩
end Go.Proofs.Seat7
end
section
namespace Go.Proofs.Seat7
open Go.RowKit Go.Proofs.Seat4
theorem great_len {l : List Mt} (h : greatM l = false) (hl : l.length ≤ 500) : l.length ≤ 40 := by
  unfold greatM at h
  simp only [Bool.or_eq_false_iff, Bool.and_eq_false_iff, decide_eq_false_iff_not] at h
  omega
theorem merge_both {a b : List Mt} {w w1 w2 : World} {e1 e2 : Ending} (h1 : MPost a b w e1 w1) (h2 : RPost a b w1 e2 w2) :
    ∃ v v' n l, e1 = .returned (.tuple #[v, .int .i64 n]) ∧ e2 = .returned (.tuple #[v', .int .i64 n]) ∧ LV ME w1 v l ∧ LV ME w2 v' l ∧ l.length ≤ 100000 ∧ Below w.heap.size w w1 ∧ Below w1.heap.size w1 w2 := by
  obtain ⟨hb1, h1⟩ := h1
  obtain ⟨hb2, v', h2⟩ := h2
  by_cases hc : chk a = 0 ∧ chk b = 0
  · rw [if_pos hc] at h1 h2
    obtain ⟨D, p1, p2, h1⟩ := h1
    obtain rfl := sorted_mrg hc.1 hc.2 p1 p2
    by_cases ho : (mrg a b).any overM = true
    · rw [if_pos ho] at h1 h2
      exact ⟨_, v', 14, [], h1, h2.1, LV.nil_ _ _ _ _, h2.2, by simp, hb1, hb2⟩
    · rw [if_neg ho] at h1 h2
      obtain ⟨v, h1, hown⟩ := h1
      refine ⟨v, v', 0, mrg a b, h1, h2.1, lv_own hown, h2.2, ?_, hb1, hb2⟩
      rw [p1.length_eq]
      have := foldM_len (a ++ b)
      rw [List.length_append] at this
      have := chk_len hc.1
      have := chk_len hc.2
      omega
  · rw [if_neg hc] at h1 h2
    exact ⟨_, v', 1, [], h1, h2.1, LV.nil_ _ _ _ _, h2.2, by simp, hb1, hb2⟩
theorem mpost_form {a b : List Mt} {w w1 : World} {e : Ending} (h : MPost a b w e w1) : ∃ v n, e = .returned (.tuple #[v, .int .i64 n]) := by
  obtain ⟨_, h⟩ := h
  split at h
  · obtain ⟨D, _, _, h⟩ := h
    split at h
    · exact ⟨_, _, h⟩
    · obtain ⟨v, h, _⟩ := h
      exact ⟨_, _, h⟩
  · exact ⟨_, _, h⟩
theorem rpost_form {a b : List Mt} {w w1 : World} {e : Ending} (h : RPost a b w e w1) : ∃ v n, e = .returned (.tuple #[v, .int .i64 n]) := by
  obtain ⟨_, v, h⟩ := h
  split at h
  · split at h
    · exact ⟨_, _, h.1⟩
    · exact ⟨_, _, h.1⟩
  · exact ⟨_, _, h.1⟩
set_option maxRecDepth 100000 in
set_option maxHeartbeats 1000000 in
theorem metricsMerge3 (a b : List Mt) (va vb : Value) (w : World) (ha : LV ME w va a) (hb : LV ME w vb b) (hna : NilOk va) (hnb : NilOk vb) :
    Calls Tryz.prog 3 #[va, vb] w fun e w' => e = .returned (.bool true) ∧ Below w.heap.size w w' := by
  have Hga := Lib.hid (great5 a va w ha)
  have Hgb := Lib.hid (fun w1 (h1 : Below w.heap.size w w1) => great5 b vb w1 (hb.below h1))
  have Haw := Lib.hid AvT.anchor
  cases hqa : greatM a with
  | true =>
    rw [hqa] at Hga
    go_enter Tryz.func3, Tryz.ntmps3
    go_wp2_with (first | (go_at_call 5; with_reducible refine Calls.mono Hga.out ?_; rintro e w1 ⟨rfl, hb1⟩) | (go_at_call 6; refine (Haw.out _).mono ?_; rintro e w2 ⟨rfl, hb2⟩))
    go_ret
    exact ⟨rfl, hb1.trans (below_mono hb2 hb1.size)⟩
  | false =>
    cases hqb : greatM b with
    | true =>
      rw [hqa] at Hga
      rw [hqb] at Hgb
      go_enter Tryz.func3, Tryz.ntmps3
      go_wp2_with (first | (go_at_call 5; first | (with_reducible refine Calls.mono Hga.out ?_; rintro e w1 ⟨rfl, hb1⟩) | (with_reducible refine Calls.mono (Hgb.out _ hb1) ?_; rintro e w2 ⟨rfl, hb2⟩)) | (go_at_call 6; refine (Haw.out _).mono ?_; rintro e w3 ⟨rfl, hb3⟩))
      go_ret
      have h12 := hb1.trans (below_mono hb2 hb1.size)
      exact ⟨rfl, h12.trans (below_mono hb3 h12.size)⟩
    | false =>
      have hlen : chk a = 0 → chk b = 0 → a.length + b.length ≤ 500 := fun ca cb => by
        have := great_len hqa (chk_len ca)
        have := great_len hqb (chk_len cb)
        omega
      rw [hqa] at Hga
      rw [hqb] at Hgb
      have Hm := Lib.hid (fun w1 (h1 : Below w.heap.size w w1) => merge7 a b va vb w1 (ha.below h1) (hb.below h1) hna hnb hlen fun ca cb => goodN_of ca cb)
      have Hr := Lib.hid (fun w1 (h1 : Below w.heap.size w w1) => rmerge8 a b va vb w1 (ha.below h1) (hb.below h1) hlen)
      clear hlen ha hb hna hnb
      go_enter Tryz.func3, Tryz.ntmps3
      go_upto_region 3 with (go_at_call 5; first | (with_reducible refine Calls.mono Hga.out ?_; rintro e w1 ⟨rfl, hb1⟩) | (with_reducible refine Calls.mono (Hgb.out _ hb1) ?_; rintro e w2 ⟨rfl, hb2⟩))
      have h12 := hb1.trans (below_mono hb2 hb1.size)
      go_upto_region 5 with (first | (go_at_call 7; refine (Hm.out _ h12).mono ?_; intro e w3 hmp; obtain ⟨v, n, rfl⟩ := mpost_form hmp; have h13 := h12.trans (below_mono hmp.1 h12.size)) | (go_at_call 8; refine (Hr.out _ h13).mono ?_; intro e w4 hrp; obtain ⟨v', n', rfl⟩ := rpost_form hrp))
      obtain ⟨u, u', q, l, e1, e2, l1, l2, hl, hb4, hb5⟩ := merge_both hmp hrp
      injection e1 with e1
      injection e1 with e1
      injection e2 with e2
      injection e2 with e2
      obtain ⟨rfl, rfl⟩ : v = u ∧ n = q := by simpa using e1
      obtain ⟨rfl, rfl⟩ : v' = u' ∧ n' = n := by simpa using e2
      have Hs := Lib.hid (same9 l l v v' w4 (l1.below hb5) l2 hl)
      have h14 := h13.trans (below_mono hb5 h13.size)
      have H14 := Lib.hid h14
      clear hmp hrp e1 e2 l1 l2 hb4 hb5 h14
      simp only [decide_true] at Hs
      go_wp2_with (first | (go_at_call 9; refine Hs.out.mono ?_; rintro e w5 ⟨rfl, hb6⟩) | (go_at_call 6; refine (Haw.out _).mono ?_; rintro e w6 ⟨rfl, hb7⟩))
      go_ret
      have h15 := H14.out.trans (below_mono hb6 H14.out.size)
      exact ⟨rfl, h15.trans (below_mono hb7 h15.size)⟩
end Go.Proofs.Seat7
end
section
namespace Go.Proofs.Seat7
open Go.RowKit Go.Proofs.Seat4
theorem mergeC {a b : List Mt} (ca : chk a = 0) (cb : chk b = 0) (hl : a.length + b.length ≤ 500) (va vb : Value) (w : World) (la : LV ME w va a) (lb : LV ME w vb b) (na : NilOk va) (nb : NilOk vb) :
    Calls Tryz.prog 7 #[va, vb] w fun e w' => ∃ v, e = .returned (.tuple #[v, .int .i64 (mgE a b)]) ∧ LV ME w' v (mgL a b) ∧ NilOk v ∧ Below w.heap.size w w' :=
  (merge7 a b va vb w la lb na nb (fun _ _ => hl) fun _ _ => goodN_of ca cb).mono fun _ _ h => mpost_vals ca cb h
theorem awakeB {B : Nat} {w w1 : World} (hB : B ≤ w1.heap.size) (h : Below B w w1) : Calls Tryz.prog 6 #[] w1 fun e w' => e = .returned (.bool true) ∧ Below B w w' :=
  (AvT.anchor w1).mono fun _ _ ⟨h1, h2⟩ => ⟨h1, h.trans (below_mono h2 hB)⟩
set_option maxRecDepth 100000 in
set_option maxHeartbeats 1000000 in
theorem union_no (a b c : List Mt) (va vb vc : Value) (w : World) (ha : LV ME w va a) (hb : LV ME w vb b) (hc : LV ME w vc c)
    (hno : greatM a = true ∨ (greatM a = false ∧ greatM b = true) ∨ (greatM a = false ∧ greatM b = false ∧ greatM c = true) ∨ (greatM a = false ∧ greatM b = false ∧ greatM c = false ∧ chk a ≠ 0) ∨ (greatM a = false ∧ greatM b = false ∧ greatM c = false ∧ chk a = 0 ∧ chk b ≠ 0) ∨ (greatM a = false ∧ greatM b = false ∧ greatM c = false ∧ chk a = 0 ∧ chk b = 0 ∧ chk c ≠ 0)) :
    Calls Tryz.prog 4 #[va, vb, vc] w fun e w' => e = .returned (.bool true) ∧ Below w.heap.size w w' := by
  have Hga := Lib.hid (fun w1 (h1 : Below w.heap.size w w1) => (great5 a va w1 (ha.below h1)).mono fun e w' ⟨h2, h3⟩ => (⟨h2, h1.trans (below_mono h3 h1.size)⟩ : e = _ ∧ Below w.heap.size w w'))
  have Hgb := Lib.hid (fun w1 (h1 : Below w.heap.size w w1) => (great5 b vb w1 (hb.below h1)).mono fun e w' ⟨h2, h3⟩ => (⟨h2, h1.trans (below_mono h3 h1.size)⟩ : e = _ ∧ Below w.heap.size w w'))
  have Hgc := Lib.hid (fun w1 (h1 : Below w.heap.size w w1) => (great5 c vc w1 (hc.below h1)).mono fun e w' ⟨h2, h3⟩ => (⟨h2, h1.trans (below_mono h3 h1.size)⟩ : e = _ ∧ Below w.heap.size w w'))
  have Hka := Lib.hid (fun w1 (h1 : Below w.heap.size w w1) => (rcheck a va w1 (ha.below h1)).mono fun e w' ⟨h2, h3⟩ => (⟨h2, h1.trans (below_mono h3 h1.size)⟩ : e = _ ∧ Below w.heap.size w w'))
  have Hkb := Lib.hid (fun w1 (h1 : Below w.heap.size w w1) => (rcheck b vb w1 (hb.below h1)).mono fun e w' ⟨h2, h3⟩ => (⟨h2, h1.trans (below_mono h3 h1.size)⟩ : e = _ ∧ Below w.heap.size w w'))
  have Hkc := Lib.hid (fun w1 (h1 : Below w.heap.size w w1) => (rcheck c vc w1 (hc.below h1)).mono fun e w' ⟨h2, h3⟩ => (⟨h2, h1.trans (below_mono h3 h1.size)⟩ : e = _ ∧ Below w.heap.size w w'))
  have Haw := Lib.hid (fun w1 (h1 : Below w.heap.size w w1) => awakeB h1.size h1)
  have hb0 : Below w.heap.size w w := Below.refl _ _
  clear ha hb hc
  generalize greatM a = ga at *
  generalize greatM b = gb at *
  generalize greatM c = gc at *
  generalize chk a = ka at *
  generalize chk b = kb at *
  generalize chk c = kc at *
  rcases hno with rfl | ⟨rfl, rfl⟩ | ⟨rfl, rfl, rfl⟩ | ⟨rfl, rfl, rfl, h0⟩ | ⟨rfl, rfl, rfl, rfl, h0⟩ | ⟨rfl, rfl, rfl, rfl, rfl, h0⟩ <;>
  · go_enter Tryz.func4, Tryz.ntmps4
    go_wp2_with (first
      | (go_at_call 5; first | (with_reducible refine Calls.mono (Hga.out _ (by assumption)) ?_; rintro e w1 ⟨rfl, hb1⟩) | (with_reducible refine Calls.mono (Hgb.out _ (by assumption)) ?_; rintro e w1 ⟨rfl, hb1⟩) | (with_reducible refine Calls.mono (Hgc.out _ (by assumption)) ?_; rintro e w1 ⟨rfl, hb1⟩))
      | (go_at_call 10; first | (with_reducible refine Calls.mono (Hka.out _ (by assumption)) ?_; rintro e w1 ⟨rfl, hb1⟩) | (with_reducible refine Calls.mono (Hkb.out _ (by assumption)) ?_; rintro e w1 ⟨rfl, hb1⟩) | (with_reducible refine Calls.mono (Hkc.out _ (by assumption)) ?_; rintro e w1 ⟨rfl, hb1⟩))
      | (go_at_call 6; refine (Haw.out _ (by assumption)).mono ?_; rintro e w1 ⟨rfl, hb1⟩))
    go_ret
    exact ⟨rfl, by assumption⟩
set_option maxRecDepth 100000 in
set_option maxHeartbeats 2000000 in
theorem union_yes (a b c : List Mt) (va vb vc : Value) (w : World) (ha : LV ME w va a) (hb : LV ME w vb b) (hc : LV ME w vc c) (hna : NilOk va) (hnb : NilOk vb) (hnc : NilOk vc)
    (ga : greatM a = false) (gb : greatM b = false) (gc : greatM c = false) (ca : chk a = 0) (cb : chk b = 0) (cc : chk c = 0) :
    Calls Tryz.prog 4 #[va, vb, vc] w fun e w' => e = .returned (.bool true) ∧ Below w.heap.size w w' := by
  have la := great_len ga (chk_len ca)
  have lb := great_len gb (chk_len cb)
  have lc := great_len gc (chk_len cc)
  have lab := mgL_len a b
  have lbc := mgL_len b c
  have cab := chk_mg ca cb (by omega)
  have cbc := chk_mg cb cc (by omega)
  have lab2 := mgL_len (mgL a b) c
  have clf := chk_mg cab cc (by omega)
  have has := mg_assoc ca cb cc
  have Hga := Lib.hid (fun w1 (h1 : Below w.heap.size w w1) => (great5 a va w1 (ha.below h1)).mono fun e w' ⟨h2, h3⟩ => (⟨h2, h1.trans (below_mono h3 h1.size)⟩ : e = _ ∧ Below w.heap.size w w'))
  have Hgb := Lib.hid (fun w1 (h1 : Below w.heap.size w w1) => (great5 b vb w1 (hb.below h1)).mono fun e w' ⟨h2, h3⟩ => (⟨h2, h1.trans (below_mono h3 h1.size)⟩ : e = _ ∧ Below w.heap.size w w'))
  have Hgc := Lib.hid (fun w1 (h1 : Below w.heap.size w w1) => (great5 c vc w1 (hc.below h1)).mono fun e w' ⟨h2, h3⟩ => (⟨h2, h1.trans (below_mono h3 h1.size)⟩ : e = _ ∧ Below w.heap.size w w'))
  have Hka := Lib.hid (fun w1 (h1 : Below w.heap.size w w1) => (rcheck a va w1 (ha.below h1)).mono fun e w' ⟨h2, h3⟩ => (⟨h2, h1.trans (below_mono h3 h1.size)⟩ : e = _ ∧ Below w.heap.size w w'))
  have Hkb := Lib.hid (fun w1 (h1 : Below w.heap.size w w1) => (rcheck b vb w1 (hb.below h1)).mono fun e w' ⟨h2, h3⟩ => (⟨h2, h1.trans (below_mono h3 h1.size)⟩ : e = _ ∧ Below w.heap.size w w'))
  have Hkc := Lib.hid (fun w1 (h1 : Below w.heap.size w w1) => (rcheck c vc w1 (hc.below h1)).mono fun e w' ⟨h2, h3⟩ => (⟨h2, h1.trans (below_mono h3 h1.size)⟩ : e = _ ∧ Below w.heap.size w w'))
  have Haw := Lib.hid (fun w1 (h1 : Below w.heap.size w w1) => awakeB h1.size h1)
  have h1 := fun w1 (h1 : Below w.heap.size w w1) => mergeC ca cb (by omega) va vb w1 (ha.below h1) (hb.below h1) hna hnb
  have h2 := fun w1 (h1 : Below w.heap.size w w1) => mergeC cb ca (by omega) vb va w1 (hb.below h1) (ha.below h1) hnb hna
  have h3 := fun w1 (h1 : Below w.heap.size w w1) => mergeC cb cc (by omega) vb vc w1 (hb.below h1) (hc.below h1) hnb hnc
  have h4 := fun w1 (h1 : Below w.heap.size w w1) => mergeC chk_nil ca (by simp; omega) (.slice none 0 0) va w1 (LV.nil_ _ _ _ _) (ha.below h1) (fun n c e => by cases e; rfl) hna
  have h5 := fun v w1 (l1 : LV ME w1 v (mgL a b)) (n1 : NilOk v) (h1 : Below w.heap.size w w1) => mergeC cab cc (by omega) v vc w1 l1 (hc.below h1) n1 hnc
  have h6 := fun v w1 (l1 : LV ME w1 v (mgL b c)) (n1 : NilOk v) (h1 : Below w.heap.size w w1) => mergeC ca cbc (by omega) va v w1 (ha.below h1) l1 hna n1
  have hsa := fun v w1 (l1 : LV ME w1 v a) (h1 : Below w.heap.size w w1) => same9 a a v va w1 l1 (ha.below h1) (by omega)
  rw [← mgE_comm ca cb, ← mgL_comm ca cb] at h2
  rw [(mg_nil ca).1, (mg_nil ca).2] at h4
  have o1 := mgE_or a b
  have o2 := mgE_or b c
  have o3 := mgE_or (mgL a b) c
  have o4 := mgE_or a (mgL b c)
  rw [ga] at Hga
  rw [gb] at Hgb
  rw [gc] at Hgc
  rw [ca] at Hka
  rw [cb] at Hkb
  rw [cc] at Hkc
  generalize mgE (mgL a b) c = n3 at *
  generalize mgE a (mgL b c) = n4 at *
  generalize mgE a b = n1 at *
  generalize mgE b c = n2 at *
  generalize mgL (mgL a b) c = L3 at *
  generalize mgL a (mgL b c) = L4 at *
  generalize hL1 : mgL a b = L1 at *
  generalize mgL b c = L2 at *
  have H1 := Lib.hid h1
  have H2 := Lib.hid h2
  have H3 := Lib.hid h3
  have H4 := Lib.hid h4
  have H5 := Lib.hid h5
  have H6 := Lib.hid h6
  have Hsa := Lib.hid hsa
  have Has := Lib.hid has
  have Hl3 := Lib.hid (show L3.length ≤ 100000 by omega)
  have Hl1 := Lib.hid (show L1.length ≤ 100000 by omega)
  have Clf := Lib.hid clf
  have O1 := Lib.hid o1
  have O2 := Lib.hid o2
  have O3 := Lib.hid o3
  have O4 := Lib.hid o4
  have hb0 : Below w.heap.size w w := Below.refl _ _
  clear h1 h2 h3 h4 h5 h6 hsa has clf o1 o2 o3 o4 ha hb hc hna hnb hnc ga gb gc ca cb cc la lb lc lab lbc lab2 cab cbc hL1
  go_enter Tryz.func4, Tryz.ntmps4
  go_upto_region 3 with (first
      | (go_at_call 5; first | (with_reducible refine Calls.mono (Hga.out _ (by assumption)) ?_; rintro e w1 ⟨rfl, hb1⟩) | (with_reducible refine Calls.mono (Hgb.out _ (by assumption)) ?_; rintro e w1 ⟨rfl, hb1⟩) | (with_reducible refine Calls.mono (Hgc.out _ (by assumption)) ?_; rintro e w1 ⟨rfl, hb1⟩))
      | (go_at_call 10; first | (with_reducible refine Calls.mono (Hka.out _ (by assumption)) ?_; rintro e w1 ⟨rfl, hb1⟩) | (with_reducible refine Calls.mono (Hkb.out _ (by assumption)) ?_; rintro e w1 ⟨rfl, hb1⟩) | (with_reducible refine Calls.mono (Hkc.out _ (by assumption)) ?_; rintro e w1 ⟨rfl, hb1⟩)))
  clear Hga Hgb Hgc Hka Hkb Hkc
  have B1 := Lib.hid hb1
  clear hb1
  go_upto_region 4 with (go_at_call 7; refine (H1.out _ B1.out).mono ?_; rintro e w2 ⟨v1, rfl, l1, m1, b2⟩)
  have B2 := Lib.hid (B1.out.trans (below_mono b2 B1.out.size))
  have K1 := Lib.hid (And.intro l1 m1)
  clear b2 l1 m1
  go_upto_region 5 with (go_at_call 7; refine (H2.out _ B2.out).mono ?_; rintro e w3 ⟨v2, rfl, l2, m2, b3⟩)
  have B3 := Lib.hid (B2.out.trans (below_mono b3 B2.out.size))
  have K1 := Lib.hid (And.intro (K1.out.1.below b3) K1.out.2)
  have K2 := Lib.hid l2
  clear b3 l2 m2
  go_upto_region 6 with (go_at_call 7; refine (H3.out _ B3.out).mono ?_; rintro e w4 ⟨v3, rfl, l3, m3, b4⟩)
  have B4 := Lib.hid (B3.out.trans (below_mono b4 B3.out.size))
  have K1 := Lib.hid (And.intro (K1.out.1.below b4) K1.out.2)
  have K2 := Lib.hid (K2.out.below b4)
  have K3 := Lib.hid (And.intro l3 m3)
  clear b4 l3 m3
  go_upto_region 7 with (go_at_call 7; refine (H4.out _ B4.out).mono ?_; rintro e w5 ⟨v4, rfl, l4, m4, b5⟩)
  have B5 := Lib.hid (B4.out.trans (below_mono b5 B4.out.size))
  have K1 := Lib.hid (And.intro (K1.out.1.below b5) K1.out.2)
  have K2 := Lib.hid (K2.out.below b5)
  have K3 := Lib.hid (And.intro (K3.out.1.below b5) K3.out.2)
  have hs1 := same9 L1 L1 v1 v2 w5 K1.out.1 K2.out Hl1.out
  have hs2 := fun w6 (b6 : Below w5.heap.size w5 w6) => Hsa.out v4 w6 (l4.below b6) (B5.out.trans (below_mono b6 B5.out.size))
  simp only [decide_true] at hs1 hs2
  have Hs1 := Lib.hid hs1
  have Hs2 := Lib.hid hs2
  clear b5 l4 m4 hs1 hs2 K2 Hsa
  go_upto_region 9 with (go_at_call 9; first | (with_reducible refine Calls.mono Hs1.out ?_; rintro e w6 ⟨rfl, b6⟩) | (with_reducible refine Calls.mono (Hs2.out _ b6) ?_; rintro e w7 ⟨rfl, b7⟩))
  have b57 := b6.trans (below_mono b7 b6.size)
  have B7 := Lib.hid (B5.out.trans (below_mono b57 B5.out.size))
  have K1 := Lib.hid (And.intro (K1.out.1.below b57) K1.out.2)
  have K3 := Lib.hid (And.intro (K3.out.1.below b57) K3.out.2)
  clear b6 b7 b57
  go_upto_region 10 with (go_at_call 7; refine (H5.out v1 _ K1.out.1 K1.out.2 B7.out).mono ?_; rintro e w8 ⟨v5, rfl, l5, m5, b8⟩)
  have B8 := Lib.hid (B7.out.trans (below_mono b8 B7.out.size))
  have K3 := Lib.hid (And.intro (K3.out.1.below b8) K3.out.2)
  have K5 := Lib.hid l5
  clear b8 l5 m5
  go_upto_region 11 with (go_at_call 7; refine (H6.out v3 _ K3.out.1 K3.out.2 B8.out).mono ?_; rintro e w9 ⟨v6, rfl, l6, m6, b9⟩)
  have hb9 := B8.out.trans (below_mono b9 B8.out.size)
  have K5 := Lib.hid (K5.out.below b9)
  have K6 := Lib.hid l6
  clear b9 l6 m6 K1 K3 H1 H2 H3 H4 H5 H6
  rcases O1.out with rfl | rfl
  · rcases O2.out with rfl | rfl
    · rcases O3.out with rfl | rfl
      · rcases O4.out with rfl | rfl
        · obtain rfl := Has.out rfl rfl rfl rfl
          have hs := same9 L3 L3 v5 v6 w9 K5.out K6.out Hl3.out
          simp only [decide_true] at hs
          have Hs := Lib.hid hs
          have hk := fun w2 (b2 : Below w9.heap.size w9 w2) => check L3 v5 w2 (K5.out.below b2)
          rw [Clf.out] at hk
          have Hk := Lib.hid hk
          have B9 := Lib.hid hb9
          clear hs hk hb9
          go_wp2_with (first
            | (go_at_call 9; refine Calls.mono Hs.out ?_; rintro e w10 ⟨rfl, b10⟩; have hb10 := B9.out.trans (below_mono b10 B9.out.size))
            | (go_at_call 11; refine Calls.mono (Hk.out _ b10) ?_; rintro e w11 ⟨rfl, b11⟩; have hb11 := hb10.trans (below_mono b11 hb10.size))
            | (go_at_call 6; refine (Haw.out _ hb11).mono ?_; rintro e w12 ⟨rfl, hb12⟩))
          go_ret
          exact ⟨rfl, hb12⟩
        all_goals
          go_wp2_with (go_at_call 6; refine (Haw.out _ hb9).mono ?_; rintro e w12 ⟨rfl, hb12⟩)
          go_ret
          exact ⟨rfl, hb12⟩
      all_goals
        go_wp2_with (go_at_call 6; refine (Haw.out _ hb9).mono ?_; rintro e w12 ⟨rfl, hb12⟩)
        go_ret
        exact ⟨rfl, hb12⟩
    all_goals
      go_wp2_with (go_at_call 6; refine (Haw.out _ hb9).mono ?_; rintro e w12 ⟨rfl, hb12⟩)
      go_ret
      exact ⟨rfl, hb12⟩
  all_goals
    go_wp2_with (go_at_call 6; refine (Haw.out _ hb9).mono ?_; rintro e w12 ⟨rfl, hb12⟩)
    go_ret
    exact ⟨rfl, hb12⟩
theorem metricsUnion4 (a b c : List Mt) (va vb vc : Value) (w : World) (ha : LV ME w va a) (hb : LV ME w vb b) (hc : LV ME w vc c) (hna : NilOk va) (hnb : NilOk vb) (hnc : NilOk vc) :
    Calls Tryz.prog 4 #[va, vb, vc] w fun e w' => e = .returned (.bool true) ∧ Below w.heap.size w w' := by
  cases ga : greatM a with
  | true => exact union_no a b c va vb vc w ha hb hc (.inl ga)
  | false =>
    cases gb : greatM b with
    | true => exact union_no a b c va vb vc w ha hb hc (.inr (.inl ⟨ga, gb⟩))
    | false =>
      cases gc : greatM c with
      | true => exact union_no a b c va vb vc w ha hb hc (.inr (.inr (.inl ⟨ga, gb, gc⟩)))
      | false =>
        by_cases ca : chk a = 0
        · by_cases cb : chk b = 0
          · by_cases cc : chk c = 0
            · exact union_yes a b c va vb vc w ha hb hc hna hnb hnc ga gb gc ca cb cc
            · exact union_no a b c va vb vc w ha hb hc (.inr (.inr (.inr (.inr (.inr ⟨ga, gb, gc, ca, cb, cc⟩)))))
          · exact union_no a b c va vb vc w ha hb hc (.inr (.inr (.inr (.inr (.inl ⟨ga, gb, gc, ca, cb⟩)))))
        · exact union_no a b c va vb vc w ha hb hc (.inr (.inr (.inr (.inl ⟨ga, gb, gc, ca⟩))))
end Go.Proofs.Seat7
end

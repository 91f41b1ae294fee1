/- The spans of the tasks as a plain function, and what they hold for a valid trace. -/
import Derived.Test.YtofomblpbmpbaaaDoorChp
namespace Go.Proofs.YtofomblpbmpbaaaDoor
open Go.RowKit
structure Sp where
  kind : Int
  task : Int
  index : Int
  from_ : Int
  to_ : Int
  start_ : Int
  end_ : Int
  deriving DecidableEq
def spCells (s : Sp) : List Value := [.int .i64 s.kind, .int .i64 s.task, .int .i64 s.index, .int .i64 s.from_, .int .i64 s.to_, .int .i64 s.start_, .int .i64 s.end_]
def zSp : Sp := ⟨0, 0, 0, 0, 0, 0, 0⟩
def sp0 : Sp := ⟨1, 0, 0, 0, -1, 0, -1⟩
def spNew (e : Ev) : Sp := ⟨1, e.task, e.value, e.step, -1, e.time, -1⟩
def spEnd (s : Sp) (e : Ev) : Sp := { s with to_ := e.step, end_ := e.time }
def livStep (o : List Sp) (e : Ev) : List Sp := if e.kind = 204 then o ++ [spNew e] else if e.kind = 205 then o.set e.task.toNat (spEnd (o.getD e.task.toNat zSp) e) else o
def livF (l : List Ev) : List Sp := l.foldl livStep [sp0]
theorem livF_snoc (l : List Ev) (e : Ev) : livF (l ++ [e]) = livStep (livF l) e := by unfold livF; rw [List.foldl_append]; rfl
theorem livF_take (l : List Ev) (k : Nat) (h : k < l.length) : livF (l.take (k + 1)) = livStep (livF (l.take k)) l[k] := by rw [take_snoc' l k h, livF_snoc]
theorem livF_len (l : List Ev) : (livF l).length = startsR l + 1 := by
  have key : ∀ (l : List Ev) (o : List Sp), (l.foldl livStep o).length = startsR l + o.length := by
    intro l
    induction l with
    | nil => intro o; simp [startsR]
    | cons e l ih =>
      intro o
      show ((l.foldl livStep (livStep o e)).length) = _
      rw [ih]
      unfold livStep startsR
      by_cases h1 : e.kind = 204
      · simp [h1]; omega
      · by_cases h2 : e.kind = 205
        · simp [h2]
        · simp [h1, h2]
  exact key l [sp0]
/-- What the spans hold: of the events l so far, p the last one (or the zero event). -/
structure SpOk (l : List Ev) (p : Ev) (s : St) (t : Nat) (x : Sp) : Prop where
  kind : x.kind = 1
  task : x.task = t
  fromLe : x.from_ ≤ p.step
  startLe : x.start_ ≤ p.time
  toIff : 0 ≤ x.to_ → x.to_ = s.ended.getD t 0 ∧ 0 < s.ended.getD t 0
  toIff' : 0 < s.ended.getD t 0 → x.to_ = s.ended.getD t 0
  toLe : 0 ≤ x.to_ → x.to_ ≤ p.step ∧ x.end_ ≤ p.time ∧ (x.to_ = p.step → x.end_ = p.time)
  all : ∀ e ∈ l, e.task = t → e.kind ≠ 212 → x.from_ ≤ e.step ∧ x.start_ ≤ e.time ∧ (0 ≤ x.to_ → e.step ≤ x.to_ ∧ e.time ≤ x.end_)
structure SpInv (l : List Ev) (p : Ev) (s : St) : Prop where
  each : ∀ t (h : t < (livF l).length), SpOk l p s t (livF l)[t]
  seen : ∀ e ∈ l, e.task ≤ s.started
  last : ∀ e ∈ l, e.step ≤ p.step ∧ e.time ≤ p.time
theorem order_facts {p e : Ev} (h : orderP p e = true) : p.step ≤ e.step ∧ p.time ≤ e.time ∧ (e.step = p.step → e.time = p.time) := by
  unfold orderP at h
  by_cases h1 : e.step < p.step
  · rw [if_pos h1] at h; cases h
  · rw [if_neg h1] at h
    by_cases h2 : e.kind = 201
    · simp [h2] at h
      omega
    · simp [h2] at h
      omega
theorem spInv0 : SpInv [] zEv st0 := by
  refine ⟨?_, by simp, by simp⟩
  intro t h
  have h0 : t = 0 := by simp [livF] at h; omega
  subst h0
  have e0 : (livF [])[0] = sp0 := rfl
  rw [e0]
  refine ⟨rfl, rfl, by decide, by decide, by decide, by decide, by decide, by simp⟩
theorem spOk_keep {l : List Ev} {p e : Ev} {s : St} {t : Nat} {x : Sp} (h : SpOk l p s t x) (ho : p.step ≤ e.step ∧ p.time ≤ e.time ∧ (e.step = p.step → e.time = p.time)) {s' : St} (hs : s'.ended.getD t 0 = s.ended.getD t 0)
    (hx : e.task = t → e.kind ≠ 212 → 0 ≤ x.to_ → e.step ≤ x.to_) : SpOk (l ++ [e]) e s' t x := by
  obtain ⟨o1, o2, o3⟩ := ho
  have a1 := h.fromLe
  have a2 := h.startLe
  refine ⟨h.kind, h.task, by omega, by omega, ?_, ?_, ?_, ?_⟩
  · rw [hs]; exact h.toIff
  · rw [hs]; exact h.toIff'
  · intro h0
    obtain ⟨b1, b2, b3⟩ := h.toLe h0
    refine ⟨by omega, by omega, fun h1 => ?_⟩
    have : e.step = p.step := by omega
    have := o3 this
    have := b3 (by omega)
    omega
  · intro e' he' ht hk
    rcases List.mem_append.1 he' with h1 | h1
    · exact h.all e' h1 ht hk
    · obtain rfl : e' = e := by simpa using h1
      refine ⟨by omega, by omega, fun h0 => ?_⟩
      have h2 := hx ht hk h0
      obtain ⟨b1, b2, b3⟩ := h.toLe h0
      have : e'.step = p.step := by omega
      have := o3 this
      have := b3 (by omega)
      omega
theorem spInv_step {l : List Ev} {p e : Ev} {s : St} (hI : Inv l s) (h : SpInv l p s) (hv : evErr e = 0) (ho : orderP p e = true) (hf : fitsB s e = true) : SpInv (l ++ [e]) e (noted s e) := by
  have O := evOk_of hv
  have hk0 := O.k0
  have hk1 := O.k1
  have hs0 := O.s0
  have hst := hI.starts
  have hord := order_facts ho
  have hlen := livF_len l
  have hst0 : 0 ≤ s.started := by omega
  refine ⟨?_, ?_, ?_⟩
  rotate_left
  · have hstd : s.started ≤ (noted s e).started ∧ e.task ≤ (noted s e).started := by
      unfold fitsB at hf
      unfold noted
      by_cases h1 : e.kind = 201
      · rw [if_pos h1] at hf ⊢
        have h2 : e.task = -1 := by simpa using hf
        omega
      · rw [if_neg h1] at hf ⊢
        by_cases h2 : e.task = -1
        · rw [if_pos h2]
          omega
        · rw [if_neg h2] at hf ⊢
          by_cases h3 : lateB s e = true
          · rw [if_pos h3] at hf; cases hf
          · rw [if_neg h3]
            have h5 : s.started ≤ startedOf s e ∧ e.task ≤ startedOf s e := by
              unfold lateB at h3
              unfold startedOf
              by_cases h4 : e.kind = 204
              · rw [if_pos h4] at h3 ⊢
                have : e.task = s.started + 1 := by simpa using h3
                omega
              · rw [if_neg h4] at h3 ⊢
                have : e.task ≤ s.started := by simpa using h3
                omega
            repeat' split
            all_goals exact h5
    intro e' he'
    rcases List.mem_append.1 he' with h1 | h1
    · have := h.seen e' h1
      omega
    · obtain rfl : e' = e := by simpa using h1
      exact hstd.2
  · intro e' he'
    rcases List.mem_append.1 he' with h1 | h1
    · have := h.last e' h1
      omega
    · obtain rfl : e' = e := by simpa using h1
      exact ⟨Int.le_refl _, Int.le_refl _⟩
  intro t ht
  simp only [livF_snoc] at ht ⊢
  unfold fitsB at hf
  by_cases h1 : e.kind = 201
  · have hn : noted s e = s := by unfold noted; rw [if_pos h1]
    have hl : livStep (livF l) e = livF l := by unfold livStep; rw [if_neg (by omega), if_neg (by omega)]
    rw [if_pos h1] at hf
    have h2 : e.task = -1 := by simpa using hf
    rw [hn]
    simp only [hl] at ht ⊢
    exact spOk_keep (h.each t ht) hord rfl (fun h3 => by omega)
  · rw [if_neg h1] at hf
    by_cases h2 : e.task = -1
    · have hn : noted s e = s := by unfold noted; rw [if_neg h1, if_pos h2]
      rw [if_pos h2] at hf
      have h3 : e.kind = 207 := by simpa using hf
      have hl : livStep (livF l) e = livF l := by unfold livStep; rw [if_neg (by omega), if_neg (by omega)]
      rw [hn]
      simp only [hl] at ht ⊢
      exact spOk_keep (h.each t ht) hord rfl (fun h3 => by omega)
    · rw [if_neg h2] at hf
      obtain ⟨T, hT⟩ : ∃ T : Nat, e.task = T := ⟨e.task.toNat, by omega⟩
      have hT16 : T < 16 := by omega
      have hTn : e.task.toNat = T := by omega
      have hat : atOf s e = s.ended.getD T 0 := by unfold atOf; rw [hTn]
      by_cases h3 : lateB s e = true
      · rw [if_pos h3] at hf; cases hf
      · rw [if_neg h3] at hf
        have hn1 : noted s e = if 0 < atOf s e then ⟨startedOf s e, s.ended⟩ else if e.kind = 205 then ⟨startedOf s e, s.ended.set e.task.toNat e.step⟩ else ⟨startedOf s e, s.ended⟩ := by
          unfold noted
          rw [if_neg h1, if_neg h2, if_neg h3]
        unfold lateB at h3
        by_cases h4 : e.kind = 204
        · rw [if_pos h4] at h3
          have h5 : e.task = s.started + 1 := by simpa using h3
          have hz : ¬ 0 < atOf s e := by
            intro hz
            rw [if_pos hz] at hf
            unfold tailB at hf
            simp [h4] at hf
          have hn : (noted s e).ended = s.ended := by
            rw [hn1, if_neg hz, if_neg (by omega)]
          have hl : livStep (livF l) e = livF l ++ [spNew e] := by unfold livStep; rw [if_pos h4]
          simp only [hl] at ht ⊢
          rcases Nat.lt_or_ge t (livF l).length with hlt | hge
          · rw [List.getElem_append_left hlt]
            exact spOk_keep (h.each t hlt) hord (by rw [hn]) (fun h6 => by omega)
          · have hte : t = (livF l).length := by simp at ht; omega
            have htT : t = T := by omega
            subst htT
            rw [List.getElem_append_right hge]
            simp only [hte, Nat.sub_self, List.getElem_cons_zero]
            rw [← hte]
            refine ⟨rfl, hT, Int.le_refl _, Int.le_refl _, fun h6 => ?_, fun h6 => ?_, fun h6 => ?_, fun e' he' h6 h7 => ?_⟩
            · exact absurd h6 (show ¬ (0 : Int) ≤ -1 by decide)
            · rw [hn, ← hat] at h6
              exact absurd h6 hz
            · exact absurd h6 (show ¬ (0 : Int) ≤ -1 by decide)
            · rcases List.mem_append.1 he' with h8 | h8
              · exfalso
                have := h.seen e' h8
                omega
              · obtain rfl : e' = e := by simpa using h8
                exact ⟨Int.le_refl _, Int.le_refl _, fun h6 => absurd h6 (show ¬ (0 : Int) ≤ -1 by decide)⟩
        · rw [if_neg h4] at h3
          have h5 : e.task ≤ s.started := by simpa using h3
          by_cases h6 : 0 < atOf s e
          · have hn : (noted s e).ended = s.ended := by rw [hn1, if_pos h6]
            rw [if_pos h6] at hf
            have h7 : ¬ e.kind = 205 := by
              intro h7
              unfold tailB at hf
              simp [h7] at hf
            have hl : livStep (livF l) e = livF l := by unfold livStep; rw [if_neg h4, if_neg h7]
            simp only [hl] at ht ⊢
            refine spOk_keep (h.each t ht) hord (by rw [hn]) (fun h8 h9 h10 => ?_)
            have htT : t = T := by omega
            subst htT
            have hx := (h.each t ht).toIff h10
            unfold tailB at hf
            simp [h9] at hf
            rw [hat] at hf
            omega
          · by_cases h7 : e.kind = 205
            · have hn : (noted s e).ended = s.ended.set T e.step := by rw [hn1, if_neg h6, if_pos h7, hTn]
              have hl : livStep (livF l) e = (livF l).set T (spEnd ((livF l).getD T zSp) e) := by unfold livStep; rw [if_neg h4, if_pos h7, hTn]
              simp only [hl] at ht ⊢
              have ht' : t < (livF l).length := by simpa using ht
              by_cases h8 : T = t
              · subst h8
                rw [List.getElem_set_self]
                have hg : (livF l).getD T zSp = (livF l)[T] := by simp [List.getD_eq_getElem?_getD, ht']
                rw [hg]
                have hx := h.each T ht'
                obtain ⟨o1, o2, o3⟩ := hord
                have a1 := hx.fromLe
                have a2 := hx.startLe
                have hs1 : (noted s e).ended.getD T 0 = e.step := by
                  rw [hn]
                  exact getD_set_self _ _ _ (by rw [hI.len]; exact hT16)
                refine ⟨hx.kind, hx.task, ?_, ?_, ?_, ?_, ?_, ?_⟩
                · show (livF l)[T].from_ ≤ e.step; omega
                · show (livF l)[T].start_ ≤ e.time; omega
                · intro _
                  rw [hs1]
                  exact ⟨rfl, by omega⟩
                · intro _
                  rw [hs1]
                  rfl
                · intro _
                  exact ⟨Int.le_refl _, Int.le_refl _, fun _ => rfl⟩
                · intro e' he' h9 h10
                  have h11 : e'.step ≤ e.step ∧ e'.time ≤ e.time := by
                    rcases List.mem_append.1 he' with h12 | h12
                    · have := h.last e' h12
                      omega
                    · obtain rfl : e' = e := by simpa using h12
                      exact ⟨Int.le_refl _, Int.le_refl _⟩
                  refine ⟨?_, ?_, fun _ => h11⟩
                  · rcases List.mem_append.1 he' with h12 | h12
                    · exact (hx.all e' h12 h9 h10).1
                    · obtain rfl : e' = e := by simpa using h12
                      show (livF l)[T].from_ ≤ e'.step
                      omega
                  · rcases List.mem_append.1 he' with h12 | h12
                    · exact (hx.all e' h12 h9 h10).2.1
                    · obtain rfl : e' = e := by simpa using h12
                      show (livF l)[T].start_ ≤ e'.time
                      omega
              · rw [List.getElem_set_ne h8]
                refine spOk_keep (h.each t ht') hord ?_ (fun h9 => by omega)
                rw [hn]
                exact getD_set_other _ _ _ _ h8
            · have hn : (noted s e).ended = s.ended := by rw [hn1, if_neg h6, if_neg h7]
              have hl : livStep (livF l) e = livF l := by unfold livStep; rw [if_neg h4, if_neg h7]
              simp only [hl] at ht ⊢
              refine spOk_keep (h.each t ht) hord (by rw [hn]) (fun h8 h9 h10 => ?_)
              have htT : t = T := by omega
              subst htT
              have hx := (h.each t ht).toIff h10
              omega
theorem prevE_snoc (l : List Ev) (k : Nat) (h : k < l.length) : prevE l (k + 1) = l[k] := by
  unfold prevE
  rw [if_neg (by omega)]
  exact getD_lt l k h
theorem spInv_take (l : List Ev) : ∀ k, k ≤ l.length → (∀ j, j < k → okAt l j = 0) → SpInv (l.take k) (prevE l k) (stOf (l.take k))
  | 0, _, _ => by simpa [stOf, prevE] using spInv0
  | k + 1, hk, h => by
    have ih := spInv_take l k (by omega) fun j hj => h j (by omega)
    have hi := inv_take l k (by omega) fun j hj => h j (by omega)
    obtain ⟨h1, h2, h3⟩ := okAt_zero (h k (by omega))
    rw [getD_lt l k (by omega)] at h1 h2 h3
    rw [stOf_take l k (by omega), take_snoc' l k (by omega), prevE_snoc l k (by omega)]
    exact spInv_step hi ih h1 h2 h3
theorem chk_inv {l : List Ev} (h : chk l = 0) : Inv l (stOf l) := by
  have := inv_take l l.length (Nat.le_refl _) (firstErr_zero.1 h)
  rwa [List.take_length] at this
theorem chk_spInv {l : List Ev} (h : chk l = 0) : SpInv l (prevE l l.length) (stOf l) := by
  have := spInv_take l l.length (Nat.le_refl _) (firstErr_zero.1 h)
  rwa [List.take_length] at this
theorem chk_ev {l : List Ev} (h : chk l = 0) (k : Nat) (hk : k < l.length) : evErr l[k] = 0 := by
  have := (okAt_zero (firstErr_zero.1 h k hk)).1
  rwa [getD_lt l k hk] at this
/-- What TraceLives asks of each event. -/
theorem lives_at {l : List Ev} (h : chk l = 0) (k : Nat) (hk : k < l.length) (h0 : 0 ≤ l[k].task) (h1 : l[k].kind ≠ 212) :
    ∃ (hlt : l[k].task.toNat < (livF l).length), ((livF l)[l[k].task.toNat]'hlt).kind = 1 ∧ ((livF l)[l[k].task.toNat]'hlt).task = l[k].task ∧ ((livF l)[l[k].task.toNat]'hlt).from_ ≤ l[k].step ∧ ((livF l)[l[k].task.toNat]'hlt).start_ ≤ l[k].time ∧
      (0 ≤ ((livF l)[l[k].task.toNat]'hlt).to_ → l[k].step ≤ ((livF l)[l[k].task.toNat]'hlt).to_ ∧ l[k].time ≤ ((livF l)[l[k].task.toNat]'hlt).end_) := by
  have hi := chk_inv h
  have hs := chk_spInv h
  have hm : l[k] ∈ l := List.getElem_mem hk
  have h2 := hs.seen _ hm
  have h3 := hi.starts
  have h4 := livF_len l
  have hlt : l[k].task.toNat < (livF l).length := by omega
  have h5 := hs.each _ hlt
  have h6 := h5.all _ hm (by omega) h1
  exact ⟨hlt, h5.kind, by rw [h5.task]; omega, h6.1, h6.2.1, h6.2.2⟩
end Go.Proofs.YtofomblpbmpbaaaDoor

/- An evaluator for the kernel over values whose addresses are names, and that what it tells of a call is so, over any program. -/
import Derived.Test.YtdimfodgmaelhaaGreatDoorPab
import Derived.Deep.Upon
import Derived.TacticsIn
import Derived.RangeFuncLeaves
import Derived.Test.YtdimfodgmaelhaaGreatDoorPaa
set_option linter.all false
section
set_option linter.unusedSimpArgs false
set_option linter.unusedVariables false
namespace Av
open Go Go.RowKit
variable {P : Program} {e : Operand → Option AO} {ρ : Operand → Value} {m : M} {N D : Pos → Prop} {L : List AV} {T : PT AV}
theorem snd_app {t u el : Nat} {z : List AV} {x y : Operand} {x' y' : AO} (hu : P.underlying t = some (.slice el)) (hz : zeroC P el = some z) (h0 : szT P el ≠ 0) (hby : bytesT P el ≤ 2 ^ 20) (huu : isSeqT P u = true) (hzl : z.length = szT P el)
 (hx : e x = some x') (hy : e y = some y') : HSnd P e (.call { callee := .builtin .append, args := #[x, y], argTypes := #[t, u] }) (oApp (szT P el) el x' y') := fun ri m N lim B H w ρ L T hR hg k r h => by
 have hx1 := hg.at hx
 have hN := hg.ok hx
 have hy1 := hg.at hy
 have fin : AppR P ri m N lim B H w t u (ρ x) (conc m (y'.ev L T)) k r → ∃ v H' m' N' w', k v H' = .ok r ∧ Step ri m N lim B H w m' N' H' w' ∧ okV m' N' v ∧
  ∀ oper : Oper, oper.op = .call { callee := .builtin .append, args := #[x, y], argTypes := #[t, u] } → (execOp ρ oper).run P w = .ok (.value (conc m' v)) w' ∨ (v = undf ∧ (execOp ρ oper).run P w = .ok .skip w') := by
  rintro ⟨v, H', m', N', w', g1, g2, g3, g4⟩
  refine ⟨v, H', m', N', w', g1, g2, g3, fun oper ho => .inl ?_⟩
  unfold execOp
  rw [ho]
  have := g4 oper.type
  rw [← hy1] at this
  simp [resolve, invoke, Go.builtin, this]
 obtain ⟨n, new, h, hln, hlo, hlen, hfc⟩ := rd_ok (P := P) hR (hg.ok hy) h
 have hsrc := src_of huu hR hln hlo hlen hfc
 obtain ⟨i, hi, hsi⟩ := szT_info h0
 have nothing : n = 0 → ∀ (base : Option Addr) (sLen sCap : Nat), sLen ≤ sCap → ∀ ty, (Builtin.append_ #[t, u] ty #[.slice base sLen sCap, conc m (y'.ev L T)]).run P w = .ok (.slice base sLen sCap) w := by
  intro hn base sLen sCap hle ty
  subst hn
  have : new = [] := List.eq_nil_of_length_eq_zero (by rw [hln, Nat.zero_mul])
  subst this
  exact run_append_nothing w t u ty el i hu hi base sLen sCap hle _ (by rw [hsi]; exact hsrc)
 apply fin
 rcases AV.unSl_ok h with ⟨hp, h⟩ | ⟨b, o, len, cap, hp, h⟩ | ⟨b, o, len, lost, hp, h⟩ | h
 ·rw [hp] at hx1
  rw [hx1]
  rcases bool_ok h with ⟨hn, h⟩ | ⟨hn, h⟩
  ·exact ⟨_, _, _, _, _, h, Step.refl hR, trivial, fun ty => nothing (beq_of hn) none 0 0 (Nat.le_refl _) ty⟩
  ·rcases bool_ok h with ⟨hm, h⟩ | ⟨_, h⟩
   ·have hpos := Nat.pos_of_ne_zero (nbeq_of hn)
    have := app_new (s := szT P el) (sLen := 0) (sCap := 0) (base := none) (old := []) (new := new) (k := k) (r := r) hR hu hz rfl hzl hby rfl (by simp) hln hsrc (by omega) (by rw [Nat.zero_add]; exact ble_of hm) hlo (by rw [Nat.zero_add]; exact h)
    exact this
   ·cases h
 ·rw [hp] at hx1 hN
  rw [hx1]
  rcases bool_ok h with ⟨hr, h⟩ | ⟨hr, h⟩
  ·have hroom : len + n ≤ cap := ble_of hr
   rcases bool_ok h with ⟨hn, h⟩ | ⟨hn, h⟩
   ·have hn0 := beq_of hn
    exact ⟨_, _, _, _, _, h, Step.refl hR, hN, fun ty => nothing hn0 _ len cap (by omega) ty⟩
   ·exact app_write hR hN hu rfl h0 hln hlo hsrc hroom (v0 := .sl b o (len + n) cap) hN rfl h
  ·have hroom : ¬ len + n ≤ cap := nble_of hr
   rcases bool_ok h with ⟨hm, h⟩ | ⟨_, h⟩
   ·obtain ⟨n2, old, h, hlo2, hoo, hlen2, hfo⟩ := rd_ok (P := P) (y := .sl b o len cap) hR hN h
    have e2 : n2 = len := by
     have := hlen2 w
     simp only [conc, Builtin.lenOf, Sem.run_pure, Result.ok.injEq, and_true] at this
     exact this.symm
    subst e2
    have hold := hfo n2 (Nat.le_refl _) w.drew hR.drew
    rw [← hlo2, List.take_length] at hold
    exact app_new (s := szT P el) (old := old) (new := new) hR hu hz rfl hzl hby hold hlo2 hln hsrc (by omega) (ble_of hm) (fun x hx => by
     rcases List.mem_append.1 hx with hx | hx
     ·exact hoo x hx
     ·exact hlo x hx) h
   ·cases h
 ·rw [hp] at hx1 hN
  rw [hx1]
  rcases bool_ok h with ⟨hn, h⟩ | ⟨hn, h⟩
  ·have hn0 := beq_of hn
   exact ⟨_, _, _, _, _, h, Step.refl hR, hN, fun ty => nothing hn0 _ len _ (by have := hN.2; omega) ty⟩
  ·rcases bool_ok h with ⟨hm, h⟩ | ⟨_, h⟩
   ·obtain ⟨l, ty', root, ab, g, birth, h1, h⟩ := cells_ok h
    rcases bool_ok h with ⟨hc, h5⟩ | ⟨_, h⟩
    ·simp only [band_eq, Bool.and_eq_true] at hc
     obtain ⟨hl, hgs, hty, ho⟩ := hc
     have hl := ble_of hl
     have hgs : g = szT P el := beq_of hgs
     have hty : el = ty' := beq_of hty
     have ho : o = lost * szT P el := beq_of ho
     subst hty
     subst hgs
     rcases bool_ok h5 with ⟨hr, h6⟩ | ⟨hr, h6⟩
     ·have hr : o + (len + n) * szT P el ≤ llen l := ble_of hr
      rw [llen_eq] at hr
      obtain ⟨cs, fz, _, _, _, _, c5⟩ := hR.obj b _ hN.1 h1
      have c6 := (c5 h0).2
      have hle : (lost + (len + n)) * szT P el ≤ m.cap b * szT P el := by rw [Nat.add_mul, ← ho]; exact Nat.le_trans hr c6
      have hle2 : lost + (len + n) ≤ m.cap b := Nat.le_of_mul_le_mul_right hle (Nat.pos_of_ne_zero h0)
      exact app_write hR hN.1 hu rfl h0 hln hlo hsrc (by omega) (v0 := .su b o (len + n) lost) ⟨hN.1, hle2⟩ rfl h6
     ·have hr : ¬ o + (len + n) * szT P el ≤ llen l := nble_of hr
      rw [llen_eq] at hr
      obtain ⟨hle, h7⟩ := ltake_ok h6
      rw [ldrop_eq] at hle h7
      exact app_grow hR hN.1 hN.2 h1 hu hz rfl hzl h0 hby (ble_of hm) hln hlo hsrc ho hl (by omega) hle h7
    ·cases h
   ·cases h
 ·cases h
theorem get_head {α : Type} {a : Array α} {x : α} {l : List α} (h : a.toList = x :: l) : a[0]? = some x := by rw [← Array.getElem?_toList, h]; rfl
theorem cmpH_snd {op : Op} {o : HOp} (h : cmpH P e op = some o) : HSnd P e op o := by
 unfold cmpH at h
 split at h
 ·obtain ⟨z, hz, rfl⟩ := bind2 h; exact snd_alloc hz
 ·obtain ⟨x', hx, rfl⟩ := bind2 h; exact snd_box hx
 ·split at h
  ·rename_i hu
   split at h
   ·rename_i hz hp
    split at h
    ·cases h
    ·rename_i hc
     cases h
     have c1 := not_or.1 hc
     have c2 := not_or.1 c1.2
     exact snd_buildSl hu hz hp c1.1 c2.1 (by simpa using c2.2)
   ·cases h
  ·cases h
 ·split at h
  ·rename_i ha hv
   split at h
   ·cases h
   ·rename_i hz; cases h; exact snd_store hz ha hv
  ·cases h
 ·split at h
  ·rename_i hs hd
   split at h
   ·rename_i he; obtain ⟨x', hx, rfl⟩ := bind2 h; exact snd_s2b hs hd he hx
   ·cases h
  ·cases h
 ·cases h; exact snd_mkMap
 ·split at h
  ·rename_i hu
   split at h
   ·rename_i hz hl hc
    split at h
    ·cases h
    ·rename_i hcc
     cases h
     have c1 := not_or.1 hcc
     have c2 := not_or.1 c1.2
     exact snd_makeSl hu hz hl hc c2.1 (by simpa using c2.2)
   ·cases h
  ·cases h
 ·split at h
  ·rename_i hu
   split at h
   ·rename_i hm hq hv hs
    split at h
    ·rename_i hk; cases h; exact snd_mup hu hk hs hm hq hv
    ·cases h
   ·cases h
  ·cases h
 ·split at h
  ·rename_i hu
   split at h
   ·rename_i hm hq hv hs
    split at h
    ·rename_i hk; cases h; exact snd_ins hu hk hs hm hq hv
    ·cases h
   ·cases h
  ·cases h
 ·split at h
  ·rename_i hu; obtain ⟨x', hx, rfl⟩ := bind2 h; exact snd_rng hu hx
  ·cases h
 ·split at h
  ·rename_i ha ht
   have := two_arr ha
   have := two_arr ht
   subst_vars
   split at h
   ·rename_i hu
    split at h
    ·rename_i hz hx hy
     split at h
     ·cases h
     ·rename_i hcc
      cases h
      have c1 := not_or.1 hcc
      have c2 := not_or.1 c1.2
      have c3 := not_or.1 c2.2
      have c4 := not_or.1 c3.2
      exact snd_app hu hz c1.1 (by omega) (by simpa using c4.1) (by simpa using c4.2) hx hy
    ·cases h
   ·cases h
  ·rename_i ha ht
   have := two_arr ha
   have ht0 := get_head ht
   subst_vars
   split at h
   ·rename_i hu
    split at h
    ·rename_i hx hy
     split at h
     ·cases h
     ·rename_i hz; cases h; exact snd_copy ht0 hu hz hx hy
    ·cases h
   ·cases h
  ·rename_i ha ht
   have := one_arr ha
   have := one_arr ht
   subst_vars
   split at h
   ·rename_i hu
    split at h
    ·rename_i hz hx
     split at h
     ·cases h
     ·rename_i hcc
      cases h
      have c1 := not_or.1 hcc
      exact snd_clear hu hz hx (by simpa using c1.2)
    ·cases h
   ·cases h
  ·rename_i ha ht
   have := two_arr ha
   have ht0 := get_head ht
   subst_vars
   split at h
   ·rename_i hu
    split at h
    ·rename_i hm hq hs
     split at h
     ·rename_i hk; cases h; exact snd_del ht0 hu hk hs hm hq
     ·cases h
    ·cases h
   ·cases h
  ·cases h
 ·cases h
end Av
end
section
set_option linter.unusedSimpArgs false
set_option linter.unusedVariables false
namespace Av
open Go Go.RowKit
/-! ### slots and stacks -/
theorem slot_cons (x : Nat × Pos) (σ : Sl) (t : Nat) : slot (x :: σ) t = if x.1 = t then some x.2 else slot σ t := by
 unfold slot
 rw [List.find?_cons]
 by_cases h : x.1 = t
 ·simp [h]
 ·rw [if_neg h, show (x.1 == t) = false from by simpa using h]
theorem slot_mem : ∀ {σ : Sl} {t : Nat} {p : Pos}, slot σ t = some p → (t, p) ∈ σ
 | [], t, p, h => by cases h
 | x :: σ, t, p, h => by
   rw [slot_cons] at h
   split at h
   ·rename_i e; cases h; subst e; exact List.mem_cons_self
   ·exact List.mem_cons_of_mem _ (slot_mem h)
theorem okS_lt {n : Nat} : ∀ {σ : Sl}, okS n σ = true → ∀ {t : Nat} {p : Pos}, slot σ t = some p → t < n
 | [], _, t, p, h => by cases h
 | x :: σ, ho, t, p, h => by
   simp only [okS, Bool.and_eq_true, decide_eq_true_eq] at ho
   rw [slot_cons] at h
   split at h
   ·rename_i e; subst e; exact ho.1.1
   ·exact okS_lt ho.2 h
theorem okS_inj {n : Nat} : ∀ {σ : Sl}, okS n σ = true → ∀ {t t' : Nat} {p : Pos}, slot σ t = some p → slot σ t' = some p → t = t'
 | [], _, t, _, p, h, _ => by cases h
 | x :: σ, ho, t, t', p, h, h' => by
   simp only [okS, Bool.and_eq_true, decide_eq_true_eq, List.all_eq_true] at ho
   rw [slot_cons] at h h'
   split at h
   ·rename_i e
    subst e
    cases h
    split at h'
    ·rename_i e; exact e
    ·exact absurd rfl (ho.1.2 _ (slot_mem h')).1
   ·split at h'
    ·rename_i e
     cases h'
     exact absurd rfl (ho.1.2 _ (slot_mem h)).1
    ·exact okS_inj ho.2 h h'
theorem idx_cons (x : Nat) (stk : List Nat) (t : Nat) : idx (x :: stk) t = if x = t then some 0 else (idx stk t).map (· + 1) := by
 unfold idx
 rw [List.findIdx?_cons]
 by_cases h : x = t
 ·simp [h]
 ·simp [h]
structure FrS (m : M) (N : Pos → Prop) (σ : Sl) (n : Nat) (stk : List Nat) (L : List AV) (T : PT AV) (tmps : Array Value) : Prop where
 fr : FrT m N σ n T tmps
 at' : ∀ t i, idx stk t = some i → tmps.getD t undef = conc m (lget L i)
 sep : ∀ t, t ∈ stk → slot σ t = none
 ok : ∀ v ∈ L, okV m N v
variable {P : Program} {ri : Nat → Option RInfo} {σ : Sl} {n : Nat} {m m' : M} {N N' : Pos → Prop} {stk : List Nat} {L : List AV} {T : PT AV} {tmps : Array Value}
theorem idx_mem : ∀ {stk : List Nat} {t i : Nat}, idx stk t = some i → t ∈ stk
 | [], t, i, h => by cases h
 | x :: stk, t, i, h => by
   rw [idx_cons] at h
   split at h
   ·rename_i e; subst e; exact List.mem_cons_self
   ·cases h' : idx stk t with
    | none => rw [h'] at h; cases h
    | some j => exact List.mem_cons_of_mem _ (idx_mem h')
theorem conc_undf (m : M) : conc m undf = undef := rfl
theorem undf_ok (m : M) (N : Pos → Prop) : okV m N undf := trivial
theorem lget_ok (h : ∀ v ∈ L, okV m N v) (i : Nat) : okV m N (lget L i) := by
 rw [lget_eq, List.getD_eq_getElem?_getD]
 cases hi : L[i]? with
 | none => exact undf_ok m N
 | some v => exact h v (List.mem_of_getElem? hi)
theorem FrS.keep (h : FrS m N σ n stk L T tmps) (ha : Agree N m m') (hn : ∀ x, N x → N' x) : FrS m' N' σ n stk L T tmps :=
 ⟨h.fr.keep ha hn, fun t i hi => by rw [h.at' t i hi, conc_agree ha _ (lget_ok h.ok i)], h.sep, fun v hv => okV_agree ha hn v (h.ok v hv)⟩
theorem FrT.start (h : FrT m N σ n T tmps) : FrS m N σ n [] [] T tmps := ⟨h, fun t i hi => (by cases hi), fun t ht => (by cases ht), fun v hv => (by cases hv)⟩
theorem getT_ok (h : ∀ p v, PT.get p T = some v → okV m N v) (p : Pos) : okV m N ((PT.get p T).getD undf) := by
 cases hp : PT.get p T with
 | none => exact undf_ok m N
 | some v => exact h p v hp
theorem ev_t (L : List AV) (T : PT AV) (p : Pos) : AO.ev L T (.t p) = (PT.get p T).getD undf := by
 show Option.rec (motive := fun _ => AV) undf (fun v => v) (PT.get p T) = _
 cases PT.get p T <;> rfl
theorem FrS.good {a : Act} (h : FrS m N σ n stk L T a.tmps) : Good (opd σ stk) a.eval m N L T := by
 refine ⟨fun x x' hx => ?_, fun c => rfl⟩
 cases x with
 | tmp t =>
   simp only [opd] at hx
   split at hx
   ·rename_i p hp
    cases hx
    rw [ev_t]
    exact ⟨h.fr.val t p hp, getT_ok h.fr.ok p⟩
   ·cases hi : idx stk t with
    | none => rw [hi] at hx; cases hx
    | some i =>
      rw [hi] at hx
      cases hx
      exact ⟨h.at' t i hi, lget_ok h.ok i⟩
 | const v =>
   simp only [opd] at hx
   cases hv : ofVal v with
   | none => rw [hv] at hx; cases hx
   | some c =>
     rw [hv] at hx
     cases hx
     obtain ⟨h1, h2⟩ := ofVal_ok hv m N
     exact ⟨h1.symm, h2.1⟩
 | func f => cases hx; exact ⟨rfl, trivial, trivial⟩
 | _ => cases hx
theorem put_tmps (a : Act) (d : Option Nat) (v : Value) : (a.put d v).tmps = (match d with | some t => a.tmps.setIfInBounds t v | none => a.tmps) := by cases d <;> rfl
theorem put_defers (a : Act) (d : Option Nat) (v : Value) : (a.put d v).defers = a.defers := by cases d <;> rfl
theorem getD_set {a : Array Value} {t : Nat} (ht : t < a.size) (v : Value) (t' : Nat) : (a.setIfInBounds t v).getD t' undef = if t' = t then v else a.getD t' undef := by
 rw [Array.getD_eq_getD_getElem?, Array.getD_eq_getD_getElem?, Array.getElem?_setIfInBounds]
 by_cases h : t = t'
 ·subst h; simp [ht]
 ·rw [if_neg h, if_neg (fun e => h e.symm)]
theorem putD_ok {k : List AV → PT AV → R Out} {r : Out} {d : Option Nat} {v : AV} {a : Act} (hσ : okS n σ = true) (h : FrS m N σ n stk L T a.tmps) (hv : okV m N v) (hk : putD (dstOf σ n d) v L T k = .ok r) :
 ∃ L' T', k L' T' = .ok r ∧ FrS m N σ n (pushed σ n stk d) L' T' (a.put d (conc m v)).tmps := by
 cases d with
 | none => exact ⟨L, T, hk, h⟩
 | some t =>
   rw [put_tmps]
   simp only [dstOf, pushed] at hk ⊢
   cases hs : slot σ t with
   | some p =>
     rw [hs] at hk
     have ht : t < a.tmps.size := by rw [h.fr.size]; exact okS_lt hσ hs
     refine ⟨L, PT.put p (some v) T, hk, ⟨⟨by simp [h.fr.size], fun t' p' hp' => ?_, fun p' v' hp' => ?_⟩, fun t' i hi => ?_, h.sep, h.ok⟩⟩
     ·rw [getD_set ht, PT.get_put]
      by_cases e : t' = t
      ·subst e
       rw [hs] at hp'
       cases hp'
       simp
      ·rw [if_neg e, if_neg (fun e' => e (by subst e'; exact okS_inj hσ hp' hs)), h.fr.val t' p' hp']
     ·rw [PT.get_put] at hp'
      split at hp'
      ·cases hp'; exact hv
      ·exact h.fr.ok p' v' hp'
     ·rw [getD_set ht, if_neg ?_, h.at' t' i hi]
      intro e
      subst e
      rw [h.sep t' (idx_mem hi)] at hs
      cases hs
   | none =>
     rw [hs] at hk
     by_cases ht : t < n
     ·simp only [ht, if_true] at hk ⊢
      have ht' : t < a.tmps.size := by rw [h.fr.size]; exact ht
      refine ⟨v :: L, T, hk, ⟨⟨by simp [h.fr.size], fun t' p' hp' => ?_, h.fr.ok⟩, fun t' i hi => ?_, fun t' ht' => ?_, fun x hx => ?_⟩⟩
      ·rw [getD_set ht', if_neg (fun e => by subst e; rw [hs] at hp'; cases hp'), h.fr.val t' p' hp']
      ·rw [idx_cons] at hi
       rw [getD_set ht']
       split at hi
       ·rename_i e
        cases hi
        rw [if_pos e.symm]
        rfl
       ·rename_i e
        rw [if_neg (fun e' => e e'.symm)]
        cases hj : idx stk t' with
        | none => rw [hj] at hi; cases hi
        | some j =>
          rw [hj] at hi
          cases hi
          rw [h.at' t' j hj]
          rfl
      ·rcases List.mem_cons.1 ht' with e | e
       ·subst e; exact hs
       ·exact h.sep t' e
      ·rcases List.mem_cons.1 hx with e | e
       ·subst e; exact hv
       ·exact h.ok x e
     ·simp only [ht, if_false] at hk ⊢
      refine ⟨L, T, hk, ?_⟩
      have : a.tmps.setIfInBounds t (conc m v) = a.tmps := by
       apply Array.ext_getElem?
       intro i
       rw [Array.getElem?_setIfInBounds]
       split
       ·rename_i e; subst e; rw [if_neg (by rw [h.fr.size]; exact ht)]
        rw [Array.getElem?_eq_none (by rw [h.fr.size]; omega)]
       ·rfl
      rw [this]
      exact h
/-! ### deferred calls; calls -/
def DfR (m : M) (N : Pos → Prop) : ADf → Deferred → Prop
 | .mark b, d => N b ∧ d = { target := .collected (m.ad b), args := #[] }
 | .clo (.fn g a c) xs, d => okL m N a ∧ okL m N c ∧ okL m N xs ∧ d = { target := .fn (.func g) (concL m c).toArray, args := (concL m (a ++ xs)).toArray }
 | _, _ => False
def DsL (m : M) (N : Pos → Prop) : List ADf → List Deferred → Prop
 | [], [] => True
 | x :: xs, d :: ds => DfR m N x d ∧ DsL m N xs ds
 | _, _ => False
def DsR (m : M) (N : Pos → Prop) (q : Option Nat) (D : List ADf) (ds : List Deferred) : Prop := (q = none ∧ DsL m N D ds) ∨ (∃ l, D = [.rnd l])
theorem DfR.keep (ha : Agree N m m') (hn : ∀ x, N x → N' x) : ∀ {x : ADf} {d : Deferred}, DfR m N x d → DfR m' N' x d
 | .mark b, d, h => ⟨hn b h.1, by rw [ha.ad b h.1]; exact h.2⟩
 | .clo (.fn g a c) xs, d, h => ⟨okL_agree ha hn a h.1, okL_agree ha hn c h.2.1, okL_agree ha hn xs h.2.2.1, by
    rw [concL_agree ha c h.2.1, concL_agree ha (a ++ xs) (by rw [okL_iff]; intro x hx; rcases List.mem_append.1 hx with e | e; exact (okL_iff m N a).1 h.1 x e; exact (okL_iff m N xs).1 h.2.2.1 x e)]; exact h.2.2.2⟩
theorem DsL.keep (ha : Agree N m m') (hn : ∀ x, N x → N' x) : ∀ {xs : List ADf} {ds : List Deferred}, DsL m N xs ds → DsL m' N' xs ds
 | [], [], _ => trivial
 | _ :: _, _ :: _, h => ⟨DfR.keep ha hn h.1, DsL.keep ha hn h.2⟩
theorem DsR.keep {q : Option Nat} {D : List ADf} {ds : List Deferred} (h : DsR m N q D ds) (ha : Agree N m m') (hn : ∀ x, N x → N' x) : DsR m' N' q D ds := by
 rcases h with ⟨h1, h2⟩ | h
 ·exact .inl ⟨h1, DsL.keep ha hn h2⟩
 ·exact .inr h
abbrev fc (q : Option Nat) : Fence := { Fence.wide with round := q }
def CoR (ri : Nat → Option RInfo) (m : M) (N : Pos → Prop) (lim B : Nat) (H : AH) (w : World) : CO → Ending → World → Prop
 | .ret v H', e, w' => ∃ m' N', Step ri m N lim B H w m' N' H' w' ∧ okV m' N' v ∧ e = .returned (conc m' v)
 | .pan v H', e, w' => ∃ m' N', Step ri m N lim B H w m' N' H' w' ∧ okV m' N' v ∧ e = .panicked [{ v := conc m' v, recovered := false }]
structure HdOK (P : Program) (ri : Nat → Option RInfo) (hd : Hd) : Prop where
 call : ∀ {m : M} {N : Pos → Prop} {lim B : Nat} {H : AH} {w : World} {f : Nat} {xs : List AV} {co : CO}, Rel ri m N N lim B H w → okL m N xs → hd.call lim f xs H = .ok co →
  (callFunc f (concL m xs).toArray).run P w = .ok (.enter f (concL m xs).toArray) w ∧ CallsIn Fence.wide 0 P f (concL m xs).toArray w (CoR ri m N lim B H w co)
 round : ∀ {m : M} {N : Pos → Prop} {lim B : Nat} {H : AH} {w : World} {l : Pos} {xs : List AV} {co : CO}, Rel ri m N N lim B H w → N l → okL m N xs → hd.round lim l xs H = .ok co →
  ∃ f tmps assign body, (Instr.yield (m.ad l) (concL m xs).toArray).run P w = .ok (.round (m.ad l) f tmps assign body) w ∧ RoundIn Fence.wide 0 P (m.ad l) f tmps assign body w (CoR ri m N lim B H w co)
def ExR (m : M) (N : Pos → Prop) : Ex → Exit → Prop
 | .nrm, .normal => True
 | .ex i, .exit j => i = j
 | .ret, .ret => True
 | .pan v, .panic ch => ch = [{ v := conc m v, recovered := false }] ∧ okV m N v
 | _, _ => False
def Post (ri : Nat → Option RInfo) (m : M) (N : Pos → Prop) (lim B : Nat) (H : AH) (w : World) (σ : Sl) (n : Nat) (q : Option Nat) : Out → Exit → Act → World → Prop
 | .mk e T' D' H', ex, a', w' => ∃ m' N', Step ri m N lim B H w m' N' H' w' ∧ FrT m' N' σ n T' a'.tmps ∧ DsR m' N' q D' a'.defers ∧ ExR m' N' e ex
theorem Post.trans {lim B : Nat} {H H' : AH} {w w' : World} {q : Option Nat} {o : Out} {ex : Exit} {a : Act} {w'' : World} (h : Step ri m N lim B H w m' N' H' w') (hp : Post ri m' N' lim B H' w' σ n q o ex a w'') : Post ri m N lim B H w σ n q o ex a w'' := by
 cases o
 obtain ⟨m2, N2, s, r⟩ := hp
 exact ⟨m2, N2, h.trans s, r⟩
end Av
end
section
set_option linter.unusedSimpArgs false
set_option linter.unusedVariables false
namespace Av
open Go Go.RowKit
variable {P : Program} {ri : Nat → Option RInfo} {σ : Sl} {n : Nat} {q : Option Nat} {m m' : M} {N N' : Pos → Prop} {stk : List Nat} {L : List AV} {T : PT AV} {lim B : Nat} {H H' : AH} {w w' : World}
theorem okL_append {a b : List AV} : okL m N (a ++ b) ↔ okL m N a ∧ okL m N b := by
 simp only [okL_iff]
 exact ⟨fun h => ⟨fun x hx => h x (List.mem_append.2 (.inl hx)), fun x hx => h x (List.mem_append.2 (.inr hx))⟩, fun h x hx => (List.mem_append.1 hx).elim (h.1 x) (h.2 x)⟩
def Nxt (ri : Nat → Option RInfo) (m : M) (N : Pos → Prop) (lim B : Nat) (H : AH) (w : World) (σ : Sl) (n : Nat) (q : Option Nat) (stk : List Nat) (E : Env) (k : K) (out : Out) (next : Act → World → Prop) : Prop :=
 ∀ (m' : M) (N' : Pos → Prop) (H' : AH) (w' : World) (E' : Env) (L' : List AV) (T' : PT AV) (a' : Act), Step ri m N lim B H w m' N' H' w' → FrS m' N' σ n stk L' T' a'.tmps → DsR m' N' q E'.D a'.defers → E'.hd = E.hd → E'.lim = E.lim → E'.lg = E.lg →
  k E' L' T' H' = .ok out → next a' w'
theorem wpIn_wide_of {o : Oper} {a : Act} {next : Act → World → Prop} {Q : Exit → Act → World → Prop} {r : Result Next} (hd : ∀ c, o.op ≠ .defer c) (h : (execOp a.eval o).run P w = r) (hu : o.uponIn (fc q) 0 P a next Q r) : o.wpIn (fc q) 0 P a w next Q := by
 refine ⟨fun _ _ => trivial, ?_⟩
 have : (fc q).round = q := rfl
 rw [this]
 have hs : Oper.semAt q a.eval o = execOp a.eval o := by
  cases q with
  | none => rfl
  | some l => exact Oper.semAt_some l _ _ hd
 rw [hs, h]
 exact hu
theorem cmpV_nodefer {e : Operand → Option AO} {c : Call} {v : VOp} : cmpV P e (.defer c) ≠ some v := by unfold cmpV; intro h; cases h
theorem cmpH_nodefer {e : Operand → Option AO} {c : Call} {v : HOp} : cmpH P e (.defer c) ≠ some v := by unfold cmpH; intro h; cases h
theorem iV_ok {v : VOp} {k : K} {E : Env} {a : Act} {out : Out} {o : Oper} {next : Act → World → Prop} {Q : Exit → Act → World → Prop} (hσ : okS n σ = true) (hR : Rel ri m N N lim B H w) (hF : FrS m N σ n stk L T a.tmps) (hD : DsR m N q E.D a.defers)
 (hv : VSnd P (opd σ stk) o.op v) (hd : ∀ c, o.op ≠ .defer c) (hk : iV (dstOf σ n o.dst) v k E L T H = .ok out) (hn : Nxt ri m N lim B H w σ n q (pushed σ n stk o.dst) E k out next) : o.wpIn (fc q) 0 P a w next Q := by
 obtain ⟨x, h1, h2, h3⟩ := hv ri m N lim B H w a.eval L T hR hF.good _ _ hk
 obtain ⟨L', T', h4, h5⟩ := putD_ok hσ hF h2 h1
 exact wpIn_wide_of hd (h3 o rfl) (hn _ _ _ _ E L' T' _ (Step.refl hR) h5 (by rw [put_defers]; exact hD) rfl rfl rfl h4)
theorem iH_ok {v : HOp} {k : K} {E : Env} {a : Act} {out : Out} {o : Oper} {next : Act → World → Prop} {Q : Exit → Act → World → Prop} (hσ : okS n σ = true) (hR : Rel ri m N N lim B H w) (hF : FrS m N σ n stk L T a.tmps) (hD : DsR m N q E.D a.defers)
 (hl : E.lim = lim) (hv : HSnd P (opd σ stk) o.op v) (hd : ∀ c, o.op ≠ .defer c) (hk : iH (dstOf σ n o.dst) v k E L T H = .ok out) (hn : Nxt ri m N lim B H w σ n q (pushed σ n stk o.dst) E k out next) : o.wpIn (fc q) 0 P a w next Q := by
 subst hl
 obtain ⟨x, H', m', N', w', h1, hs, h2, h3⟩ := hv ri m N E.lim B H w a.eval L T hR hF.good _ _ hk
 obtain ⟨L', T', h4, h5⟩ := putD_ok hσ (hF.keep hs.ag hs.sub) h2 h1
 have hD' := hD.keep hs.ag hs.sub
 rcases h3 o rfl with h6 | ⟨e, h6⟩
 ·exact wpIn_wide_of hd h6 (hn _ _ _ _ E L' T' _ hs h5 (by rw [put_defers]; exact hD') rfl rfl rfl h4)
 ·subst e
  exact wpIn_wide_of hd h6 (hn _ _ _ _ E L' T' _ hs h5 (by rw [put_defers]; exact hD') rfl rfl rfl h4)
theorem co_ok {r : R CO} {kr kp : AV → AH → R Out} {out : Out} (h : co r kr kp = .ok out) : ∃ c, r = .ok c ∧ ((∃ v H', c = .ret v H' ∧ kr v H' = .ok out) ∨ (∃ v H', c = .pan v H' ∧ kp v H' = .ok out)) := by
 cases r with
 | er e => cases h
 | ok c =>
   cases c with
   | ret v H' => exact ⟨_, rfl, .inl ⟨v, H', rfl, h⟩⟩
   | pan v H' => exact ⟨_, rfl, .inr ⟨v, H', rfl, h⟩⟩
theorem end_ok {c : CO} {d : Option Nat} {k : K} {E : Env} {a : Act} {out : Out} {next : Act → World → Prop} {Q : Exit → Act → World → Prop} (hσ : okS n σ = true) (hF : FrS m N σ n stk L T a.tmps) (hD : DsR m N q E.D a.defers)
 (hc : (∃ v H', c = .ret v H' ∧ putD (dstOf σ n d) v L T (fun L' T' => k E L' T' H') = .ok out) ∨ (∃ v H', c = .pan v H' ∧ (.ok (.mk (.pan v) T E.D H') : R Out) = .ok out))
 (hn : Nxt ri m N lim B H w σ n q (pushed σ n stk d) E k out next) (hQ : ∀ ex a' w', Post ri m N lim B H w σ n q out ex a' w' → Q ex a' w') (e : Ending) (w' : World) (h : CoR ri m N lim B H w c e w') :
 (match (generalizing := false) e with
   | .returned v => next (a.put d v) w'
   | .panicked chain => Q (.panic chain) a w'
   | .outgrown => LetsOut Q : Prop) := by
 rcases hc with ⟨v, H', rfl, hk⟩ | ⟨v, H', rfl, hk⟩
 ·obtain ⟨m', N', hs, hv, rfl⟩ := h
  obtain ⟨L', T', h4, h5⟩ := putD_ok hσ (hF.keep hs.ag hs.sub) hv hk
  exact hn _ _ _ _ E L' T' _ hs h5 (by rw [put_defers]; exact hD.keep hs.ag hs.sub) rfl rfl rfl h4
 ·obtain ⟨m', N', hs, hv, rfl⟩ := h
  cases hk
  exact hQ _ _ _ ⟨m', N', hs, (hF.keep hs.ag hs.sub).fr, hD.keep hs.ag hs.sub, rfl, hv⟩
theorem iC_ok {f : Nat} {args : Array Operand} {ts : Array Nat} {xs : List AO} {k : K} {E : Env} {a : Act} {out : Out} {o : Oper} {next : Act → World → Prop} {Q : Exit → Act → World → Prop} (hσ : okS n σ = true) (hR : Rel ri m N N lim B H w) (hF : FrS m N σ n stk L T a.tmps) (hD : DsR m N q E.D a.defers)
 (hl : E.lim = lim) (hh : HdOK P ri E.hd) (ho : o.op = .call { callee := .value (.func f), args := args, argTypes := ts }) (hx : opds (opd σ stk) args.toList = some xs) (hk : iC (dstOf σ n o.dst) f xs k E L T H = .ok out) (hn : Nxt ri m N lim B H w σ n q (pushed σ n stk o.dst) E k out next)
 (hQ : ∀ ex a' w', Post ri m N lim B H w σ n q out ex a' w' → Q ex a' w') : o.wpIn (fc q) 0 P a w next Q := by
 subst hl
 obtain ⟨h1, h2⟩ := opds_ok hF.good hx
 obtain ⟨c, hc, hr⟩ := co_ok hk
 obtain ⟨c1, c2⟩ := hh.call hR h2 hc
 have he : (execOp a.eval o).run P w = .ok (.enter f (concL m (evs L T xs)).toArray) w := by
  unfold execOp
  rw [ho]
  have : args.map a.eval = (concL m (evs L T xs)).toArray := by rw [← h1, ← Array.toList_map, Array.toArray_toList]
  simp only [resolve, Act.eval, Deferred.ofValue, this, pure_bind, invoke]
  simpa using c1
 refine wpIn_wide_of (by rw [ho]; intro c hc; cases hc) he ?_
 rw [Oper.uponIn_enter]
 refine ⟨fun h => (by cases h), ?_⟩
 have c3 : CallsIn (fc q) 0 P f (concL m (evs L T xs)).toArray w (CoR ri m N E.lim B H w c) := c2
 exact c3.mono fun e w' h => by
  have := end_ok hσ hF hD hr hn hQ e w' h
  cases e <;> exact this
end Av
end
section
set_option linter.unusedSimpArgs false
set_option linter.unusedVariables false
namespace Av
open Go Go.RowKit
variable {P : Program} {ri : Nat → Option RInfo} {σ : Sl} {n : Nat} {q : Option Nat} {m m' : M} {N N' : Pos → Prop} {stk : List Nat} {L : List AV} {T : PT AV} {lim B : Nat} {H H' : AH} {w w' : World}
theorem iCv_ok {f : Operand} {f' : AO} {args : Array Operand} {ts : Array Nat} {xs : List AO} {k : K} {E : Env} {a : Act} {out : Out} {o : Oper} {next : Act → World → Prop} {Q : Exit → Act → World → Prop} (hσ : okS n σ = true) (hR : Rel ri m N N lim B H w) (hF : FrS m N σ n stk L T a.tmps) (hD : DsR m N q E.D a.defers)
 (hl : E.lim = lim) (hh : HdOK P ri E.hd) (ho : o.op = .call { callee := .value f, args := args, argTypes := ts }) (hf : opd σ stk f = some f') (hx : opds (opd σ stk) args.toList = some xs) (hk : iCv (dstOf σ n o.dst) f' xs k E L T H = .ok out) (hn : Nxt ri m N lim B H w σ n q (pushed σ n stk o.dst) E k out next)
 (hQ : ∀ ex a' w', Post ri m N lim B H w σ n q out ex a' w' → Q ex a' w') : o.wpIn (fc q) 0 P a w next Q := by
 subst hl
 obtain ⟨h1, h2⟩ := opds_ok hF.good hx
 have hargs : args.map a.eval = (concL m (evs L T xs)).toArray := by rw [← h1, ← Array.toList_map, Array.toArray_toList]
 have hfa := hF.good.at hf
 have hfo := hF.good.ok hf
 rcases AV.unFn_ok hk with ⟨g, x, y, hv, hk⟩ | ⟨l, hv, hk⟩ | hk
 ·rw [hv] at hfa hfo
  obtain ⟨c, hc, hr⟩ := co_ok hk
  have hxs : okL m N (x ++ (evs L T xs ++ y)) := okL_append.2 ⟨hfo.1, okL_append.2 ⟨h2, hfo.2⟩⟩
  obtain ⟨c1, c2⟩ := hh.call hR hxs hc
  have he : (execOp a.eval o).run P w = .ok (.enter g (concL m (x ++ (evs L T xs ++ y))).toArray) w := by
   unfold execOp
   rw [ho]
   have : (concL m x).toArray ++ (concL m (evs L T xs)).toArray ++ (concL m y).toArray = (concL m (x ++ (evs L T xs ++ y))).toArray := by simp [concL_append]
   simp only [resolve, hfa, conc, Deferred.ofValue, hargs, pure_bind, invoke, this]
   exact c1
  refine wpIn_wide_of (by rw [ho]; intro c hc; cases hc) he ?_
  rw [Oper.uponIn_enter]
  refine ⟨fun h => (by cases h), ?_⟩
  have c3 : CallsIn (fc q) 0 P g (concL m (x ++ (evs L T xs ++ y))).toArray w (CoR ri m N E.lim B H w c) := c2
  exact c3.mono fun e w' h => by
   have := end_ok hσ hF hD hr hn hQ e w' h
   cases e <;> exact this
 ·rw [hv] at hfa hfo
  obtain ⟨c, hc, hr⟩ := co_ok hk
  obtain ⟨f2, tmps, assign, body, c1, c2⟩ := hh.round hR hfo h2 hc
  have hr' : (∃ v H', c = .ret v H' ∧ putD (dstOf σ n o.dst) v L T (fun L' T' => k E L' T' H') = .ok out) ∨ (∃ v H', c = .pan v H' ∧ (.ok (.mk (.pan v) T E.D H') : R Out) = .ok out) := by
   rcases hr with h | ⟨_, _, _, h⟩
   ·exact .inl h
   ·cases h
  have he : (execOp a.eval o).run P w = .ok (.round (m.ad l) f2 tmps assign body) w := by
   unfold execOp
   rw [ho]
   simp only [resolve, hfa, conc, Deferred.ofValue, hargs, pure_bind, invoke]
   simpa using c1
  refine wpIn_wide_of (by rw [ho]; intro c hc; cases hc) he ?_
  rw [Oper.uponIn_round]
  refine ⟨fun h => (by cases h), ?_⟩
  have c3 : RoundIn (fc q) 0 P (m.ad l) f2 tmps assign body w (CoR ri m N E.lim B H w c) := c2
  exact c3.mono fun e w' h => by
   have := end_ok hσ hF hD hr' hn hQ e w' h
   cases e <;> exact this
 ·cases hk
theorem iDfr_ok {f : Operand} {f' : AO} {args : Array Operand} {ts : Array Nat} {xs : List AO} {k : K} {E : Env} {a : Act} {out : Out} {o : Oper} {next : Act → World → Prop} {Q : Exit → Act → World → Prop} (hR : Rel ri m N N lim B H w) (hF : FrS m N σ n stk L T a.tmps) (hD : DsR m N q E.D a.defers)
 (ho : o.op = .defer { callee := .value f, args := args, argTypes := ts }) (hd : dstOf σ n o.dst = .n) (hf : opd σ stk f = some f') (hx : opds (opd σ stk) args.toList = some xs) (hk : iDfr f' xs k E L T H = .ok out) (hn : Nxt ri m N lim B H w σ n q (pushed σ n stk o.dst) E k out next) : o.wpIn (fc q) 0 P a w next Q := by
 obtain ⟨h1, h2⟩ := opds_ok hF.good hx
 have hargs : args.map a.eval = (concL m (evs L T xs)).toArray := by rw [← h1, ← Array.toList_map, Array.toArray_toList]
 have hfa := hF.good.at hf
 have hfo := hF.good.ok hf
 unfold iDfr at hk
 rcases bool_ok hk with ⟨hp, hk⟩ | ⟨_, hk⟩
 ·rcases hD with ⟨hq, hD⟩ | ⟨l, hl⟩
  ·subst hq
   rcases AV.unFn_ok hk with ⟨g, x, y, hv, hk⟩ | ⟨l, hv, hk⟩ | hk
   ·rw [hv] at hfa hfo
    have hdst : ∀ a' : Act, a'.put o.dst undef = a' ∨ (∃ t, o.dst = some t ∧ n ≤ t ∧ slot σ t = none) := fun a' => by
     cases hdo : o.dst with
     | none => exact .inl rfl
     | some t =>
       rw [hdo] at hd
       simp only [dstOf] at hd
       cases hs : slot σ t with
       | some p => rw [hs] at hd; cases hd
       | none =>
         rw [hs] at hd
         by_cases ht : t < n
         ·rw [if_pos ht] at hd; cases hd
         ·exact .inr ⟨t, rfl, Nat.le_of_not_lt ht, hs⟩
    let d : Deferred := { target := .fn (.func g) (concL m y).toArray, args := (concL m (x ++ evs L T xs)).toArray }
    have he : (execOp a.eval o).run P w = .ok (.defer d) w := by
     unfold execOp
     rw [ho]
     simp only [resolve, hfa, conc, Deferred.ofValue, hargs, pure_bind]
     simp [d, concL_append]
    refine ⟨fun _ _ => trivial, ?_⟩
    have : (fc none).round = none := rfl
    rw [this, Oper.semAt_none, he, Oper.uponIn_defer]
    have hpu : pushed σ n stk o.dst = stk := by
     rcases hdst a with _ | ⟨t, e1, e2, e3⟩
     ·cases hdo : o.dst with
      | none => rfl
      | some t =>
        rw [hdo] at hd
        simp only [dstOf, pushed] at hd ⊢
        cases hs : slot σ t with
        | some p => rfl
        | none =>
          rw [hs] at hd
          by_cases ht : t < n
          ·rw [if_pos ht] at hd; cases hd
          ·simp [ht]
     ·rw [e1]; simp only [pushed, e3]; rw [if_neg (Nat.not_lt.2 e2)]
    have htm : ({ a with defers := d :: a.defers }.put o.dst undef : Act).tmps = a.tmps := by
     rcases hdst { a with defers := d :: a.defers } with h | ⟨t, e1, e2, e3⟩
     ·rw [h]
     ·rw [put_tmps, e1]
      simp only
      apply Array.ext_getElem?
      intro i
      rw [Array.getElem?_setIfInBounds]
      split
      ·rename_i e; subst e; rw [if_neg (show ¬ t < a.tmps.size by rw [hF.fr.size]; exact Nat.not_lt.2 e2), Array.getElem?_eq_none (by rw [hF.fr.size]; exact e2)]
      ·rfl
    refine hn m N H w ⟨E.hd, E.lim, E.lg, .clo (.fn g x y) (evs L T xs) :: E.D⟩ L T _ (Step.refl hR) ?_ ?_ rfl rfl rfl hk
    ·rw [hpu, htm]; exact hF
    ·rw [put_defers]
     exact .inl ⟨rfl, ⟨hfo.1, hfo.2, h2, rfl⟩, hD⟩
   ·cases hk
   ·cases hk
  ·rw [hl] at hp; cases hp
 ·cases hk
theorem iPan_ok {x : Operand} {x' : AO} {k : K} {E : Env} {a : Act} {out : Out} {o : Oper} {next : Act → World → Prop} {Q : Exit → Act → World → Prop} (hR : Rel ri m N N lim B H w) (hF : FrS m N σ n stk L T a.tmps) (hD : DsR m N q E.D a.defers)
 (ho : o.op = .panic x) (hx : opd σ stk x = some x') (hk : iPan x' k E L T H = .ok out) (hQ : ∀ ex a' w', Post ri m N lim B H w σ n q out ex a' w' → Q ex a' w') : o.wpIn (fc q) 0 P a w next Q := by
 have hfa := hF.good.at hx
 have hfo := hF.good.ok hx
 rcases AV.unIfc_ok hk with ⟨ty, v, hv, hk⟩ | hk
 ·rw [hv] at hfa hfo
  have he : (execOp a.eval o).run P w = .halt (.panic (conc m (.ifc ty v))) w := by
   unfold execOp
   rw [ho]
   simp [hfa, conc, Instr.panic]
  refine wpIn_wide_of (by rw [ho]; intro c hc; cases hc) he ?_
  rw [Oper.uponIn_panic]
  cases hk
  exact hQ _ _ _ ⟨m, N, Step.refl hR, hF.fr, hD, rfl, hfo⟩
 ·cases hk
theorem iBad_no {k : K} {E : Env} {L : List AV} {T : PT AV} {H : AH} {out : Out} {c : Nat} : iBad c k E L T H ≠ .ok out := fun h => by cases h
theorem cmpI_ok {num : Nat} {k : K} {E : Env} {a : Act} {out : Out} {o : Oper} {next : Act → World → Prop} {Q : Exit → Act → World → Prop} (hσ : okS n σ = true) (hR : Rel ri m N N lim B H w) (hF : FrS m N σ n stk L T a.tmps) (hD : DsR m N q E.D a.defers)
 (hl : E.lim = lim) (hh : HdOK P ri E.hd) (hk : cmpI P (opd σ stk) (dstOf σ n o.dst) num o.op k E L T H = .ok out) (hn : Nxt ri m N lim B H w σ n q (pushed σ n stk o.dst) E k out next)
 (hQ : ∀ ex a' w', Post ri m N lim B H w σ n q out ex a' w' → Q ex a' w') : o.wpIn (fc q) 0 P a w next Q := by
 have nd : ∀ c, o.op = .defer c → cmpV P (opd σ stk) o.op = none ∧ cmpH P (opd σ stk) o.op = none := fun c e => by
  rw [e]
  exact ⟨by unfold cmpV; rfl, by unfold cmpH; rfl⟩
 generalize hd' : dstOf σ n o.dst = d at hk
 obtain ⟨i, hi⟩ : ∃ i, cmpI P (opd σ stk) d num o.op = i := ⟨_, rfl⟩
 rw [hi] at hk
 generalize hop : o.op = op at hi
 unfold cmpI at hi
 split at hi
 ·rename_i v hv
  subst hi hd' hop
  exact iV_ok hσ hR hF hD (cmpV_snd hv) (fun c e => by rw [e] at hv; exact cmpV_nodefer hv) hk hn
 ·split at hi
  ·rename_i v hv
   subst hi hd' hop
   exact iH_ok hσ hR hF hD hl (cmpH_snd hv) (fun c e => by rw [e] at hv; exact cmpH_nodefer hv) hk hn
  ·split at hi
   ·rename_i f args ts
    split at hi
    ·rename_i xs hx
     subst hi hd'
     exact iC_ok hσ hR hF hD hl hh hop hx hk hn hQ
    ·subst hi; exact absurd hk iBad_no
   ·rename_i f args ts _
    split at hi
    ·rename_i f' xs hf hx
     subst hi hd'
     exact iCv_ok hσ hR hF hD hl hh hop hf hx hk hn hQ
    ·subst hi; exact absurd hk iBad_no
   ·rename_i f args ts
    split at hi
    ·rename_i f' xs hf hx
     subst hi
     exact iDfr_ok hR hF hD hop hd' hf hx hk hn
    ·subst hi; exact absurd hk iBad_no
   ·rename_i x
    split at hi
    ·rename_i x' hx
     subst hi
     exact iPan_ok hR hF hD hop hx hk hQ
    ·subst hi; exact absurd hk iBad_no
   ·subst hi; exact absurd hk iBad_no
end Av
end
section
set_option linter.unusedSimpArgs false
set_option linter.unusedVariables false
namespace Av
open Go Go.RowKit
variable {P : Program} {ri : Nat → Option RInfo} {σ : Sl} {n : Nat} {q : Option Nat} {m m' : M} {N N' : Pos → Prop} {stk : List Nat} {L : List AV} {T : PT AV} {lim B : Nat} {H H' : AH} {w w' : World}
def boolOf : AV → Option Bool
 | .bool b => some b
 | _ => none
theorem yielded_at {ops : Array Oper} {tmps : Array Value} {j t : Nat} (ht : (ops[j]?).bind (·.dst) = some t) {v : AV} (hv : tmps.getD t undef = conc m v) : yielded ops tmps j = boolOf v := by
 unfold yielded
 rw [ht, Option.bind_some]
 rw [Array.getD_eq_getD_getElem?] at hv
 cases h : tmps[t]? with
 | none =>
   rw [h] at hv
   cases v <;> first | rfl | (simp [undef, conc] at hv; done)
 | some x =>
   rw [h] at hv
   simp only [Option.getD_some] at hv
   subst hv
   cases v <;> first | rfl | simp [conc, boolOf]
theorem cmpG_ok {ops : Array Oper} {num : Nat} {i : K → K} {k : K} {E : Env} {a : Act} {out : Out} {o : Oper} {next : Act → World → Prop} {Q : Exit → Act → World → Prop} (hσ : okS n σ = true) (hR : Rel ri m N N lim B H w) (hF : FrS m N σ n stk L T a.tmps) (hD : DsR m N q E.D a.defers)
 (hk : cmpG (opd σ stk) (dstOf σ n o.dst) ops o num i k E L T H = .ok out) (hn : Nxt ri m N lim B H w σ n q (pushed σ n stk o.dst) E k out next)
 (hi : i k E L T H = .ok out → o.wpIn (fc q) 0 P a w next Q) :
 if Region.wanted o (yielded ops a.tmps) then o.wpIn (fc q) 0 P a w next Q else (∀ f, o.about P w a.eval = some f → (fc q).fn f) ∧ next (a.put o.dst undef) w := by
 obtain ⟨i', hi'⟩ : ∃ i', cmpG (opd σ stk) (dstOf σ n o.dst) ops o num i = i' := ⟨_, rfl⟩
 rw [hi'] at hk
 unfold cmpG at hi'
 split at hi'
 ·rename_i hg
  subst hi'
  have : Region.wanted o (yielded ops a.tmps) = true := by simp [Region.wanted, hg]
  rw [if_pos this]
  exact hi hk
 ·rename_i j wnt hg
  split at hi'
  ·rename_i t ht
   split at hi'
   ·rename_i g hgo
    subst hi'
    have hga := hF.good.at hgo
    have hy := yielded_at ht hga
    have skip : ∀ {r : R Out}, r = .ok out → putD (dstOf σ n o.dst) undf L T (fun L' T' => k E L' T' H) = r → (∀ f, o.about P w a.eval = some f → (fc q).fn f) ∧ next (a.put o.dst undef) w := fun hr hp => by
     rw [hr] at hp
     obtain ⟨L', T', h4, h5⟩ := putD_ok hσ hF (undf_ok m N) hp
     exact ⟨fun _ _ => trivial, hn _ _ _ _ E L' T' _ (Step.refl hR) h5 (by rw [put_defers]; exact hD) rfl rfl rfl h4⟩
    rcases AV.unBool_ok hk with ⟨b, hb, hk⟩ | ⟨hb, hk⟩
    ·rw [hb] at hy
     simp only [boolOf] at hy
     rcases bool_ok hk with ⟨hw, hk⟩ | ⟨hw, hk⟩
     ·have : Region.wanted o (yielded ops a.tmps) = true := by
       simp only [Region.wanted, hg, hy]
       cases wnt <;> cases b <;> first | rfl | (cases hw; done)
      rw [if_pos this]
      exact hi hk
     ·have : Region.wanted o (yielded ops a.tmps) = false := by
       simp only [Region.wanted, hg, hy]
       cases wnt <;> cases b <;> first | rfl | (cases hw; done)
      rw [if_neg (by rw [this]; simp)]
      exact skip hk rfl
    ·have : Region.wanted o (yielded ops a.tmps) = false := by
      have hy' : yielded ops a.tmps j = none := by
       rw [hy]
       cases hv : AO.ev L T g <;> first | rfl | exact absurd hv (hb _)
      simp only [Region.wanted, hg, hy']
      rfl
     rw [if_neg (by rw [this]; simp)]
     exact skip hk rfl
   ·subst hi'; exact absurd hk iBad_no
  ·subst hi'; exact absurd hk iBad_no
theorem cmpOps_ok {ops : Array Oper} {out : Out} {Q : Exit → Act → World → Prop} (hσ : okS n σ = true) : ∀ (os : List Oper) (stk : List Nat) (num : Nat) {m : M} {N : Pos → Prop} {H : AH} {w : World} {L : List AV} {T : PT AV} {E : Env} {a : Act}, Rel ri m N N lim B H w → FrS m N σ n stk L T a.tmps → DsR m N q E.D a.defers → E.lim = lim → HdOK P ri E.hd →
 cmpOps P σ n ops os stk num E L T H = .ok out → (∀ ex a' w', Post ri m N lim B H w σ n q out ex a' w' → Q ex a' w') → wpListIn (fc q) 0 P ops Q os a w
 | [], stk, num, m, N, H, w, L, T, E, a, hR, hF, hD, hl, hh, hk, hQ => by
   cases hk
   exact hQ _ _ _ ⟨m, N, Step.refl hR, hF.fr, hD, trivial⟩
 | o :: os, stk, num, m, N, H, w, L, T, E, a, hR, hF, hD, hl, hh, hk, hQ => by
   have hn : Nxt ri m N lim B H w σ n q (pushed σ n stk o.dst) E (cmpOps P σ n ops os (pushed σ n stk o.dst) (num + 1)) out (wpListIn (fc q) 0 P ops Q os) := fun m' N' H' w' E' L' T' a' hs hF' hD' e1 e2 e3 hk' =>
    cmpOps_ok hσ os _ _ hs.rel hF' hD' (e2.trans hl) (by rw [e1]; exact hh) hk' (fun ex a2 w2 hp => hQ ex a2 w2 (hp.trans hs))
   exact wpListIn_step fun K hK => by
    have hn' : Nxt ri m N lim B H w σ n q (pushed σ n stk o.dst) E (cmpOps P σ n ops os (pushed σ n stk o.dst) (num + 1)) out K := fun m' N' H' w' E' L' T' a' hs hF' hD' e1 e2 e3 hk' => hK _ _ (hn m' N' H' w' E' L' T' a' hs hF' hD' e1 e2 e3 hk')
    exact cmpG_ok hσ hR hF hD hk hn' (fun hk' => cmpI_ok hσ hR hF hD hl hh hk' hn' hQ)
theorem reg_ok {id : Nat} {ops : Array Oper} {out : Out} {Q : Exit → Act → World → Prop} {hd : Hd} {D : List ADf} {a : Act} (hσ : okS n σ = true) (hR : Rel ri m N N lim B H w) (hF : FrT m N σ n T a.tmps) (hD : DsR m N q D a.defers) (hh : HdOK P ri hd)
 (hk : cReg (cmpOps P σ n ops ops.toList [] 0) hd lim T D H = .ok out) (hQ : ∀ ex a' w', Post ri m N lim B H w σ n q out ex a' w' → Q ex a' w') : (Code.region id ops false).wpIn (fc q) 0 P Q a w :=
 wpIn_region_list (cmpOps_ok hσ _ _ _ (E := ⟨hd, lim, .nil, D⟩) hR hF.start hD rfl hh hk hQ)
end Av
end
section
set_option linter.unusedSimpArgs false
set_option linter.unusedVariables false
namespace Av
open Go Go.RowKit
theorem wpIn_loop_fuel {F : Fence} {n : Nat} {P : Program} {Q : Exit → Act → World → Prop} {c : Code} (J : Nat → Act → World → Prop) {j0 : Nat} {a : Act} {w : World} (h0 : J j0 a w)
 (round : ∀ j a w, J j a w → c.wpIn F n P (Exit.then (fun a' w' => ∃ j', j' < j ∧ J j' a' w') Q) a w) : (Code.loop c).wpIn F n P Q a w := by
 intro b k cs hro hb hr
 have key : ∀ j a w, J j a w → ∃ e a' w', Q e a' w' ∧ ArrivesIn (Machine.fenced P F) P (lone (b.atR a (.code c :: .inLoop c :: k)) cs w) b k cs e a' w' := by
  intro j
  induction j using Nat.strongRecOn with
  | _ j ih =>
    intro a w hJ
    obtain ⟨e, a1, w1, hq, harr⟩ := round j a w hJ b (.inLoop c :: k) cs hro hb hr
    cases e with
    | normal =>
      obtain ⟨j', hlt, hJ'⟩ := hq
      obtain ⟨e2, a2, w2, hq2, harr2⟩ := ih j' hlt a1 w1 hJ'
      exact ⟨e2, a2, w2, hq2, .of_steps (StepsIn.trans harr (.one (fenced_calm hb hr rfl) stepR_inLoop)) harr2⟩
    | exit id => exact ⟨_, a1, w1, hq, .pass (x := .inLoop c) rfl (fun _ _ => .inl (by simp)) harr⟩
    | goto l => exact ⟨_, a1, w1, hq, .pass (x := .inLoop c) rfl (fun _ _ => .inl (by simp)) harr⟩
    | ret => exact ⟨_, a1, w1, hq, .pass (x := .inLoop c) rfl (fun _ _ => .inl (by simp)) harr⟩
    | panic ch => exact ⟨_, a1, w1, hq, .pass (x := .inLoop c) rfl (fun _ _ => .inl (by simp)) harr⟩
    | outgrown => exact ⟨_, a1, w1, hq, .pass (x := .inLoop c) rfl (fun _ _ => .inl (by simp)) harr⟩
 obtain ⟨e, a', w', hq, harr⟩ := key _ a w h0
 exact ⟨e, a', w', hq, .of_steps (.one (fenced_calm hb hr rfl) stepR_loop) harr⟩
theorem out_ok {r : R Out} {kn : PT AV → List ADf → AH → R Out} {ke : Nat → PT AV → List ADf → AH → R Out} {o : Out} (h : out r kn ke = .ok o) :
 ∃ e T D H, r = .ok (.mk e T D H) ∧ ((e = .nrm ∧ kn T D H = .ok o) ∨ (∃ i, e = .ex i ∧ ke i T D H = .ok o) ∨ (e = .ret ∧ o = .mk .ret T D H) ∨ (∃ v, e = .pan v ∧ o = .mk (.pan v) T D H)) := by
 cases r with
 | er e => cases h
 | ok x =>
   obtain ⟨e, T, D, H⟩ := x
   refine ⟨e, T, D, H, rfl, ?_⟩
   cases e with
   | nrm => exact .inl ⟨rfl, h⟩
   | ex i => exact .inr (.inl ⟨i, rfl, h⟩)
   | ret => cases h; exact .inr (.inr (.inl ⟨rfl, rfl⟩))
   | pan v => cases h; exact .inr (.inr (.inr ⟨v, rfl, rfl⟩))
theorem ExR.nrm {m : M} {N : Pos → Prop} {ex : Exit} (h : ExR m N .nrm ex) : ex = .normal := by cases ex <;> first | rfl | exact h.elim
theorem ExR.ex {m : M} {N : Pos → Prop} {ex : Exit} {i : Nat} (h : ExR m N (.ex i) ex) : ex = .exit i := by cases ex <;> first | (have h' : i = _ := h; rw [h']; done) | exact h.elim
theorem ExR.ret {m : M} {N : Pos → Prop} {ex : Exit} (h : ExR m N .ret ex) : ex = .ret := by cases ex <;> first | rfl | exact h.elim
theorem ExR.pan {m : M} {N : Pos → Prop} {ex : Exit} {v : AV} (h : ExR m N (.pan v) ex) : ex = .panic [{ v := conc m v, recovered := false }] ∧ okV m N v := by
 cases ex <;> first | exact ⟨by rw [h.1], h.2⟩ | exact h.elim
variable {P : Program} {ri : Nat → Option RInfo} {σ : Sl} {n : Nat} {q : Option Nat} {f : Nat}
def CSnd (P : Program) (ri : Nat → Option RInfo) (σ : Sl) (n : Nat) (q : Option Nat) (c : Code) (x : C) : Prop :=
 ∀ ⦃m : M⦄ ⦃N : Pos → Prop⦄ ⦃lim B : Nat⦄ ⦃H : AH⦄ ⦃w : World⦄ ⦃T : PT AV⦄ ⦃D : List ADf⦄ ⦃a : Act⦄ ⦃hd : Hd⦄ ⦃o : Out⦄ ⦃Q : Exit → Act → World → Prop⦄, Rel ri m N N lim B H w → FrT m N σ n T a.tmps → DsR m N q D a.defers → HdOK P ri hd →
  x hd lim T D H = .ok o → (∀ ex a' w', Post ri m N lim B H w σ n q o ex a' w' → Q ex a' w') → c.wpIn (fc q) 0 P Q a w
theorem snd_skip : CSnd P ri σ n q .skip cSkip := fun m N lim B H w T D a hd o Q hR hF hD hh hk hQ => by
 cases hk
 exact wpIn_skip (hQ _ _ _ ⟨m, N, Step.refl hR, hF, hD, trivial⟩)
theorem snd_exit (i : Nat) : CSnd P ri σ n q (.exit i) (cExit i) := fun m N lim B H w T D a hd o Q hR hF hD hh hk hQ => by
 cases hk
 exact wpIn_exit (hQ _ _ _ ⟨m, N, Step.refl hR, hF, hD, rfl⟩)
theorem snd_ret : CSnd P ri σ n q .ret cRet := fun m N lim B H w T D a hd o Q hR hF hD hh hk hQ => by
 cases hk
 exact wpIn_ret (hQ _ _ _ ⟨m, N, Step.refl hR, hF, hD, trivial⟩)
theorem snd_reg (hσ : okS n σ = true) (id : Nat) (ops : Array Oper) : CSnd P ri σ n q (.region id ops false) (cReg (cmpOps P σ n ops ops.toList [] 0)) := fun m N lim B H w T D a hd o Q hR hF hD hh hk hQ => reg_ok hσ hR hF hD hh hk hQ
theorem snd_seq {c1 c2 : Code} {x1 x2 : C} (h1 : CSnd P ri σ n q c1 x1) (h2 : CSnd P ri σ n q c2 x2) : CSnd P ri σ n q (.seq c1 c2) (cSeq x1 x2) := fun m N lim B H w T D a hd o Q hR hF hD hh hk hQ => by
 obtain ⟨e, T1, D1, H1, hr, hk⟩ := out_ok hk
 refine wpIn_seq (h1 hR hF hD hh hr fun ex a' w' hp => ?_)
 obtain ⟨m', N', s, f1, d1, x1⟩ := hp
 rcases hk with ⟨rfl, hk⟩ | ⟨i, rfl, hk⟩ | ⟨rfl, hk⟩ | ⟨v, rfl, hk⟩
 ·rw [x1.nrm]
  exact h2 s.rel f1 d1 hh hk fun ex2 a2 w2 hp2 => hQ _ _ _ (hp2.trans s)
 ·rw [x1.ex]
  cases hk
  exact hQ _ _ _ ⟨m', N', s, f1, d1, rfl⟩
 ·rw [x1.ret]
  cases hk
  exact hQ _ _ _ ⟨m', N', s, f1, d1, trivial⟩
 ·rw [x1.pan.1]
  cases hk
  exact hQ _ _ _ ⟨m', N', s, f1, d1, rfl, x1.pan.2⟩
theorem snd_cond {c : Operand} {c' : AO} {c1 c2 : Code} {x1 x2 : C} (hc : opd σ [] c = some c') (h1 : CSnd P ri σ n q c1 x1) (h2 : CSnd P ri σ n q c2 x2) : CSnd P ri σ n q (.cond c c1 c2) (cCond c' x1 x2) := fun m N lim B H w T D a hd o Q hR hF hD hh hk hQ => by
 have hcv := hF.start.good.at hc
 rcases AV.unBool_ok hk with ⟨b, hb, hk⟩ | ⟨_, hk⟩
 ·rw [hb] at hcv
  rcases bool_ok hk with ⟨rfl, hk⟩ | ⟨rfl, hk⟩
  ·exact wpIn_cond_true hcv (h1 hR hF hD hh hk hQ)
  ·exact wpIn_cond_false hcv (h2 hR hF hD hh hk hQ)
 ·cases hk
theorem snd_block {c1 : Code} {x1 : C} (id : Nat) (h1 : CSnd P ri σ n q c1 x1) : CSnd P ri σ n q (.block id c1) (cBlock id x1) := fun m N lim B H w T D a hd o Q hR hF hD hh hk hQ => by
 obtain ⟨e, T1, D1, H1, hr, hk⟩ := out_ok hk
 refine wpIn_block (h1 hR hF hD hh hr fun ex a' w' hp => ?_)
 obtain ⟨m', N', s, f1, d1, x1⟩ := hp
 rcases hk with ⟨rfl, hk⟩ | ⟨i, rfl, hk⟩ | ⟨rfl, hk⟩ | ⟨v, rfl, hk⟩
 ·rw [x1.nrm]
  cases hk
  exact hQ _ _ _ ⟨m', N', s, f1, d1, trivial⟩
 ·rw [x1.ex]
  rcases bool_ok hk with ⟨hi, hk⟩ | ⟨hi, hk⟩ <;> cases hk
  ·simp only [Exit.inBlock, beq_of hi, if_true]
   exact hQ _ _ _ ⟨m', N', s, f1, d1, trivial⟩
  ·simp only [Exit.inBlock, if_neg (nbeq_of hi)]
   exact hQ _ _ _ ⟨m', N', s, f1, d1, rfl⟩
 ·rw [x1.ret]
  cases hk
  exact hQ _ _ _ ⟨m', N', s, f1, d1, trivial⟩
 ·rw [x1.pan.1]
  cases hk
  exact hQ _ _ _ ⟨m', N', s, f1, d1, rfl, x1.pan.2⟩
theorem snd_loop {c1 : Code} {x1 : C} (h1 : CSnd P ri σ n q c1 x1) : CSnd P ri σ n q (.loop c1) (cLoop x1) := fun m N lim B H w T D a hd o Q hR hF hD hh hk hQ => by
 refine wpIn_loop_fuel (fun j a1 w1 => ∃ m1 N1 H1 T1 D1, Step ri m N lim B H w m1 N1 H1 w1 ∧ FrT m1 N1 σ n T1 a1.tmps ∧ DsR m1 N1 q D1 a1.defers ∧ loopN x1 j hd lim T1 D1 H1 = .ok o) (j0 := 10000) ⟨m, N, H, T, D, Step.refl hR, hF, hD, hk⟩ ?_
 rintro j a1 w1 ⟨m1, N1, H1, T1, D1, s1, f1, d1, hk⟩
 cases j with
 | zero => cases hk
 | succ j =>
   have hk2 : out (x1 hd lim T1 D1 H1) (fun T' D' H' => loopN x1 j hd lim T' D' H') (fun n T' D' H' => .ok (.mk (.ex n) T' D' H')) = .ok o := hk
   clear hk
   obtain ⟨e, T2, D2, H2, hr, hk⟩ := out_ok hk2
   refine h1 s1.rel f1 d1 hh hr fun ex a' w' hp => ?_
   obtain ⟨m', N', s, f2, d2, x2⟩ := hp
   rcases hk with ⟨rfl, hk⟩ | ⟨i, rfl, hk⟩ | ⟨rfl, hk⟩ | ⟨v, rfl, hk⟩
   ·rw [x2.nrm]
    exact ⟨j, Nat.lt_succ_self j, m', N', H2, T2, D2, s1.trans s, f2, d2, hk⟩
   ·rw [x2.ex]
    cases hk
    exact hQ _ _ _ ⟨m', N', s1.trans s, f2, d2, rfl⟩
   ·rw [x2.ret]
    cases hk
    exact hQ _ _ _ ⟨m', N', s1.trans s, f2, d2, trivial⟩
   ·rw [x2.pan.1]
    cases hk
    exact hQ _ _ _ ⟨m', N', s1.trans s, f2, d2, rfl, x2.pan.2⟩
theorem snd_bad {c : Code} (i : Nat) : CSnd P ri σ n q c (cBad i) := fun m N lim B H w T D a hd o Q hR hF hD hh hk hQ => by cases hk
end Av
end
section
set_option linter.unusedSimpArgs false
set_option linter.unusedVariables false
namespace Av
open Go Go.RowKit
variable {P : Program} {ri : Nat → Option RInfo} {σ : Sl} {n : Nat} {q : Option Nat} {f : Nat}
def pendC (p : Option Nat) : Option Code := p.map fun j => match j with | 0 => Code.ret | id + 1 => Code.exit id
theorem Step.loop {m : M} {N : Pos → Prop} {lim B : Nat} {H : AH} {w : World} {b : Pos} {st : LoopState} {pend : Option Nat} {code : Nat} {t : PT AV} {blk : Pos} {birth : Nat} (h : Rel ri m N N lim B H w) (hN : N b) (ho : PT.get b H.bl = some (.loop st pend code t blk birth)) (hl : lim ≤ birth) :
 ∃ r : Loop, w.heap[m.ad b]? = some (.loop r) ∧ r.state = st ∧ r.pending = pendC pend ∧ (∃ R, ri code = some R ∧ FrT m N R.σ R.size t r.tmps ∧ r.params = R.params ∧ r.assign = R.assign ∧ r.body = R.body) ∧
  ∀ st' pend', Step ri m N lim B H w m N (H.setB b (some (.loop st' pend' code t blk birth))) (w.putObj (m.ad b) (.loop { r with state := st', pending := pendC pend' })) := by
 obtain ⟨R, tmps, d, fn, h1, h2, h3⟩ := h.obj b _ hN ho
 refine ⟨_, h3, rfl, rfl, ⟨R, h1, h2, rfl, rfl, rfl⟩, fun st' pend' => Step.put h hN ho rfl rfl rfl hl ⟨R, tmps, d, fn, h1, h2, ?_⟩⟩
 exact World.putObj_heap_same (Array.getElem?_eq_some_iff.1 h3).1
theorem snd_rangeF {g : Operand} {g' : AO} {ps : Array Tmp} {assign body : Code} (hg : opd σ [] g = some g') (hri : ri f = some ⟨ps, assign, body, σ, n⟩) : CSnd P ri σ n q (.rangeFunc g ps assign body) (cRangeF g' f) := fun m N lim B H w T D a hd o Q hR hF hD hh hk hQ => by
 unfold cRangeF at hk
 rcases bool_ok hk with ⟨hp, hk⟩ | ⟨_, hk⟩
 ·rcases hD with ⟨hq, hD⟩ | ⟨l, hl⟩
  ·subst hq
   have hga := hF.start.good.at hg
   have hgo := hF.start.good.ok hg
   have hk : (g'.ev [] T).unFn (fun gf x y => co (hd.call lim gf (x ++ (AV.yld H.nx.succ :: y)) ((H.fresh (.dblk H.cnt)).fresh (.loop .ready none f T H.nx (H.cnt + 1)))) _ _) _ _ = R.ok o := hk
   rcases AV.unFn_ok hk with ⟨gf, x, y, hv, hk⟩ | ⟨l, hv, hk⟩ | hk
   ·rw [hv] at hga hgo
    obtain ⟨c, hc, hr⟩ := co_ok hk
    refine wpIn_rangeFunc fun fn _ => ?_
    have ob1 : Step ri m N lim B H w (m.set H.nx w.heap.size 0 0) (more N H.nx) (H.fresh (.dblk H.cnt)) (w.alloc (.deferred (some []))) :=
     Step.fresh hR (o := .dblk H.cnt) (ob := .deferred (some [])) (c := 0) rfl (fun _ _ _ _ _ _ e => by cases e) (by show (w.alloc _).heap[_]? = _; rw [M.set_ad]; exact alloc_last w _)
    have hnx1 : (H.fresh (.dblk H.cnt)).nx = H.nx.succ := fresh_nx H _
    have hcn1 : (H.fresh (.dblk H.cnt)).cnt = H.cnt + 1 := fresh_cnt H _
    have hs1 : (w.alloc (.deferred (some []))).heap.size = w.heap.size + 1 := alloc_size w _
    let rec1 : Loop := { state := .ready, pending := none, fn := fn, tmps := a.tmps, params := ps, assign := assign, body := body, defers := w.heap.size }
    have ob2 := Step.fresh ob1.rel (o := .loop .ready none f T H.nx (H.cnt + 1)) (ob := .loop rec1) (c := 0) hcn1.symm (fun _ _ _ _ _ _ e => by cases e)
     (by
       refine ⟨⟨ps, assign, body, σ, n⟩, a.tmps, w.heap.size, fn, hri, ?_, ?_⟩
       ·exact (hF.keep ob1.ag ob1.sub).keep (Agree.set ob1.rel.nx _ _ _ _) (fun _ z => .inl z)
       ·rw [M.set_ad]; exact alloc_last _ _)
    have s2 := ob1.trans ob2
    rw [hnx1, hs1] at s2
    generalize hm2 : ((m.set H.nx w.heap.size 0 0).set H.nx.succ (w.heap.size + 1) 0 0) = m2 at s2
    generalize hN2 : more (more N H.nx) H.nx.succ = N2 at s2
    have had : m2.ad H.nx.succ = w.heap.size + 1 := by rw [← hm2, M.set_ad]
    have hNl : N2 H.nx.succ := by rw [← hN2]; exact .inr rfl
    have hNb : N2 H.nx := by rw [← hN2]; exact .inl (.inr rfl)
    have hadb : m2.ad H.nx = w.heap.size := by
     rw [← hm2]
     have : H.nx ≠ H.nx.succ := fun e => by have := congrArg Pos.num e; rw [Pos.num_succ] at this; omega
     show (if H.nx = H.nx.succ then _ else (m.set H.nx w.heap.size 0 0).ad H.nx) = _
     rw [if_neg this, M.set_ad]
    have hx2 := okL_agree s2.ag s2.sub x hgo.1
    have hy2 := okL_agree s2.ag s2.sub y hgo.2
    have hxs : okL m2 N2 (x ++ (AV.yld H.nx.succ :: y)) := okL_append.2 ⟨hx2, hNl, hy2⟩
    obtain ⟨c1, c2⟩ := hh.call s2.rel hxs hc
    have hargs : (concL m2 (x ++ (AV.yld H.nx.succ :: y))) = concL m x ++ (Value.func (.yield (w.heap.size + 1)) #[] #[] :: concL m y) := by
     rw [concL_append, concL_agree s2.ag x hgo.1]
     show _ ++ (conc m2 (.yld H.nx.succ) :: concL m2 y) = _
     rw [concL_agree s2.ag y hgo.2]
     simp only [conc, had]
    have hend : ∀ e w3, CoR ri m2 N2 lim B ((H.fresh (.dblk H.cnt)).fresh (.loop .ready none f T H.nx (H.cnt + 1))) ((w.alloc (.deferred (some []))).alloc (.loop rec1)) c e w3 → rangePost (fc none) 0 P (w.heap.size + 1) Q { a with defers := [{ target := .collected w.heap.size, args := #[] }] ++ a.defers } e w3 := by
     intro e w3 hco
     rcases hr with ⟨v, H', rfl, hk⟩ | ⟨v, H', rfl, hk⟩
     ·obtain ⟨m', N', s3, hv', rfl⟩ := hco
      obtain ⟨st, pend, code', t, blk, birth, ho, hk⟩ := loopOf_ok hk
      rcases bool_ok hk with ⟨hb, hk⟩ | ⟨_, hk⟩
      ·have hN' : N' H.nx.succ := s3.sub _ hNl
       have hN'b : N' H.nx := s3.sub _ hNb
       obtain ⟨r, hr1, hr2, hr3, _, hr5⟩ := Step.loop s3.rel hN' ho (ble_of hb)
       have hl : m'.ad H.nx.succ = w.heap.size + 1 := by rw [s3.ag.ad _ hNl, had]
       have hlb : m'.ad H.nx = w.heap.size := by rw [s3.ag.ad _ hNb, hadb]
       have s4 := hr5 .exhausted pend
       rw [hl] at hr1
       have he := run_endLoop (P := P) hr1
       have s5 := (s2.trans s3).trans s4
       have hF5 := hF.keep s5.ag s5.sub
       have hD5 : DsR m' N' none (.mark H.nx :: D) ({ target := .collected w.heap.size, args := #[] } :: a.defers) := .inl ⟨rfl, ⟨hN'b, by rw [hlb]⟩, hD.keep s5.ag s5.sub⟩
       have hrp : ({ r with state := .exhausted } : Loop) = { r with state := .exhausted, pending := pendC pend } := by rw [← hr3]
       have hw : w3.putObj (w.heap.size + 1) (.loop { r with state := .exhausted }) = w3.putObj (m'.ad H.nx.succ) (.loop { r with state := .exhausted, pending := pendC pend }) := by rw [hl, hrp]
       cases st with
       | ready =>
         cases pend with
         | some j => cases hk
         | none =>
           cases hk
           have hpn : r.pending = none := hr3
           refine ⟨none, _, (he (by rw [hr2]; intro e; cases e)).trans (congrArg (fun p => Result.ok p _) hpn), ?_⟩
           exact hQ _ _ _ ⟨m', N', by rw [hw]; exact s5, hF5, hD5, trivial⟩
       | busy => cases hk
       | done =>
         cases pend with
         | none => cases hk
         | some j =>
           cases j with
           | zero =>
             cases hk
             have hpn : r.pending = some .ret := hr3
             refine ⟨some .ret, _, (he (by rw [hr2]; intro e; cases e)).trans (congrArg (fun p => Result.ok p _) hpn), ?_⟩
             exact wpIn_ret (hQ _ _ _ ⟨m', N', by rw [hw]; exact s5, hF5, hD5, trivial⟩)
           | succ id =>
             cases hk
             have hpn : r.pending = some (.exit id) := hr3
             refine ⟨some (.exit id), _, (he (by rw [hr2]; intro e; cases e)).trans (congrArg (fun p => Result.ok p _) hpn), ?_⟩
             exact wpIn_exit (hQ _ _ _ ⟨m', N', by rw [hw]; exact s5, hF5, hD5, rfl⟩)
       | exhausted => cases hk
      ·cases hk
     ·cases hk
    refine ⟨w.heap.size + 1, [{ target := .collected w.heap.size, args := #[] }], _, { target := .fn (.func gf) (concL m y).toArray, args := (concL m x).toArray ++ #[.func (.yield (w.heap.size + 1)) #[] #[]] }, (w.alloc (.deferred (some []))).alloc (.loop rec1), gf, (concL m2 (x ++ (AV.yld H.nx.succ :: y))).toArray, (w.alloc (.deferred (some []))).alloc (.loop rec1), run_enterLoop_outer fn a.tmps ps assign body, ?hres, ?hlead, ?hinv, ?hdep, ?hcall⟩
    case hlead => exact fun _ _ => trivial
    case hdep => exact fun h => by cases h
    case hcall =>
     refine CallsIn.mono (show CallsIn (fc none) 0 P gf _ _ (CoR ri m2 N2 lim B _ _ c) from c2) ?_
     exact hend
    case hres =>
     have hga' : a.eval g = .func (.func gf) (concL m x).toArray (concL m y).toArray := hga
     have hmap : Array.map a.eval #[Operand.const (Value.func (Fn.yield (w.heap.size + 1)) #[] #[])] = #[Value.func (Fn.yield (w.heap.size + 1)) #[] #[]] := by simp [Act.eval]
     simp only [resolve, rangeCall, hga', Deferred.ofValue, hmap]
     simp
     rfl
    case hinv =>
     have : ((concL m x).toArray ++ #[.func (.yield (w.heap.size + 1)) #[] #[]] ++ (concL m y).toArray) = (concL m2 (x ++ (AV.yld H.nx.succ :: y))).toArray := by rw [hargs]; simp
     simp only [invoke, this]
     exact c1
   ·cases hk
   ·cases hk
  ·rw [hl] at hp; cases hp
 ·cases hk
end Av
end
section
set_option linter.unusedSimpArgs false
set_option linter.unusedVariables false
namespace Av
open Go Go.RowKit
variable {P : Program} {ri : Nat → Option RInfo} {σ : Sl} {n : Nat} {q : Option Nat} {f : Nat}
theorem snd_rangeR {g' : AO} {g : Operand} {ps : Array Tmp} {assign body : Code} (hq : q ≠ none) : CSnd P ri σ n q (.rangeFunc g ps assign body) (cRangeF g' f) := fun m N lim B H w T D a hd o Q hR hF hD hh hk hQ => by
 rcases hD with ⟨h, _⟩ | ⟨l, hl⟩
 ·exact absurd h hq
 ·subst hl
  cases hk
def DrawnOK (P : Program) (ri : Nat → Option RInfo) : Prop :=
 ∀ (σ : Sl) (n : Nat) (q : Option Nat) (id : Nat) (ops : Array Oper), okS n σ = true → drawOK n ops = true → CSnd P ri σ n q (.region id ops true) (cRegD (cmpD P σ n ops (befores ops.toList []) ops.toList [] 0))
theorem cmpC_ok (hdr : DrawnOK P ri) (hσ : okS n σ = true) : ∀ c : Code, (q = none → ∀ r ∈ rngs c, ri f = some ⟨r.1, r.2.1, r.2.2, σ, n⟩) → CSnd P ri σ n q c (cmpC P σ n f c)
 | .skip, _ => snd_skip
 | .region id ops false, _ => snd_reg hσ id ops
 | .region id ops true, _ => by
   unfold cmpC
   split
   ·rename_i h; exact hdr σ n q id ops hσ h
   ·exact snd_bad 4
 | .seq a b, h => snd_seq (cmpC_ok hdr hσ a fun hq r hr => h hq r (List.mem_append.2 (.inl hr))) (cmpC_ok hdr hσ b fun hq r hr => h hq r (List.mem_append.2 (.inr hr)))
 | .cond c a b, h => by
   have h1 : CSnd P ri σ n q a (cmpC P σ n f a) := cmpC_ok hdr hσ a fun hq r hr => h hq r (List.mem_append.2 (.inl hr))
   have h2 : CSnd P ri σ n q b (cmpC P σ n f b) := cmpC_ok hdr hσ b fun hq r hr => h hq r (List.mem_append.2 (.inr hr))
   unfold cmpC
   split
   ·rename_i x hx; exact snd_cond hx h1 h2
   ·exact snd_bad 1
 | .block id b, h => snd_block id (cmpC_ok hdr hσ b h)
 | .loop b, h => snd_loop (cmpC_ok hdr hσ b h)
 | .rangeFunc g ps a b, h => by
   unfold cmpC
   split
   ·rename_i x hx
    by_cases hq : q = none
    ·exact snd_rangeF hx (h hq (ps, a, b) List.mem_cons_self)
    ·exact snd_rangeR hq
   ·exact snd_bad 2
 | .exit id, _ => snd_exit id
 | .ret, _ => snd_ret
 | .label _, _ => snd_bad 3
 | .goto _, _ => snd_bad 3
 | .scope _, _ => snd_bad 3
 | .refuse _, _ => snd_bad 3
noncomputable def putO (p : Option Pos) (v : AV) (T : PT AV) : PT AV := Option.rec (motive := fun _ => PT AV) T (fun s => PT.put s (some v) T) p
noncomputable def initF : List (Option Pos) → List AV → PT AV → PT AV
 | p :: ps, v :: vs, T => initF ps vs (putO p v T)
 | _, _, T => T
theorem initT_ok {r : CO} {k : PT AV → R CO} : ∀ {ps : List (Option Pos)} {vs : List AV} {T : PT AV}, initT ps vs T k = .ok r → ps.length = vs.length ∧ k (initF ps vs T) = .ok r
 | [], [], T, h => ⟨rfl, h⟩
 | [], _ :: _, T, h => by cases h
 | _ :: _, [], T, h => by cases h
 | p :: ps, v :: vs, T, h => by
   have h : initT ps vs (putO p v T) k = .ok r := h
   obtain ⟨h1, h2⟩ := initT_ok h
   exact ⟨by simp [h1], h2⟩
theorem set_size_ge {a : Array Value} {t : Nat} {v : Value} (h : a.size ≤ t) : a.setIfInBounds t v = a := by
 apply Array.ext_getElem?
 intro i
 rw [Array.getElem?_setIfInBounds]
 split
 ·rename_i e; subst e; rw [if_neg (by omega), Array.getElem?_eq_none h]
 ·rfl
theorem FrT.set {m : M} {N : Pos → Prop} {T : PT AV} {tmps : Array Value} (hσ : okS n σ = true) (h : FrT m N σ n T tmps) (t : Nat) {v : AV} (hv : okV m N v) :
 FrT m N σ n (putO (slot σ t) v T) (tmps.setIfInBounds t (conc m v)) := by
 cases hs : slot σ t with
 | some p =>
   show FrT m N σ n (PT.put p (some v) T) _
   have ht : t < tmps.size := by rw [h.size]; exact okS_lt hσ hs
   refine ⟨by simp [h.size], fun t' p' hp' => ?_, fun p' v' hp' => ?_⟩
   ·rw [getD_set ht, PT.get_put]
    by_cases e : t' = t
    ·subst e
     rw [hs] at hp'
     cases hp'
     simp
    ·rw [if_neg e, if_neg (fun e' => e (by subst e'; exact okS_inj hσ hp' hs)), h.val t' p' hp']
   ·rw [PT.get_put] at hp'
    split at hp'
    ·cases hp'; exact hv
    ·exact h.ok p' v' hp'
 | none =>
   show FrT m N σ n T _
   by_cases ht : t < tmps.size
   ·refine ⟨by simp [h.size], fun t' p' hp' => ?_, h.ok⟩
    rw [getD_set ht, if_neg (fun e => by subst e; rw [hs] at hp'; cases hp'), h.val t' p' hp']
   ·rw [set_size_ge (by omega)]; exact h
theorem FrT.init {m : M} {N : Pos → Prop} (hσ : okS n σ = true) : ∀ (ts : List Nat) (vs : List AV) {T : PT AV} {tmps : Array Value}, okL m N vs → FrT m N σ n T tmps → FrT m N σ n (initF (ts.map (slot σ)) vs T) ((ts.zip (concL m vs)).foldl (fun tmps x => tmps.setIfInBounds x.1 x.2) tmps)
 | [], vs, T, tmps, _, h => by cases vs <;> exact h
 | t :: ts, [], T, tmps, _, h => h
 | t :: ts, v :: vs, T, tmps, hv, h => FrT.init hσ ts vs hv.2 (h.set hσ t hv.1)
theorem rout_ok {r : R Out} {kn : PT AV → AH → R CO} {ke : Nat → AH → R CO} {kr : AH → R CO} {c : Nat} {o : CO} (h : rout c r kn ke kr = .ok o) :
 ∃ e T D H, r = .ok (.mk e T D H) ∧ ((e = .nrm ∧ kn T H = .ok o) ∨ (∃ i, e = .ex i ∧ ke i H = .ok o) ∨ (e = .ret ∧ kr H = .ok o)) := by
 cases r with
 | er e => cases h
 | ok x =>
   obtain ⟨e, T, D, H⟩ := x
   refine ⟨e, T, D, H, rfl, ?_⟩
   cases e with
   | nrm => exact .inl ⟨rfl, h⟩
   | ex i => exact .inr (.inl ⟨i, rfl, h⟩)
   | ret => exact .inr (.inr ⟨rfl, h⟩)
   | pan v => cases h
theorem endRound_ok {m m1 : M} {N N1 : Pos → Prop} {lim B : Nat} {H H1 : AH} {w w1 : World} {l : Pos} {j : Option Nat} {o : CO} (hs : Step ri m N lim B H w m1 N1 H1 w1) (hN : N l) (h : endRound lim l j H1 = .ok o) :
 ∃ v w2, (Instr.endRound (m.ad l) (pendC j)).run P w1 = .ok v w2 ∧ CoR ri m N lim B H w o (.returned v) w2 := by
 unfold endRound at h
 obtain ⟨st, pend, code, t, blk, birth, ho, hk⟩ := loopOf_ok h
 rcases bool_ok hk with ⟨hb, hk⟩ | ⟨_, hk⟩
 ·obtain ⟨r, hr1, hr2, hr3, _, hr5⟩ := Step.loop hs.rel (hs.sub _ hN) ho (ble_of hb)
  have had := hs.ag.ad _ hN
  rw [had] at hr1
  refine ⟨_, _, run_endRound (pendC j) hr1, ?_⟩
  cases j with
  | none =>
    cases hk
    have s := hs.trans (hr5 .ready none)
    rw [had] at s
    exact ⟨m1, N1, s, trivial, rfl⟩
  | some i =>
    cases hk
    have s := hs.trans (hr5 .done (some i))
    rw [had] at s
    exact ⟨m1, N1, s, trivial, rfl⟩
 ·cases hk
theorem round_ok {rs : Nat → Option AR} {hd : Hd} (hdr : DrawnOK P ri) (hrs : ∀ code A, rs code = some A → ∃ I, ri code = some I ∧ okS I.size I.σ = true ∧ cmpR P I.σ I.size code I.params I.assign I.body = A) (hh : HdOK P ri hd)
 {m : M} {N : Pos → Prop} {lim B : Nat} {H : AH} {w : World} {l : Pos} {xs : List AV} {co : CO} (hR : Rel ri m N N lim B H w) (hN : N l) (hx : okL m N xs) (h : evRound rs hd lim l xs H = .ok co) :
 ∃ f tmps assign body, (Instr.yield (m.ad l) (concL m xs).toArray).run P w = .ok (.round (m.ad l) f tmps assign body) w ∧ RoundIn Fence.wide 0 P (m.ad l) f tmps assign body w (CoR ri m N lim B H w co) := by
 unfold evRound at h
 obtain ⟨st, pend, code, t, blk, birth, ho, hk⟩ := loopOf_ok h
 cases hA : rs code with
 | none => rw [hA] at hk; cases hk
 | some A =>
   rw [hA] at hk
   obtain ⟨hlen, hk⟩ := initT_ok hk
   obtain ⟨I, tmps, d, fn, h1, h2, h3⟩ := hR.obj l _ hN ho
   obtain ⟨I1, e1, e2, e3⟩ := hrs code A hA
   rw [e1] at h1
   cases h1
   subst e3
   have hlen' : xs.length = I.params.size := by simpa [cmpR] using hlen.symm
   refine ⟨_, _, _, _, run_yield h3 (by simp [concL_len, hlen']), ?_⟩
   refine roundIn_of_wpIn (F := Fence.wide) trivial ?_
   obtain ⟨e, T2, D2, H2, hr, hk⟩ := rout_ok hk
   have hF1 : FrT m N I.σ I.size (initF (I.params.toList.map (slot I.σ)) xs t) ((I.params.zip (concL m xs).toArray).foldl (fun tmps x => tmps.setIfInBounds x.1 x.2) tmps) := by
    have := FrT.init e2 I.params.toList xs hx h2
    rw [← Array.foldl_toList]
    simpa using this
   have ha : CSnd P ri I.σ I.size (some (m.ad l)) I.assign (cmpC P I.σ I.size code I.assign) := cmpC_ok hdr e2 I.assign (fun hq => by cases hq)
   have hb : CSnd P ri I.σ I.size (some (m.ad l)) I.body (cmpC P I.σ I.size code I.body) := cmpC_ok hdr e2 I.body (fun hq => by cases hq)
   refine ha hR hF1 (.inr ⟨l, rfl⟩) hh hr fun ex a1 w1 hp => ?_
   obtain ⟨m1, N1, s1, f1, d1, x1⟩ := hp
   rcases hk with ⟨rfl, hk⟩ | ⟨i, rfl, hk⟩ | ⟨rfl, hk⟩
   ·rw [x1.nrm]
    obtain ⟨st1, pend1, code1, t1, blk1, birth1, ho1, hk⟩ := loopOf_ok hk
    cases st1 with
    | ready =>
      rcases bool_ok hk with ⟨hbi, hk⟩ | ⟨_, hk⟩
      ·obtain ⟨r, hr1, hr2, hr3, _, hr5⟩ := Step.loop s1.rel (s1.sub _ hN) ho1 (ble_of hbi)
       have had := s1.ag.ad _ hN
       have s2 := hr5 .busy pend1
       rw [had] at hr1 s2
       have hrp : ({ r with state := .busy } : Loop) = { r with state := .busy, pending := pendC pend1 } := by rw [← hr3]
       refine ⟨_, run_beginRound hr1 hr2, ?_⟩
       rw [hrp]
       obtain ⟨e', T4, D4, H4, hr', hk⟩ := rout_ok hk
       have s12 := s1.trans s2
       refine hb s2.rel f1 (.inr ⟨l, rfl⟩) hh hr' fun ex2 a2 w2 hp2 => ?_
       obtain ⟨m3, N3, s3, f3, d3, x3⟩ := hp2
       rcases hk with ⟨rfl, hk⟩ | ⟨i, rfl, hk⟩ | ⟨rfl, hk⟩
       ·rw [x3.nrm]; exact endRound_ok (s12.trans s3) hN hk
       ·rw [x3.ex]; exact endRound_ok (s12.trans s3) hN hk
       ·rw [x3.ret]; exact endRound_ok (s12.trans s3) hN hk
      ·cases hk
    | busy => cases hk
    | done => cases hk
    | exhausted => cases hk
   ·cases hk
   ·cases hk
end Av
end
section
set_option linter.unusedSimpArgs false
set_option linter.unusedVariables false
namespace Av
open Go Go.RowKit
variable {P : Program} {ri : Nat → Option RInfo} {σ : Sl} {n : Nat} {q : Option Nat} {f : Nat}
theorem Step.shut {m : M} {N : Pos → Prop} {lim B : Nat} {H : AH} {w : World} (h : Rel ri m N N lim B H w) {b : Pos} {birth : Nat} (hN : N b) (ho : PT.get b H.bl = some (.dblk birth)) (hl : lim ≤ birth) (ob : Obj) :
 Step ri m N lim B H w m N (H.setB b none) (w.putObj (m.ad b) ob) := by
 refine ⟨(h.drop b).world (fun x ox hx hox => ?_) (by rw [World.putObj_size]; exact h.base), Agree.refl _ _, fun _ x => x, fun _ x => .inl x, Below.put (h.perm b _ hN ho hl), fun x ox hx hbx => ?_, by rw [setB_nx]; exact Nat.le_refl _, by rw [setB_cnt]; exact Nat.le_refl _, fun x h1 h2 => absurd (by rw [setB_nx] at h2; exact h2) (Nat.not_lt.2 h1), Ext.set H ho (fun o2 e => by cases e)⟩
 ·rw [setB_bl] at hox
  split at hox
  ·cases hox
  ·rename_i e
   refine World.putObj_heap_other (fun had => ?_)
   obtain ⟨l, ty, root, ab, g, birth, l', ty', ab', g', birth', f1, f2, _⟩ := h.apart x b ox _ hx hN hox ho e had
   rw [ho] at f2
   cases f2
 ·rw [setB_bl]
  split
  ·rename_i e; subst e; rw [ho] at hx; cases hx; exact absurd hbx (by show ¬ birth < lim; omega)
  ·exact hx
theorem dblkOf_ok {β : Type} {H : AH} {b : Pos} {k : Nat → R β} {e : List Nat} {r : β} (h : H.dblkOf b k (.er e) = .ok r) : ∃ birth, PT.get b H.bl = some (.dblk birth) ∧ k birth = .ok r := by
 unfold AH.dblkOf at h
 cases ho : PT.get b H.bl with
 | none => rw [ho] at h; cases h
 | some o =>
   rw [ho] at h
   cases o with
   | dblk birth => exact ⟨birth, rfl, h⟩
   | _ => cases h
def md (m : M) : Option AV → FrameMode
 | none => .returning
 | some v => .panicking [{ v := conc m v, recovered := false }]
theorem md_ne (m : M) (u : Option AV) : md m u ≠ .run := by cases u <;> (intro h; cases h)
def okO (m : M) (N : Pos → Prop) (u : Option AV) : Prop := ∀ v, u = some v → okV m N v
theorem okO.keep {m m' : M} {N N' : Pos → Prop} {u : Option AV} (h : okO m N u) (ha : Agree N m m') (hn : ∀ x, N x → N' x) : okO m' N' u ∧ md m' u = md m u := by
 cases u with
 | none => exact ⟨fun v hv => (by cases hv), rfl⟩
 | some v => exact ⟨fun v' hv => (by cases hv; exact okV_agree ha hn v (h v rfl)), by simp only [md]; rw [conc_agree ha v (h v rfl)]⟩
def DhOK (P : Program) (ri : Nat → Option RInfo) (g : Nat) (qd : DHook) : Prop :=
 ∀ ⦃m : M⦄ ⦃N : Pos → Prop⦄ ⦃lim B : Nat⦄ ⦃H : AH⦄ ⦃w : World⦄ ⦃xs : List AV⦄ ⦃u : Option AV⦄ ⦃k : Option AV → AH → R CO⦄ ⦃co : CO⦄, Rel ri m N N lim B H w → okL m N xs → okO m N u → qd lim xs u H k = .ok co →
  (callFunc g (concL m xs).toArray).run P w = .ok (.enter g (concL m xs).toArray) w ∧ CallsDIn Fence.wide 0 P g (concL m xs).toArray (md m u) w (fun e md' w' => ∃ v u' H' m' N', e = .returned v ∧ Step ri m N lim B H w m' N' H' w' ∧ okO m' N' u' ∧ settle md' = md m' u' ∧ k u' H' = .ok co)
theorem leave_ok {dh : Nat → Option DHook} (hdh : ∀ g qd, dh g = some qd → DhOK P ri g qd) {fn : Func} {tmps : Array Value} {Rf : Ending → World → Prop} {k : Option AV → AH → R CO} {co : CO} {lim B : Nat} :
 ∀ (D : List ADf) (ds : List Deferred) {m : M} {N : Pos → Prop} {H : AH} {w : World} {u : Option AV}, Rel ri m N N lim B H w → DsL m N D ds → okO m N u → leave dh lim D u H k = .ok co →
  (∀ m' N' H' w' u', Step ri m N lim B H w m' N' H' w' → okO m' N' u' → k u' H' = .ok co → LeavesInM (fc none) 0 P fn tmps Rf [] (md m' u') w') → LeavesInM (fc none) 0 P fn tmps Rf ds (md m u) w
 | [], [], m, N, H, w, u, hR, hD, hu, hk, hf => hf m N H w u (Step.refl hR) hu hk
 | [], _ :: _, m, N, H, w, u, hR, hD, hu, hk, hf => hD.elim
 | _ :: _, [], m, N, H, w, u, hR, hD, hu, hk, hf => hD.elim
 | .mark b :: D, d :: ds, m, N, H, w, u, hR, hD, hu, hk, hf => by
   have hk' : H.dblkOf b (fun birth => Bool.rec (motive := fun _ => R CO) (.er [108]) (leave dh lim D u (H.setB b none) k) (Nat.ble lim birth)) (.er [108]) = .ok co := hk
   obtain ⟨birth, ho, hk'⟩ := dblkOf_ok hk'
   rcases bool_ok hk' with ⟨hb, hk'⟩ | ⟨_, hk'⟩
   ·obtain ⟨⟨h1, h2⟩, hD'⟩ := hD
    have hobj : w.heap[m.ad b]? = some (.deferred (some [])) := hR.obj b _ h1 ho
    have s := Step.shut hR h1 ho (ble_of hb) (.deferred none)
    subst h2
    refine ⟨md_ne m u, .inl ⟨_, _, rfl, run_takeDeferred hobj, ?_⟩⟩
    exact leave_ok hdh D ds s.rel (hD'.keep s.ag s.sub) hu hk' fun m' N' H' w' u' s' hu' hk2 => hf m' N' H' w' u' (s.trans s') hu' hk2
   ·cases hk'
 | .clo fv xs :: D, d :: ds, m, N, H, w, u, hR, hD, hu, hk, hf => by
   cases fv with
   | fn g a c =>
     obtain ⟨⟨h1, h2, h3, h4⟩, hD'⟩ := hD
     subst h4
     have hk' : Option.rec (motive := fun _ => R CO) (.er [104]) (fun q => q lim (a ++ (xs ++ c)) u H (fun u H => leave dh lim D u H k)) (dh g) = .ok co := hk
     cases hg : dh g with
     | none => rw [hg] at hk'; cases hk'
     | some qd =>
       rw [hg] at hk'
       have hxs : okL m N (a ++ (xs ++ c)) := okL_append.2 ⟨h1, okL_append.2 ⟨h3, h2⟩⟩
       obtain ⟨c1, c2⟩ := hdh g qd hg hR hxs hu hk'
       have hargs : (concL m (a ++ xs)).toArray ++ (concL m c).toArray = (concL m (a ++ (xs ++ c))).toArray := by simp [concL_append]
       refine ⟨md_ne m u, .inr ⟨fun h => (by cases h), .func g, (concL m c).toArray, g, (concL m (a ++ (xs ++ c))).toArray, rfl, ?_, fun _ _ => trivial, ?_⟩⟩
       ·simp only [invoke, hargs]
        exact c1
       ·refine CallsDIn.mono (show CallsDIn (fc none) 0 P g _ (md m u) w _ from c2) fun e u2 w2 hp => ?_
        obtain ⟨v, u', H', m', N', e1, s, hu', hmd, hk2⟩ := hp
        subst e1
        show LeavesInM (fc none) 0 P fn tmps Rf ds (settle u2) w2
        rw [hmd]
        exact leave_ok hdh D ds s.rel (hD'.keep s.ag s.sub) hu' hk2 fun m3 N3 H3 w3 u3 s3 hu3 hk3 => hf m3 N3 H3 w3 u3 (s.trans s3) hu3 hk3
   | _ => exact hD.1.elim
 | .rnd l :: D, d :: ds, m, N, H, w, u, hR, hD, hu, hk, hf => hD.1.elim
/-! ### results -/
noncomputable def resS (tmps : Array Value) : ResultVar → Sem Value
 | .tmp t => pure (tmps.getD t undef)
 | .cell a t => do loadVar t (← asAddr (tmps.getD a undef))
theorem resl_ok {m : M} {N : Pos → Prop} {lim B : Nat} {H : AH} {w : World} {T : PT AV} {a : Act} {co : CO} (hR : Rel ri m N N lim B H w) (hF : FrT m N σ n T a.tmps) : ∀ (rs : List ResultVar) (rs' : List ARes) {k : List AV → R CO}, cmpRess P σ rs = some rs' → resl T H rs' k = .ok co →
 ∃ l, k l = .ok co ∧ okL m N l ∧ (rs.mapM (resS a.tmps)).run P w = .ok (concL m l) w
 | [], rs', k, h, hk => by
   simp only [cmpRess, Option.some.injEq] at h
   subst h
   exact ⟨[], hk, trivial, rfl⟩
 | r :: rs, rs', k, h, hk => by
   simp only [cmpRess] at h
   split at h
   ·rename_i x y hx hy
    cases h
    have one : ∀ {v : AV}, okV m N v → (resS a.tmps r).run P w = .ok (conc m v) w → resl T H y (fun l => k (v :: l)) = .ok co → ∃ l, k l = .ok co ∧ okL m N l ∧ ((r :: rs).mapM (resS a.tmps)).run P w = .ok (concL m l) w := fun hv hr hk => by
     obtain ⟨l, h1, h2, h3⟩ := resl_ok hR hF rs y hy hk
     refine ⟨_, h1, ⟨hv, h2⟩, ?_⟩
     rw [List.mapM_cons]
     simp only [Sem.run_bind, hr, Result.andThen_ok, h3, Sem.run_pure]
     rfl
    cases r with
    | tmp t =>
      simp only [cmpRes] at hx
      cases ho : opd σ [] (.tmp t) with
      | none => rw [ho] at hx; cases hx
      | some z =>
        rw [ho] at hx
        cases hx
        have hv := hF.start.good.at ho
        exact one (hF.start.good.ok ho) (by show (pure _ : Sem Value).run P w = _; rw [← hv]; rfl) hk
    | cell t ty =>
      simp only [cmpRes] at hx
      split at hx
      ·cases hx
      ·rename_i d hd
       cases ho : opd σ [] (.tmp t) with
       | none => rw [ho] at hx; cases hx
       | some z =>
         rw [ho] at hx
         cases hx
         have hv : a.tmps.getD t undef = _ := hF.start.good.at ho
         have hvo := hF.start.good.ok ho
         cases hagg : isAggT P ty with
         | true =>
           simp only [hagg, if_true] at hk
           have hk : (z.ev [] T).unPtr (fun b o => H.read b o (szT P ty) (fun c => resl T H y (fun l => k (.agg c :: l)))) (.er [103]) = .ok co := hk
           rcases AV.unPtr_ok hk with ⟨b, o, hp, hk⟩ | ⟨_, hk⟩
           ·rw [hp] at hv hvo
            obtain ⟨l, ty', root, ab, g, birth, h1, h2, h3, h4⟩ := read_ok hk
            have hob := hR.obj b _ hvo h1
            have hob' := hob
            obtain ⟨cs, fz, x1, x2, x3, x4, x5⟩ := hob'
            refine one (v := .agg ((l.drop o).take (szT P ty))) ⟨?_, ?_⟩ ?_ h3
            ·rw [okL_iff]; exact fun x hx => (x3 x (List.mem_of_mem_drop (List.mem_of_mem_take hx))).2
            ·exact fun x hx => (x3 x (List.mem_of_mem_drop (List.mem_of_mem_take hx))).1
            ·simp [resS, hv, conc, asAddr, loadVar, run_isAggT hd, hagg, run_sizeOf' hagg, run_read hob h4]
           ·cases hk
         | false =>
           simp only [hagg, if_false, Bool.false_eq_true] at hk
           have hk : (z.ev [] T).unPtr (fun b o => H.read1 b o (fun v => resl T H y (fun l => k (v :: l)))) (.er [103]) = .ok co := hk
           rcases AV.unPtr_ok hk with ⟨b, o, hp, hk⟩ | ⟨_, hk⟩
           ·rw [hp] at hv hvo
            obtain ⟨l, ty', root, ab, g, birth, v, h1, h2, h3⟩ := read1_ok hk
            have hob := hR.obj b _ hvo h1
            have hob' := hob
            obtain ⟨cs, fz, x1, x2, x3, x4, x5⟩ := hob'
            refine one (v := v) (x3 v (List.mem_of_getElem? h2)).2 ?_ h3
            simp [resS, hv, conc, asAddr, loadVar, run_isAggT hd, hagg, cell_of hob h2]
           ·cases hk
   ·cases h
theorem tupl_ok {m : M} {N : Pos → Prop} {l : List AV} (h : okL m N l) : okV m N (tupl l) ∧ conc m (tupl l) = (if h : (concL m l).toArray.size = 1 then (concL m l).toArray[0] else .tuple (concL m l).toArray) := by
 cases l with
 | nil => exact ⟨trivial, rfl⟩
 | cons v l =>
   cases l with
   | nil => exact ⟨h.1, rfl⟩
   | cons x l => exact ⟨h, by rw [dif_neg (by simp [concL])]; rfl⟩
theorem results_ok {m : M} {fn : Func} {tmps : Array Value} {l : List AV} {w : World} (h : (fn.results.toList.mapM (resS tmps)).run P w = .ok (concL m l) w) : (results fn tmps).run P w = .ok (if h : (concL m l).toArray.size = 1 then (concL m l).toArray[0] else .tuple (concL m l).toArray) w := by
 have e : results fn tmps = (do let vs ← fn.results.mapM (resS tmps); pure (if h : vs.size = 1 then vs[0] else .tuple vs)) := rfl
 rw [e, Array.mapM_eq_mapM_toList]
 simp only [Sem.run_bind, Sem.run_map, h]
 rfl
end Av
end
section
set_option linter.unusedSimpArgs false
set_option linter.unusedVariables false
namespace Av
open Go Go.RowKit
variable {P : Program} {ri : Nat → Option RInfo} {σ : Sl} {n : Nat} {q : Option Nat} {f : Nat}
theorem foldset_get : ∀ (vs : List Value) (s : Nat) (tmps : Array Value) (i : Nat), (((List.range' s vs.length).zip vs).foldl (fun tmps x => tmps.setIfInBounds x.1 x.2) tmps)[i]? = if s ≤ i ∧ i < s + vs.length ∧ i < tmps.size then vs[i - s]? else tmps[i]?
 | [], s, tmps, i => by
   simp only [List.length_nil, List.range'_zero, List.zip_nil_left, List.foldl_nil]
   rw [if_neg (by omega)]
 | v :: vs, s, tmps, i => by
   simp only [List.length_cons, List.range'_succ, List.zip_cons_cons, List.foldl_cons]
   rw [foldset_get vs (s + 1) _ i, Array.size_setIfInBounds]
   by_cases h : i = s
   ·subst h
    rw [if_neg (by omega)]
    by_cases hi : i < tmps.size
    ·rw [if_pos ⟨by omega, by omega, hi⟩]
     simp [hi]
    ·rw [if_neg (by omega), set_size_ge (by omega)]
   ·by_cases h2 : s + 1 ≤ i ∧ i < s + 1 + vs.length ∧ i < tmps.size
    ·rw [if_pos h2, if_pos ⟨by omega, by omega, h2.2.2⟩]
     have : i - s = (i - (s + 1)) + 1 := by omega
     rw [this, List.getElem?_cons_succ]
    ·rw [if_neg h2, if_neg (by omega), Array.getElem?_setIfInBounds, if_neg (fun e => h e.symm)]
theorem enter_tmps (vs : List Value) (n : Nat) (h : vs.length ≤ n) : vs.toArray ++ Array.replicate (n - vs.toArray.size) undef = ((List.range vs.length).zip vs).foldl (fun tmps x => tmps.setIfInBounds x.1 x.2) (Array.replicate n undef) := by
 apply Array.ext_getElem?
 intro i
 rw [List.range_eq_range', foldset_get, Array.getElem?_append]
 simp only [List.size_toArray, Array.size_replicate, Nat.zero_le, true_and, Nat.zero_add, Nat.sub_zero, Array.getElem?_replicate]
 by_cases h1 : i < vs.length
 ·have h3 : i < n := by omega
  simp [h1, h3]
 ·simp only [h1, if_false, false_and]
  by_cases h2 : i < n
  ·have h4 : i - vs.length < n - vs.length := by omega
   simp only [h2, h4, if_true]
  ·have h4 : ¬ (i - vs.length < n - vs.length) := by omega
   simp only [h2, h4, if_false]
theorem FrT.blank (m : M) (N : Pos → Prop) (hσ : okS n σ = true) : FrT m N σ n .e (Array.replicate n undef) := by
 refine ⟨by simp, fun t p ht => ?_, fun p v hp => ?_⟩
 ·rw [PT.get_e]
  show _ = conc m undf
  rw [conc_undf, Array.getD_eq_getD_getElem?]
  have := okS_lt hσ ht
  simp [this]
 ·rw [PT.get_e] at hp; cases hp
def HkOK (P : Program) (ri : Nat → Option RInfo) (f : Nat) (qk : Hook) : Prop :=
 ∀ ⦃m : M⦄ ⦃N : Pos → Prop⦄ ⦃lim B : Nat⦄ ⦃H : AH⦄ ⦃w : World⦄ ⦃xs : List AV⦄ ⦃co : CO⦄, Rel ri m N N lim B H w → okL m N xs → qk lim xs H = .ok co →
  (callFunc f (concL m xs).toArray).run P w = .ok (.enter f (concL m xs).toArray) w ∧ CallsIn Fence.wide 0 P f (concL m xs).toArray w (CoR ri m N lim B H w co)
structure TabOK (P : Program) (ri : Nat → Option RInfo) (fs : Nat → Option AF) (rs : Nat → Option AR) (hk : Nat → Option Hook) (dh : Nat → Option DHook) : Prop where
 fn : ∀ f F, hk f = none → fs f = some F → ∃ fn σ c, P.funcs[f]? = some fn ∧ (fn.name == "runtime.NumGoroutine") = false ∧ fn.body = some c ∧ cmpF P σ f fn = some F ∧ ∀ r ∈ rngs c, ri f = some ⟨r.1, r.2.1, r.2.2, σ, fn.ntmps⟩
 rd : ∀ code A, rs code = some A → ∃ I, ri code = some I ∧ okS I.size I.σ = true ∧ cmpR P I.σ I.size code I.params I.assign I.body = A
 hk : ∀ f qk, hk f = some qk → HkOK P ri f qk
 dh : ∀ g qd, dh g = some qd → DhOK P ri g qd
theorem run_callFunc {fn : Func} {c : Code} {args : Array Value} {w : World} (h1 : P.funcs[f]? = some fn) (h2 : (fn.name == "runtime.NumGoroutine") = false) (h3 : fn.body = some c) : (callFunc f args).run P w = .ok (.enter f args) w := by
 unfold callFunc
 have h2' : fn.name ≠ "runtime.NumGoroutine" := by simpa using h2
 simp [h1, h2', h3]
theorem fin_ok {dh : Nat → Option DHook} (hdh : ∀ g qd, dh g = some qd → DhOK P ri g qd) {fn : Func} {rs' : List ARes} {T : PT AV} {D : List ADf} {u : Option AV} {H H1 : AH} {co : CO} {lim B : Nat} {m m1 : M} {N N1 : Pos → Prop} {w w1 : World} {a : Act}
 (hr : cmpRess P σ fn.results.toList = some rs') (hs : Step ri m N lim B H w m1 N1 H1 w1) (hF : FrT m1 N1 σ n T a.tmps) (hD : DsL m1 N1 D a.defers) (hu : okO m1 N1 u) (hk : finish dh lim rs' T D u H1 = .ok co) :
 LeavesInM (fc none) 0 P fn a.tmps (CoR ri m N lim B H w co) a.defers (md m1 u) w1 := by
 refine leave_ok hdh D a.defers hs.rel hD hu hk fun m2 N2 H2 w2 u2 s2 hu2 hk2 => ?_
 cases u2 with
 | none =>
   obtain ⟨l, h1, h2, h3⟩ := resl_ok s2.rel (hF.keep s2.ag s2.sub) _ _ hr hk2
   cases h1
   obtain ⟨t1, t2⟩ := tupl_ok h2
   exact ⟨_, results_ok h3, ⟨m2, N2, hs.trans s2, t1, by rw [t2]⟩⟩
 | some v =>
   cases hk2
   exact ⟨m2, N2, hs.trans s2, hu2 v rfl, rfl⟩
theorem evF_ok {fs : Nat → Option AF} {rs : Nat → Option AR} {hk : Nat → Option Hook} {dh : Nat → Option DHook} {hd : Hd} (hdr : DrawnOK P ri) (ht : TabOK P ri fs rs hk dh) (hh : HdOK P ri hd) {m : M} {N : Pos → Prop} {lim B : Nat} {H : AH} {w : World} {f : Nat} {xs : List AV} {co : CO}
 (hR : Rel ri m N N lim B H w) (hx : okL m N xs) (h : evF fs hk dh hd lim f xs H = .ok co) :
 (callFunc f (concL m xs).toArray).run P w = .ok (.enter f (concL m xs).toArray) w ∧ CallsIn Fence.wide 0 P f (concL m xs).toArray w (CoR ri m N lim B H w co) := by
 unfold evF at h
 cases hkf : hk f with
 | some qk => rw [hkf] at h; exact ht.hk f qk hkf hR hx h
 | none =>
   rw [hkf] at h
   cases hff : fs f with
   | none => rw [hff] at h; cases h
   | some F =>
     rw [hff] at h
     obtain ⟨fn, σ, c, h1, h2, h3, h4, h5⟩ := ht.fn f F hkf hff
     unfold cmpF at h4
     rw [h3] at h4
     split at h4
     ·rename_i b rs' hb hrs
      cases hb
      split at h4
      ·rename_i hc
       cases h4
       obtain ⟨hlen, h⟩ := initT_ok h
       refine ⟨run_callFunc h1 h2 h3, callsIn_of_wp_marks h1 h3 trivial ?_⟩
       have hl : xs.length = fn.params.size + fn.nfree := by simpa using hlen.symm
       have hF0 : FrT m N σ fn.ntmps (initF ((List.range xs.length).map (slot σ)) xs .e) ((concL m xs).toArray ++ Array.replicate (fn.ntmps - (concL m xs).toArray.size) undef) := by
        rw [enter_tmps (concL m xs) fn.ntmps (by rw [concL_len]; omega), concL_len]
        exact FrT.init hc.1 _ _ hx (FrT.blank m N hc.1)
       rw [← hl] at h
       have hcc : CSnd P ri σ fn.ntmps none c (cmpC P σ fn.ntmps f c) := cmpC_ok hdr hc.1 c fun _ => h5
       cases hb : cmpC P σ fn.ntmps f c hd lim (initF ((List.range xs.length).map (slot σ)) xs .e) [] H with
       | er e => rw [hb] at h; cases h
       | ok o =>
         rw [hb] at h
         obtain ⟨e, T', D', H'⟩ := o
         refine hcc hR hF0 (D := []) (.inl ⟨rfl, trivial⟩) hh hb fun ex a' w' hp => ?_
         obtain ⟨m1, N1, s1, f1, d1, x1⟩ := hp
         have hD1 : DsL m1 N1 D' a'.defers ∨ ∃ l, D' = [.rnd l] := by
          rcases d1 with ⟨_, d⟩ | d
          ·exact .inl d
          ·exact .inr d
         have go : ∀ u, okO m1 N1 u → finish dh lim rs' T' D' u H' = .ok co → LeavesInM (fc none) 0 P fn a'.tmps (CoR ri m N lim B H w co) a'.defers (md m1 u) w' := fun u hu hk => by
          rcases hD1 with d | ⟨l, rfl⟩
          ·exact fin_ok ht.dh hrs s1 f1 d hu hk
          ·cases hk
         cases e with
         | nrm => rw [x1.nrm]; exact go none (fun v hv => by cases hv) h
         | ex i => cases h
         | ret => rw [x1.ret]; exact go none (fun v hv => by cases hv) h
         | pan v =>
           obtain ⟨x2, x3⟩ := x1.pan
           rw [x2]
           exact go (some v) (fun v' hv => by cases hv; exact x3) h
      ·cases h4
     ·cases h4
theorem hdN_ok {fs : Nat → Option AF} {rs : Nat → Option AR} {hk : Nat → Option Hook} {dh : Nat → Option DHook} (hdr : DrawnOK P ri) (ht : TabOK P ri fs rs hk dh) : ∀ k, HdOK P ri (hdN fs rs hk dh k)
 | 0 => ⟨fun _ _ h => (by cases h), fun _ _ _ h => (by cases h)⟩
 | k + 1 => ⟨fun hR hx h => evF_ok hdr ht (hdN_ok hdr ht k) hR hx h, fun hR hN hx h => round_ok hdr ht.rd (hdN_ok hdr ht k) hR hN hx h⟩
end Av
end
section
set_option linter.unusedSimpArgs false
set_option linter.unusedVariables false
namespace Av
open Go
def PG {κ β : Type} (Lf : (κ → R β) → Prop) (F : κ → R β) : Prop := Lf F ∨ ∃ e, ∀ k, F k = .er e
section
variable {κ β : Type} {Lf : (κ → R β) → Prop}
theorem pg_er (e : List Nat) : PG Lf (fun _ => .er e) := .inr ⟨e, fun _ => rfl⟩
theorem pg_unInt {v : AV} {F : Int → κ → R β} {G : κ → R β} (h : ∀ n, PG Lf (F n)) (h' : PG Lf G) : PG Lf (fun k => v.unInt (fun n => F n k) (G k)) := by cases v <;> first | exact h _ | exact h'
theorem pg_unIk {v : AV} {F : IntKind → Int → κ → R β} {G : κ → R β} (h : ∀ i n, PG Lf (F i n)) (h' : PG Lf G) : PG Lf (fun k => v.unIk (fun i n => F i n k) (G k)) := by cases v <;> first | exact h _ _ | exact h'
theorem pg_unBool {v : AV} {F : Bool → κ → R β} {G : κ → R β} (h : ∀ n, PG Lf (F n)) (h' : PG Lf G) : PG Lf (fun k => v.unBool (fun n => F n k) (G k)) := by cases v <;> first | exact h _ | exact h'
theorem pg_unStr {v : AV} {F : List UInt8 → κ → R β} {G : κ → R β} (h : ∀ n, PG Lf (F n)) (h' : PG Lf G) : PG Lf (fun k => v.unStr (fun n => F n k) (G k)) := by cases v <;> first | exact h _ | exact h'
theorem pg_unPtr {v : AV} {F : Pos → Nat → κ → R β} {G : κ → R β} (h : ∀ b o, PG Lf (F b o)) (h' : PG Lf G) : PG Lf (fun k => v.unPtr (fun b o => F b o k) (G k)) := by cases v <;> first | exact h _ _ | exact h'
theorem pg_unSl {v : AV} {A : κ → R β} {F F' : Pos → Nat → Nat → Nat → κ → R β} {G : κ → R β} (ha : PG Lf A) (h : ∀ b o l c, PG Lf (F b o l c)) (h2 : ∀ b o l c, PG Lf (F' b o l c)) (h' : PG Lf G) : PG Lf (fun k => v.unSl (A k) (fun b o l c => F b o l c k) (fun b o l c => F' b o l c k) (G k)) := by
 cases v <;> first | exact h' | exact h _ _ _ _ | exact h2 _ _ _ _ | exact ha
theorem pg_unMap {v : AV} {A : κ → R β} {F : Pos → κ → R β} {G : κ → R β} (ha : PG Lf A) (h : ∀ b, PG Lf (F b)) (h' : PG Lf G) : PG Lf (fun k => v.unMap (A k) (fun b => F b k) (G k)) := by cases v <;> first | exact h' | exact h _ | exact ha
theorem pg_unFn {v : AV} {F : Nat → List AV → List AV → κ → R β} {Y : Pos → κ → R β} {G : κ → R β} (h : ∀ f a c, PG Lf (F f a c)) (hy : ∀ l, PG Lf (Y l)) (h' : PG Lf G) : PG Lf (fun k => v.unFn (fun f a c => F f a c k) (fun l => Y l k) (G k)) := by cases v <;> first | exact h' | exact h _ _ _ | exact hy _
theorem pg_unIfc {v : AV} {F : Nat → AV → κ → R β} {G : κ → R β} (h : ∀ t u, PG Lf (F t u)) (h' : PG Lf G) : PG Lf (fun k => v.unIfc (fun t u => F t u k) (G k)) := by cases v <;> first | exact h' | exact h _ _
theorem pg_unAgg {v : AV} {F : List AV → κ → R β} {G : κ → R β} (h : ∀ l, PG Lf (F l)) (h' : PG Lf G) : PG Lf (fun k => v.unAgg (fun l => F l k) (G k)) := by cases v <;> first | exact h' | exact h _
theorem pg_unTup {v : AV} {F : List AV → κ → R β} {G : κ → R β} (h : ∀ l, PG Lf (F l)) (h' : PG Lf G) : PG Lf (fun k => v.unTup (fun l => F l k) (G k)) := by cases v <;> first | exact h' | exact h _
theorem pg_unNil {v : AV} {F : Nat → Bool → κ → R β} {G : κ → R β} (h : ∀ i b, PG Lf (F i b)) (h' : PG Lf G) : PG Lf (fun k => v.unNil (fun i b => F i b k) (G k)) := by cases v <;> first | exact h' | exact h _ _
theorem pg_bool {b : Bool} {F G : κ → R β} (h : PG Lf F) (h' : PG Lf G) : PG Lf (fun k => Bool.rec (motive := fun _ => R β) (F k) (G k) b) := by cases b <;> assumption
theorem pg_opt {α : Type} {o : Option α} {F : κ → R β} {G : α → κ → R β} (h : PG Lf F) (h' : ∀ a, PG Lf (G a)) : PG Lf (fun k => Option.rec (motive := fun _ => R β) (F k) (fun a => G a k) o) := by cases o <;> first | exact h | exact h' _
theorem pg_list {α : Type} {o : List α} {F : κ → R β} {G : α → List α → κ → R β} (h : PG Lf F) (h' : ∀ a l, PG Lf (G a l)) : PG Lf (fun k => List.rec (motive := fun _ => R β) (F k) (fun a l _ => G a l k) o) := by cases o <;> first | exact h | exact h' _ _
theorem pg_asNat {v : AV} {F : Nat → κ → R β} {G : κ → R β} (h : ∀ n, PG Lf (F n)) (h' : PG Lf G) : PG Lf (fun k => asNat v (fun n => F n k) (G k)) := by
 cases v
 case int n => cases n <;> first | exact h _ | exact h'
 all_goals exact h'
theorem pg_optNat {v : Option AV} {d : Nat} {F : Nat → κ → R β} {G : κ → R β} (h : ∀ n, PG Lf (F n)) (h' : PG Lf G) : PG Lf (fun k => optNat v d (fun n => F n k) (G k)) := by
 cases v
 ·exact h _
 ·exact pg_asNat h h'
theorem pg_bounds {len cap : Nat} {lo hi mx : Option AV} {F : Nat → Nat → Nat → κ → R β} {G : κ → R β} (h : ∀ a b c, PG Lf (F a b c)) (h' : PG Lf G) : PG Lf (fun k => bounds len cap lo hi mx (fun a b c => F a b c k) (G k)) := by
 unfold bounds
 exact pg_optNat (fun m => pg_optNat (fun h => pg_optNat (fun l => pg_bool h' (by apply_assumption)) h') h') h'
theorem pg_ltake : ∀ (n : Nat) {l : List AV} {F : List AV → κ → R β} {G : κ → R β}, (∀ x, PG Lf (F x)) → PG Lf G → PG Lf (fun k => ltake n l (fun x => F x k) (G k))
 | 0, l, F, G, h, h' => h _
 | n + 1, [], F, G, h, h' => h'
 | n + 1, a :: r, F, G, h, h' => pg_ltake n (l := r) (F := fun x k => F (a :: x) k) (fun x => h _) h'
theorem pg_lnth : ∀ (n : Nat) {l : List AV} {F : AV → κ → R β} {G : κ → R β}, (∀ x, PG Lf (F x)) → PG Lf G → PG Lf (fun k => lnth l n (fun x => F x k) (G k))
 | 0, [], F, G, h, h' => h'
 | 0, a :: r, F, G, h, h' => h _
 | n + 1, [], F, G, h, h' => h'
 | n + 1, a :: r, F, G, h, h' => pg_lnth n (l := r) h h'
theorem pg_lover : ∀ (vs : List AV) {l : List AV} {F : List AV → κ → R β} {G : κ → R β}, (∀ x, PG Lf (F x)) → PG Lf G → PG Lf (fun k => lover vs l (fun x => F x k) (G k))
 | [], l, F, G, h, h' => h _
 | v :: vs, [], F, G, h, h' => h'
 | v :: vs, a :: r, F, G, h, h' => pg_lover vs (l := r) (F := fun x k => F (v :: x) k) (fun x => h _) h'
theorem pg_lset : ∀ (o : Nat) {vs l : List AV} {F : List AV → κ → R β} {G : κ → R β}, (∀ x, PG Lf (F x)) → PG Lf G → PG Lf (fun k => lset o vs l (fun x => F x k) (G k))
 | 0, vs, l, F, G, h, h' => pg_lover vs h h'
 | n + 1, vs, [], F, G, h, h' => h'
 | n + 1, vs, a :: r, F, G, h, h' => pg_lset n (l := r) (F := fun x k => F (a :: x) k) (fun x => h _) h'
theorem pg_cells {H : AH} {b : Pos} {F : List AV → Nat → Pos → Nat → Nat → Nat → κ → R β} {G : κ → R β} (h : ∀ l ty root ab g birth, PG Lf (F l ty root ab g birth)) (h' : PG Lf G) : PG Lf (fun k => H.cells b (fun l ty root ab g birth => F l ty root ab g birth k) (G k)) := by
 unfold AH.cells
 cases PT.get b H.bl with
 | none => exact h'
 | some o => cases o <;> first | exact h' | exact h _ _ _ _ _ _
theorem pg_mapOf {H : AH} {b : Pos} {F : List ME → Nat → Nat → κ → R β} {G : κ → R β} (h : ∀ es c birth, PG Lf (F es c birth)) (h' : PG Lf G) : PG Lf (fun k => H.mapOf b (fun es c birth => F es c birth k) (G k)) := by
 unfold AH.mapOf
 cases PT.get b H.bl with
 | none => exact h'
 | some o => cases o <;> first | exact h' | exact h _ _ _
theorem pg_iterOf {H : AH} {b : Pos} {F : Option Pos → Nat → Nat → Nat → κ → R β} {G : κ → R β} (h : ∀ a c d birth, PG Lf (F a c d birth)) (h' : PG Lf G) : PG Lf (fun k => H.iterOf b (fun a c d birth => F a c d birth k) (G k)) := by
 unfold AH.iterOf
 cases PT.get b H.bl with
 | none => exact h'
 | some o => cases o <;> first | exact h' | exact h _ _ _ _
theorem pg_read {H : AH} {b : Pos} {o n : Nat} {F : List AV → κ → R β} (h : ∀ x, PG Lf (F x)) : PG Lf (fun k => H.read b o n (fun x => F x k)) := pg_cells (fun _ _ _ _ _ _ => pg_ltake n h (pg_er _)) (pg_er _)
theorem pg_read1 {H : AH} {b : Pos} {o : Nat} {F : AV → κ → R β} (h : ∀ x, PG Lf (F x)) : PG Lf (fun k => H.read1 b o (fun x => F x k)) := pg_cells (fun _ _ _ _ _ _ => pg_lnth o h (pg_er _)) (pg_er _)
theorem pg_write {H : AH} {lim : Nat} {b : Pos} {o : Nat} {vs : List AV} {F : AH → κ → R β} (h : ∀ x, PG Lf (F x)) : PG Lf (fun k => H.write lim b o vs (fun x => F x k)) := pg_cells (fun _ _ _ _ _ _ => pg_bool (pg_er _) (pg_lset o (fun _ => h _) (pg_er _))) (pg_er _)
theorem pg_eqK {q : Kd} {x y : AV} {F : Bool → κ → R β} {G : κ → R β} (h : ∀ b, PG Lf (F b)) (h' : PG Lf G) : PG Lf (fun k => eqK q x y (fun b => F b k) (G k)) := by
 cases q
 ·exact pg_unInt (fun _ => pg_unInt (fun _ => h _) h') (pg_unIk (fun _ _ => pg_unIk (fun _ _ => pg_bool h' (h _)) h') h')
 ·exact pg_unBool (fun _ => pg_unBool (fun _ => h _) h') h'
 ·exact pg_unStr (fun _ => pg_unStr (fun _ => h _) h') h'
theorem pg_eqL : ∀ (ks : List Kd) {l m : List AV} {F : Bool → κ → R β} {G : κ → R β}, (∀ b, PG Lf (F b)) → PG Lf G → PG Lf (fun k => eqL ks l m (fun b => F b k) (G k))
 | [], [], [], F, G, h, h' => h _
 | [], [], _ :: _, F, G, h, h' => h'
 | [], _ :: _, m, F, G, h, h' => h'
 | q :: ks, [], m, F, G, h, h' => h'
 | q :: ks, a :: l, [], F, G, h, h' => h'
 | q :: ks, a :: l, b :: m, F, G, h, h' => pg_eqK (fun t => pg_bool (b := t) (h false) (pg_eqL ks (l := l) (m := m) h h')) h'
theorem pg_eqV {q : Sh} {x y : AV} {F : Bool → κ → R β} {G : κ → R β} (h : ∀ b, PG Lf (F b)) (h' : PG Lf G) : PG Lf (fun k => eqV q x y (fun b => F b k) (G k)) := by
 cases q
 ·exact pg_eqK h h'
 ·exact pg_unAgg (fun _ => pg_unAgg (fun _ => pg_eqL _ h h') h') h'
theorem pg_findK {s : Sh} {q : AV} : ∀ (es : List ME) {F : AV → κ → R β} {N G : κ → R β}, (∀ v, PG Lf (F v)) → PG Lf N → PG Lf G → PG Lf (fun k => findK s q es (fun v => F v k) (N k) (G k))
 | [], F, N, G, h, hn, h' => hn
 | e :: es, F, N, G, h, hn, h' => pg_eqV (fun t => pg_bool (b := t) (pg_findK es h hn h') (h _)) h'
theorem pg_putK {s : Sh} {q v : AV} {c : Nat} : ∀ (es : List ME) {F : List ME → Nat → κ → R β} {G : κ → R β}, (∀ l c, PG Lf (F l c)) → PG Lf G → PG Lf (fun k => putK s q v c es (fun l c => F l c k) (G k))
 | [], F, G, h, h' => h _ _
 | e :: es, F, G, h, h' => pg_eqV (fun t => pg_bool (b := t) (pg_putK es (F := fun l c k => F (e :: l) c k) (fun _ _ => h _ _) h') (h _ _)) h'
theorem pg_delK {s : Sh} {q : AV} : ∀ (es : List ME) {F : List ME → κ → R β} {G : κ → R β}, (∀ l, PG Lf (F l)) → PG Lf G → PG Lf (fun k => delK s q es (fun l => F l k) (G k))
 | [], F, G, h, h' => h _
 | e :: es, F, G, h, h' => pg_eqV (fun t => pg_bool (b := t) (pg_delK es (F := fun l k => F (e :: l) k) (fun _ => h _) h') (h _)) h'
end
section
variable {κ : Type} {Lf : (κ → R Out) → Prop}
theorem pg_fillP {L : List AV} {T : PT AV} : ∀ (ps : List (Nat × Nat × AO)) {c : List AV} {F : List AV → κ → R Out}, (∀ x, PG Lf (F x)) → PG Lf (fun k => fillP L T ps c (fun x => F x k))
 | [], c, F, h => h _
 | (off, n, x) :: ps, c, F, h => pg_bool (pg_er _) (pg_lset off (fun c => pg_fillP ps h) (pg_er _))
theorem pg_rdSl {H : AH} {s : Nat} {y : AV} {F : Nat → List AV → κ → R Out} (h : ∀ n l, PG Lf (F n l)) : PG Lf (fun k => rdSl H s y (fun n l => F n l k)) :=
 pg_unSl (h _ _) (fun b o l c => pg_bool (pg_read fun _ => h _ _) (h _ _)) (fun b o l c => pg_bool (pg_read fun _ => h _ _) (h _ _)) (pg_unStr (fun _ => pg_bool (pg_er _) (h _ _)) (pg_er _))
theorem pg_chk {s : Sh} {q : AV} {F : κ → R Out} (h : PG Lf F) : PG Lf (fun k => chk s q (F k)) := by
 cases s
 ·exact h
 ·exact pg_unAgg (fun _ => pg_bool (pg_er _) h) (pg_er _)
end
def LfV (F : (AV → R Out) → R Out) : Prop := ∃ v, F = fun k => k v
def LfH (F : (AV → AH → R Out) → R Out) : Prop := ∃ v H, F = fun k => k v H
theorem pg_v (v : AV) : PG LfV (fun k => k v) := .inl ⟨v, rfl⟩
theorem pg_h (v : AV) (H : AH) : PG LfH (fun k => k v H) := .inl ⟨v, H, rfl⟩
def PV (o : VOp) : Prop := ∀ L T H, PG LfV (fun k => o L T H k)
def PH (o : HOp) : Prop := ∀ lim L T H, PG LfH (fun k => o lim L T H k)
theorem pg_mkInt (n : Int) : PG LfV (fun k => mkInt n k) := by unfold mkInt; (repeat' (first | exact pg_er _ | exact pg_v _ | exact pg_h _ _ | (refine pg_read (fun _ => ?_)) | (refine pg_read1 (fun _ => ?_)) | (refine pg_write (fun _ => ?_)) | (refine pg_cells (fun _ _ _ _ _ _ => ?_) ?_) | (refine pg_mapOf (fun _ _ _ => ?_) ?_) | (refine pg_iterOf (fun _ _ _ _ => ?_) ?_) | (refine pg_eqV (fun _ => ?_) ?_) | (refine pg_fillP _ (fun _ => ?_)) | (refine pg_rdSl (fun _ _ => ?_)) | refine pg_chk ?_ | (refine pg_findK _ (fun _ => ?_) ?_ ?_) | (refine pg_putK _ (fun _ _ => ?_) ?_) | (refine pg_delK _ (fun _ => ?_) ?_) | (refine pg_asNat (fun _ => ?_) ?_) | (refine pg_bounds (fun _ _ _ => ?_) ?_) | (refine pg_ltake _ (fun _ => ?_) ?_) | (refine pg_lnth _ (fun _ => ?_) ?_) | (refine pg_lset _ (fun _ => ?_) ?_) | (refine pg_unInt (fun _ => ?_) ?_) | (refine pg_unIk (fun _ _ => ?_) ?_) | (refine pg_unBool (fun _ => ?_) ?_) | (refine pg_unStr (fun _ => ?_) ?_) | (refine pg_unPtr (fun _ _ => ?_) ?_) | (refine pg_unSl ?_ (fun _ _ _ _ => ?_) (fun _ _ _ _ => ?_) ?_) | (refine pg_unMap ?_ (fun _ => ?_) ?_) | (refine pg_unFn (fun _ _ _ => ?_) (fun _ => ?_) ?_) | (refine pg_unIfc (fun _ _ => ?_) ?_) | (refine pg_unAgg (fun _ => ?_) ?_) | (refine pg_unTup (fun _ => ?_) ?_) | (refine pg_unNil (fun _ _ => ?_) ?_) | refine pg_bool ?_ ?_ | (refine pg_opt ?_ (fun _ => ?_)) | (refine pg_list ?_ (fun _ _ => ?_))))
theorem pv_int2 {f} (hf : ∀ a b, PG LfV (fun k => f a b k)) (x y) : PV (oInt2 f x y) := fun L T H => by unfold oInt2; refine pg_unInt (fun a => pg_unInt (fun b => hf a b) (pg_er _)) (pg_er _)
theorem pg_iSub (a b) : PG LfV (fun k => iSub a b k) := pg_mkInt _
theorem pg_iMul (a b) : PG LfV (fun k => iMul a b k) := pg_mkInt _
theorem pg_iQuo (a b) : PG LfV (fun k => iQuo a b k) := by unfold iQuo; exact pg_bool (pg_mkInt _) (pg_er _)
theorem pg_iRem (a b) : PG LfV (fun k => iRem a b k) := by unfold iRem; (repeat' (first | exact pg_er _ | exact pg_v _ | exact pg_h _ _ | (refine pg_read (fun _ => ?_)) | (refine pg_read1 (fun _ => ?_)) | (refine pg_write (fun _ => ?_)) | (refine pg_cells (fun _ _ _ _ _ _ => ?_) ?_) | (refine pg_mapOf (fun _ _ _ => ?_) ?_) | (refine pg_iterOf (fun _ _ _ _ => ?_) ?_) | (refine pg_eqV (fun _ => ?_) ?_) | (refine pg_fillP _ (fun _ => ?_)) | (refine pg_rdSl (fun _ _ => ?_)) | refine pg_chk ?_ | (refine pg_findK _ (fun _ => ?_) ?_ ?_) | (refine pg_putK _ (fun _ _ => ?_) ?_) | (refine pg_delK _ (fun _ => ?_) ?_) | (refine pg_asNat (fun _ => ?_) ?_) | (refine pg_bounds (fun _ _ _ => ?_) ?_) | (refine pg_ltake _ (fun _ => ?_) ?_) | (refine pg_lnth _ (fun _ => ?_) ?_) | (refine pg_lset _ (fun _ => ?_) ?_) | (refine pg_unInt (fun _ => ?_) ?_) | (refine pg_unIk (fun _ _ => ?_) ?_) | (refine pg_unBool (fun _ => ?_) ?_) | (refine pg_unStr (fun _ => ?_) ?_) | (refine pg_unPtr (fun _ _ => ?_) ?_) | (refine pg_unSl ?_ (fun _ _ _ _ => ?_) (fun _ _ _ _ => ?_) ?_) | (refine pg_unMap ?_ (fun _ => ?_) ?_) | (refine pg_unFn (fun _ _ _ => ?_) (fun _ => ?_) ?_) | (refine pg_unIfc (fun _ _ => ?_) ?_) | (refine pg_unAgg (fun _ => ?_) ?_) | (refine pg_unTup (fun _ => ?_) ?_) | (refine pg_unNil (fun _ _ => ?_) ?_) | refine pg_bool ?_ ?_ | (refine pg_opt ?_ (fun _ => ?_)) | (refine pg_list ?_ (fun _ _ => ?_))))
theorem pv_add (x y) : PV (oAdd x y) := fun L T H => by
 unfold oAdd cat
 refine pg_unInt (fun a => pg_unInt (fun b => pg_mkInt _) (pg_er _)) ?_
 (repeat' (first | exact pg_er _ | exact pg_v _ | exact pg_h _ _ | (refine pg_read (fun _ => ?_)) | (refine pg_read1 (fun _ => ?_)) | (refine pg_write (fun _ => ?_)) | (refine pg_cells (fun _ _ _ _ _ _ => ?_) ?_) | (refine pg_mapOf (fun _ _ _ => ?_) ?_) | (refine pg_iterOf (fun _ _ _ _ => ?_) ?_) | (refine pg_eqV (fun _ => ?_) ?_) | (refine pg_fillP _ (fun _ => ?_)) | (refine pg_rdSl (fun _ _ => ?_)) | refine pg_chk ?_ | (refine pg_findK _ (fun _ => ?_) ?_ ?_) | (refine pg_putK _ (fun _ _ => ?_) ?_) | (refine pg_delK _ (fun _ => ?_) ?_) | (refine pg_asNat (fun _ => ?_) ?_) | (refine pg_bounds (fun _ _ _ => ?_) ?_) | (refine pg_ltake _ (fun _ => ?_) ?_) | (refine pg_lnth _ (fun _ => ?_) ?_) | (refine pg_lset _ (fun _ => ?_) ?_) | (refine pg_unInt (fun _ => ?_) ?_) | (refine pg_unIk (fun _ _ => ?_) ?_) | (refine pg_unBool (fun _ => ?_) ?_) | (refine pg_unStr (fun _ => ?_) ?_) | (refine pg_unPtr (fun _ _ => ?_) ?_) | (refine pg_unSl ?_ (fun _ _ _ _ => ?_) (fun _ _ _ _ => ?_) ?_) | (refine pg_unMap ?_ (fun _ => ?_) ?_) | (refine pg_unFn (fun _ _ _ => ?_) (fun _ => ?_) ?_) | (refine pg_unIfc (fun _ _ => ?_) ?_) | (refine pg_unAgg (fun _ => ?_) ?_) | (refine pg_unTup (fun _ => ?_) ?_) | (refine pg_unNil (fun _ _ => ?_) ?_) | refine pg_bool ?_ ?_ | (refine pg_opt ?_ (fun _ => ?_)) | (refine pg_list ?_ (fun _ _ => ?_))))
theorem pv_neg (x) : PV (oNeg x) := fun L T H => by unfold oNeg; exact pg_unInt (fun _ => pg_mkInt _) (pg_er _)
theorem pg_grow {H : AH} {b l ty root ab o s len n old new} : PG LfH (fun k => grow H b l ty root ab o s len n old new k) := by
 unfold grow
 cases H
 cases hf : PT.get root (AH.fam ⟨_, _, _, _⟩) with
 | none => exact pg_h _ _
 | some ids => exact pg_h _ _
theorem ph_app (s t x y) : PH (oApp s t x y) := fun lim L T H => by
 unfold oApp
 refine pg_rdSl (fun n new => pg_unSl ?_ (fun b o len cap => ?_) (fun b o len lost => ?_) (pg_er _))
 ·(repeat' (first | exact pg_er _ | exact pg_v _ | exact pg_h _ _ | (refine pg_read (fun _ => ?_)) | (refine pg_read1 (fun _ => ?_)) | (refine pg_write (fun _ => ?_)) | (refine pg_cells (fun _ _ _ _ _ _ => ?_) ?_) | (refine pg_mapOf (fun _ _ _ => ?_) ?_) | (refine pg_iterOf (fun _ _ _ _ => ?_) ?_) | (refine pg_eqV (fun _ => ?_) ?_) | (refine pg_fillP _ (fun _ => ?_)) | (refine pg_rdSl (fun _ _ => ?_)) | refine pg_chk ?_ | (refine pg_findK _ (fun _ => ?_) ?_ ?_) | (refine pg_putK _ (fun _ _ => ?_) ?_) | (refine pg_delK _ (fun _ => ?_) ?_) | (refine pg_asNat (fun _ => ?_) ?_) | (refine pg_bounds (fun _ _ _ => ?_) ?_) | (refine pg_ltake _ (fun _ => ?_) ?_) | (refine pg_lnth _ (fun _ => ?_) ?_) | (refine pg_lset _ (fun _ => ?_) ?_) | (refine pg_unInt (fun _ => ?_) ?_) | (refine pg_unIk (fun _ _ => ?_) ?_) | (refine pg_unBool (fun _ => ?_) ?_) | (refine pg_unStr (fun _ => ?_) ?_) | (refine pg_unPtr (fun _ _ => ?_) ?_) | (refine pg_unSl ?_ (fun _ _ _ _ => ?_) (fun _ _ _ _ => ?_) ?_) | (refine pg_unMap ?_ (fun _ => ?_) ?_) | (refine pg_unFn (fun _ _ _ => ?_) (fun _ => ?_) ?_) | (refine pg_unIfc (fun _ _ => ?_) ?_) | (refine pg_unAgg (fun _ => ?_) ?_) | (refine pg_unTup (fun _ => ?_) ?_) | (refine pg_unNil (fun _ _ => ?_) ?_) | refine pg_bool ?_ ?_ | (refine pg_opt ?_ (fun _ => ?_)) | (refine pg_list ?_ (fun _ _ => ?_))))
 ·(repeat' (first | exact pg_er _ | exact pg_v _ | exact pg_h _ _ | (refine pg_read (fun _ => ?_)) | (refine pg_read1 (fun _ => ?_)) | (refine pg_write (fun _ => ?_)) | (refine pg_cells (fun _ _ _ _ _ _ => ?_) ?_) | (refine pg_mapOf (fun _ _ _ => ?_) ?_) | (refine pg_iterOf (fun _ _ _ _ => ?_) ?_) | (refine pg_eqV (fun _ => ?_) ?_) | (refine pg_fillP _ (fun _ => ?_)) | (refine pg_rdSl (fun _ _ => ?_)) | refine pg_chk ?_ | (refine pg_findK _ (fun _ => ?_) ?_ ?_) | (refine pg_putK _ (fun _ _ => ?_) ?_) | (refine pg_delK _ (fun _ => ?_) ?_) | (refine pg_asNat (fun _ => ?_) ?_) | (refine pg_bounds (fun _ _ _ => ?_) ?_) | (refine pg_ltake _ (fun _ => ?_) ?_) | (refine pg_lnth _ (fun _ => ?_) ?_) | (refine pg_lset _ (fun _ => ?_) ?_) | (refine pg_unInt (fun _ => ?_) ?_) | (refine pg_unIk (fun _ _ => ?_) ?_) | (refine pg_unBool (fun _ => ?_) ?_) | (refine pg_unStr (fun _ => ?_) ?_) | (refine pg_unPtr (fun _ _ => ?_) ?_) | (refine pg_unSl ?_ (fun _ _ _ _ => ?_) (fun _ _ _ _ => ?_) ?_) | (refine pg_unMap ?_ (fun _ => ?_) ?_) | (refine pg_unFn (fun _ _ _ => ?_) (fun _ => ?_) ?_) | (refine pg_unIfc (fun _ _ => ?_) ?_) | (refine pg_unAgg (fun _ => ?_) ?_) | (refine pg_unTup (fun _ => ?_) ?_) | (refine pg_unNil (fun _ _ => ?_) ?_) | refine pg_bool ?_ ?_ | (refine pg_opt ?_ (fun _ => ?_)) | (refine pg_list ?_ (fun _ _ => ?_))))
 ·refine pg_bool (pg_bool (pg_er _) (pg_cells (fun l ty' root ab g birth => pg_bool (pg_er _) (pg_bool (pg_ltake _ (fun old => pg_grow) (pg_er _)) (pg_write fun _ => pg_h _ _))) (pg_er _))) (pg_h _ _)
theorem p_all : (∀ x, PV (oMv x)) ∧ (∀ c a b, PV (oPick c a b)) ∧ (∀ z ps, PV (oBuild z ps)) ∧ (∀ x, PV (oLoad1 x)) ∧ (∀ n x, PV (oLoadN n x)) ∧ (∀ x, PV (oNil x)) ∧ (∀ g x y, PV (oCmp g x y)) ∧ (∀ q x y, PV (oEq q x y)) ∧ (∀ q x y, PV (oNe q x y)) ∧ (∀ n x, PV (oEqn n x)) ∧ (∀ n x, PV (oNen n x)) ∧ (∀ x, PV (oNot x)) ∧ (∀ k x, PV (oConv k x)) ∧ (∀ x, PV (oSame x)) ∧ (∀ t x, PV (oMkI t x)) ∧ (∀ f a c, PV (oMkFn f a c)) ∧ (∀ s x lo hi mx, PV (oSlc s x lo hi mx)) ∧ (∀ x lo hi, PV (oSlcS x lo hi)) ∧ (∀ n s x lo hi mx, PV (oSlcA n s x lo hi mx)) ∧ (∀ o x, PV (oFad o x)) ∧ (∀ o x, PV (oFld1 o x)) ∧ (∀ o n x, PV (oFldN o n x)) ∧ (∀ s x i, PV (oIad s x i)) ∧ (∀ n s x i, PV (oIadA n s x i)) ∧ (∀ x i, PV (oIdS x i)) ∧ (∀ n s x i, PV (oIdA1 n s x i)) ∧ (∀ n s x i, PV (oIdAN n s x i)) ∧ (∀ h z m q, PV (oLook1 h z m q)) ∧ (∀ h z m q, PV (oLook2 h z m q)) ∧ (∀ x i, PV (oExt x i)) ∧ (∀ x, PV (oLen x)) ∧ (∀ x, PV (oLenS x)) ∧ (∀ x, PV (oLenM x)) ∧ (∀ x, PV (oCap x)) ∧ (∀ x y, PV (oMin x y)) ∧ (∀ x y, PV (oMax x y)) ∧ (∀ x, PV (oNext x)) ∧ (∀ z t, PH (oAlloc z t)) ∧ (∀ t x, PH (oBox t x)) ∧ (∀ z l t ps, PH (oBuildS z l t ps)) ∧ (∀ n x v, PH (oStore n x v)) ∧ (∀ t x, PH (oS2b t x)) ∧ (PH oMkMap) ∧ (∀ z t b l c, PH (oMkSl z t b l c)) ∧ (∀ h m q v, PH (oMup h m q v)) ∧ (∀ h m q, PH (oDel h m q)) ∧ (∀ s x y, PH (oCopy s x y)) ∧ (∀ z x, PH (oClear z x)) ∧ (∀ x, PH (oRng x)) := by
 refine ⟨fun x L T H => ?_, fun c a b L T H => ?_, fun z ps L T H => ?_, fun x L T H => ?_, fun n x L T H => ?_, fun x L T H => ?_, fun g x y L T H => ?_, fun q x y L T H => ?_, fun q x y L T H => ?_, fun n x L T H => ?_, fun n x L T H => ?_, fun x L T H => ?_, fun k x L T H => ?_, fun x L T H => ?_, fun t x L T H => ?_, fun f a c L T H => ?_, fun s x lo hi mx L T H => ?_, fun x lo hi L T H => ?_, fun n s x lo hi mx L T H => ?_, fun o x L T H => ?_, fun o x L T H => ?_, fun o n x L T H => ?_, fun s x i L T H => ?_, fun n s x i L T H => ?_, fun x i L T H => ?_, fun n s x i L T H => ?_, fun n s x i L T H => ?_, fun h z m q L T H => ?_, fun h z m q L T H => ?_, fun x i L T H => ?_, fun x L T H => ?_, fun x L T H => ?_, fun x L T H => ?_, fun x L T H => ?_, fun x y L T H => ?_, fun x y L T H => ?_, fun x L T H => ?_, fun z t lim L T H => ?_, fun t x lim L T H => ?_, fun z l t ps lim L T H => ?_, fun n x v lim L T H => ?_, fun t x lim L T H => ?_, fun lim L T H => ?_, fun z t b l c lim L T H => ?_, fun h m q v lim L T H => ?_, fun h m q lim L T H => ?_, fun s x y lim L T H => ?_, fun z x lim L T H => ?_, fun x lim L T H => ?_⟩
 all_goals first | unfold oMv | unfold oPick | unfold oBuild | unfold oLoad1 | unfold oLoadN | unfold oNil | unfold oCmp | unfold oEq | unfold oNe | unfold oEqn | unfold oNen | unfold oNot | unfold oConv | unfold oSame | unfold oMkI | unfold oMkFn | unfold oSlc | unfold oSlcS | unfold oSlcA | unfold oFad | unfold oFld1 | unfold oFldN | unfold oIad | unfold oIadA | unfold oIdS | unfold oIdA1 | unfold oIdAN | unfold oLook1 | unfold oLook2 | unfold oExt | unfold oLen | unfold oLenS | unfold oLenM | unfold oCap | unfold oMin | unfold oMax | unfold oNext | unfold oAlloc | unfold oBox | unfold oBuildS | unfold oStore | unfold oS2b | unfold oMkMap | unfold oMkSl | unfold oMup | unfold oDel | unfold oCopy | unfold oClear | unfold oRng
 all_goals (repeat' (first | exact pg_er _ | exact pg_v _ | exact pg_h _ _ | (refine pg_read (fun _ => ?_)) | (refine pg_read1 (fun _ => ?_)) | (refine pg_write (fun _ => ?_)) | (refine pg_cells (fun _ _ _ _ _ _ => ?_) ?_) | (refine pg_mapOf (fun _ _ _ => ?_) ?_) | (refine pg_iterOf (fun _ _ _ _ => ?_) ?_) | (refine pg_eqV (fun _ => ?_) ?_) | (refine pg_fillP _ (fun _ => ?_)) | (refine pg_rdSl (fun _ _ => ?_)) | refine pg_chk ?_ | (refine pg_findK _ (fun _ => ?_) ?_ ?_) | (refine pg_putK _ (fun _ _ => ?_) ?_) | (refine pg_delK _ (fun _ => ?_) ?_) | (refine pg_asNat (fun _ => ?_) ?_) | (refine pg_bounds (fun _ _ _ => ?_) ?_) | (refine pg_ltake _ (fun _ => ?_) ?_) | (refine pg_lnth _ (fun _ => ?_) ?_) | (refine pg_lset _ (fun _ => ?_) ?_) | (refine pg_unInt (fun _ => ?_) ?_) | (refine pg_unIk (fun _ _ => ?_) ?_) | (refine pg_unBool (fun _ => ?_) ?_) | (refine pg_unStr (fun _ => ?_) ?_) | (refine pg_unPtr (fun _ _ => ?_) ?_) | (refine pg_unSl ?_ (fun _ _ _ _ => ?_) (fun _ _ _ _ => ?_) ?_) | (refine pg_unMap ?_ (fun _ => ?_) ?_) | (refine pg_unFn (fun _ _ _ => ?_) (fun _ => ?_) ?_) | (refine pg_unIfc (fun _ _ => ?_) ?_) | (refine pg_unAgg (fun _ => ?_) ?_) | (refine pg_unTup (fun _ => ?_) ?_) | (refine pg_unNil (fun _ _ => ?_) ?_) | refine pg_bool ?_ ?_ | (refine pg_opt ?_ (fun _ => ?_)) | (refine pg_list ?_ (fun _ _ => ?_))))
theorem pv_mv (x) : PV (oMv x) := p_all.1 x
theorem pv_pick (c a b) : PV (oPick c a b) := p_all.2.1 c a b
theorem pv_build (z ps) : PV (oBuild z ps) := p_all.2.2.1 z ps
theorem pv_load1 (x) : PV (oLoad1 x) := p_all.2.2.2.1 x
theorem pv_loadN (n x) : PV (oLoadN n x) := p_all.2.2.2.2.1 n x
theorem pv_nil (x) : PV (oNil x) := p_all.2.2.2.2.2.1 x
theorem pv_cmp (g x y) : PV (oCmp g x y) := p_all.2.2.2.2.2.2.1 g x y
theorem pv_eq (q x y) : PV (oEq q x y) := p_all.2.2.2.2.2.2.2.1 q x y
theorem pv_ne (q x y) : PV (oNe q x y) := p_all.2.2.2.2.2.2.2.2.1 q x y
theorem pv_eqn (n x) : PV (oEqn n x) := p_all.2.2.2.2.2.2.2.2.2.1 n x
theorem pv_nen (n x) : PV (oNen n x) := p_all.2.2.2.2.2.2.2.2.2.2.1 n x
theorem pv_not (x) : PV (oNot x) := p_all.2.2.2.2.2.2.2.2.2.2.2.1 x
theorem pv_conv (k x) : PV (oConv k x) := p_all.2.2.2.2.2.2.2.2.2.2.2.2.1 k x
theorem pv_same (x) : PV (oSame x) := p_all.2.2.2.2.2.2.2.2.2.2.2.2.2.1 x
theorem pv_mkI (t x) : PV (oMkI t x) := p_all.2.2.2.2.2.2.2.2.2.2.2.2.2.2.1 t x
theorem pv_mkFn (f a c) : PV (oMkFn f a c) := p_all.2.2.2.2.2.2.2.2.2.2.2.2.2.2.2.1 f a c
theorem pv_slc (s x lo hi mx) : PV (oSlc s x lo hi mx) := p_all.2.2.2.2.2.2.2.2.2.2.2.2.2.2.2.2.1 s x lo hi mx
theorem pv_slcS (x lo hi) : PV (oSlcS x lo hi) := p_all.2.2.2.2.2.2.2.2.2.2.2.2.2.2.2.2.2.1 x lo hi
theorem pv_slcA (n s x lo hi mx) : PV (oSlcA n s x lo hi mx) := p_all.2.2.2.2.2.2.2.2.2.2.2.2.2.2.2.2.2.2.1 n s x lo hi mx
theorem pv_fad (o x) : PV (oFad o x) := p_all.2.2.2.2.2.2.2.2.2.2.2.2.2.2.2.2.2.2.2.1 o x
theorem pv_fld1 (o x) : PV (oFld1 o x) := p_all.2.2.2.2.2.2.2.2.2.2.2.2.2.2.2.2.2.2.2.2.1 o x
theorem pv_fldN (o n x) : PV (oFldN o n x) := p_all.2.2.2.2.2.2.2.2.2.2.2.2.2.2.2.2.2.2.2.2.2.1 o n x
theorem pv_iad (s x i) : PV (oIad s x i) := p_all.2.2.2.2.2.2.2.2.2.2.2.2.2.2.2.2.2.2.2.2.2.2.1 s x i
theorem pv_iadA (n s x i) : PV (oIadA n s x i) := p_all.2.2.2.2.2.2.2.2.2.2.2.2.2.2.2.2.2.2.2.2.2.2.2.1 n s x i
theorem pv_idS (x i) : PV (oIdS x i) := p_all.2.2.2.2.2.2.2.2.2.2.2.2.2.2.2.2.2.2.2.2.2.2.2.2.1 x i
theorem pv_idA1 (n s x i) : PV (oIdA1 n s x i) := p_all.2.2.2.2.2.2.2.2.2.2.2.2.2.2.2.2.2.2.2.2.2.2.2.2.2.1 n s x i
theorem pv_idAN (n s x i) : PV (oIdAN n s x i) := p_all.2.2.2.2.2.2.2.2.2.2.2.2.2.2.2.2.2.2.2.2.2.2.2.2.2.2.1 n s x i
theorem pv_look1 (h z m q) : PV (oLook1 h z m q) := p_all.2.2.2.2.2.2.2.2.2.2.2.2.2.2.2.2.2.2.2.2.2.2.2.2.2.2.2.1 h z m q
theorem pv_look2 (h z m q) : PV (oLook2 h z m q) := p_all.2.2.2.2.2.2.2.2.2.2.2.2.2.2.2.2.2.2.2.2.2.2.2.2.2.2.2.2.1 h z m q
theorem pv_ext (x i) : PV (oExt x i) := p_all.2.2.2.2.2.2.2.2.2.2.2.2.2.2.2.2.2.2.2.2.2.2.2.2.2.2.2.2.2.1 x i
theorem pv_len (x) : PV (oLen x) := p_all.2.2.2.2.2.2.2.2.2.2.2.2.2.2.2.2.2.2.2.2.2.2.2.2.2.2.2.2.2.2.1 x
theorem pv_lenS (x) : PV (oLenS x) := p_all.2.2.2.2.2.2.2.2.2.2.2.2.2.2.2.2.2.2.2.2.2.2.2.2.2.2.2.2.2.2.2.1 x
theorem pv_lenM (x) : PV (oLenM x) := p_all.2.2.2.2.2.2.2.2.2.2.2.2.2.2.2.2.2.2.2.2.2.2.2.2.2.2.2.2.2.2.2.2.1 x
theorem pv_cap (x) : PV (oCap x) := p_all.2.2.2.2.2.2.2.2.2.2.2.2.2.2.2.2.2.2.2.2.2.2.2.2.2.2.2.2.2.2.2.2.2.1 x
theorem pv_min (x y) : PV (oMin x y) := p_all.2.2.2.2.2.2.2.2.2.2.2.2.2.2.2.2.2.2.2.2.2.2.2.2.2.2.2.2.2.2.2.2.2.2.1 x y
theorem pv_max (x y) : PV (oMax x y) := p_all.2.2.2.2.2.2.2.2.2.2.2.2.2.2.2.2.2.2.2.2.2.2.2.2.2.2.2.2.2.2.2.2.2.2.2.1 x y
theorem pv_next (x) : PV (oNext x) := p_all.2.2.2.2.2.2.2.2.2.2.2.2.2.2.2.2.2.2.2.2.2.2.2.2.2.2.2.2.2.2.2.2.2.2.2.2.1 x
theorem ph_alloc (z t) : PH (oAlloc z t) := p_all.2.2.2.2.2.2.2.2.2.2.2.2.2.2.2.2.2.2.2.2.2.2.2.2.2.2.2.2.2.2.2.2.2.2.2.2.2.1 z t
theorem ph_box (t x) : PH (oBox t x) := p_all.2.2.2.2.2.2.2.2.2.2.2.2.2.2.2.2.2.2.2.2.2.2.2.2.2.2.2.2.2.2.2.2.2.2.2.2.2.2.1 t x
theorem ph_buildS (z l t ps) : PH (oBuildS z l t ps) := p_all.2.2.2.2.2.2.2.2.2.2.2.2.2.2.2.2.2.2.2.2.2.2.2.2.2.2.2.2.2.2.2.2.2.2.2.2.2.2.2.1 z l t ps
theorem ph_store (n x v) : PH (oStore n x v) := p_all.2.2.2.2.2.2.2.2.2.2.2.2.2.2.2.2.2.2.2.2.2.2.2.2.2.2.2.2.2.2.2.2.2.2.2.2.2.2.2.2.1 n x v
theorem ph_s2b (t x) : PH (oS2b t x) := p_all.2.2.2.2.2.2.2.2.2.2.2.2.2.2.2.2.2.2.2.2.2.2.2.2.2.2.2.2.2.2.2.2.2.2.2.2.2.2.2.2.2.1 t x
theorem ph_mkMap : PH oMkMap := p_all.2.2.2.2.2.2.2.2.2.2.2.2.2.2.2.2.2.2.2.2.2.2.2.2.2.2.2.2.2.2.2.2.2.2.2.2.2.2.2.2.2.2.1
theorem ph_mkSl (z t b l c) : PH (oMkSl z t b l c) := p_all.2.2.2.2.2.2.2.2.2.2.2.2.2.2.2.2.2.2.2.2.2.2.2.2.2.2.2.2.2.2.2.2.2.2.2.2.2.2.2.2.2.2.2.1 z t b l c
theorem ph_mup (h m q v) : PH (oMup h m q v) := p_all.2.2.2.2.2.2.2.2.2.2.2.2.2.2.2.2.2.2.2.2.2.2.2.2.2.2.2.2.2.2.2.2.2.2.2.2.2.2.2.2.2.2.2.2.1 h m q v
theorem ph_del (h m q) : PH (oDel h m q) := p_all.2.2.2.2.2.2.2.2.2.2.2.2.2.2.2.2.2.2.2.2.2.2.2.2.2.2.2.2.2.2.2.2.2.2.2.2.2.2.2.2.2.2.2.2.2.1 h m q
theorem ph_copy (s x y) : PH (oCopy s x y) := p_all.2.2.2.2.2.2.2.2.2.2.2.2.2.2.2.2.2.2.2.2.2.2.2.2.2.2.2.2.2.2.2.2.2.2.2.2.2.2.2.2.2.2.2.2.2.2.1 s x y
theorem ph_clear (z x) : PH (oClear z x) := p_all.2.2.2.2.2.2.2.2.2.2.2.2.2.2.2.2.2.2.2.2.2.2.2.2.2.2.2.2.2.2.2.2.2.2.2.2.2.2.2.2.2.2.2.2.2.2.2.1 z x
theorem ph_rng (x) : PH (oRng x) := p_all.2.2.2.2.2.2.2.2.2.2.2.2.2.2.2.2.2.2.2.2.2.2.2.2.2.2.2.2.2.2.2.2.2.2.2.2.2.2.2.2.2.2.2.2.2.2.2.2 x
end Av
end
section
set_option linter.unusedSimpArgs false
set_option linter.unusedVariables false
namespace Av
open Go
variable {P : Program} {e : Operand → Option AO}
theorem some_map {α β : Type} {o : Option α} {f : α → β} {y : β} (h : o.map f = some y) : ∃ x, o = some x ∧ f x = y := by
 cases o with
 | none => cases h
 | some x => exact ⟨x, rfl, by simpa using h⟩
theorem cmpEq_par {neg : Bool} {t : Nat} {x y : Operand} {o : VOp} (h : cmpEq P e neg t x y = some o) : PV o := by
 unfold cmpEq at h
 repeat' split at h
 all_goals first
  | (cases h; done)
  | (obtain ⟨a, _, rfl⟩ := some_map h; cases neg <;> (first | exact pv_mv _ | exact pv_pick _ _ _ | exact pv_build _ _ | exact pv_load1 _ | exact pv_loadN _ _ | exact pv_nil _ | exact pv_int2 pg_iSub _ _ | exact pv_int2 pg_iMul _ _ | exact pv_int2 pg_iQuo _ _ | exact pv_int2 pg_iRem _ _ | exact pv_cmp _ _ _ | exact pv_add _ _ | exact pv_eq _ _ _ | exact pv_ne _ _ _ | exact pv_eqn _ _ | exact pv_nen _ _ | exact pv_not _ | exact pv_neg _ | exact pv_conv _ _ | exact pv_same _ | exact pv_mkI _ _ | exact pv_mkFn _ _ _ | exact pv_slc _ _ _ _ _ | exact pv_slcS _ _ _ | exact pv_slcA _ _ _ _ _ _ | exact pv_fad _ _ | exact pv_fld1 _ _ | exact pv_fldN _ _ _ | exact pv_iad _ _ _ | exact pv_iadA _ _ _ _ | exact pv_idS _ _ | exact pv_idA1 _ _ _ _ | exact pv_idAN _ _ _ _ | exact pv_look1 _ _ _ _ | exact pv_look2 _ _ _ _ | exact pv_ext _ _ | exact pv_len _ | exact pv_lenS _ | exact pv_lenM _ | exact pv_cap _ | exact pv_min _ _ | exact pv_max _ _ | exact pv_next _))
  | (cases h; cases neg <;> (first | exact pv_mv _ | exact pv_pick _ _ _ | exact pv_build _ _ | exact pv_load1 _ | exact pv_loadN _ _ | exact pv_nil _ | exact pv_int2 pg_iSub _ _ | exact pv_int2 pg_iMul _ _ | exact pv_int2 pg_iQuo _ _ | exact pv_int2 pg_iRem _ _ | exact pv_cmp _ _ _ | exact pv_add _ _ | exact pv_eq _ _ _ | exact pv_ne _ _ _ | exact pv_eqn _ _ | exact pv_nen _ _ | exact pv_not _ | exact pv_neg _ | exact pv_conv _ _ | exact pv_same _ | exact pv_mkI _ _ | exact pv_mkFn _ _ _ | exact pv_slc _ _ _ _ _ | exact pv_slcS _ _ _ | exact pv_slcA _ _ _ _ _ _ | exact pv_fad _ _ | exact pv_fld1 _ _ | exact pv_fldN _ _ _ | exact pv_iad _ _ _ | exact pv_iadA _ _ _ _ | exact pv_idS _ _ | exact pv_idA1 _ _ _ _ | exact pv_idAN _ _ _ _ | exact pv_look1 _ _ _ _ | exact pv_look2 _ _ _ _ | exact pv_ext _ _ | exact pv_len _ | exact pv_lenS _ | exact pv_lenM _ | exact pv_cap _ | exact pv_min _ _ | exact pv_max _ _ | exact pv_next _))
theorem cmpBin_par {op : BinOp} {x y : AO} {o : VOp} (h : cmpBin op x y = some o) : PV o := by
 unfold cmpBin at h
 split at h <;> (cases h) <;> (first | exact pv_mv _ | exact pv_pick _ _ _ | exact pv_build _ _ | exact pv_load1 _ | exact pv_loadN _ _ | exact pv_nil _ | exact pv_int2 pg_iSub _ _ | exact pv_int2 pg_iMul _ _ | exact pv_int2 pg_iQuo _ _ | exact pv_int2 pg_iRem _ _ | exact pv_cmp _ _ _ | exact pv_add _ _ | exact pv_eq _ _ _ | exact pv_ne _ _ _ | exact pv_eqn _ _ | exact pv_nen _ _ | exact pv_not _ | exact pv_neg _ | exact pv_conv _ _ | exact pv_same _ | exact pv_mkI _ _ | exact pv_mkFn _ _ _ | exact pv_slc _ _ _ _ _ | exact pv_slcS _ _ _ | exact pv_slcA _ _ _ _ _ _ | exact pv_fad _ _ | exact pv_fld1 _ _ | exact pv_fldN _ _ _ | exact pv_iad _ _ _ | exact pv_iadA _ _ _ _ | exact pv_idS _ _ | exact pv_idA1 _ _ _ _ | exact pv_idAN _ _ _ _ | exact pv_look1 _ _ _ _ | exact pv_look2 _ _ _ _ | exact pv_ext _ _ | exact pv_len _ | exact pv_lenS _ | exact pv_lenM _ | exact pv_cap _ | exact pv_min _ _ | exact pv_max _ _ | exact pv_next _)
theorem cmpV_par {op : Op} {o : VOp} (h : cmpV P e op = some o) : PV o := by
 unfold cmpV at h
 repeat' split at h
 all_goals first
  | (cases h; done)
  | exact cmpEq_par h
  | exact cmpBin_par h
  | (obtain ⟨a, _, rfl⟩ := some_map h; (repeat' split) <;> (first | exact pv_mv _ | exact pv_pick _ _ _ | exact pv_build _ _ | exact pv_load1 _ | exact pv_loadN _ _ | exact pv_nil _ | exact pv_int2 pg_iSub _ _ | exact pv_int2 pg_iMul _ _ | exact pv_int2 pg_iQuo _ _ | exact pv_int2 pg_iRem _ _ | exact pv_cmp _ _ _ | exact pv_add _ _ | exact pv_eq _ _ _ | exact pv_ne _ _ _ | exact pv_eqn _ _ | exact pv_nen _ _ | exact pv_not _ | exact pv_neg _ | exact pv_conv _ _ | exact pv_same _ | exact pv_mkI _ _ | exact pv_mkFn _ _ _ | exact pv_slc _ _ _ _ _ | exact pv_slcS _ _ _ | exact pv_slcA _ _ _ _ _ _ | exact pv_fad _ _ | exact pv_fld1 _ _ | exact pv_fldN _ _ _ | exact pv_iad _ _ _ | exact pv_iadA _ _ _ _ | exact pv_idS _ _ | exact pv_idA1 _ _ _ _ | exact pv_idAN _ _ _ _ | exact pv_look1 _ _ _ _ | exact pv_look2 _ _ _ _ | exact pv_ext _ _ | exact pv_len _ | exact pv_lenS _ | exact pv_lenM _ | exact pv_cap _ | exact pv_min _ _ | exact pv_max _ _ | exact pv_next _))
  | (cases h; (repeat' split) <;> (first | exact pv_mv _ | exact pv_pick _ _ _ | exact pv_build _ _ | exact pv_load1 _ | exact pv_loadN _ _ | exact pv_nil _ | exact pv_int2 pg_iSub _ _ | exact pv_int2 pg_iMul _ _ | exact pv_int2 pg_iQuo _ _ | exact pv_int2 pg_iRem _ _ | exact pv_cmp _ _ _ | exact pv_add _ _ | exact pv_eq _ _ _ | exact pv_ne _ _ _ | exact pv_eqn _ _ | exact pv_nen _ _ | exact pv_not _ | exact pv_neg _ | exact pv_conv _ _ | exact pv_same _ | exact pv_mkI _ _ | exact pv_mkFn _ _ _ | exact pv_slc _ _ _ _ _ | exact pv_slcS _ _ _ | exact pv_slcA _ _ _ _ _ _ | exact pv_fad _ _ | exact pv_fld1 _ _ | exact pv_fldN _ _ _ | exact pv_iad _ _ _ | exact pv_iadA _ _ _ _ | exact pv_idS _ _ | exact pv_idA1 _ _ _ _ | exact pv_idAN _ _ _ _ | exact pv_look1 _ _ _ _ | exact pv_look2 _ _ _ _ | exact pv_ext _ _ | exact pv_len _ | exact pv_lenS _ | exact pv_lenM _ | exact pv_cap _ | exact pv_min _ _ | exact pv_max _ _ | exact pv_next _))
theorem cmpH_par {op : Op} {o : HOp} (h : cmpH P e op = some o) : PH o := by
 unfold cmpH at h
 repeat' split at h
 all_goals first
  | (cases h; done)
  | (obtain ⟨a, _, rfl⟩ := some_map h; (first | exact ph_alloc _ _ | exact ph_box _ _ | exact ph_buildS _ _ _ _ | exact ph_store _ _ _ | exact ph_s2b _ _ | exact ph_mkMap | exact ph_mkSl _ _ _ _ _ | exact ph_mup _ _ _ _ | exact ph_del _ _ _ | exact ph_app _ _ _ _ | exact ph_copy _ _ _ | exact ph_clear _ _ | exact ph_rng _))
  | (cases h; (first | exact ph_alloc _ _ | exact ph_box _ _ | exact ph_buildS _ _ _ _ | exact ph_store _ _ _ | exact ph_s2b _ _ | exact ph_mkMap | exact ph_mkSl _ _ _ _ _ | exact ph_mup _ _ _ _ | exact ph_del _ _ _ | exact ph_app _ _ _ _ | exact ph_copy _ _ _ | exact ph_clear _ _ | exact ph_rng _))
def NoH (o : VOp) : Prop := ∀ L T H H' k, o L T H k = o L T H' k
theorem cmpEq_noH {neg : Bool} {t : Nat} {x y : Operand} {o : VOp} (h : cmpEq P e neg t x y = some o) : NoH o := by
 unfold cmpEq at h
 repeat' split at h
 all_goals first
  | (cases h; done)
  | (obtain ⟨a, _, rfl⟩ := some_map h; cases neg <;> exact fun _ _ _ _ _ => rfl)
  | (cases h; cases neg <;> exact fun _ _ _ _ _ => rfl)
theorem cmpBin_noH {op : BinOp} {x y : AO} {o : VOp} (h : cmpBin op x y = some o) : NoH o := by
 unfold cmpBin at h
 split at h <;> (cases h) <;> exact fun _ _ _ _ _ => rfl
theorem cmpV_noH {op : Op} {o : VOp} (hp : isPure P op = true) (h : cmpV P e op = some o) : NoH o := by
 unfold cmpV at h
 repeat' split at h
 all_goals first
  | (cases h; done)
  | (cases hp; done)
  | exact cmpEq_noH h
  | exact cmpBin_noH h
  | (obtain ⟨a, _, rfl⟩ := some_map h; (repeat' split) <;> exact fun _ _ _ _ _ => rfl)
  | (cases h; (repeat' split) <;> exact fun _ _ _ _ _ => rfl)
  | (simp_all [isPure, isSeqT]; done)
def OneH (o : VOp) (x : AO) : Prop := ∀ L T H H' b off k, x.ev L T = .ptr b off → PT.get b H.bl = PT.get b H'.bl → o L T H k = o L T H' k
theorem cmpV_load {t : Nat} {a : Operand} {x : AO} {o : VOp} (hx : e a = some x) (h : cmpV P e (.load t a) = some o) : OneH o x := by
 unfold cmpV at h
 simp only at h
 split at h
 ·cases h
 ·obtain ⟨y, hy, rfl⟩ := some_map h
  rw [hx] at hy
  cases hy
  split <;> intro L T H H' b off k hev hg
  ·unfold oLoadN AH.read AH.cells
   rw [hev]
   dsimp only [AV.unPtr]
   rw [hg]
  ·unfold oLoad1 AH.read1 AH.cells
   rw [hev]
   dsimp only [AV.unPtr]
   rw [hg]
end Av
end
section
set_option linter.unusedSimpArgs false
set_option linter.unusedVariables false
namespace Av
open Go Go.RowKit
def pushL (d : Dst) (v : AV) (L : List AV) : List AV := match d with | .l => v :: L | _ => L
noncomputable def putT (d : Dst) (v : AV) (T : PT AV) : PT AV := match d with | .t p => PT.put p (some v) T | _ => T
theorem putD_eq (d : Dst) (v : AV) (L : List AV) (T : PT AV) (k : List AV → PT AV → R Out) : putD d v L T k = k (pushL d v L) (putT d v T) := by cases d <;> rfl
noncomputable def evT (σ : Sl) (stk : List Nat) (L : List AV) (T : PT AV) (t : Nat) : Option AV := (opd σ stk (.tmp t)).map (·.ev L T)
theorem evT_slot {σ : Sl} {stk : List Nat} {L : List AV} {T : PT AV} {t : Nat} {p : Pos} (h : slot σ t = some p) : evT σ stk L T t = some ((PT.get p T).getD undf) := by
 unfold evT
 simp only [opd, h, Option.map_some, ev_t]
theorem evT_stk {σ : Sl} {stk : List Nat} {L : List AV} {T : PT AV} {t : Nat} (h : slot σ t = none) : evT σ stk L T t = (idx stk t).map (lget L) := by
 unfold evT
 simp only [opd, h, Option.map_map]
 cases idx stk t <;> rfl
theorem evT_put {σ : Sl} {n : Nat} {stk : List Nat} {L : List AV} {T : PT AV} (hσ : okS n σ = true) {d : Option Nat} (hd : ∀ t, d = some t → t < n) (v : AV) (t : Nat) :
 evT σ (pushed σ n stk d) (pushL (dstOf σ n d) v L) (putT (dstOf σ n d) v T) t = if d = some t then some v else evT σ stk L T t := by
 cases d with
 | none => rw [if_neg (by simp)]; rfl
 | some t' =>
   have ht' := hd t' rfl
   simp only [pushed, dstOf]
   cases hs : slot σ t' with
   | some p' =>
     simp only [pushL, putT]
     cases hs2 : slot σ t with
     | some p =>
       rw [evT_slot hs2, evT_slot hs2, PT.get_put]
       by_cases e : t' = t
       ·subst e
        rw [hs] at hs2
        cases hs2
        simp
       ·rw [if_neg (show ¬ p = p' from fun h => e (okS_inj hσ hs (by rw [← h]; exact hs2))), if_neg (by simpa using e)]
     | none =>
       have e : t' ≠ t := fun e => by subst e; rw [hs] at hs2; cases hs2
       rw [evT_stk hs2, evT_stk hs2, if_neg (by simpa using e)]
   | none =>
     simp only [ht', if_true, pushL, putT]
     cases hs2 : slot σ t with
     | some p =>
       have e : t' ≠ t := fun e => by subst e; rw [hs] at hs2; cases hs2
       rw [evT_slot hs2, evT_slot hs2, if_neg (by simpa using e)]
     | none =>
       rw [evT_stk hs2, evT_stk hs2, idx_cons]
       by_cases e : t' = t
       ·subst e; simp; rfl
       ·rw [if_neg e, if_neg (by simpa using e), Option.map_map]
        rfl
inductive OpR (P : Program) (e : Operand → Option AO) (op : Op) (hd : Hd) (lim : Nat) (L : List AV) (T : PT AV) (H : AH) : AV → AH → Prop
 | v {vo : VOp} {v : AV} (h : cmpV P e op = some vo) (hv : ∀ k, vo L T H k = k v) : OpR P e op hd lim L T H v H
 | h {ho : HOp} {v : AV} {H' : AH} (hn : cmpV P e op = none) (h : cmpH P e op = some ho) (hv : ∀ k, ho lim L T H k = k v H') : OpR P e op hd lim L T H v H'
 | c {f : Nat} {args : Array Operand} {ts : Array Nat} {xs : List AO} {v : AV} {H' : AH} (ho : op = .call { callee := .value (.func f), args := args, argTypes := ts }) (hx : opds e args.toList = some xs) (hc : hd.call lim f (evs L T xs) H = .ok (.ret v H')) : OpR P e op hd lim L T H v H'
 | cv {f : Operand} {f' : AO} {args : Array Operand} {ts : Array Nat} {xs : List AO} {g : Nat} {x y : List AV} {v : AV} {H' : AH} (ho : op = .call { callee := .value f, args := args, argTypes := ts }) (hf : e f = some f') (hx : opds e args.toList = some xs) (he : f'.ev L T = .fn g x y)
    (hc : hd.call lim g (x ++ (evs L T xs ++ y)) H = .ok (.ret v H')) : OpR P e op hd lim L T H v H'
 | cy {f : Operand} {f' : AO} {args : Array Operand} {ts : Array Nat} {xs : List AO} {l : Pos} {v : AV} {H' : AH} (ho : op = .call { callee := .value f, args := args, argTypes := ts }) (hf : e f = some f') (hx : opds e args.toList = some xs) (he : f'.ev L T = .yld l)
    (hc : hd.round lim l (evs L T xs) H = .ok (.ret v H')) : OpR P e op hd lim L T H v H'
inductive GdR (e : Operand → Option AO) (ops : Array Oper) (o : Oper) (L : List AV) (T : PT AV) : Bool → Prop
 | none (h : o.guard = none) : GdR e ops o L T true
 | some {j : Nat} {w : Bool} {t : Nat} {g : AO} (h : o.guard = some (j, w)) (ht : (ops[j]?).bind (·.dst) = some t) (hg : e (.tmp t) = some g) : GdR e ops o L T (boolOf (g.ev L T) == some w)
inductive Cl (P : Program) (e : Operand → Option AO) (ops : Array Oper) (un : List Nat) (i : Nat) (op : Op) (L : List AV) (T : PT AV) (H : AH) (lim : Nat) (lg : Log) : Nat → Log → Prop
 | pure {vo : VOp} (h : cmpV P e op = some vo) (hp : isPure P op = true) : Cl P e ops un i op L T H lim lg lim lg
 | rd {vo : VOp} (h : cmpV P e op = some vo) (hu : un.all (atOp ops (isLight P)) = true) : Cl P e ops un i op L T H lim lg lim lg
 | ld {vo : VOp} {t : Nat} {a : Operand} {x : AO} {b : Pos} {off : Nat} (h : cmpV P e op = some vo) (ho : op = .load t a) (hx : e a = some x) (hb : x.ev L T = .ptr b off) (hc : clash un false b lg = false) : Cl P e ops un i op L T H lim lg lim (.cons i false b lg)
 | mk (h : cmpV P e op = none) (hl : loud P op = true) (hm : isMk op = true) (hu : un.all (atOp ops fun o => !isSt o) = true) (hlim : lim ≤ H.cnt) : Cl P e ops un i op L T H lim lg H.cnt lg
 | hv (h : cmpV P e op = none) (hl : loud P op = true) (hm : isMk op = false) (hu : un = []) : Cl P e ops un i op L T H lim lg lim lg
 | st {t : Nat} {a v : Operand} {x : AO} {b : Pos} {off : Nat} (h : cmpV P e op = none) (ho : op = .store t a v) (hx : e a = some x) (hb : x.ev L T = .ptr b off) (hu : un.all (atOp ops isLd) = true) (hc : clash un true b lg = false) (hs : soloB b H = true) :
    Cl P e ops un i op L T H lim lg lim (.cons i true b lg)
 | ap {z : Operand} {x : AO} (h : cmpV P e op = none) (hl : loud P op = true) (ho : apX op = some z) (hx : e z = some x) (hu : un.all (atOp ops isLd) = true) (hc : clashAll un (apv H (x.ev L T)) lg = false) : Cl P e ops un i op L T H lim lg lim (logAll i (apv H (x.ev L T)) lg)
 | qt (h : cmpV P e op = none) (hl : loud P op = true) (hm : isMk op = false) (hst : isSt op = false) (hu : un.all (atOp ops fun o => isLd o || isMk o) = true) (hlim : lim ≤ H.cnt) : Cl P e ops un i op L T H lim lg H.cnt lg
def TrS (P : Program) (e : Operand → Option AO) (ops : Array Oper) (un : List Nat) (hd : Hd) (lim : Nat) (i : Nat) (o : Oper) (L : List AV) (T : PT AV) (H : AH) (lg : Log) (v : AV) (H' : AH) (lg' : Log) : Prop :=
 (GdR e ops o L T false ∧ v = undf ∧ H' = H ∧ lg' = lg) ∨ (GdR e ops o L T true ∧ ∃ lim', OpR P e o.op hd lim' L T H v H' ∧ Cl P e ops un i o.op L T H lim lg lim' lg')
section
variable {P : Program} {e : Operand → Option AO} {ops : Array Oper} {un : List Nat}
theorem iV_dec {op : Op} {d : Dst} {vo : VOp} {k : K} {E : Env} {L : List AV} {T : PT AV} {H : AH} {out : Out} (hv : cmpV P e op = some vo) (h : iV d vo k E L T H = .ok out) :
 ∃ v, (∀ k', vo L T H k' = k' v) ∧ k E (pushL d v L) (putT d v T) H = .ok out := by
 have h : vo L T H (fun v => putD d v L T (fun L' T' => k E L' T' H)) = .ok out := h
 rcases cmpV_par hv L T H with ⟨v, hv'⟩ | ⟨e, he⟩
 ·have hv2 : ∀ k', vo L T H k' = k' v := fun k' => congrFun hv' k'
  rw [hv2, putD_eq] at h
  exact ⟨v, hv2, h⟩
 ·have he2 : ∀ k', vo L T H k' = .er e := he
  rw [he2] at h; cases h
theorem cmpHv_dec {op : Op} {d : Dst} {num : Nat} {k : K} {E : Env} {L : List AV} {T : PT AV} {H : AH} {T' : PT AV} {D' : List ADf} {Hf : AH} (hn : cmpV P e op = none) (h : cmpHv P e d num op k E L T H = .ok (.mk .nrm T' D' Hf)) :
 ∃ v H', OpR P e op E.hd E.lim L T H v H' ∧ k E (pushL d v L) (putT d v T) H' = .ok (.mk .nrm T' D' Hf) := by
 obtain ⟨i, hi⟩ : ∃ i, cmpHv P e d num op = i := ⟨_, rfl⟩
 rw [hi] at h
 unfold cmpHv at hi
 split at hi
 ·rename_i ho hho
  subst hi
  have h : ho E.lim L T H (fun v H' => putD d v L T (fun L' T' => k E L' T' H')) = .ok _ := h
  rcases cmpH_par hho E.lim L T H with ⟨v, H', hv'⟩ | ⟨e, he⟩
  ·have hv2 : ∀ k', ho E.lim L T H k' = k' v H' := fun k' => congrFun hv' k'
   rw [hv2, putD_eq] at h
   exact ⟨v, H', .h hn hho hv2, h⟩
  ·have he2 : ∀ k', ho E.lim L T H k' = .er e := he
   rw [he2] at h; cases h
 ·split at hi
  ·rename_i f args ts
   split at hi
   ·rename_i xs hx
    subst hi
    obtain ⟨c, hc, hr⟩ := co_ok h
    rcases hr with ⟨v, H', rfl, hr⟩ | ⟨v, H', rfl, hr⟩
    ·rw [putD_eq] at hr
     exact ⟨v, H', .c rfl hx hc, hr⟩
    ·cases hr
   ·subst hi; exact absurd h iBad_no
  ·rename_i f args ts _
   split at hi
   ·rename_i f' xs hf hx
    subst hi
    rcases AV.unFn_ok h with ⟨g, x, y, hv, h⟩ | ⟨l, hv, h⟩ | h
    ·obtain ⟨c, hc, hr⟩ := co_ok h
     rcases hr with ⟨v, H', rfl, hr⟩ | ⟨v, H', rfl, hr⟩
     ·rw [putD_eq] at hr
      exact ⟨v, H', .cv rfl hf hx hv hc, hr⟩
     ·cases hr
    ·obtain ⟨c, hc, hr⟩ := co_ok h
     rcases hr with ⟨v, H', rfl, hr⟩ | ⟨v, H', rfl, hr⟩
     ·rw [putD_eq] at hr
      exact ⟨v, H', .cy rfl hf hx hv hc, hr⟩
     ·cases hr
    ·cases h
   ·subst hi; exact absurd h iBad_no
  ·subst hi; exact absurd h iBad_no
def envL (E : Env) (lg : Log) : Env := ⟨E.hd, E.lim, lg, E.D⟩
theorem iX_dec {num : Nat} {st : Bool} {x : AO} {i : K → K} {k : K} {E : Env} {L : List AV} {T : PT AV} {H : AH} {out : Out} (h : iX num st un x i k E L T H = .ok out) :
 ∃ b off, x.ev L T = .ptr b off ∧ clash un st b E.lg = false ∧ (st = true → soloB b H = true) ∧ i (fun E' L' T' H' => k ⟨E.hd, E.lim, .cons num st b E'.lg, E.D⟩ L' T' H') E L T H = .ok out := by
 unfold iX at h
 rcases AV.unPtr_ok h with ⟨b, off, hb, h⟩ | ⟨_, h⟩
 ·rcases bool_ok h with ⟨hc, h⟩ | ⟨_, h⟩
  ·rw [band_eq, bnot_eq] at hc
   simp only [Bool.and_eq_true, Bool.not_eq_true'] at hc
   refine ⟨b, off, hb, hc.1, fun hs => ?_, h⟩
   subst hs
   exact hc.2
  ·cases h
 ·cases h
theorem cmpDI_dec {op : Op} {d : Dst} {i : Nat} {k : K} {E : Env} {L : List AV} {T : PT AV} {H : AH} {T' : PT AV} {D' : List ADf} {Hf : AH} (h : cmpDI P e d ops un i op k E L T H = .ok (.mk .nrm T' D' Hf)) :
 ∃ lim' v H' lg', OpR P e op E.hd lim' L T H v H' ∧ Cl P e ops un i op L T H E.lim E.lg lim' lg' ∧ k (envL E lg') (pushL d v L) (putT d v T) H' = .ok (.mk .nrm T' D' Hf) := by
 obtain ⟨c, hc⟩ : ∃ c, cmpDI P e d ops un i op = c := ⟨_, rfl⟩
 rw [hc] at h
 unfold cmpDI at hc
 split at hc
 ·rename_i vo hvo
  split at hc
  ·rename_i hp
   subst hc
   obtain ⟨v, h1, h2⟩ := iV_dec hvo h
   exact ⟨_, v, H, _, .v hvo h1, .pure hvo hp, h2⟩
  ·split at hc
   ·rename_i hun
    subst hc
    obtain ⟨v, h1, h2⟩ := iV_dec hvo h
    exact ⟨_, v, H, _, .v hvo h1, .rd hvo (by rw [List.isEmpty_iff.1 hun]; rfl), h2⟩
   ·split at hc
    ·split at hc
     ·rename_i x hx
      subst hc
      obtain ⟨b, off, hb, hcl, _, h⟩ := iX_dec h
      obtain ⟨v, h1, h2⟩ := iV_dec hvo h
      exact ⟨_, v, H, _, .v hvo h1, .ld hvo rfl hx hb hcl, h2⟩
     ·subst hc; exact absurd h iBad_no
    ·split at hc
     ·rename_i hun
      subst hc
      obtain ⟨v, h1, h2⟩ := iV_dec hvo h
      exact ⟨_, v, H, _, .v hvo h1, .rd hvo hun, h2⟩
     ·subst hc; exact absurd h iBad_no
 ·rename_i hvn
  have quiet : iQ (cmpHv P e d i op) k E L T H = .ok (.mk .nrm T' D' Hf) → E.lim ≤ H.cnt ∧ ∃ v H', OpR P e op E.hd H.cnt L T H v H' ∧ k (envL E E.lg) (pushL d v L) (putT d v T) H' = .ok (.mk .nrm T' D' Hf) := fun h => by
   unfold iQ at h
   rcases bool_ok h with ⟨hl, h⟩ | ⟨_, h⟩
   ·obtain ⟨v, H', h1, h2⟩ := cmpHv_dec hvn h
    exact ⟨ble_of hl, v, H', h1, h2⟩
   ·cases h
  split at hc
  ·subst hc; exact absurd h iBad_no
  ·rename_i hl
   have hl : loud P op = true := by simpa using hl
   split at hc
   ·rename_i hm
    split at hc
    ·rename_i hu
     subst hc
     obtain ⟨hlim, v, H', h1, h2⟩ := quiet h
     exact ⟨_, v, H', _, h1, .mk hvn hl hm hu hlim, h2⟩
    ·subst hc; exact absurd h iBad_no
   ·rename_i hm
    have hm : isMk op = false := by simpa using hm
    split at hc
    ·rename_i hun
     subst hc
     obtain ⟨v, H', h1, h2⟩ := cmpHv_dec hvn h
     exact ⟨_, v, H', _, h1, .hv hvn hl hm (List.isEmpty_iff.1 hun), h2⟩
    ·split at hc
     ·split at hc
      ·rename_i x hx
       split at hc
       ·rename_i hu
        subst hc
        obtain ⟨b, off, hb, hcl, hs, h⟩ := iX_dec h
        obtain ⟨v, H', h1, h2⟩ := cmpHv_dec hvn h
        exact ⟨_, v, H', _, h1, .st hvn rfl hx hb hu hcl (hs rfl), h2⟩
       ·subst hc; exact absurd h iBad_no
      ·subst hc; exact absurd h iBad_no
     ·rename_i hns
      split at hc
      ·rename_i z hz hu
       split at hc
       ·rename_i x hx
        subst hc
        unfold iA at h
        rcases bool_ok h with ⟨hcl, h⟩ | ⟨_, h⟩
        ·rw [bnot_eq] at hcl
         obtain ⟨v, H', h1, h2⟩ := cmpHv_dec hvn h
         exact ⟨_, v, H', _, h1, .ap hvn hl hz hx hu (by simpa using hcl), h2⟩
        ·cases h
       ·subst hc; exact absurd h iBad_no
      ·split at hc
       ·rename_i hu
        subst hc
        obtain ⟨hlim, v, H', h1, h2⟩ := quiet h
        refine ⟨_, v, H', _, h1, .qt hvn hl hm ?_ hu hlim, h2⟩
        cases op <;> first | rfl | exact absurd rfl (hns _ _ _)
       ·subst hc; exact absurd h iBad_no
theorem cmpGD_dec {o : Oper} {d : Dst} {i : Nat} {k : K} {E : Env} {L : List AV} {T : PT AV} {H : AH} {T' : PT AV} {D' : List ADf} {Hf : AH} (h : cmpG e d ops o i (cmpDI P e d ops un i o.op) k E L T H = .ok (.mk .nrm T' D' Hf)) :
 ∃ v H' lg', TrS P e ops un E.hd E.lim i o L T H E.lg v H' lg' ∧ k (envL E lg') (pushL d v L) (putT d v T) H' = .ok (.mk .nrm T' D' Hf) := by
 obtain ⟨c, hc⟩ : ∃ c, cmpG e d ops o i (cmpDI P e d ops un i o.op) = c := ⟨_, rfl⟩
 rw [hc] at h
 unfold cmpG at hc
 split at hc
 ·rename_i hg
  subst hc
  obtain ⟨lim', v, H', lg', h1, h2, h3⟩ := cmpDI_dec h
  exact ⟨v, H', lg', .inr ⟨.none hg, lim', h1, h2⟩, h3⟩
 ·rename_i j w hg
  split at hc
  ·rename_i t ht
   split at hc
   ·rename_i g hgo
    subst hc
    have gr := GdR.some (L := L) (T := T) hg ht hgo
    have skip : ∀ b, (boolOf (g.ev L T) == some w) = b → b = false → putD d undf L T (fun L' T' => k E L' T' H) = .ok (.mk .nrm T' D' Hf) → ∃ v H' lg', TrS P e ops un E.hd E.lim i o L T H E.lg v H' lg' ∧ k (envL E lg') (pushL d v L) (putT d v T) H' = .ok (.mk .nrm T' D' Hf) := fun b hb hf hk => by
     rw [hb, hf] at gr
     rw [putD_eq] at hk
     exact ⟨undf, H, E.lg, .inl ⟨gr, rfl, rfl, rfl⟩, hk⟩
    rcases AV.unBool_ok h with ⟨b, hb, hk⟩ | ⟨hb, hk⟩
    ·rcases bool_ok hk with ⟨hw, hk⟩ | ⟨hw, hk⟩
     ·have : (boolOf (g.ev L T) == some w) = true := by
       rw [hb]
       cases w <;> cases b <;> first | rfl | (cases hw; done)
      rw [this] at gr
      obtain ⟨lim', v, H', lg', h1, h2, h3⟩ := cmpDI_dec hk
      exact ⟨v, H', lg', .inr ⟨gr, lim', h1, h2⟩, h3⟩
     ·refine skip _ rfl ?_ hk
      rw [hb]
      cases w <;> cases b <;> first | rfl | (cases hw; done)
    ·refine skip _ rfl ?_ hk
     have : boolOf (g.ev L T) = none := by
      cases hv : g.ev L T <;> first | rfl | exact absurd hv (hb _)
     rw [this]
     rfl
   ·subst hc; exact absurd h iBad_no
  ·subst hc; exact absurd h iBad_no
end
end Av
end
section
set_option linter.unusedSimpArgs false
set_option linter.unusedVariables false
namespace Av
open Go Go.RowKit
def stkAt (σ : Sl) (n : Nat) (ops : Array Oper) : Nat → List Nat
 | 0 => []
 | i + 1 => match ops[i]? with
   | some o => pushed σ n (stkAt σ n ops i) o.dst
   | none => stkAt σ n ops i
def eAt (σ : Sl) (n : Nat) (ops : Array Oper) (i : Nat) : Operand → Option AO := opdD σ (stkAt σ n ops i) ops (befores ops.toList []) i
def unAt (P : Program) (ops : Array Oper) (i : Nat) : List Nat := unOf P ops (befores ops.toList []) i
structure Trc (P : Program) (σ : Sl) (n : Nat) (ops : Array Oper) (hd : Hd) (lim : Nat) (s : Nat) (L : Nat → List AV) (T : Nat → PT AV) (H : Nat → AH) (lg : Nat → Log) (v : Nat → AV) : Prop where
 step : ∀ i o, s ≤ i → ops[i]? = some o → TrS P (eAt σ n ops i) ops (unAt P ops i) hd lim i o (L i) (T i) (H i) (lg i) (v i) (H (i + 1)) (lg (i + 1))
 nL : ∀ i o, s ≤ i → ops[i]? = some o → L (i + 1) = pushL (dstOf σ n o.dst) (v i) (L i)
 nT : ∀ i o, s ≤ i → ops[i]? = some o → T (i + 1) = putT (dstOf σ n o.dst) (v i) (T i)
variable {P : Program} {σ : Sl} {n : Nat} {ops : Array Oper}
theorem drop_cons {α : Type} {l : List α} {i : Nat} {a : α} {r : List α} (h : l.drop i = a :: r) : l[i]? = some a ∧ l.drop (i + 1) = r := by
 constructor
 ·have := congrArg (fun l => l[0]?) h
  simpa using this
 ·have := congrArg (fun l => l.drop 1) h
  simpa using this
theorem cmpD_dec {T' : PT AV} {D' : List ADf} {Hf : AH} : ∀ (os : List Oper) (i : Nat) {E : Env} {L : List AV} {T : PT AV} {H : AH}, ops.toList.drop i = os → i ≤ ops.size → cmpD P σ n ops (befores ops.toList []) os (stkAt σ n ops i) i E L T H = .ok (.mk .nrm T' D' Hf) →
 ∃ (fL : Nat → List AV) (fT : Nat → PT AV) (fH : Nat → AH) (flg : Nat → Log) (fv : Nat → AV), Trc P σ n ops E.hd E.lim i fL fT fH flg fv ∧ fL i = L ∧ fT i = T ∧ fH i = H ∧ flg i = E.lg ∧ fT ops.size = T' ∧ fH ops.size = Hf ∧ D' = E.D
 | [], i, E, L, T, H, hos, hi, h => by
   have hs : ops.size ≤ i := by have := List.drop_eq_nil_iff.1 hos; simpa using this
   have hi : i = ops.size := by omega
   have h2 : (.ok (.mk .nrm T E.D H) : R Out) = .ok (.mk .nrm T' D' Hf) := h
   injection h2 with h2
   injection h2 with _ hT hD hH
   refine ⟨fun _ => L, fun _ => T, fun _ => H, fun _ => E.lg, fun _ => undf, ⟨fun j o hj ho => ?_, fun j o hj ho => ?_, fun j o hj ho => ?_⟩, rfl, rfl, rfl, rfl, hT, hH, hD.symm⟩ <;>
    (have := (Array.getElem?_eq_some_iff.1 ho).1; omega)
 | o :: os, i, E, L, T, H, hos, hi, h => by
   obtain ⟨ho, hos'⟩ := drop_cons hos
   have ho : ops[i]? = some o := by simpa using ho
   have hlt := (Array.getElem?_eq_some_iff.1 ho).1
   obtain ⟨v, H', lg', hst, hk⟩ := cmpGD_dec h
   have hstk : stkAt σ n ops (i + 1) = pushed σ n (stkAt σ n ops i) o.dst := by simp only [stkAt, ho]
   rw [← hstk] at hk
   obtain ⟨fL, fT, fH, flg, fv, ht, e1, e2, e3, e4, e5, e6, e7⟩ := cmpD_dec os (i + 1) (E := envL E lg') hos' (by omega) hk
   refine ⟨fun j => if j = i then L else fL j, fun j => if j = i then T else fT j, fun j => if j = i then H else fH j, fun j => if j = i then E.lg else flg j, fun j => if j = i then v else fv j, ⟨fun j o' hj ho' => ?_, fun j o' hj ho' => ?_, fun j o' hj ho' => ?_⟩,
    if_pos rfl, if_pos rfl, if_pos rfl, if_pos rfl, ?_, ?_, e7⟩
   ·by_cases e : j = i
    ·subst e
     rw [ho] at ho'
     cases ho'
     have n1 : ¬ j + 1 = j := by omega
     simp only [if_true, n1, if_false, e3]
     rw [show flg (j + 1) = lg' from e4]
     exact hst
    ·have n1 : ¬ j + 1 = i := by omega
     simp only [e, n1, if_false]
     exact ht.step j o' (by omega) ho'
   ·by_cases e : j = i
    ·subst e
     rw [ho] at ho'
     cases ho'
     have n1 : ¬ j + 1 = j := by omega
     simp only [if_true, n1, if_false, e1]
    ·have n1 : ¬ j + 1 = i := by omega
     simp only [e, n1, if_false]
     exact ht.nL j o' (by omega) ho'
   ·by_cases e : j = i
    ·subst e
     rw [ho] at ho'
     cases ho'
     have n1 : ¬ j + 1 = j := by omega
     simp only [if_true, n1, if_false, e2]
    ·have n1 : ¬ j + 1 = i := by omega
     simp only [e, n1, if_false]
     exact ht.nT j o' (by omega) ho'
   ·have n1 : ¬ ops.size = i := by omega
    simp only [n1, if_false]; exact e5
   ·have n1 : ¬ ops.size = i := by omega
    simp only [n1, if_false]; exact e6
/-! ### what comes before what -/
def bsAt (ops : Array Oper) (i : Nat) : Nat := (befores ops.toList []).getD i 0
def step1 (acc : List Nat) (o : Oper) : Nat := o.after.toList.foldl (fun s e => if Region.binds .any e then s ||| 2 ^ e.on ||| acc.getD e.on 0 else s) 0
theorem befores_pre : ∀ (os : List Oper) (acc : List Nat) (i : Nat), i < acc.length → (befores os acc).getD i 0 = acc.getD i 0
 | [], acc, i, h => rfl
 | o :: os, acc, i, h => by
   show (befores os (acc ++ [step1 acc o])).getD i 0 = _
   rw [befores_pre os _ i (by simp; omega)]
   simp only [List.getD_eq_getElem?_getD]
   rw [List.getElem?_append_left h]
theorem befores_at : ∀ (os : List Oper) (acc : List Nat) (i : Nat) (o : Oper), os[i]? = some o → ∃ acc', acc'.length = acc.length + i ∧ (∀ j, j < acc.length + i → acc'.getD j 0 = (befores os acc).getD j 0) ∧ (befores os acc).getD (acc.length + i) 0 = step1 acc' o
 | [], acc, i, o, h => by cases h
 | o' :: os, acc, 0, o, h => by
   have h : o' = o := by simpa using h
   subst h
   refine ⟨acc, rfl, fun j hj => (befores_pre (o' :: os) acc j hj).symm, ?_⟩
   show (befores os (acc ++ [step1 acc o'])).getD acc.length 0 = _
   rw [befores_pre os _ _ (by simp)]
   simp [List.getD_eq_getElem?_getD]
 | o' :: os, acc, i + 1, o, h => by
   have h : os[i]? = some o := by simpa using h
   obtain ⟨acc', h1, h2, h3⟩ := befores_at os (acc ++ [step1 acc o']) i o h
   simp only [List.length_append, List.length_singleton] at h1 h2 h3
   have e : acc.length + 1 + i = acc.length + (i + 1) := by omega
   rw [e] at h1 h2 h3
   exact ⟨acc', h1, h2, h3⟩
theorem fold_bit (acc : List Nat) (j : Nat) : ∀ (es : List Edge) (s : Nat), (es.foldl (fun s e => if Region.binds .any e then s ||| 2 ^ e.on ||| acc.getD e.on 0 else s) s).testBit j = true ↔ s.testBit j = true ∨ ∃ e ∈ es, Region.binds .any e = true ∧ (e.on = j ∨ (acc.getD e.on 0).testBit j = true)
 | [], s => by simp
 | e :: es, s => by
   rw [List.foldl_cons, fold_bit acc j es]
   by_cases hb : Region.binds .any e = true
   ·rw [if_pos hb]
    simp only [Nat.testBit_or, Bool.or_eq_true, Nat.testBit_two_pow, decide_eq_true_eq, List.mem_cons]
    constructor
    ·rintro (((h | h) | h) | ⟨e', h1, h2⟩)
     ·exact .inl h
     ·exact .inr ⟨e, .inl rfl, hb, .inl h⟩
     ·exact .inr ⟨e, .inl rfl, hb, .inr h⟩
     ·exact .inr ⟨e', .inr h1, h2⟩
    ·rintro (h | ⟨e', rfl | h1, h2, h3 | h3⟩)
     ·exact .inl (.inl (.inl h))
     ·exact .inl (.inl (.inr h3))
     ·exact .inl (.inr h3)
     ·exact .inr ⟨e', h1, h2, .inl h3⟩
     ·exact .inr ⟨e', h1, h2, .inr h3⟩
   ·rw [if_neg hb]
    simp only [List.mem_cons]
    constructor
    ·rintro (h | ⟨e', h1, h2⟩)
     ·exact .inl h
     ·exact .inr ⟨e', .inr h1, h2⟩
    ·rintro (h | ⟨e', rfl | h1, h2, h3⟩)
     ·exact .inl h
     ·exact absurd h2 hb
     ·exact .inr ⟨e', h1, h2, h3⟩
structure DrW (n : Nat) (ops : Array Oper) : Prop where
 early : ∀ (i : Nat) (o : Oper), ops[i]? = some o → ∀ e ∈ o.after, Region.binds .any e = true → e.on < i
 dst : ∀ (i : Nat) (o : Oper) (d : Nat), ops[i]? = some o → o.dst = some d → d < n
 alone : ∀ (i j : Nat) (o o' : Oper) (d : Nat), ops[i]? = some o → ops[j]? = some o' → o.dst = some d → o'.dst = some d → j = i
theorem drawOK_w (h : drawOK n ops = true) : DrW n ops := by
 refine ⟨fun i o ho e he hb => ?_, fun i o d ho hd => ?_, fun i j o o' d ho ho' hd hd' => ?_⟩
 ·have hlt := (Array.getElem?_eq_some_iff.1 ho).1
  have this := List.all_eq_true.1 h i (List.mem_range.2 hlt)
  rw [ho] at this
  simp only [Bool.and_eq_true] at this
  have := Array.all_eq_true'.1 this.1 e he
  rw [hb] at this
  simpa using this
 ·have hlt := (Array.getElem?_eq_some_iff.1 ho).1
  have this := List.all_eq_true.1 h i (List.mem_range.2 hlt)
  rw [ho] at this
  simp only [Bool.and_eq_true] at this
  have this := this.2
  rw [hd] at this
  simp only [Bool.and_eq_true, decide_eq_true_eq] at this
  exact this.1
 ·have hlt := (Array.getElem?_eq_some_iff.1 ho).1
  have this := List.all_eq_true.1 h i (List.mem_range.2 hlt)
  rw [ho] at this
  simp only [Bool.and_eq_true] at this
  have this := this.2
  rw [hd] at this
  simp only [Bool.and_eq_true, decide_eq_true_eq] at this
  have hlt' := (Array.getElem?_eq_some_iff.1 ho').1
  have := List.all_eq_true.1 this.2 j (List.mem_range.2 hlt')
  rw [ho'] at this
  simpa [hd'] using this
theorem bs_iff {i : Nat} {o : Oper} (h : DrW n ops) (ho : ops[i]? = some o) (j : Nat) : (bsAt ops i).testBit j = true ↔ ∃ e ∈ o.after, Region.binds .any e = true ∧ (e.on = j ∨ (bsAt ops e.on).testBit j = true) := by
 have ho' : ops.toList[i]? = some o := by simpa using ho
 obtain ⟨acc, h1, h2, h3⟩ := befores_at ops.toList [] i o ho'
 simp only [List.length_nil, Nat.zero_add] at h1 h2 h3
 unfold bsAt
 rw [h3]
 unfold step1
 rw [fold_bit acc j]
 simp only [Nat.zero_testBit, Bool.false_eq_true, false_or, Array.mem_toList_iff]
 constructor
 ·rintro ⟨e, he, hb, h4⟩
  refine ⟨e, he, hb, ?_⟩
  rw [← h2 e.on (h.early i o ho e he hb)]
  exact h4
 ·rintro ⟨e, he, hb, h4⟩
  refine ⟨e, he, hb, ?_⟩
  rw [h2 e.on (h.early i o ho e he hb)]
  exact h4
theorem bs_lt (h : DrW n ops) : ∀ (i : Nat) {o : Oper} {j : Nat}, ops[i]? = some o → (bsAt ops i).testBit j = true → j < i := by
 intro i
 induction i using Nat.strongRecOn with
 | _ i ih =>
   intro o j ho hj
   obtain ⟨e, he, hb, h1 | h1⟩ := (bs_iff h ho j).1 hj
   ·subst h1; exact h.early i o ho e he hb
   ·have hlt := h.early i o ho e he hb
    have hs : e.on < ops.size := Nat.lt_trans hlt (Array.getElem?_eq_some_iff.1 ho).1
    exact Nat.lt_trans (ih e.on hlt (Array.getElem?_eq_getElem hs) h1) hlt
end Av
end

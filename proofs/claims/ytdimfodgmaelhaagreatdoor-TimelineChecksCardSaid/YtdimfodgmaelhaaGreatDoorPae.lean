/- An evaluator for the kernel over values whose addresses are names, and that what it tells of a call is so, over any program. -/
import Derived.Test.YtdimfodgmaelhaaGreatDoorPad
import Derived.Test.YtdimfodgmaelhaaGreatDoorPay
set_option linter.all false
section
set_option linter.unusedSimpArgs false
set_option linter.unusedVariables false
namespace Av
open Go Go.RowKit Go.Proofs.Seat9
variable {P : Program} {ri : Nat → Option RInfo} {m m' : M} {N N' : Pos → Prop} {lim B : Nat} {H H' : AH} {w w' w2 : World}
theorem Step.heap (h : Step ri m N lim B H w m' N' H' w') (he : ∀ i : Nat, w2.heap[i]? = w'.heap[i]?) (hz : w2.heap.size = w'.heap.size) (h1 : w2.os = w'.os) (h2 : w2.tape = w'.tape) (h3 : w2.output = w'.output) : Step ri m N lim B H w m' N' H' w2 :=
 ⟨h.rel.world (fun _ _ _ _ => he _) (by rw [hz]; exact h.rel.base), h.ag, h.sub, h.new, ⟨h1.trans h.below.os, h2.trans h.below.tape, h3.trans h.below.output, by rw [hz]; exact h.below.size, fun k hk => (he k).trans (h.below.block k hk)⟩, h.keep, h.nx, h.cnt, h.all, h.ext⟩
theorem encL_inj : ∀ {a b : List Nat}, encL a = encL b → a = b
 | [], [], _ => rfl
 | [], n :: l, h => by
   have h : 0 = 2 ^ n * (2 * encL l + 1) := h
   have : 0 < 2 ^ n := Nat.two_pow_pos n
   have := Nat.mul_pos this (show 0 < 2 * encL l + 1 by omega)
   omega
 | n :: l, [], h => by
   have h : 2 ^ n * (2 * encL l + 1) = 0 := h
   have : 0 < 2 ^ n := Nat.two_pow_pos n
   have := Nat.mul_pos this (show 0 < 2 * encL l + 1 by omega)
   omega
 | n :: l, k :: r, h => by
   have h : 2 ^ n * (2 * encL l + 1) = 2 ^ k * (2 * encL r + 1) := h
   have key : ∀ {n k x y : Nat}, n < k → 2 ^ n * (2 * x + 1) = 2 ^ k * (2 * y + 1) → False := fun {n k x y} hlt h => by
    obtain ⟨d, rfl⟩ := Nat.exists_eq_add_of_lt hlt
    rw [show n + d + 1 = n + (d + 1) from rfl, Nat.pow_add, Nat.mul_assoc] at h
    have := Nat.eq_of_mul_eq_mul_left (Nat.two_pow_pos n) h
    rw [Nat.pow_succ, Nat.mul_comm (2 ^ d) 2, Nat.mul_assoc] at this
    omega
   rcases Nat.lt_trichotomy n k with hlt | rfl | hlt
   ·exact (key hlt h).elim
   ·have h1 := Nat.eq_of_mul_eq_mul_left (Nat.two_pow_pos n) h
    rw [encL_inj (show encL l = encL r by omega)]
   ·exact (key hlt h.symm).elim
theorem next_any (hR : Rel ri m N N lim B H w) {r b : Pos} {clock birth birth' : Nat} {sn : List Nat} {es : List ME} (hN : N r) (ho : PT.get r H.bl = some (.iter (some b) clock (encL sn) birth)) (hl : lim ≤ birth) (hb : PT.get b H.bl = some (.map es clock birth')) (hc : ∀ e ∈ es, e.born < clock) (ty : TypeId) :
 (∃ w', (Instr.next (conc m (.ptr r 0)) false ty).run P w = .ok (conc m (.tup [.bool false])) w' ∧ (∀ e ∈ es, e.born ∈ sn) ∧ Step ri m N lim B H w m N H w') ∨
 (∃ e ∈ es, e.born ∉ sn ∧ ∃ w', (Instr.next (conc m (.ptr r 0)) false ty).run P w = .ok (conc m (.tup [.bool true, e.key, e.val])) w' ∧ okV m N e.key ∧ okV m N e.val ∧
   Step ri m N lim B H w m N (H.setB r (some (.iter (some b) clock (encL (sn ++ [e.born])) birth))) w') := by
 obtain ⟨i1, ⟨s0, i20, i2⟩, i3⟩ := hR.obj r _ hN ho
 have := encL_inj i20
 subst this
 have hbN := i3 b rfl
 obtain ⟨m1, m2⟩ := hR.obj b _ hbN hb
 have hp : conc m (.ptr r 0) = .pointer (some ⟨m.ad r, 0, none⟩) := by simp only [conc, i1, Nat.add_zero]
 rw [hp]
 have hlt : ∀ e ∈ es.map (meC m), e.born < clock := fun e he => by
  obtain ⟨x, hx, rfl⟩ := List.mem_map.1 he
  exact hc x hx
 rcases run_next_del (P := P) m1 hlt i2 ty with ⟨w', h1, h2, h3, h4⟩ | ⟨e, w', h1, h2, h3, h4, h5, h6, h7⟩
 ·refine .inl ⟨w', by rw [h1]; rfl, fun e he => ?_, (Step.refl hR).heap h3 ?_ h4.os h4.tape h4.output⟩
  ·have := h2 _ (List.mem_map_of_mem he)
   simpa [meC] using this
  ·apply Nat.le_antisymm
   ·apply Nat.le_of_not_lt
    intro hgt
    have e1 := h3 w.heap.size
    rw [Array.getElem?_eq_none (Nat.le_refl _), Array.getElem?_eq_getElem hgt] at e1
    cases e1
   ·exact h4.size
 ·obtain ⟨x, hx, rfl⟩ := List.mem_map.1 h1
  have hx2 : x.born ∉ s0 := by
   intro hh
   exact h2 (by simpa [meC] using hh)
  refine .inr ⟨x, hx, hx2, w', by rw [h3]; rfl, (m2 x hx).1, (m2 x hx).2, ?_⟩
  have s := Step.put (o' := .iter (some b) clock (encL (s0 ++ [x.born])) birth) (ob := .mapIter (some (m.ad b)) clock (s0 ++ [x.born]).toArray clock) hR hN ho rfl rfl rfl hl
   ⟨i1, ⟨_, rfl, World.putObj_heap_same (Array.getElem?_eq_some_iff.1 i2).1⟩, fun y hy => i3 y hy⟩
  refine s.heap (fun i => ?_) ?_ h5.os h5.tape h5.output
  ·by_cases hi : i = m.ad r
   ·subst hi
    rw [h4, World.putObj_heap_same (Array.getElem?_eq_some_iff.1 i2).1]
    simp [meC]
   ·rw [h7 i hi, World.putObj_heap_other hi]
  ·rw [h6]; simp [World.putObj]
theorem entry_any (hR : Rel ri m N N lim B H w) {r b : Pos} {clock birth birth' : Nat} {sn : List Nat} {es : List ME} {e : ME} (hN : N r) (ho : PT.get r H.bl = some (.iter (some b) clock (encL (sn ++ [e.born])) birth)) (hb : PT.get b H.bl = some (.map es clock birth')) (he : e ∈ es) (hu : ∀ x ∈ es, x.born = e.born → x = e) :
 (Instr.entry (conc m (.ptr r 0))).run P w = .ok (conc m (.tup [e.key, e.val])) w := by
 obtain ⟨i1, ⟨s0, i20, i2⟩, i3⟩ := hR.obj r _ hN ho
 have := encL_inj i20
 subst this
 obtain ⟨m1, m2⟩ := hR.obj b _ (i3 b rfl) hb
 have hp : conc m (.ptr r 0) = .pointer (some ⟨m.ad r, 0, none⟩) := by simp only [conc, i1, Nat.add_zero]
 rw [hp]
 have := run_entry_del (P := P) (seen := sn.toArray) (e := meC m e) m1 (List.mem_map_of_mem he) (fun x hx hxb => by
  obtain ⟨y, hy, rfl⟩ := List.mem_map.1 hx
  rw [hu y hy hxb]) (by rw [i2]; simp [meC])
 rw [this]
 rfl
end Av
end
section
namespace Av
open Go
noncomputable def allB {α : Type} (p : α → Bool) (es : List α) : Bool := List.rec (motive := fun _ => Bool) true (fun e _ ih => band (p e) ih) es
noncomputable def isUn (h : Sh) (es2 : List ME) (q : AV) : Option Bool := findK h q es2 (fun v => v.unBool (fun b => some (bnot b)) none) (some true) none
noncomputable def unT (h : Sh) (es2 : List ME) (q : AV) : Bool := Option.rec (motive := fun _ => Bool) false (fun b => b) (isUn h es2 q)
noncomputable def natOf (v : AV) : Nat := asNat v (fun n => n) 0
noncomputable def plcs (h : Sh) (sz p o : Nat) (es2 : List ME) (es : List ME) : List Nat :=
 List.rec (motive := fun _ => List Nat) [] (fun e _ ih => Bool.rec (motive := fun _ => List Nat) ih (Nat.add o (Nat.add (Nat.mul (natOf e.val) sz) p) :: ih) (unT h es2 e.key)) es
noncomputable def updR (A B : List Nat) (k now : AV) (l : List AV) : Nat → List AV :=
 List.rec (motive := fun _ => Nat → List AV) (fun _ => []) (fun x _ ih j => Bool.rec (motive := fun _ => AV) (Bool.rec (motive := fun _ => AV) x now (memN j B)) k (memN j A) :: ih (Nat.succ j)) l
noncomputable def rest (h : Sh) (es2 : List ME) (es : List ME) : List ME :=
 List.rec (motive := fun _ => List ME) [] (fun e _ ih => Bool.rec (motive := fun _ => List ME) (e :: ih) ih (unT h es2 e.key)) es
noncomputable def bump (n : Nat) (H : AH) : AH := Nat.rec (motive := fun _ => AH → AH) (fun H => H) (fun _ ih H => ih (H.with' fun bl nx cnt fam => ⟨bl, nx.succ, Nat.succ cnt, fam⟩)) n H
noncomputable def eqB (h : Sh) (a b : AV) : Option Bool := eqV h a b some none
noncomputable def isB (b : Bool) (o : Option Bool) : Bool := Option.rec (motive := fun _ => Bool) false (fun c => Bool.rec (motive := fun _ => Bool) (bnot c) c b) o
noncomputable def goodE (h : Sh) (clock len : Nat) (es2 : List ME) (es : List ME) : Bool :=
 List.rec (motive := fun _ => Bool) true (fun e r ih => band (band (Nat.ble (Nat.succ e.born) clock) (band (isB true (eqB h e.key e.key)) (band (Option.rec (motive := fun _ => Bool) false (fun _ => true) (isUn h es2 e.key)) (asNat e.val (fun i => Nat.ble (Nat.succ i) len) false))))
  (band (allB (fun x => band (bnot (Nat.beq e.born x.born)) (band (isB false (eqB h e.key x.key)) (isB false (eqB h x.key e.key)))) r) ih)) es
noncomputable def boxed (T : PT AV) (H : AH) (x : AO) (k : Pos → AV → R Out) : R Out := (x.ev [] T).unPtr (fun b o => Bool.rec (motive := fun _ => R Out) (.er [310]) (H.read1 b 0 (k b)) (Nat.beq o 0)) (.er [311])
noncomputable def known (H : AH) (b : Pos) : Bool := H.cells b (fun _ _ _ _ _ _ => true) false
noncomputable def rngH (h : Sh) (sz p1 p2 : Nat) (H : AH) (es es2 : List ME) (k now : AV) (bo b : Pos) (o : Nat) (clock birth : Nat) (l : List AV) (ty : Nat) (root : Pos) (ab g rb : Nat) : AH :=
 bump (Nat.succ es.length) (((H.kill b root ab (Nat.add ab (llen l))).setB b (some (.cells (updR (plcs h sz p1 o es2 es) (plcs h sz p2 o es2 es) k now l 0) ty root ab g rb))).setB bo (some (.map (rest h es2 es) clock birth)))
noncomputable def rngGo (h : Sh) (sz p1 p2 lim : Nat) (T : PT AV) (D : List ADf) (H : AH) (b1 b2 b3 b4 b5 bo bs : Pos) (k now : Int) (es es2 : List ME) (clock birth : Nat) (b : Pos) (o len : Nat) : R Out :=
 H.cells b (fun l ty root ab g rb => Bool.rec (motive := fun _ => R Out) (.er [314]) (.ok (.mk .nrm T D (rngH h sz p1 p2 H es es2 (.int k) (.int now) bo b o clock birth l ty root ab g rb)))
  (band (band (Nat.ble lim birth) (band (Nat.ble lim rb) (band (Nat.ble (Nat.add o (Nat.mul len sz)) (llen l)) (band (goodE h clock len es2 es) (bnot (bs.beq bo))))))
    (band (band (bnot (b.beq b1)) (band (bnot (b.beq b2)) (band (bnot (b.beq b3)) (band (bnot (b.beq b4)) (bnot (b.beq b5))))))
      (allB (known (H.kill b root ab (Nat.add ab (llen l)))) [b1, b2, b3, b4, b5])))) (.er [315])
noncomputable def cRngD (h : Sh) (sz p1 p2 : Nat) (xo xs xr xk xn : AO) : C := fun _ lim T D H =>
 boxed T H xo fun b1 vo => boxed T H xs fun b2 vs => boxed T H xr fun b3 vr => boxed T H xk fun b4 vk => boxed T H xn fun b5 vn =>
  vo.unMap (.er [312]) (fun bo => vs.unMap (.er [313]) (fun bs => vk.unInt (fun k => vn.unInt (fun now =>
   H.mapOf bo (fun es clock birth => H.mapOf bs (fun es2 _ _ =>
    vr.unSl (.er [319]) (fun b o len _ => rngGo h sz p1 p2 lim T D H b1 b2 b3 b4 b5 bo bs k now es es2 clock birth b o len)
     (fun b o len _ => rngGo h sz p1 p2 lim T D H b1 b2 b3 b4 b5 bo bs k now es es2 clock birth b o len) (.er [316])) (.er [317])) (.er [318])) (.er [320])) (.er [321])) (.er [322])) (.er [323])
end Av
end
section
set_option linter.unusedSimpArgs false
set_option linter.unusedVariables false
namespace Av
open Go Go.RowKit
variable {P : Program} {ri : Nat → Option RInfo} {m m' : M} {N N' : Pos → Prop} {lim B : Nat} {H H1 H2 : AH} {w w' : World} {ops : Array Oper} {rest : List Oper} {o : Oper} {a : Act} {Q : Exit → Act → World → Prop} {e : Operand → Option AO} {L : List AV} {T : PT AV} {v : AV}
theorem Step.less (s : Step ri m N lim B H w m' N' H1 w') (e1 : H2.nx = H1.nx) (e2 : H2.cnt = H1.cnt) (e3 : H2.fam = H1.fam) (hs : ∀ x o, PT.get x H2.bl = some o → PT.get x H1.bl = some o) (hk : Keep lim H H2) : Step ri m N lim B H w m' N' H2 w' :=
 ⟨s.rel.less e1 e2 e3 hs, s.ag, s.sub, s.new, s.below, hk, by rw [e1]; exact s.nx, by rw [e2]; exact s.cnt, fun x h1 h2 => s.all x h1 (by rw [← e1]; exact h2), ⟨fun b o' hb => s.ext.back b o' (hs b o' hb), fun r ids' hr => s.ext.fams r ids' (by rw [← e3]; exact hr)⟩⟩
theorem wpl_v {vo : VOp} (hg : o.guard = none) (hv : VSnd P e o.op vo) (hR : Rel ri m N N lim B H w) (hgd : Good e a.eval m N L T) (hk : ∀ k, vo L T H k = k v) (next : okV m N v → wpList P ops Q rest (a.put o.dst (conc m v)) w) : wpList P ops Q (o :: rest) a w := by
 refine wpList_plain hg fun K hK => ?_
 obtain ⟨v', h1, h2, h3⟩ := hv ri m N lim B H w a.eval L T hR hgd (fun v => .ok (.mk (.pan v) .e [] H)) _ (hk _)
 cases h1
 unfold Oper.wp
 rw [h3 o rfl]
 exact hK _ _ (next h2)
theorem wpl_h {ho : HOp} (hg : o.guard = none) (hv : HSnd P e o.op ho) (hR : Rel ri m N N lim B H w) (hgd : Good e a.eval m N L T) (hk : ∀ k, ho lim L T H k = k v H1)
 (next : ∀ m' N' w', Step ri m N lim B H w m' N' H1 w' → okV m' N' v → wpList P ops Q rest (a.put o.dst (conc m' v)) w') : wpList P ops Q (o :: rest) a w := by
 refine wpList_plain hg fun K hK => ?_
 obtain ⟨v', H', m', N', w', h1, h2, h3, h4⟩ := hv ri m N lim B H w a.eval L T hR hgd (fun v H' => .ok (.mk (.pan v) .e [] H')) _ (hk _)
 cases h1
 unfold Oper.wp
 rcases h4 o rfl with h5 | ⟨hu, h5⟩
 ·rw [h5]
  exact hK _ _ (next m' N' w' h2 h3)
 ·subst hu
  rw [h5]
  exact hK _ _ (next m' N' w' h2 h3)
theorem wpl_next {r b : Pos} {clock birth birth' : Nat} {sn : List Nat} {es : List ME} {it : Operand} (hg : o.guard = none) (hop : o.op = .next it false) (hit : a.eval it = conc m (.ptr r 0))
 (hR : Rel ri m N N lim B H w) (hN : N r) (ho : PT.get r H.bl = some (.iter (some b) clock (encL sn) birth)) (hl : lim ≤ birth) (hb : PT.get b H.bl = some (.map es clock birth')) (hc : ∀ e ∈ es, e.born < clock)
 (hDone : ∀ w', (∀ e ∈ es, e.born ∈ sn) → Step ri m N lim B H w m N H w' → wpList P ops Q rest (a.put o.dst (conc m (.tup [.bool false]))) w')
 (hMore : ∀ e ∈ es, ∀ w', e.born ∉ sn → okV m N e.key → okV m N e.val → Step ri m N lim B H w m N (H.setB r (some (.iter (some b) clock (encL (sn ++ [e.born])) birth))) w' → wpList P ops Q rest (a.put o.dst (conc m (.tup [.bool true, e.key, e.val]))) w') :
 wpList P ops Q (o :: rest) a w := by
 refine wpList_plain hg fun K hK => ?_
 unfold Oper.wp
 rcases next_any hR hN ho hl hb hc o.type (P := P) with ⟨w', h1, h2, h3⟩ | ⟨e, he, h2, w', h1, h4, h5, h6⟩
 ·have : (execOp a.eval o).run P w = .ok (.value (conc m (.tup [.bool false]))) w' := by
   unfold execOp
   rw [hop]
   simp only [hit, Sem.run_bind, h1, Result.andThen_ok, Sem.run_pure]
  rw [this]
  exact hK _ _ (hDone w' h2 h3)
 ·have : (execOp a.eval o).run P w = .ok (.value (conc m (.tup [.bool true, e.key, e.val]))) w' := by
   unfold execOp
   rw [hop]
   simp only [hit, Sem.run_bind, h1, Result.andThen_ok, Sem.run_pure]
  rw [this]
  exact hK _ _ (hMore e he w' h2 h4 h5 h6)
theorem wpl_entry {r b : Pos} {clock birth birth' : Nat} {sn : List Nat} {es : List ME} {e : ME} {it : Operand} (hg : o.guard = none) (hop : o.op = .entry it) (hit : a.eval it = conc m (.ptr r 0))
 (hR : Rel ri m N N lim B H w) (hN : N r) (ho : PT.get r H.bl = some (.iter (some b) clock (encL (sn ++ [e.born])) birth)) (hb : PT.get b H.bl = some (.map es clock birth')) (he : e ∈ es) (hu : ∀ x ∈ es, x.born = e.born → x = e)
 (next : wpList P ops Q rest (a.put o.dst (conc m (.tup [e.key, e.val]))) w) : wpList P ops Q (o :: rest) a w := by
 refine wpList_plain hg fun K hK => ?_
 unfold Oper.wp
 have : (execOp a.eval o).run P w = .ok (.value (conc m (.tup [e.key, e.val]))) w := by
  unfold execOp
  rw [hop]
  simp only [hit, Sem.run_bind, entry_any hR hN ho hb he hu, Result.andThen_ok, Sem.run_pure]
 rw [this]
 exact hK _ _ next
end Av
end
section
set_option linter.unusedSimpArgs false
set_option linter.unusedVariables false
namespace Av
open Go
section
variable {α : Type}
theorem eqK_par (q : Kd) (x y : AV) (k : Bool → α) (e : α) : eqK q x y k e = Option.rec (motive := fun _ => α) e k (eqK q x y some none) := by
 cases q with
 | i =>
   cases x <;> try rfl
   ·cases y <;> rfl
   ·cases y <;> try rfl
    rename_i i a j b
    show Bool.rec (motive := fun _ => α) e (k (ieq a b)) (Nat.beq (knd i) (knd j)) = Option.rec (motive := fun _ => α) e k (Bool.rec (motive := fun _ => Option Bool) none (some (ieq a b)) (Nat.beq (knd i) (knd j)))
    cases Nat.beq (knd i) (knd j) <;> rfl
 | b =>
   cases x <;> try rfl
   cases y <;> rfl
 | s =>
   cases x <;> try rfl
   cases y <;> rfl
theorem eqL_par : ∀ (ks : List Kd) (l m : List AV) (k : Bool → α) (e : α), eqL ks l m k e = Option.rec (motive := fun _ => α) e k (eqL ks l m some none)
 | [], [], [], k, e => rfl
 | [], [], _ :: _, k, e => rfl
 | [], _ :: _, _, k, e => rfl
 | _ :: _, [], _, k, e => rfl
 | _ :: _, _ :: _, [], k, e => rfl
 | q :: ks, a :: l, b :: m, k, e => by
   show eqK q a b (fun t => Bool.rec (motive := fun _ => α) (k false) (eqL ks l m k e) t) e = Option.rec (motive := fun _ => α) e k (eqK q a b (fun t => Bool.rec (motive := fun _ => Option Bool) (some false) (eqL ks l m some none) t) none)
   rw [eqK_par q a b (fun t => Bool.rec (motive := fun _ => α) (k false) (eqL ks l m k e) t) e, eqK_par q a b (fun t => Bool.rec (motive := fun _ => Option Bool) (some false) (eqL ks l m some none) t) none]
   cases eqK q a b some none with
   | none => rfl
   | some t =>
     cases t with
     | false => rfl
     | true => exact eqL_par ks l m k e
theorem eqV_par (q : Sh) (x y : AV) (k : Bool → α) (e : α) : eqV q x y k e = Option.rec (motive := fun _ => α) e k (eqB q x y) := by
 cases q with
 | one q => exact eqK_par q x y k e
 | agg ks =>
   unfold eqB
   cases x <;> try rfl
   cases y <;> try rfl
   exact eqL_par ks _ _ k e
theorem eqV_at {q : Sh} {x y : AV} {t : Bool} (h : eqB q x y = some t) (k : Bool → α) (e : α) : eqV q x y k e = k t := by rw [eqV_par, h]
noncomputable def fnd (h : Sh) (q : AV) (es : List ME) : Option (Option AV) := findK h q es (fun v => some (some v)) (some none) none
theorem findK_par (h : Sh) (q : AV) (k : AV → α) (no e : α) : ∀ es : List ME, findK h q es k no e = (match fnd h q es with | some (some v) => k v | some none => no | none => e)
 | [] => rfl
 | x :: es => by
   show eqV h q x.key (fun t => Bool.rec (motive := fun _ => α) (findK h q es k no e) (k x.val) t) e = _
   have : fnd h q (x :: es) = eqV h q x.key (fun t => Bool.rec (motive := fun _ => Option (Option AV)) (fnd h q es) (some (some x.val)) t) none := rfl
   rw [this, eqV_par, eqV_par]
   cases eqB h q x.key with
   | none => rfl
   | some t =>
     cases t with
     | true => rfl
     | false => exact findK_par h q k no e es
theorem look_at {h : Sh} {es2 : List ME} {q : AV} {u : Bool} (hu : isUn h es2 q = some u) (k : AV → α) (e : α) : findK h q es2 k (k (.bool false)) e = k (.bool (!u)) := by
 unfold isUn at hu
 rw [findK_par] at hu ⊢
 cases hf : fnd h q es2 with
 | none => rw [hf] at hu; cases hu
 | some o =>
   rw [hf] at hu
   cases o with
   | none => cases hu; rfl
   | some v =>
     simp only at hu ⊢
     cases v <;> first | (cases hu; done) | skip
     rename_i b
     have hu : some (bnot b) = some u := hu
     cases hu
     rw [bnot_eq]
     cases b <;> rfl
end
structure GoodE (h : Sh) (clock len : Nat) (es2 es : List ME) : Prop where
 nd : (es.map (·.born)).Nodup
 lt : ∀ e ∈ es, e.born < clock
 self : ∀ e ∈ es, eqB h e.key e.key = some true
 ne : ∀ x ∈ es, ∀ y ∈ es, x.born ≠ y.born → eqB h x.key y.key = some false
 un : ∀ e ∈ es, isUn h es2 e.key = some (unT h es2 e.key)
 val : ∀ e ∈ es, ∃ i : Nat, e.val = .int (.ofNat i) ∧ i < len
theorem isB_of {b : Bool} {o : Option Bool} (h : isB b o = true) : o = some b := by
 cases o with
 | none => cases h
 | some c => cases b <;> cases c <;> first | rfl | cases h
theorem allB_of {α : Type} {p : α → Bool} : ∀ {l : List α}, allB p l = true → ∀ x ∈ l, p x = true
 | [], _, x, hx => by cases hx
 | y :: l, h, x, hx => by
   have h : band (p y) (allB p l) = true := h
   rw [band_eq, Bool.and_eq_true] at h
   rcases List.mem_cons.1 hx with rfl | hx
   ·exact h.1
   ·exact allB_of h.2 x hx
theorem goodE_ok {h : Sh} {clock len : Nat} {es2 : List ME} : ∀ {es : List ME}, goodE h clock len es2 es = true → GoodE h clock len es2 es
 | [], _ => by constructor <;> simp
 | e :: r, hg => by
   have hg : band (band (Nat.ble (Nat.succ e.born) clock) (band (isB true (eqB h e.key e.key)) (band (Option.rec (motive := fun _ => Bool) false (fun _ => true) (isUn h es2 e.key)) (asNat e.val (fun i => Nat.ble (Nat.succ i) len) false))))
    (band (allB (fun x => band (bnot (Nat.beq e.born x.born)) (band (isB false (eqB h e.key x.key)) (isB false (eqB h x.key e.key)))) r) (goodE h clock len es2 r)) = true := hg
   simp only [band_eq, Bool.and_eq_true] at hg
   obtain ⟨⟨h1, h2, h3, h4⟩, h5, h6⟩ := hg
   have G := goodE_ok h6
   have hx := allB_of h5
   have apart : ∀ x ∈ r, e.born ≠ x.born ∧ eqB h e.key x.key = some false ∧ eqB h x.key e.key = some false := fun x hxr => by
    have := hx x hxr
    simp only [band_eq, Bool.and_eq_true, bnot_eq, Bool.not_eq_true'] at this
    exact ⟨nbeq_of this.1, isB_of this.2.1, isB_of this.2.2⟩
   have hun : isUn h es2 e.key = some (unT h es2 e.key) := by
    unfold unT
    cases hu : isUn h es2 e.key with
    | none => rw [hu] at h3; cases h3
    | some u => rfl
   refine ⟨?_, fun x hxm => ?_, fun x hxm => ?_, fun x hxm y hym hne => ?_, fun x hxm => ?_, fun x hxm => ?_⟩
   ·rw [List.map_cons, List.nodup_cons]
    refine ⟨fun hm => ?_, G.nd⟩
    obtain ⟨x, hx1, hx2⟩ := List.mem_map.1 hm
    exact (apart x hx1).1 hx2.symm
   ·rcases List.mem_cons.1 hxm with rfl | hxm
    ·have := ble_of h1; omega
    ·exact G.lt x hxm
   ·rcases List.mem_cons.1 hxm with rfl | hxm
    ·exact isB_of h2
    ·exact G.self x hxm
   ·rcases List.mem_cons.1 hxm with hx1 | hx1 <;> rcases List.mem_cons.1 hym with hy1 | hy1
    ·exact absurd (by rw [hx1, hy1]) hne
    ·rw [hx1]; exact (apart y hy1).2.1
    ·rw [hy1]; exact (apart x hx1).2.2
    ·exact G.ne x hx1 y hy1 hne
   ·rcases List.mem_cons.1 hxm with rfl | hxm
    ·exact hun
    ·exact G.un x hxm
   ·rcases List.mem_cons.1 hxm with rfl | hxm
    ·generalize x.val = v at h4
     cases v <;> first | (cases h4; done) | skip
     rename_i n
     cases n with
     | ofNat i => exact ⟨i, rfl, ble_of h4⟩
     | negSucc i => cases h4
    ·exact G.val x hxm
theorem delK_at {α : Type} {h : Sh} {e : ME} (er : α) : ∀ {es : List ME} {k : List ME → α}, (es.map (·.born)).Nodup → (∀ x ∈ es, x.born = e.born → x = e) → eqB h e.key e.key = some true → (∀ x ∈ es, x.born ≠ e.born → eqB h e.key x.key = some false) →
 delK h e.key es k er = k (es.filter fun x => decide (x.born ≠ e.born))
 | [], k, _, _, _, _ => rfl
 | x :: r, k, hn, hu, hs, hne => by
   rw [List.map_cons, List.nodup_cons] at hn
   show eqV h e.key x.key (fun t => Bool.rec (motive := fun _ => α) (delK h e.key r (fun r' => k (x :: r')) er) (k r) t) er = _
   by_cases hb : x.born = e.born
   ·have := hu x (by simp) hb
    subst this
    rw [eqV_at hs]
    have : (x :: r).filter (fun y => decide (y.born ≠ x.born)) = r := by
     rw [List.filter_cons, if_neg (by simp)]
     rw [List.filter_eq_self]
     intro y hy
     have : y.born ≠ x.born := fun h => hn.1 (List.mem_map.2 ⟨y, hy, h⟩)
     simpa using this
    rw [this]
   ·rw [eqV_at (hne x (by simp) hb)]
    show delK h e.key r (fun r' => k (x :: r')) er = _
    rw [delK_at er hn.2 (fun y hy => hu y (by simp [hy])) hs (fun y hy => hne y (by simp [hy]))]
    rw [List.filter_cons, if_pos (by simpa using hb)]
end Av
end
section
set_option linter.unusedSimpArgs false
set_option linter.unusedVariables false
namespace Av
open Go
theorem born_uniq : ∀ {es : List ME}, (es.map (·.born)).Nodup → ∀ {x y : ME}, x ∈ es → y ∈ es → x.born = y.born → x = y
 | [], _, x, y, hx, _, _ => by cases hx
 | a :: r, hn, x, y, hx, hy, hb => by
   rw [List.map_cons, List.nodup_cons] at hn
   rcases List.mem_cons.1 hx with e1 | h1 <;> rcases List.mem_cons.1 hy with e2 | h2
   ·rw [e1, e2]
   ·exact absurd (List.mem_map.2 ⟨y, h2, by rw [← hb, e1]⟩) hn.1
   ·exact absurd (List.mem_map.2 ⟨x, h1, by rw [hb, e2]⟩) hn.1
   ·exact born_uniq hn.2 h1 h2 hb
theorem memN_iff {x : Nat} : ∀ {l : List Nat}, memN x l = true ↔ x ∈ l
 | [] => by simp [memN]
 | y :: l => by
   show Bool.rec (motive := fun _ => Bool) (memN x l) true (Nat.beq x y) = true ↔ _
   cases hxy : Nat.beq x y with
   | true => simp [beq_of hxy]
   | false =>
     have := nbeq_of hxy
     simp only [List.mem_cons, this, false_or]
     exact memN_iff
theorem updR_get (A B : List Nat) (k now : AV) : ∀ (l : List AV) (j i : Nat), (updR A B k now l j)[i]? = l[i]?.map fun x => if j + i ∈ A then k else if j + i ∈ B then now else x
 | [], j, i => by simp [updR]
 | x :: l, j, 0 => by
   show some (Bool.rec (motive := fun _ => AV) (Bool.rec (motive := fun _ => AV) x now (memN j B)) k (memN j A)) = _
   simp only [List.getElem?_cons_zero, Option.map_some, Nat.add_zero]
   by_cases ha : j ∈ A
   ·rw [memN_iff.2 ha, if_pos ha]
   ·have : memN j A = false := by
     cases h : memN j A with
     | true => exact absurd (memN_iff.1 h) ha
     | false => rfl
    rw [this, if_neg ha]
    by_cases hb : j ∈ B
    ·rw [memN_iff.2 hb, if_pos hb]
    ·have : memN j B = false := by
      cases h : memN j B with
      | true => exact absurd (memN_iff.1 h) hb
      | false => rfl
     rw [this, if_neg hb]
 | x :: l, j, i + 1 => by
   show (updR A B k now l (j + 1))[i]? = _
   rw [updR_get A B k now l (j + 1) i, List.getElem?_cons_succ]
   rw [show j + 1 + i = j + (i + 1) by omega]
theorem updR_len (A B : List Nat) (k now : AV) (l : List AV) (j : Nat) : (updR A B k now l j).length = l.length := by
 induction l generalizing j with
 | nil => rfl
 | cons x l ih => show (updR A B k now l (j + 1)).length + 1 = _; rw [ih]; rfl
theorem plcs_iff (h : Sh) (sz p o : Nat) (es2 : List ME) (x : Nat) : ∀ es : List ME, x ∈ plcs h sz p o es2 es ↔ ∃ e ∈ es, unT h es2 e.key = true ∧ x = o + (natOf e.val * sz + p)
 | [] => by simp [plcs]
 | e :: r => by
   show x ∈ Bool.rec (motive := fun _ => List Nat) (plcs h sz p o es2 r) (Nat.add o (Nat.add (Nat.mul (natOf e.val) sz) p) :: plcs h sz p o es2 r) (unT h es2 e.key) ↔ _
   have ih := plcs_iff h sz p o es2 x r
   cases hu : unT h es2 e.key with
   | false =>
     show x ∈ plcs h sz p o es2 r ↔ _
     rw [ih]
     constructor
     ·rintro ⟨y, hy, h1⟩; exact ⟨y, List.mem_cons_of_mem _ hy, h1⟩
     ·rintro ⟨y, hy, h1, h2⟩
      rcases List.mem_cons.1 hy with rfl | hy
      ·rw [hu] at h1; cases h1
      ·exact ⟨y, hy, h1, h2⟩
   | true =>
     show x ∈ (o + (natOf e.val * sz + p)) :: plcs h sz p o es2 r ↔ _
     rw [List.mem_cons, ih]
     constructor
     ·rintro (h1 | ⟨y, hy, h1⟩)
      ·exact ⟨e, List.mem_cons_self, hu, h1⟩
      ·exact ⟨y, List.mem_cons_of_mem _ hy, h1⟩
     ·rintro ⟨y, hy, h1, h2⟩
      rcases List.mem_cons.1 hy with rfl | hy
      ·exact .inl h2
      ·exact .inr ⟨y, hy, h1, h2⟩
theorem rest_eq (h : Sh) (es2 : List ME) : ∀ es : List ME, rest h es2 es = es.filter fun e => !unT h es2 e.key
 | [] => rfl
 | e :: r => by
   show Bool.rec (motive := fun _ => List ME) (e :: rest h es2 r) (rest h es2 r) (unT h es2 e.key) = _
   rw [rest_eq h es2 r, List.filter_cons]
   cases unT h es2 e.key <;> rfl
/-! ### numbers of names -/
def sucN : Nat → Pos → Pos
 | 0, p => p
 | n + 1, p => (sucN n p).succ
theorem sucN_in (n : Nat) (p : Pos) : sucN n p.succ = (sucN n p).succ := by
 induction n with
 | zero => rfl
 | succ n ih => show (sucN n p.succ).succ = _; rw [ih]; rfl
theorem bump_eq : ∀ (n : Nat) (H : AH), (bump n H).bl = H.bl ∧ (bump n H).fam = H.fam ∧ (bump n H).nx = sucN n H.nx ∧ (bump n H).cnt = H.cnt + n
 | 0, H => ⟨rfl, rfl, rfl, rfl⟩
 | n + 1, H => by
   cases H with
   | mk bl nx cnt fam =>
     obtain ⟨h1, h2, h3, h4⟩ := bump_eq n ⟨bl, nx.succ, Nat.succ cnt, fam⟩
     refine ⟨h1, h2, ?_, ?_⟩
     ·show (bump n ⟨bl, nx.succ, Nat.succ cnt, fam⟩).nx = _
      rw [h3]; exact sucN_in n nx
     ·show (bump n ⟨bl, nx.succ, Nat.succ cnt, fam⟩).cnt = _
      rw [h4]; show cnt + 1 + n = cnt + (n + 1); omega
section
variable (h : Sh) (sz p1 p2 : Nat) (H0 : AH) (es es2 : List ME) (k now : AV) (bo b : Pos) (o clock birth : Nat) (l : List AV) (ty : Nat) (root : Pos) (ab g rb : Nat)
noncomputable def hsL (S : List Nat) : List AV := updR (plcs h sz p1 o es2 (es.filter fun e => decide (e.born ∈ S))) (plcs h sz p2 o es2 (es.filter fun e => decide (e.born ∈ S))) k now l 0
noncomputable def hsE (S : List Nat) : List ME := es.filter fun e => !(decide (e.born ∈ S) && unT h es2 e.key)
noncomputable def HSb (S : List Nat) : AH := bump (S.length + 1) ((wrote H0 b 0 (hsL h sz p1 p2 es es2 k now o l S) l ty root ab g rb).setB bo (some (.map (hsE h es es2 S) clock birth)))
noncomputable def HS (S : List Nat) (it : Option AObj) : AH := (HSb h sz p1 p2 H0 es es2 k now bo b o clock birth l ty root ab g rb S).setB H0.nx it
end
section
variable {h : Sh} {sz p1 p2 : Nat} {H0 : AH} {es es2 : List ME} {k now : AV} {bo b : Pos} {o clock birth : Nat} {l : List AV} {ty : Nat} {root : Pos} {ab g rb : Nat} {S : List Nat} {it : Option AObj}
theorem hsL_len : (hsL h sz p1 p2 es es2 k now o l S).length = l.length := updR_len _ _ _ _ _ _
theorem hsL_get (j : Nat) : (hsL h sz p1 p2 es es2 k now o l S)[j]? = l[j]?.map fun x => if (∃ e ∈ es, e.born ∈ S ∧ unT h es2 e.key = true ∧ j = o + (natOf e.val * sz + p1)) then k else if (∃ e ∈ es, e.born ∈ S ∧ unT h es2 e.key = true ∧ j = o + (natOf e.val * sz + p2)) then now else x := by
 unfold hsL
 rw [updR_get]
 congr 1
 funext x
 simp only [Nat.zero_add, plcs_iff, List.mem_filter, decide_eq_true_eq, and_assoc]
theorem HS_nx : (HS h sz p1 p2 H0 es es2 k now bo b o clock birth l ty root ab g rb S it).nx = sucN (S.length + 1) H0.nx := by
 unfold HS HSb; rw [setB_nx, (bump_eq _ _).2.2.1, setB_nx, wrote_nx]
theorem HS_cnt : (HS h sz p1 p2 H0 es es2 k now bo b o clock birth l ty root ab g rb S it).cnt = H0.cnt + (S.length + 1) := by
 unfold HS HSb; rw [setB_cnt, (bump_eq _ _).2.2.2, setB_cnt, wrote_cnt]
theorem HS_fam : (HS h sz p1 p2 H0 es es2 k now bo b o clock birth l ty root ab g rb S it).fam = H0.fam := by
 unfold HS HSb; rw [setB_fam, (bump_eq _ _).2.1, setB_fam, wrote_fam]
theorem HS_bl (x : Pos) : PT.get x (HS h sz p1 p2 H0 es es2 k now bo b o clock birth l ty root ab g rb S it).bl = if x = H0.nx then it else if x = bo then some (.map (hsE h es es2 S) clock birth) else PT.get x (wrote H0 b 0 (hsL h sz p1 p2 es es2 k now o l S) l ty root ab g rb).bl := by
 unfold HS HSb; rw [setB_bl, (bump_eq _ _).1, setB_bl]
theorem over0 {l' : List AV} (hl : l'.length = l.length) : over 0 l' l = l' := by
 unfold over
 rw [Nat.zero_add, hl, List.drop_length]
 simp
theorem HS_b (hb : b ≠ H0.nx) (hbo : b ≠ bo) : PT.get b (HS h sz p1 p2 H0 es es2 k now bo b o clock birth l ty root ab g rb S it).bl = some (.cells (hsL h sz p1 p2 es es2 k now o l S) ty root ab g rb) := by
 rw [HS_bl, if_neg hb, if_neg hbo]
 unfold wrote
 rw [setB_bl, if_pos rfl, over0 hsL_len]
theorem HS_bo (hbo : bo ≠ H0.nx) : PT.get bo (HS h sz p1 p2 H0 es es2 k now bo b o clock birth l ty root ab g rb S it).bl = some (.map (hsE h es es2 S) clock birth) := by
 rw [HS_bl, if_neg hbo, if_pos rfl]
theorem HS_it : PT.get H0.nx (HS h sz p1 p2 H0 es es2 k now bo b o clock birth l ty root ab g rb S it).bl = it := by rw [HS_bl, if_pos rfl]
theorem HS_old (hb : PT.get b H0.bl = some (.cells l ty root ab g rb)) {x : Pos} (h1 : x ≠ H0.nx) (h2 : x ≠ bo) (h3 : x ≠ b) {ox : AObj} (hx : PT.get x (HS h sz p1 p2 H0 es es2 k now bo b o clock birth l ty root ab g rb S it).bl = some ox) :
 PT.get x H0.bl = some ox ∧ ∀ ids, PT.get root H0.fam = some ids → x ∈ ids → ¬ Hit H0.bl x ab (ab + l.length) := by
 rw [HS_bl, if_neg h1, if_neg h2] at hx
 rcases wrote_bl (H := H0) (b := b) (o := 0) (vs := hsL h sz p1 p2 es es2 k now o l S) (l := l) (ty := ty) (root := root) (ab := ab) (g := g) (birth := rb) x with ⟨e, _⟩ | ⟨_, e, _⟩ | ⟨_, e, e2⟩
 ·exact absurd e h3
 ·rw [e] at hx; cases hx
 ·rw [e] at hx
  refine ⟨hx, fun ids hi hm => ?_⟩
  have := e2 ids hi hm
  rw [hsL_len] at this
  exact this
theorem HS_keep {lim : Nat} (hw : Wf lim H0) (hb : PT.get b H0.bl = some (.cells l ty root ab g rb)) (hl : lim ≤ rb) (hbo : PT.get bo H0.bl = some (.map es clock birth)) (hl2 : lim ≤ birth) : Keep lim H0 (HS h sz p1 p2 H0 es es2 k now bo b o clock birth l ty root ab g rb S it) := fun x ox hx hlx => by
 have h1 : x ≠ H0.nx := fun e => by subst e; rw [hw.no] at hx; cases hx
 have h2 : x ≠ bo := fun e => by subst e; rw [hbo] at hx; cases hx; exact absurd hlx (Nat.not_lt.2 hl2)
 rw [HS_bl, if_neg h1, if_neg h2]
 exact Keep.wrote hw hb hl x ox hx hlx
theorem hs_seen {e : ME} (hn : (es.map (·.born)).Nodup) (he : e ∈ es) (hu : unT h es2 e.key = false) : hsL h sz p1 p2 es es2 k now o l (S ++ [e.born]) = hsL h sz p1 p2 es es2 k now o l S ∧ hsE h es es2 (S ++ [e.born]) = hsE h es es2 S := by
 have uniq : ∀ x ∈ es, x.born = e.born → x = e := fun x hx hb => born_uniq hn hx he hb
 have key : ∀ x ∈ es, (x.born ∈ S ++ [e.born] ∧ unT h es2 x.key = true) ↔ (x.born ∈ S ∧ unT h es2 x.key = true) := fun x hx => by
  rw [List.mem_append, List.mem_singleton]
  constructor
  ·rintro ⟨h1 | h1, h2⟩
   ·exact ⟨h1, h2⟩
   ·rw [uniq x hx h1, hu] at h2; cases h2
  ·rintro ⟨h1, h2⟩; exact ⟨.inl h1, h2⟩
 constructor
 ·apply List.ext_getElem?
  intro j
  rw [hsL_get, hsL_get]
  congr 1
  funext x
  have c : ∀ p, (∃ y ∈ es, y.born ∈ S ++ [e.born] ∧ unT h es2 y.key = true ∧ j = o + (natOf y.val * sz + p)) ↔ (∃ y ∈ es, y.born ∈ S ∧ unT h es2 y.key = true ∧ j = o + (natOf y.val * sz + p)) := fun p =>
   ⟨fun ⟨y, hy, a1, a2, a3⟩ => ⟨y, hy, ((key y hy).1 ⟨a1, a2⟩).1, a2, a3⟩, fun ⟨y, hy, a1, a2, a3⟩ => ⟨y, hy, ((key y hy).2 ⟨a1, a2⟩).1, a2, a3⟩⟩
  simp only [c]
 ·unfold hsE
  refine List.filter_congr fun x hx => ?_
  have := key x hx
  cases hux : unT h es2 x.key with
  | false => simp
  | true =>
    rw [hux] at this
    simp only [and_true] at this
    simp only [Bool.and_true, Bool.not_eq_eq_eq_not, decide_eq_decide, Bool.not_not]
    exact this
theorem hs_un {e : ME} {i : Nat} (hn : (es.map (·.born)).Nodup) (he : e ∈ es) (hu : unT h es2 e.key = true) (hv : e.val = .int (.ofNat i)) (hp : p1 < sz) (hp2 : p2 < sz) (hne : p1 ≠ p2) (hr : o + (i * sz + sz) ≤ l.length) :
 hsL h sz p1 p2 es es2 k now o l (S ++ [e.born]) = over (o + (i * sz + p2)) [now] (over (o + (i * sz + p1)) [k] (hsL h sz p1 p2 es es2 k now o l S)) ∧ hsE h es es2 (S ++ [e.born]) = (hsE h es es2 S).filter fun x => decide (x.born ≠ e.born) := by
 have hni : natOf e.val = i := by rw [hv]; rfl
 have uniq : ∀ x ∈ es, x.born = e.born → x = e := fun x hx hb => born_uniq hn hx he hb
 have apart : ∀ x y : Nat, x * sz + p1 ≠ y * sz + p2 := fun x y hxy => by
  have h1 : (x * sz + p1) % sz = p1 := by rw [Nat.mul_comm, Nat.mul_add_mod, Nat.mod_eq_of_lt hp]
  have h2 : (y * sz + p2) % sz = p2 := by rw [Nat.mul_comm, Nat.mul_add_mod, Nat.mod_eq_of_lt hp2]
  rw [hxy, h2] at h1
  exact hne h1.symm
 have cond : ∀ p j, (∃ y ∈ es, y.born ∈ S ++ [e.born] ∧ unT h es2 y.key = true ∧ j = o + (natOf y.val * sz + p)) ↔ ((∃ y ∈ es, y.born ∈ S ∧ unT h es2 y.key = true ∧ j = o + (natOf y.val * sz + p)) ∨ j = o + (i * sz + p)) := fun p j => by
  constructor
  ·rintro ⟨y, hy, a1, a2, a3⟩
   rw [List.mem_append, List.mem_singleton] at a1
   rcases a1 with a1 | a1
   ·exact .inl ⟨y, hy, a1, a2, a3⟩
   ·rw [uniq y hy a1, hni] at a3
    exact .inr a3
  ·rintro (⟨y, hy, a1, a2, a3⟩ | a3)
   ·exact ⟨y, hy, List.mem_append.2 (.inl a1), a2, a3⟩
   ·exact ⟨e, he, List.mem_append.2 (.inr (by simp)), hu, by rw [hni]; exact a3⟩
 constructor
 ·apply List.ext_getElem?
  intro j
  have hlen : (hsL h sz p1 p2 es es2 k now o l S).length = l.length := hsL_len
  have hl1 : o + (i * sz + p1) + [k].length ≤ (hsL h sz p1 p2 es es2 k now o l S).length := by rw [hlen]; simp; omega
  have hl2 : o + (i * sz + p2) + [now].length ≤ (over (o + (i * sz + p1)) [k] (hsL h sz p1 p2 es es2 k now o l S)).length := by rw [over_length hl1, hlen]; simp; omega
  rw [over_get hl2, over_get hl1, hsL_get, hsL_get]
  simp only [cond, List.length_singleton]
  have hlj : ∀ p, p < sz → ∃ x, l[o + (i * sz + p)]? = some x := fun p hp => ⟨_, List.getElem?_eq_getElem (by omega)⟩
  by_cases e2 : j = o + (i * sz + p2)
  ·subst e2
   rw [if_pos ⟨Nat.le_refl _, by omega⟩]
   obtain ⟨x, hx⟩ := hlj p2 hp2
   have n1 : ¬ ((∃ y ∈ es, y.born ∈ S ∧ unT h es2 y.key = true ∧ o + (i * sz + p2) = o + (natOf y.val * sz + p1)) ∨ o + (i * sz + p2) = o + (i * sz + p1)) := by
    rintro (⟨y, _, _, _, a3⟩ | a3)
    ·exact apart (natOf y.val) i (by omega)
    ·omega
   rw [hx, Option.map_some, if_neg n1, if_pos (.inr rfl), Nat.sub_self]
   rfl
  ·rw [if_neg (by omega)]
   by_cases e1 : j = o + (i * sz + p1)
   ·subst e1
    rw [if_pos ⟨Nat.le_refl _, by omega⟩]
    obtain ⟨x, hx⟩ := hlj p1 hp
    rw [hx]
    simp
   ·rw [if_neg (by omega)]
    simp only [e1, e2, or_false]
 ·unfold hsE
  rw [List.filter_filter]
  refine List.filter_congr fun x hx => ?_
  by_cases hb : x.born = e.born
  ·have := uniq x hx hb
   subst this
   simp [hu]
  ·simp [hb, List.mem_append]
end
end Av
end
section
set_option linter.unusedSimpArgs false
set_option linter.unusedVariables false
namespace Av
open Go Go.RowKit
section
variable {α : Type} {H : AH} {b root : Pos} {l : List AV} {ty ab g birth : Nat}
theorem cells_at (h : PT.get b H.bl = some (.cells l ty root ab g birth)) (k : List AV → Nat → Pos → Nat → Nat → Nat → α) (e : α) : H.cells b k e = k l ty root ab g birth := by unfold AH.cells; rw [h]
theorem mapOf_at {es : List ME} {clock : Nat} (h : PT.get b H.bl = some (.map es clock birth)) (k : List ME → Nat → Nat → α) (e : α) : H.mapOf b k e = k es clock birth := by unfold AH.mapOf; rw [h]
theorem lnth_at (k : AV → α) (e : α) {v : AV} : ∀ {l : List AV} {n : Nat}, l[n]? = some v → lnth l n k e = k v
 | [], 0, h => by cases h
 | a :: l, 0, h => by cases h; rfl
 | [], n + 1, h => by cases h
 | a :: l, n + 1, h => by
   show lnth l n k e = k v
   exact lnth_at k e (by simpa using h)
theorem ltake_at (e : α) : ∀ {n : Nat} {l : List AV} {k : List AV → α}, n ≤ l.length → ltake n l k e = k (l.take n)
 | 0, l, k, _ => by show k [] = _; simp
 | n + 1, [], k, h => by simp at h
 | n + 1, a :: l, k, h => by
   show ltake n l (fun x => k (a :: x)) e = _
   rw [ltake_at e (by simpa using h)]
   rfl
theorem read1_at {β : Type} {o : Nat} {v : AV} (h : PT.get b H.bl = some (.cells l ty root ab g birth)) (hv : l[o]? = some v) (k : AV → R β) : H.read1 b o k = k v := by unfold AH.read1; rw [cells_at h, lnth_at _ _ hv]
theorem read_at {β : Type} {o n : Nat} (h : PT.get b H.bl = some (.cells l ty root ab g birth)) (hn : n ≤ (l.drop o).length) (k : List AV → R β) : H.read b o n k = k ((l.drop o).take n) := by unfold AH.read; rw [cells_at h, ldrop_eq, ltake_at _ hn]
end
def e1 (t : Nat) (p : AV) : Operand → Option AO := fun y => match y with | .tmp s => if s = t then some (.c p) else none | _ => none
def e2 (t : Nat) (p : AV) (s : Nat) (q : AV) : Operand → Option AO := fun y => match y with | .tmp r => if r = t then some (.c p) else if r = s then some (.c q) else none | _ => none
theorem e1_at (t : Nat) (p : AV) : e1 t p (.tmp t) = some (.c p) := by simp [e1]
theorem e2_fst (t : Nat) (p : AV) (s : Nat) (q : AV) : e2 t p s q (.tmp t) = some (.c p) := by simp [e2]
theorem e2_snd {t : Nat} (p : AV) {s : Nat} (q : AV) (h : s ≠ t) : e2 t p s q (.tmp s) = some (.c q) := by simp [e2, h]
variable {P : Program} {ri : Nat → Option RInfo} {m m' : M} {N N' : Pos → Prop} {lim B : Nat} {H H1 H2 : AH} {w w' : World} {ops : Array Oper} {rest : List Oper} {o : Oper} {a : Act} {Q : Exit → Act → World → Prop} {L : List AV} {T : PT AV} {v : AV}
theorem good_e1 {t : Nat} {p : AV} (h : a.eval (.tmp t) = conc m p) (hk : okV m N p) : Good (e1 t p) a.eval m N [] .e := by
 refine ⟨fun x x' hx => ?_, fun c => rfl⟩
 unfold e1 at hx
 split at hx
 ·split at hx
  ·rename_i e; subst e; cases hx; exact ⟨h, hk⟩
  ·cases hx
 ·cases hx
theorem good_e2 {t s : Nat} {p q : AV} (h : a.eval (.tmp t) = conc m p) (hk : okV m N p) (h2 : a.eval (.tmp s) = conc m q) (hk2 : okV m N q) : Good (e2 t p s q) a.eval m N [] .e := by
 refine ⟨fun x x' hx => ?_, fun c => rfl⟩
 unfold e2 at hx
 split at hx
 ·split at hx
  ·rename_i e; subst e; cases hx; exact ⟨h, hk⟩
  ·split at hx
   ·rename_i e; subst e; cases hx; exact ⟨h2, hk2⟩
   ·cases hx
 ·cases hx
theorem ev_same {t : Nat} {u : Value} (h : t < a.tmps.size) : (a.put (some t) u).eval (.tmp t) = u := by
 show (a.tmps.setIfInBounds t u).getD t undef = u
 simp [Array.getD, h]
theorem ev_ne {t s : Nat} {u : Value} (h : s ≠ t) : (a.put (some t) u).eval (.tmp s) = a.eval (.tmp s) := by
 show (a.tmps.setIfInBounds t u).getD s undef = a.tmps.getD s undef
 rw [Array.getD_eq_getD_getElem?, Array.getD_eq_getD_getElem?, Array.getElem?_setIfInBounds]
 rw [if_neg (fun e => h e.symm)]
theorem FrT.off {σ : Sl} {n t : Nat} {u : Value} (h : FrT m N σ n T a.tmps) (ht : slot σ t = none) : FrT m N σ n T (a.put (some t) u).tmps := by
 refine ⟨by rw [show (a.put (some t) u).tmps.size = a.tmps.size by simp [Act.put]]; exact h.size, fun s p hs => ?_, h.ok⟩
 have : s ≠ t := fun e => by subst e; rw [ht] at hs; cases hs
 have h2 := ev_ne (a := a) (u := u) this
 show (a.put (some t) u).eval (.tmp s) = _
 rw [h2]
 exact h.val s p hs
/-! ### values -/
theorem wpl_load1 {t ty off : Nat} {d : TypeDesc} {b root : Pos} {l : List AV} {cty ab g birth : Nat} (hg : o.guard = none) (hop : o.op = .load ty (.tmp t)) (hd : P.underlying ty = some d) (hagg : isAggT P ty = false) (hR : Rel ri m N N lim B H w)
 (hp : a.eval (.tmp t) = conc m (.ptr b off)) (hN : N b) (hc : PT.get b H.bl = some (.cells l cty root ab g birth)) (hv : l[off]? = some v) (next : okV m N v → wpList P ops Q rest (a.put o.dst (conc m v)) w) : wpList P ops Q (o :: rest) a w :=
 wpl_v (vo := oLoad1 (.c (.ptr b off))) hg (by rw [hop]; exact snd_load1 hd hagg (e1_at _ _)) hR (good_e1 hp hN) (fun k => by show H.read1 b off k = k v; rw [read1_at hc hv]) next
theorem wpl_loadN {t ty off : Nat} {d : TypeDesc} {b root : Pos} {l : List AV} {cty ab g birth : Nat} (hg : o.guard = none) (hop : o.op = .load ty (.tmp t)) (hd : P.underlying ty = some d) (hagg : isAggT P ty = true) (hR : Rel ri m N N lim B H w)
 (hp : a.eval (.tmp t) = conc m (.ptr b off)) (hN : N b) (hc : PT.get b H.bl = some (.cells l cty root ab g birth)) (hn : szT P ty ≤ (l.drop off).length)
 (next : okV m N (.agg ((l.drop off).take (szT P ty))) → wpList P ops Q rest (a.put o.dst (conc m (.agg ((l.drop off).take (szT P ty))))) w) : wpList P ops Q (o :: rest) a w :=
 wpl_v (vo := oLoadN (szT P ty) (.c (.ptr b off))) hg (by rw [hop]; exact snd_loadN hd hagg (e1_at _ _)) hR (good_e1 hp hN) (fun k => by show H.read b off (szT P ty) (fun v => k (.agg v)) = _; rw [read_at hc hn]) next
theorem wpl_mv {t : Nat} (hg : o.guard = none) (hop : o.op = .move (.tmp t) ∨ o.op = .assign (.tmp t)) (hR : Rel ri m N N lim B H w)
 (hp : a.eval (.tmp t) = conc m v) (hN : okV m N v) (next : wpList P ops Q rest (a.put o.dst (conc m v)) w) : wpList P ops Q (o :: rest) a w :=
 wpl_v (vo := oMv (.c v)) (e := e1 t v) hg (hop.elim (fun h => h ▸ snd_mv (e1_at _ _)) (fun h => h ▸ snd_as (e1_at _ _))) hR (good_e1 hp hN) (fun k => rfl) fun _ => next
theorem wpl_ext {t i : Nat} {l : List AV} (hg : o.guard = none) (hop : o.op = .extract (.tmp t) i) (hR : Rel ri m N N lim B H w)
 (hp : a.eval (.tmp t) = conc m (.tup l)) (hN : okL m N l) (hv : l[i]? = some v) (next : okV m N v → wpList P ops Q rest (a.put o.dst (conc m v)) w) : wpList P ops Q (o :: rest) a w :=
 wpl_v (vo := oExt (.c (.tup l)) i) (e := e1 t (.tup l)) hg (by rw [hop]; exact snd_ext (e1_at _ _)) hR (good_e1 hp hN) (fun k => by show lnth l i k _ = k v; rw [lnth_at _ _ hv]) next
theorem wpl_not {t ty : Nat} {u : Bool} (hg : o.guard = none) (hop : o.op = .unOp .not ty (.tmp t)) (hR : Rel ri m N N lim B H w)
 (hp : a.eval (.tmp t) = conc m (.bool u)) (next : wpList P ops Q rest (a.put o.dst (conc m (.bool !u))) w) : wpList P ops Q (o :: rest) a w :=
 wpl_v (vo := oNot (.c (.bool u))) (e := e1 t (.bool u)) hg (by rw [hop]; exact snd_not (e1_at _ _)) hR (good_e1 hp trivial) (fun k => by show k (.bool (bnot u)) = _; rw [bnot_eq]) fun _ => next
theorem wpl_fad {t ty f off : Nat} {fs : Array Field} {fd : Field} {b : Pos} (hg : o.guard = none) (hop : o.op = .fieldAddr ty (.tmp t) f) (hd : P.underlying ty = some (.struct fs)) (hf : fs[f]? = some fd) (hz : szT P fd.type ≠ 0) (hR : Rel ri m N N lim B H w)
 (hp : a.eval (.tmp t) = conc m (.ptr b off)) (hN : N b) (next : wpList P ops Q rest (a.put o.dst (conc m (.ptr b (off + fd.offset)))) w) : wpList P ops Q (o :: rest) a w :=
 wpl_v (vo := oFad fd.offset (.c (.ptr b off))) (e := e1 t (.ptr b off)) hg (by rw [hop]; exact snd_fad hd hf hz (e1_at _ _)) hR (good_e1 hp hN) (fun k => rfl) fun _ => next
def slOf (v : AV) (b : Pos) (off len : Nat) : Prop := (∃ c, v = .sl b off len c) ∨ (∃ c, v = .su b off len c)
theorem wpl_iad {t s ty el off len i : Nat} {b : Pos} {vs : AV} (hg : o.guard = none) (hop : o.op = .indexAddr ty (.tmp t) (.tmp s)) (hu : P.underlying ty = some (.slice el)) (hz : szT P el ≠ 0) (hts : s ≠ t) (hR : Rel ri m N N lim B H w)
 (hp : a.eval (.tmp t) = conc m vs) (hN : okV m N vs) (hs : slOf vs b off len) (hi : a.eval (.tmp s) = conc m (.int (.ofNat i))) (hlt : i < len)
 (next : okV m N (.ptr b (off + i * szT P el)) → wpList P ops Q rest (a.put o.dst (conc m (.ptr b (off + i * szT P el)))) w) : wpList P ops Q (o :: rest) a w :=
 wpl_v (vo := oIad (szT P el) (.c vs) (.c (.int (.ofNat i)))) (e := e2 t vs s (.int (.ofNat i))) hg (by rw [hop]; exact snd_iad hu hz (e2_fst _ _ _ _) (e2_snd _ _ hts)) hR (good_e2 hp hN hi trivial) (fun k => by
  have : Nat.ble (Nat.succ i) len = true := Nat.ble_eq_true_of_le hlt
  rcases hs with ⟨c, rfl⟩ | ⟨c, rfl⟩
  ·show Bool.rec (motive := fun _ => R Out) (.er [50]) (k (.ptr b (Nat.add off (Nat.mul i (szT P el))))) (Nat.ble (Nat.succ i) len) = _
   rw [this]; rfl
  ·show Bool.rec (motive := fun _ => R Out) (.er [50]) (k (.ptr b (Nat.add off (Nat.mul i (szT P el))))) (Nat.ble (Nat.succ i) len) = _
   rw [this]; rfl) next
theorem eqB_agg {ks : List Kd} {x y : AV} (h : eqB (.agg ks) x y = some true) : ∃ l, x = .agg l ∧ l.length = ks.length := by
 have key : ∀ (ks : List Kd) (l m : List AV), eqL ks l m some none = some true → l.length = ks.length := by
  intro ks
  induction ks with
  | nil =>
    intro l m h
    cases l with
    | nil => rfl
    | cons a l => cases m <;> cases h
  | cons q ks ih =>
    intro l m h
    cases l with
    | nil => cases h
    | cons a l =>
      cases m with
      | nil => cases h
      | cons b m =>
        have h : eqK q a b (fun t => Bool.rec (motive := fun _ => Option Bool) (some false) (eqL ks l m some none) t) none = some true := h
        rw [eqK_par] at h
        cases hq : eqK q a b some none with
        | none => rw [hq] at h; cases h
        | some t =>
          rw [hq] at h
          cases t with
          | false => cases h
          | true => simpa using ih l m h
 cases x with
 | agg l =>
   cases y with
   | agg m => exact ⟨l, rfl, key ks l m h⟩
   | _ => cases h
 | _ => cases h
theorem chk_at {h : Sh} {q : AV} (hs : eqB h q q = some true) (k : R Out) : chk h q k = k := by
 cases h with
 | one q => rfl
 | agg ks =>
   obtain ⟨l, rfl, hl⟩ := eqB_agg hs
   show Bool.rec (motive := fun _ => R Out) (.er [59]) k (Nat.beq (llen l) ks.length) = k
   rw [llen_eq, hl, Nat.beq_refl]
theorem wpl_look {t s ty kt el : Nat} {h : Sh} {b : Pos} {es : List ME} {clock birth : Nat} {q : AV} {u : Bool} (hg : o.guard = none) (hop : o.op = .lookup ty (.tmp t) (.tmp s) false) (hu : P.underlying ty = some (.map kt el)) (hk : keyOK P kt = true) (hsh : shT P kt = some h) (hz : zeroV P el = some (.bool false)) (hts : s ≠ t)
 (hR : Rel ri m N N lim B H w) (hp : a.eval (.tmp t) = conc m (.mp b)) (hN : N b) (hm : PT.get b H.bl = some (.map es clock birth)) (hq : a.eval (.tmp s) = conc m q) (hqk : okV m N q) (hself : eqB h q q = some true) (hun : isUn h es q = some u)
 (next : wpList P ops Q rest (a.put o.dst (conc m (.bool !u))) w) : wpList P ops Q (o :: rest) a w :=
 wpl_v (vo := oLook1 h (.bool false) (.c (.mp b)) (.c q)) (e := e2 t (.mp b) s q) hg (by rw [hop]; exact snd_look1 hu hk hsh hz (e2_fst _ _ _ _) (e2_snd _ _ hts)) hR (good_e2 hp hN hq hqk) (fun k => by
  show chk h q (H.mapOf b (fun es _ _ => findK h q es k (k (.bool false)) (.er [64])) (.er [64])) = _
  rw [chk_at hself, mapOf_at hm, look_at hun]) fun _ => next
/-! ### heaps -/
def e0 : Operand → Option AO := fun _ => none
theorem good_e0 : Good e0 a.eval m N [] .e := ⟨fun x x' hx => by simp [e0] at hx, fun c => rfl⟩
theorem wpl_alloc {ty : Nat} {z : List AV} (hg : o.guard = none) (hop : o.op = .alloc ty) (hz : zeroC P ty = some z) (hR : Rel ri m N N lim B H w)
 (next : ∀ m' N' w', Step ri m N lim B H w m' N' (newCells H z ty 0) w' → N' H.nx → wpList P ops Q rest (a.put o.dst (conc m' (.ptr H.nx 0))) w') : wpList P ops Q (o :: rest) a w :=
 wpl_h (ho := oAlloc z ty) (e := e0) (v := .ptr H.nx 0) hg (by rw [hop]; exact snd_alloc hz) hR good_e0 (fun k => rfl) fun m' N' w' s hk => next m' N' w' s hk
theorem wpl_store {t s ty off : Nat} {b root : Pos} {l : List AV} {cty ab g birth : Nat} (hg : o.guard = none) (hop : o.op = .store ty (.tmp t) (.tmp s)) (hz : szT P ty ≠ 0) (hR : Rel ri m N N lim B H w)
 (hp : a.eval (.tmp t) = conc m (.ptr b off)) (hN : N b) (hc : PT.get b H.bl = some (.cells l cty root ab g birth)) (hl : lim ≤ birth) (hv : a.eval (.tmp s) = conc m v) (hvk : okV m N v) (hn : (cellsOf v).length = szT P ty) (hlen : off + szT P ty ≤ l.length)
 (next : ∀ w', Step ri m N lim B H w m N (wrote H b off (cellsOf v) l cty root ab g birth) w' → wpList P ops Q rest (a.put o.dst undef) w') : wpList P ops Q (o :: rest) a w := by
 refine wpList_plain hg fun K hK => ?_
 have hob := hR.obj b _ hN hc
 have hcs := cellsOf_ok hvk
 have hcc : (a.eval (.tmp s)).cells = (concL m (cellsOf v)).toArray := by
  rw [hv]
  exact conc_cells m _ fun l hl => by rw [hl] at hn; exact hz hn.symm
 have hsz : (a.eval (.tmp s)).cells.size = szT P ty := by rw [hcc]; simp [concL_eq, hn]
 have w3 : off + (cellsOf v).length ≤ l.length := by rw [hn]; exact hlen
 have : (execOp a.eval o).run P w = .ok .skip (w.setCells (m.ad b) (m.off b + off) (concL m (cellsOf v))) := by
  unfold execOp
  rw [hop]
  simp only [hp, conc, Instr.storeAt, Instr.sureAddr, Sem.run_bind, Sem.run_pure, Result.andThen_ok, storeVar, run_sizeOf hz, hcc]
  rw [if_neg (by rw [← hcc, hsz]; simp)]
  simp only [run_wrote (P := P) hob w3 (fun x hx => (hcs x hx).1), Result.andThen_ok]
 unfold Oper.wp
 rw [this]
 exact hK _ _ (next _ (Step.wrote hR hN hc hl w3 hcs))
theorem wpl_rng {t ty kt el : Nat} {b : Pos} {es : List ME} {clock birth : Nat} (hg : o.guard = none) (hop : o.op = .range ty (.tmp t)) (hu : P.underlying ty = some (.map kt el)) (hR : Rel ri m N N lim B H w)
 (hp : a.eval (.tmp t) = conc m (.mp b)) (hN : N b) (hm : PT.get b H.bl = some (.map es clock birth))
 (next : ∀ m' N' w', Step ri m N lim B H w m' N' (H.fresh (.iter (some b) clock 0 H.cnt)) w' → N' H.nx → wpList P ops Q rest (a.put o.dst (conc m' (.ptr H.nx 0))) w') : wpList P ops Q (o :: rest) a w :=
 wpl_h (ho := oRng (.c (.mp b))) (e := e1 t (.mp b)) (v := .ptr H.nx 0) hg (by rw [hop]; exact snd_rng hu (e1_at _ _)) hR (good_e1 hp hN) (fun k => by
  show H.mapOf b (fun _ clock _ => _) _ = _
  rw [mapOf_at hm]) fun m' N' w' s hk => next m' N' w' s hk
theorem wpl_del {t s ty kt el : Nat} {ts : Array TypeId} {h : Sh} {b : Pos} {es : List ME} {clock birth : Nat} {e : ME} (hg : o.guard = none) (hop : o.op = .call { callee := .builtin .delete, args := #[.tmp t, .tmp s], argTypes := ts }) (hty : ts[0]? = some ty) (hu : P.underlying ty = some (.map kt el)) (hk : keyOK P kt = true) (hsh : shT P kt = some h) (hts : s ≠ t)
 (hR : Rel ri m N N lim B H w) (hp : a.eval (.tmp t) = conc m (.mp b)) (hN : N b) (hm : PT.get b H.bl = some (.map es clock birth)) (hl : lim ≤ birth) (hq : a.eval (.tmp s) = conc m e.key) (hqk : okV m N e.key)
 (hn : (es.map (·.born)).Nodup) (huq : ∀ x ∈ es, x.born = e.born → x = e) (hself : eqB h e.key e.key = some true) (hne : ∀ x ∈ es, x.born ≠ e.born → eqB h e.key x.key = some false)
 (next : ∀ m' N' w', Step ri m N lim B H w m' N' (H.setB b (some (.map (es.filter fun x => decide (x.born ≠ e.born)) clock birth))) w' → wpList P ops Q rest (a.put o.dst (conc m' undf)) w') : wpList P ops Q (o :: rest) a w :=
 wpl_h (ho := oDel h (.c (.mp b)) (.c e.key)) (e := e2 t (.mp b) s e.key) (v := undf) hg (by rw [hop]; exact snd_del hty hu hk hsh (e2_fst _ _ _ _) (e2_snd _ _ hts)) hR (good_e2 hp hN hq hqk) (fun k => by
  show chk h e.key (H.mapOf b (fun es clock birth => Bool.rec (motive := fun _ => R Out) (.er [66]) (delK h e.key es (fun es' => k undf (H.setB b (some (.map es' clock birth)))) (.er [67])) (Nat.ble lim birth)) (.er [67])) = _
  rw [chk_at hself, mapOf_at hm, Nat.ble_eq_true_of_le hl]
  exact delK_at _ hn huq hself hne) fun m' N' w' s hk => next m' N' w' s
/-! ### stores into a row whose other views are given up -/
def Clear (H : AH) (b root : Pos) (p q : Nat) : Prop := ∀ ids, PT.get root H.fam = some ids → ∀ x ∈ ids, x ≠ b → ¬ Hit H.bl x p q
theorem wrote_clear {b root : Pos} {off : Nat} {vs l : List AV} {ty ab g birth : Nat} (hc : Clear H b root ab (ab + l.length)) (hl : off + vs.length ≤ l.length) (x : Pos) :
 PT.get x (wrote H b off vs l ty root ab g birth).bl = PT.get x (H.setB b (some (.cells (over off vs l) ty root ab g birth))).bl := by
 rw [setB_bl]
 rcases wrote_bl (H := H) (b := b) (o := off) (vs := vs) (l := l) (ty := ty) (root := root) (ab := ab) (g := g) (birth := birth) x with ⟨e, h⟩ | ⟨e, h, ⟨l', ty', r', ab', g', bi', h1, h2, h3⟩, ids, h4, h5⟩ | ⟨e, h, _⟩
 ·rw [if_pos e, h]
 ·exact absurd ⟨l', ty', r', ab', g', bi', h1, by omega, by omega⟩ (hc ids h4 x h5 e)
 ·rw [if_neg e, h]
theorem Step.stored {b root : Pos} {off : Nat} {vs l : List AV} {ty ab g birth : Nat} (s : Step ri m N lim B H w m' N' (Av.wrote H b off vs l ty root ab g birth) w') (hw : Wf lim H) (hb : PT.get b H.bl = some (.cells l ty root ab g birth)) (hli : lim ≤ birth) (hc : Clear H b root ab (ab + l.length)) (hl : off + vs.length ≤ l.length) :
 Step ri m N lim B H w m' N' (H.setB b (some (.cells (over off vs l) ty root ab g birth))) w' :=
 s.less (by rw [setB_nx, wrote_nx]) (by rw [setB_cnt, wrote_cnt]) (by rw [setB_fam, wrote_fam]) (fun x o h => by rw [wrote_clear hc hl]; exact h) (fun x o hx hlx => by rw [← wrote_clear hc hl]; exact Keep.wrote hw hb hli x o hx hlx)
theorem Clear.set {b root : Pos} {p q : Nat} (h : Clear H b root p q) (o : Option AObj) : Clear (H.setB b o) b root p q := fun ids hi x hx hne hh => by
 rw [setB_fam] at hi
 refine h ids hi x hx hne ?_
 obtain ⟨l, ty, r, ab, g, bi, h1, h2, h3⟩ := hh
 rw [setB_bl, if_neg hne] at h1
 exact ⟨l, ty, r, ab, g, bi, h1, h2, h3⟩
end Av
end
section
set_option linter.unusedSimpArgs false
set_option linter.unusedVariables false
namespace Av
open Go
def Bx (H : AH) (b : Pos) (v : AV) : Prop := ∃ l ty root ab g birth, PT.get b H.bl = some (.cells l ty root ab g birth) ∧ l[0]? = some v
structure RD (h : Sh) (sz lim : Nat) (T : PT AV) (H : AH) (q1 q2 q3 q4 q5 b1 b2 b3 b4 b5 bo bs : Pos) (k now : Int) (es es2 : List ME) (clock birth : Nat) (b : Pos) (off len : Nat) (l : List AV) (ty : Nat) (root : Pos) (ab g rb : Nat) (vr : AV) : Prop where
 t1 : PT.get q1 T = some (.ptr b1 0)
 t2 : PT.get q2 T = some (.ptr b2 0)
 t3 : PT.get q3 T = some (.ptr b3 0)
 t4 : PT.get q4 T = some (.ptr b4 0)
 t5 : PT.get q5 T = some (.ptr b5 0)
 c1 : Bx H b1 (.mp bo)
 c2 : Bx H b2 (.mp bs)
 c3 : Bx H b3 vr
 c4 : Bx H b4 (.int k)
 c5 : Bx H b5 (.int now)
 sl : slOf vr b off len
 mo : PT.get bo H.bl = some (.map es clock birth)
 ms : ∃ c2 bi2, PT.get bs H.bl = some (.map es2 c2 bi2)
 cb : PT.get b H.bl = some (.cells l ty root ab g rb)
 good : GoodE h clock len es2 es
 lb : lim ≤ birth
 lr : lim ≤ rb
 room : off + len * sz ≤ l.length
 ne : bs ≠ bo
 n1 : b ≠ b1
 n2 : b ≠ b2
 n3 : b ≠ b3
 n4 : b ≠ b4
 n5 : b ≠ b5
 k1 : known (H.kill b root ab (ab + l.length)) b1 = true
 k2 : known (H.kill b root ab (ab + l.length)) b2 = true
 k3 : known (H.kill b root ab (ab + l.length)) b3 = true
 k4 : known (H.kill b root ab (ab + l.length)) b4 = true
 k5 : known (H.kill b root ab (ab + l.length)) b5 = true
theorem boxed_ok {T : PT AV} {H : AH} {q : Pos} {k : Pos → AV → R Out} {r : Out} (h : boxed T H (.t q) k = .ok r) : ∃ b v, PT.get q T = some (.ptr b 0) ∧ Bx H b v ∧ k b v = .ok r := by
 rcases AV.unPtr_ok h with ⟨b, o, hp, h⟩ | ⟨_, h⟩
 ·rcases bool_ok h with ⟨h0, h⟩ | ⟨_, h⟩
  ·have : o = 0 := beq_of h0
   subst this
   obtain ⟨l, ty, root, ab, g, birth, x, h1, h2, h3⟩ := read1_ok h
   refine ⟨b, x, ?_, ⟨l, ty, root, ab, g, birth, h1, h2⟩, h3⟩
   have hp : Option.rec (motive := fun _ => AV) undf (fun v => v) (PT.get q T) = .ptr b 0 := hp
   cases hq : PT.get q T with
   | none => rw [hq] at hp; cases hp
   | some v => rw [hq] at hp; cases hp; rfl
  ·cases h
 ·cases h
theorem pne_of {a b : Pos} (h : bnot (a.beq b) = true) : a ≠ b := fun e => by
 subst e
 rw [(Pos.beq_iff a a).2 rfl] at h
 cases h
theorem rngGo_ok {h : Sh} {sz p1 p2 lim : Nat} {T : PT AV} {D : List ADf} {H : AH} {b1 b2 b3 b4 b5 bo bs : Pos} {k now : Int} {es es2 : List ME} {clock birth : Nat} {b : Pos} {off len : Nat} {r : Out}
 (hk : rngGo h sz p1 p2 lim T D H b1 b2 b3 b4 b5 bo bs k now es es2 clock birth b off len = .ok r) :
 ∃ l ty root ab g rb, PT.get b H.bl = some (.cells l ty root ab g rb) ∧ r = .mk .nrm T D (rngH h sz p1 p2 H es es2 (.int k) (.int now) bo b off clock birth l ty root ab g rb) ∧
  lim ≤ birth ∧ lim ≤ rb ∧ off + len * sz ≤ l.length ∧ GoodE h clock len es2 es ∧ bs ≠ bo ∧ (b ≠ b1 ∧ b ≠ b2 ∧ b ≠ b3 ∧ b ≠ b4 ∧ b ≠ b5) ∧ ∀ x ∈ [b1, b2, b3, b4, b5], known (H.kill b root ab (ab + l.length)) x = true := by
 obtain ⟨l, ty, root, ab, g, rb, h1, h2⟩ := cells_ok hk
 rcases bool_ok h2 with ⟨h3, h4⟩ | ⟨_, h4⟩
 ·cases h4
  simp only [band_eq, Bool.and_eq_true] at h3
  obtain ⟨⟨g1, g2, g3, g4, g5⟩, ⟨g6, g7, g8, g9, g10⟩, g11⟩ := h3
  rw [llen_eq] at g3
  exact ⟨l, ty, root, ab, g, rb, h1, rfl, ble_of g1, ble_of g2, ble_of g3, goodE_ok g4, pne_of g5, ⟨pne_of g6, pne_of g7, pne_of g8, pne_of g9, pne_of g10⟩, fun x hx => by
   have := allB_of g11 x hx
   rw [llen_eq] at this
   exact this⟩
 ·cases h4
theorem cRngD_ok {h : Sh} {sz p1 p2 lim : Nat} {q1 q2 q3 q4 q5 : Pos} {hd : Hd} {T : PT AV} {D : List ADf} {H : AH} {r : Out} (hk : cRngD h sz p1 p2 (.t q1) (.t q2) (.t q3) (.t q4) (.t q5) hd lim T D H = .ok r) :
 ∃ b1 b2 b3 b4 b5 bo bs k now es es2 clock birth b off len l ty root ab g rb vr, RD h sz lim T H q1 q2 q3 q4 q5 b1 b2 b3 b4 b5 bo bs k now es es2 clock birth b off len l ty root ab g rb vr ∧
  r = .mk .nrm T D (rngH h sz p1 p2 H es es2 (.int k) (.int now) bo b off clock birth l ty root ab g rb) := by
 obtain ⟨b1, vo, t1, c1, hk⟩ := boxed_ok hk
 obtain ⟨b2, vs, t2, c2, hk⟩ := boxed_ok hk
 obtain ⟨b3, vr, t3, c3, hk⟩ := boxed_ok hk
 obtain ⟨b4, vk, t4, c4, hk⟩ := boxed_ok hk
 obtain ⟨b5, vn, t5, c5, hk⟩ := boxed_ok hk
 rcases AV.unMap_ok (v := vo) hk with ⟨_, hk⟩ | ⟨bo, rfl, hk⟩ | hk
 ·cases hk
 ·rcases AV.unMap_ok (v := vs) hk with ⟨_, hk⟩ | ⟨bs, rfl, hk⟩ | hk
  ·cases hk
  ·rcases AV.unInt_ok (v := vk) hk with ⟨k, rfl, hk⟩ | ⟨_, hk⟩
   ·rcases AV.unInt_ok (v := vn) hk with ⟨now, rfl, hk⟩ | ⟨_, hk⟩
    ·obtain ⟨es, clock, birth, mo, hk⟩ := mapOf_ok hk
     obtain ⟨es2, c2', bi2, ms, hk⟩ := mapOf_ok hk
     rcases AV.unSl_ok (v := vr) hk with ⟨_, hk⟩ | ⟨b, off, len, c, rfl, hk⟩ | ⟨b, off, len, c, rfl, hk⟩ | hk
     ·cases hk
     ·obtain ⟨l, ty, root, ab, g, rb, h1, h2, h3, h4, h5, h6, h7, h8, h9⟩ := rngGo_ok hk
      exact ⟨b1, b2, b3, b4, b5, bo, bs, k, now, es, es2, clock, birth, b, off, len, l, ty, root, ab, g, rb, _, ⟨t1, t2, t3, t4, t5, c1, c2, c3, c4, c5, .inl ⟨c, rfl⟩, mo, ⟨c2', bi2, ms⟩, h1, h6, h3, h4, h5, h7, h8.1, h8.2.1, h8.2.2.1, h8.2.2.2.1, h8.2.2.2.2, h9 _ (by simp), h9 _ (by simp), h9 _ (by simp), h9 _ (by simp), h9 _ (by simp)⟩, h2⟩
     ·obtain ⟨l, ty, root, ab, g, rb, h1, h2, h3, h4, h5, h6, h7, h8, h9⟩ := rngGo_ok hk
      exact ⟨b1, b2, b3, b4, b5, bo, bs, k, now, es, es2, clock, birth, b, off, len, l, ty, root, ab, g, rb, _, ⟨t1, t2, t3, t4, t5, c1, c2, c3, c4, c5, .inr ⟨c, rfl⟩, mo, ⟨c2', bi2, ms⟩, h1, h6, h3, h4, h5, h7, h8.1, h8.2.1, h8.2.2.1, h8.2.2.2.1, h8.2.2.2.2, h9 _ (by simp), h9 _ (by simp), h9 _ (by simp), h9 _ (by simp), h9 _ (by simp)⟩, h2⟩
     ·cases hk
    ·cases hk
   ·cases hk
  ·cases hk
 ·cases hk
/-! ### what is known while entries come -/
def AsIn (H : AH) (b bo root : Pos) (p q : Nat) (X : AH) : Prop := X.fam = H.fam ∧ ∀ x, x.num < H.nx.num → x ≠ bo → x ≠ b → PT.get x X.bl = PT.get x (H.kill b root p q).bl
section
variable {h : Sh} {sz p1 p2 lim : Nat} {T : PT AV} {H X : AH} {q1 q2 q3 q4 q5 b1 b2 b3 b4 b5 bo bs : Pos} {k now : Int} {es es2 : List ME} {clock birth : Nat} {b : Pos} {off len : Nat} {l : List AV} {ty : Nat} {root : Pos} {ab g rb : Nat} {vr : AV} {S : List Nat} {it : Option AObj}
theorem HS_as (hw : Wf lim H) (kv nv : AV) : AsIn H b bo root ab (ab + l.length) (HS h sz p1 p2 H es es2 kv nv bo b off clock birth l ty root ab g rb S it) := by
 refine ⟨HS_fam, fun x hx h1 h2 => ?_⟩
 rw [HS_bl, if_neg (fun e => by subst e; omega), if_neg h1]
 unfold wrote
 rw [setB_bl, if_neg h2, hsL_len]
 simp only [Nat.add_zero]
theorem AsIn.set (a : AsIn H b bo root ab (ab + l.length) X) {x : Pos} (h : x = bo ∨ x = b ∨ H.nx.num ≤ x.num) (o : Option AObj) : AsIn H b bo root ab (ab + l.length) (X.setB x o) := by
 refine ⟨by rw [setB_fam]; exact a.1, fun y hy h1 h2 => ?_⟩
 rw [setB_bl]
 split
 ·rename_i e
  subst e
  rcases h with h | h | h
  ·exact absurd h h1
  ·exact absurd h h2
  ·omega
 ·exact a.2 y hy h1 h2
theorem AsIn.fresh (a : AsIn H b bo root ab (ab + l.length) X) (h : H.nx.num ≤ X.nx.num) (o : AObj) : AsIn H b bo root ab (ab + l.length) (X.fresh o) := by
 refine ⟨by cases X; exact a.1, fun y hy h1 h2 => ?_⟩
 rw [fresh_bl, if_neg (fun e => by subst e; omega)]
 exact a.2 y hy h1 h2
theorem AsIn.clear (hw : Wf lim H) (hm : PT.get bo H.bl = some (.map es clock birth)) (a : AsIn H b bo root ab (ab + l.length) X) (hX : ∃ e c bi, PT.get bo X.bl = some (.map e c bi)) : Clear X b root ab (ab + l.length) := by
 intro ids hi x hx hne hh
 rw [a.1] at hi
 have hlt := (hw.mem root ids hi x hx).1
 obtain ⟨l', ty', r', ab', g', bi', h1, h2, h3⟩ := hh
 have hbo : x ≠ bo := fun e => by
  subst e
  obtain ⟨e, c, bi, hX⟩ := hX
  rw [h1] at hX; cases hX
 rw [a.2 x hlt hbo hne] at h1
 rcases kill_bl H b root ab (ab + l.length) x with ⟨e, _⟩ | ⟨e, hn⟩
 ·rw [e] at h1; cases h1
 ·rw [e] at h1
  exact hn ids hi hx hne ⟨l', ty', r', ab', g', bi', h1, h2, h3⟩
theorem AsIn.box (hw : Wf lim H) (hm : PT.get bo H.bl = some (.map es clock birth)) (a : AsIn H b bo root ab (ab + l.length) X) {x : Pos} {v : AV} (hb : Bx H x v) (hne : b ≠ x) (hk : known (H.kill b root ab (ab + l.length)) x = true) : Bx X x v := by
 obtain ⟨l', ty', r', ab', g', bi', h1, h2⟩ := hb
 have hlt := (hw.lt x _ h1).1
 have hbo : x ≠ bo := fun e => by subst e; rw [h1] at hm; cases hm
 refine ⟨l', ty', r', ab', g', bi', ?_, h2⟩
 rw [a.2 x hlt hbo (fun e => hne e.symm)]
 rcases kill_bl H b root ab (ab + l.length) x with ⟨e, _⟩ | ⟨e, _⟩
 ·unfold known AH.cells at hk
  rw [e] at hk
  cases hk
 ·rw [e]; exact h1
theorem AsIn.map (hw : Wf lim H) (hcb : PT.get b H.bl = some (.cells l ty root ab g rb)) (a : AsIn H b bo root ab (ab + l.length) X) {x : Pos} {c bi : Nat} (hm : PT.get x H.bl = some (.map es2 c bi)) (hne : x ≠ bo) : PT.get x X.bl = some (.map es2 c bi) := by
 have hlt := (hw.lt x _ hm).1
 have hb : x ≠ b := fun e => by subst e; rw [hm] at hcb; cases hcb
 rw [a.2 x hlt hne hb]
 rcases kill_bl H b root ab (ab + l.length) x with ⟨_, _, ⟨l', ty', r', ab', g', bi', h1, _⟩, _⟩ | ⟨e, _⟩
 ·rw [hm] at h1; cases h1
 ·rw [e]; exact hm
theorem hsE_nil : hsE h es es2 [] = es := by unfold hsE; simp
theorem hsL_nil (kv nv : AV) : hsL h sz p1 p2 es es2 kv nv off l [] = l := by
 apply List.ext_getElem?
 intro j
 rw [hsL_get]
 simp
theorem hs_full (hn : (es.map (·.born)).Nodup) (hS : ∀ e ∈ hsE h es es2 S, e.born ∈ S) (kv nv : AV) : (∀ e ∈ es, e.born ∈ S) ∧ hsE h es es2 S = rest h es2 es ∧ hsL h sz p1 p2 es es2 kv nv off l S = updR (plcs h sz p1 off es2 es) (plcs h sz p2 off es2 es) kv nv l 0 := by
 have hall : ∀ e ∈ es, e.born ∈ S := fun e he => by
  by_cases hc : e.born ∈ S
  ·exact hc
  ·exact hS e (List.mem_filter.2 ⟨he, by simp [hc]⟩)
 refine ⟨hall, ?_, ?_⟩
 ·rw [rest_eq]
  unfold hsE
  exact List.filter_congr fun x hx => by simp [hall x hx]
 ·unfold hsL
  have : (es.filter fun e => decide (e.born ∈ S)) = es := List.filter_eq_self.2 fun x hx => by simp [hall x hx]
  rw [this]
end
end Av
end
section
set_option linter.unusedSimpArgs false
set_option linter.unusedVariables false
namespace Av
open Go Go.RowKit
variable {P : Program} {ri : Nat → Option RInfo}
theorem evF_by {dh : Nat → Option DHook} {hd : Hd} (hdh : ∀ g qd, dh g = some qd → DhOK P ri g qd) (hh : HdOK P ri hd) {f : Nat} {fn : Func} {σ : Sl} {c : Code} {ps : List (Option Pos)} {rs' : List ARes} {x : C}
 (h1 : P.funcs[f]? = some fn) (h2 : (fn.name == "runtime.NumGoroutine") = false) (h3 : fn.body = some c) (hσ : okS fn.ntmps σ = true) (hle : fn.params.size + fn.nfree ≤ fn.ntmps) (hps : ps = (List.range (fn.params.size + fn.nfree)).map (slot σ)) (hrs : cmpRess P σ fn.results.toList = some rs') (hcc : CSnd P ri σ fn.ntmps none c x) :
 HkOK P ri f (fun lim xs H => evF (fun _ => some ⟨ps, rs', x⟩) (fun _ => none) dh hd lim f xs H) := fun m N lim B H w xs co hR hx h => by
 subst hps
 obtain ⟨hlen, h⟩ := initT_ok h
 refine ⟨run_callFunc h1 h2 h3, callsIn_of_wp_marks h1 h3 trivial ?_⟩
 have hl : xs.length = fn.params.size + fn.nfree := by simpa using hlen.symm
 have hF0 : FrT m N σ fn.ntmps (initF ((List.range xs.length).map (slot σ)) xs .e) ((concL m xs).toArray ++ Array.replicate (fn.ntmps - (concL m xs).toArray.size) undef) := by
  rw [enter_tmps (concL m xs) fn.ntmps (by rw [concL_len]; omega), concL_len]
  exact FrT.init hσ _ _ hx (FrT.blank m N hσ)
 rw [← hl] at h
 cases hb : x hd lim (initF ((List.range xs.length).map (slot σ)) xs .e) [] H with
 | er e => rw [hb] at h; cases h
 | ok o =>
   rw [hb] at h
   obtain ⟨e, T', D', H'⟩ := o
   refine hcc hR hF0 (D := []) (.inl ⟨rfl, trivial⟩) hh hb fun ex a' w' hp => ?_
   obtain ⟨m1, N1, s1, f1, d1, x1⟩ := hp
   have hD1 : DsL m1 N1 D' a'.defers ∨ ∃ l, D' = [.rnd l] := by
    rcases d1 with ⟨_, d⟩ | d
    ·exact .inl d
    ·exact .inr d
   have go : ∀ u, okO m1 N1 u → finish dh lim rs' T' D' u H' = .ok co → LeavesInM (fc none) 0 P fn a'.tmps (CoR ri m N lim B H w co) a'.defers (md m1 u) w' := fun u hu hk => by
    rcases hD1 with d | ⟨l, rfl⟩
    ·exact fin_ok hdh hrs s1 f1 d hu hk
    ·cases hk
   cases e with
   | nrm => rw [x1.nrm]; exact go none (fun v hv => by cases hv) h
   | ex i => cases h
   | ret => rw [x1.ret]; exact go none (fun v hv => by cases hv) h
   | pan v =>
     obtain ⟨x2, x3⟩ := x1.pan
     rw [x2]
     exact go (some v) (fun v' hv => by cases hv; exact x3) h
end Av
end

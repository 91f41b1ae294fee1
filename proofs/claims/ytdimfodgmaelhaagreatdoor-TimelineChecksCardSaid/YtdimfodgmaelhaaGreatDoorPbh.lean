/- A part of the proof. -/
import Derived.Test.YtdimfodgmaelhaaGreatDoorPbg
import Derived.Test.YtdimfodgmaelhaaGreatDoorPae
set_option linter.all false
section
set_option linter.all false
namespace Go.Proofs.Seat9
open Av Go.RowKit Go.Proofs.Seat4
theorem sz3 : szT Tryz.prog 3 = 1 := by kernel_rfl
theorem sz46 : szT Tryz.prog 46 = 7 := by kernel_rfl
theorem ag3 : isAggT Tryz.prog 3 = false := by kernel_rfl
theorem ag22 : isAggT Tryz.prog 22 = false := by kernel_rfl
def lD (d9 d12 : Bool) (p6 p4 : Nat) (k now : Int) (lc : List AV) : List AV := match d12 with
 | true => over p6 [.int now] (over p4 [.int k] lc)
 | false => match d9 with
   | true => over p4 [.int k] lc
   | false => lc
theorem ev_no (a : Act) (u : Value) (x : Operand) : (a.put none u).eval x = a.eval x := rfl
theorem Step.same {ri : Nat → Option RInfo} {m m' : M} {N N' : Pos → Prop} {lim B : Nat} {H H1 H2 : AH} {w w' : World} (s : Step ri m N lim B H w m' N' H1 w') (e1 : H2.nx = H1.nx) (e2 : H2.cnt = H1.cnt) (e3 : H2.fam = H1.fam) (hs : ∀ x, PT.get x H2.bl = PT.get x H1.bl) : Step ri m N lim B H w m' N' H2 w' :=
 s.less e1 e2 e3 (fun x o h => by rw [← hs]; exact h) (fun x o hx hl => by rw [hs]; exact s.keep x o hx hl)
set_option maxRecDepth 10000 in
set_option maxHeartbeats 2000000 in
theorem reg22 {y87 : TypeId} {z87 : String} {f87 : Array Edge} {y88 : TypeId} {z88 : String} {f88 : Array Edge} {y89 : TypeId} {z89 : String} {f89 : Array Edge} {y90 : TypeId} {z90 : String} {f90 : Array Edge} {y91 : TypeId} {z91 : String} {f91 : Array Edge} {y92 : TypeId} {z92 : String} {f92 : Array Edge} {y93 : TypeId} {z93 : String} {f93 : Array Edge} {y94 : TypeId} {z94 : String} {f94 : Array Edge} {y95 : TypeId} {z95 : String} {f95 : Array Edge} {ys1 : TypeId} {zs1 : String} {fs1 : Array Edge} {y96 : TypeId} {z96 : String} {f96 : Array Edge} {y97 : TypeId} {z97 : String} {f97 : Array Edge} {ys2 : TypeId} {zs2 : String} {fs2 : Array Edge} {ri : Nat → Option RInfo} {m : M} {N : Pos → Prop} {lim B : Nat} {H : AH} {w : World} {a : Act} {Q : Exit → Act → World → Prop} {b b3 b4 b5 : Pos} {vr : AV} {off len i : Nat} {k now : Int} {lc : List AV} {ty : Nat} {root : Pos} {ab g rb : Nat}
 (hm : Tryz.prog.follows .mixedOrders = true) (hdet : detOk #[⟨some 87, .load 22 (.tmp 13), y87, z87, f87, none⟩, ⟨some 88, .move (.tmp 20), y88, z88, f88, none⟩, ⟨some 89, .load 22 (.tmp 13), y89, z89, f89, none⟩, ⟨some 90, .move (.tmp 20), y90, z90, f90, none⟩, ⟨some 91, .load 3 (.tmp 14), y91, z91, f91, none⟩, ⟨some 92, .fieldAddr 76 (.tmp 10) 0, y92, z92, f92, none⟩, ⟨some 93, .load 3 (.tmp 92), y93, z93, f93, none⟩, ⟨some 94, .indexAddr 22 (.tmp 87) (.tmp 88), y94, z94, f94, none⟩, ⟨some 95, .fieldAddr 46 (.tmp 94) 4, y95, z95, f95, none⟩, ⟨none, .store 3 (.tmp 95) (.tmp 91), ys1, zs1, fs1, none⟩, ⟨some 96, .indexAddr 22 (.tmp 89) (.tmp 90), y96, z96, f96, none⟩, ⟨some 97, .fieldAddr 46 (.tmp 96) 6, y97, z97, f97, none⟩, ⟨none, .store 3 (.tmp 97) (.tmp 93), ys2, zs2, fs2, none⟩] = true) (hord : ∃ e ∈ fs2, Region.binds .any e = true ∧ e.on = 9)
 (hR : Rel ri m N N lim B H w) (hsz : a.tmps.size = 119) (e13 : a.eval (.tmp 13) = conc m (.ptr b3 0)) (e14 : a.eval (.tmp 14) = conc m (.ptr b4 0)) (e10 : a.eval (.tmp 10) = conc m (.ptr b5 0)) (e20 : a.eval (.tmp 20) = conc m (.int (.ofNat i)))
 (n3 : N b3) (n4 : N b4) (n5 : N b5) (c3 : Bx H b3 vr) (c4 : Bx H b4 (.int k)) (c5 : Bx H b5 (.int now)) (sl : slOf vr b off len) (hN : N b) (hc : PT.get b H.bl = some (.cells lc ty root ab g rb)) (hl : lim ≤ rb) (clear : Clear H b root ab (ab + lc.length))
 (hi : i < len) (room : off + len * 7 ≤ lc.length) (d3 : b ≠ b3) (d4 : b ≠ b4) (d5 : b ≠ b5)
 (next : ∀ a' w', Step ri m N lim B H w m N (H.setB b (some (.cells (over (off + (i * 7 + 6)) [.int now] (over (off + (i * 7 + 4)) [.int k] lc)) ty root ab g rb))) w' → a'.tmps.size = 119 → a'.defers = a.defers → (∀ t : Nat, (t < 87 ∨ 97 < t) → a'.eval (.tmp t) = a.eval (.tmp t)) → Q .normal a' w')
 {id : Nat} : (Code.region id #[⟨some 87, .load 22 (.tmp 13), y87, z87, f87, none⟩, ⟨some 88, .move (.tmp 20), y88, z88, f88, none⟩, ⟨some 89, .load 22 (.tmp 13), y89, z89, f89, none⟩, ⟨some 90, .move (.tmp 20), y90, z90, f90, none⟩, ⟨some 91, .load 3 (.tmp 14), y91, z91, f91, none⟩, ⟨some 92, .fieldAddr 76 (.tmp 10) 0, y92, z92, f92, none⟩, ⟨some 93, .load 3 (.tmp 92), y93, z93, f93, none⟩, ⟨some 94, .indexAddr 22 (.tmp 87) (.tmp 88), y94, z94, f94, none⟩, ⟨some 95, .fieldAddr 46 (.tmp 94) 4, y95, z95, f95, none⟩, ⟨none, .store 3 (.tmp 95) (.tmp 91), ys1, zs1, fs1, none⟩, ⟨some 96, .indexAddr 22 (.tmp 89) (.tmp 90), y96, z96, f96, none⟩, ⟨some 97, .fieldAddr 46 (.tmp 96) 6, y97, z97, f97, none⟩, ⟨none, .store 3 (.tmp 97) (.tmp 93), ys2, zs2, fs2, none⟩] true).wp Tryz.prog Q a w := by
 have hwf := hR.wf
 have hvr : okV m N vr := by
  obtain ⟨l3, ty3, r3, ab3, g3, bi3, h1, h2⟩ := c3
  have hob := hR.obj b3 _ n3 h1
  obtain ⟨cs, fz, _, _, x3, _⟩ := hob
  exact (x3 _ (List.mem_of_getElem? h2)).2
 have p4 : off + (i * 7 + 4) + 1 ≤ lc.length := by omega
 have p6 : off + (i * 7 + 6) + 1 ≤ lc.length := by omega
 have lo : ∀ d9 d12, (lD d9 d12 (off + (i * 7 + 6)) (off + (i * 7 + 4)) k now lc).length = lc.length := by
  have o1 : (over (off + (i * 7 + 4)) [.int k] lc).length = lc.length := over_length (by simpa using p4)
  intro d9 d12
  cases d12 <;> cases d9 <;> simp only [lD]
  ·exact o1
  ·rw [over_length (by rw [o1]; simpa using p6)]; exact o1
  ·rw [over_length (by rw [o1]; simpa using p6)]; exact o1
 let HX : List AV → AH := fun l' => H.setB b (some (.cells l' ty root ab g rb))
 let S : (Nat → Bool) → World → Prop := fun D w' => (D 12 = true → D 9 = true) ∧ Step ri m N lim B H w m N (HX (lD (D 9) (D 12) (off + (i * 7 + 6)) (off + (i * 7 + 4)) k now lc)) w'
 have atb : ∀ l', PT.get b (HX l').bl = some (.cells l' ty root ab g rb) := fun l' => by show PT.get b (H.setB b _).bl = _; rw [setB_bl, if_pos rfl]
 have atx : ∀ l' x v, b ≠ x → Bx H x v → Bx (HX l') x v := fun l' x v hne hb => by
  obtain ⟨l3, ty3, r3, ab3, g3, bi3, h1, h2⟩ := hb
  exact ⟨l3, ty3, r3, ab3, g3, bi3, by show PT.get x (H.setB b _).bl = _; rw [setB_bl, if_neg (fun e => hne e.symm)]; exact h1, h2⟩
 have SK : ∀ {D : Nat → Bool} {w' : World} {j : Nat}, j ≠ 9 → j ≠ 12 → S D w' → S (fun x => D x || x == j) w' := by
  intro D w' j h9 h12 h
  have e9 : ((9 : Nat) == j) = false := by simpa using fun e => h9 (Eq.symm e)
  have e12 : ((12 : Nat) == j) = false := by simpa using fun e => h12 (Eq.symm e)
  show (_ → _) ∧ _
  simp only [e9, e12, Bool.or_false]
  exact h
 refine wp_region_detG hm hdet S ⟨fun h => ?_, ?_⟩ ?_
 ·exact absurd h (by simp)
 ·refine Step.heap (Step.same (Step.refl hR) ?_ ?_ ?_ fun x => ?_) (fun _ => rfl) rfl rfl rfl rfl
  ·exact setB_nx _ _ _
  ·exact setB_cnt _ _ _
  ·exact setB_fam _ _ _
  ·show PT.get x (H.setB b (some (.cells (lD false false _ _ k now lc) ty root ab g rb))).bl = _
   rw [setB_bl]
   split
   ·rename_i e; subst e; exact hc.symm
   ·rfl
 have ld3 : ∀ {j : Nat} {o : Oper} {a' : Act}, j ≠ 9 → j ≠ 12 → o.guard = none → o.op = .load 22 (.tmp 13) → a'.eval (.tmp 13) = conc m (.ptr b3 0) → DetOpG Tryz.prog #[⟨some 87, .load 22 (.tmp 13), y87, z87, f87, none⟩, ⟨some 88, .move (.tmp 20), y88, z88, f88, none⟩, ⟨some 89, .load 22 (.tmp 13), y89, z89, f89, none⟩, ⟨some 90, .move (.tmp 20), y90, z90, f90, none⟩, ⟨some 91, .load 3 (.tmp 14), y91, z91, f91, none⟩, ⟨some 92, .fieldAddr 76 (.tmp 10) 0, y92, z92, f92, none⟩, ⟨some 93, .load 3 (.tmp 92), y93, z93, f93, none⟩, ⟨some 94, .indexAddr 22 (.tmp 87) (.tmp 88), y94, z94, f94, none⟩, ⟨some 95, .fieldAddr 46 (.tmp 94) 4, y95, z95, f95, none⟩, ⟨none, .store 3 (.tmp 95) (.tmp 91), ys1, zs1, fs1, none⟩, ⟨some 96, .indexAddr 22 (.tmp 89) (.tmp 90), y96, z96, f96, none⟩, ⟨some 97, .fieldAddr 46 (.tmp 96) 6, y97, z97, f97, none⟩, ⟨none, .store 3 (.tmp 97) (.tmp 93), ys2, zs2, fs2, none⟩] S j o a' (conc m vr) := fun h9 h12 hg hop he D w' _ _ _ hS => by
  obtain ⟨l3, ty3, r3, ab3, g3, bi3, h1, h2⟩ := atx _ b3 vr d3 c3
  exact wpl_load1 hg hop Tryz.underlying22 ag22 hS.2.rel he n3 h1 h2 fun _ => wpList_nil ⟨rfl, rfl, SK h9 h12 hS⟩
 have ldi : ∀ {j t : Nat} {o : Oper} {a' : Act} {bx : Pos} {v : AV}, j ≠ 9 → j ≠ 12 → o.guard = none → o.op = .load 3 (.tmp t) → a'.eval (.tmp t) = conc m (.ptr bx 0) → N bx → b ≠ bx → Bx H bx v → DetOpG Tryz.prog #[⟨some 87, .load 22 (.tmp 13), y87, z87, f87, none⟩, ⟨some 88, .move (.tmp 20), y88, z88, f88, none⟩, ⟨some 89, .load 22 (.tmp 13), y89, z89, f89, none⟩, ⟨some 90, .move (.tmp 20), y90, z90, f90, none⟩, ⟨some 91, .load 3 (.tmp 14), y91, z91, f91, none⟩, ⟨some 92, .fieldAddr 76 (.tmp 10) 0, y92, z92, f92, none⟩, ⟨some 93, .load 3 (.tmp 92), y93, z93, f93, none⟩, ⟨some 94, .indexAddr 22 (.tmp 87) (.tmp 88), y94, z94, f94, none⟩, ⟨some 95, .fieldAddr 46 (.tmp 94) 4, y95, z95, f95, none⟩, ⟨none, .store 3 (.tmp 95) (.tmp 91), ys1, zs1, fs1, none⟩, ⟨some 96, .indexAddr 22 (.tmp 89) (.tmp 90), y96, z96, f96, none⟩, ⟨some 97, .fieldAddr 46 (.tmp 96) 6, y97, z97, f97, none⟩, ⟨none, .store 3 (.tmp 97) (.tmp 93), ys2, zs2, fs2, none⟩] S j o a' (conc m v) := fun h9 h12 hg hop he hn hd hb D w' _ _ _ hS => by
  obtain ⟨l3, ty3, r3, ab3, g3, bi3, h1, h2⟩ := atx _ _ _ hd hb
  exact wpl_load1 hg hop Tryz.underlying3 ag3 hS.2.rel he hn h1 h2 fun _ => wpList_nil ⟨rfl, rfl, SK h9 h12 hS⟩
 have mvi : ∀ {j t : Nat} {o : Oper} {a' : Act}, j ≠ 9 → j ≠ 12 → o.guard = none → o.op = .move (.tmp t) → a'.eval (.tmp t) = conc m (.int (.ofNat i)) → DetOpG Tryz.prog #[⟨some 87, .load 22 (.tmp 13), y87, z87, f87, none⟩, ⟨some 88, .move (.tmp 20), y88, z88, f88, none⟩, ⟨some 89, .load 22 (.tmp 13), y89, z89, f89, none⟩, ⟨some 90, .move (.tmp 20), y90, z90, f90, none⟩, ⟨some 91, .load 3 (.tmp 14), y91, z91, f91, none⟩, ⟨some 92, .fieldAddr 76 (.tmp 10) 0, y92, z92, f92, none⟩, ⟨some 93, .load 3 (.tmp 92), y93, z93, f93, none⟩, ⟨some 94, .indexAddr 22 (.tmp 87) (.tmp 88), y94, z94, f94, none⟩, ⟨some 95, .fieldAddr 46 (.tmp 94) 4, y95, z95, f95, none⟩, ⟨none, .store 3 (.tmp 95) (.tmp 91), ys1, zs1, fs1, none⟩, ⟨some 96, .indexAddr 22 (.tmp 89) (.tmp 90), y96, z96, f96, none⟩, ⟨some 97, .fieldAddr 46 (.tmp 96) 6, y97, z97, f97, none⟩, ⟨none, .store 3 (.tmp 97) (.tmp 93), ys2, zs2, fs2, none⟩] S j o a' (conc m (.int (.ofNat i))) := fun h9 h12 hg hop he D w' _ _ _ hS =>
  wpl_mv hg (.inl hop) hS.2.rel he trivial (wpList_nil ⟨rfl, rfl, SK h9 h12 hS⟩)
 have iad : ∀ {j t s : Nat} {o : Oper} {a' : Act}, j ≠ 9 → j ≠ 12 → o.guard = none → o.op = .indexAddr 22 (.tmp t) (.tmp s) → s ≠ t → a'.eval (.tmp t) = conc m vr → a'.eval (.tmp s) = conc m (.int (.ofNat i)) → DetOpG Tryz.prog #[⟨some 87, .load 22 (.tmp 13), y87, z87, f87, none⟩, ⟨some 88, .move (.tmp 20), y88, z88, f88, none⟩, ⟨some 89, .load 22 (.tmp 13), y89, z89, f89, none⟩, ⟨some 90, .move (.tmp 20), y90, z90, f90, none⟩, ⟨some 91, .load 3 (.tmp 14), y91, z91, f91, none⟩, ⟨some 92, .fieldAddr 76 (.tmp 10) 0, y92, z92, f92, none⟩, ⟨some 93, .load 3 (.tmp 92), y93, z93, f93, none⟩, ⟨some 94, .indexAddr 22 (.tmp 87) (.tmp 88), y94, z94, f94, none⟩, ⟨some 95, .fieldAddr 46 (.tmp 94) 4, y95, z95, f95, none⟩, ⟨none, .store 3 (.tmp 95) (.tmp 91), ys1, zs1, fs1, none⟩, ⟨some 96, .indexAddr 22 (.tmp 89) (.tmp 90), y96, z96, f96, none⟩, ⟨some 97, .fieldAddr 46 (.tmp 96) 6, y97, z97, f97, none⟩, ⟨none, .store 3 (.tmp 97) (.tmp 93), ys2, zs2, fs2, none⟩] S j o a' (conc m (.ptr b (off + i * 7))) := fun h9 h12 hg hop hts he hs D w' _ _ _ hS => by
  have := wpl_iad (Q := DetPost (S (fun x => D x || x == _)) _ _ (conc m (.ptr b (off + i * 7)))) (ops := #[⟨some 87, .load 22 (.tmp 13), y87, z87, f87, none⟩, ⟨some 88, .move (.tmp 20), y88, z88, f88, none⟩, ⟨some 89, .load 22 (.tmp 13), y89, z89, f89, none⟩, ⟨some 90, .move (.tmp 20), y90, z90, f90, none⟩, ⟨some 91, .load 3 (.tmp 14), y91, z91, f91, none⟩, ⟨some 92, .fieldAddr 76 (.tmp 10) 0, y92, z92, f92, none⟩, ⟨some 93, .load 3 (.tmp 92), y93, z93, f93, none⟩, ⟨some 94, .indexAddr 22 (.tmp 87) (.tmp 88), y94, z94, f94, none⟩, ⟨some 95, .fieldAddr 46 (.tmp 94) 4, y95, z95, f95, none⟩, ⟨none, .store 3 (.tmp 95) (.tmp 91), ys1, zs1, fs1, none⟩, ⟨some 96, .indexAddr 22 (.tmp 89) (.tmp 90), y96, z96, f96, none⟩, ⟨some 97, .fieldAddr 46 (.tmp 96) 6, y97, z97, f97, none⟩, ⟨none, .store 3 (.tmp 97) (.tmp 93), ys2, zs2, fs2, none⟩]) (rest := []) hg hop Tryz.underlying22 (by rw [sz46]; decide) hts hS.2.rel he hvr sl hs hi fun _ => wpList_nil ⟨rfl, rfl, SK h9 h12 hS⟩
  exact this
 have fad : ∀ {j t fi fo : Nat} {o : Oper} {a' : Act} {bx : Pos} {ox tt : Nat} {fs : Array Field} {fd : Field}, j ≠ 9 → j ≠ 12 → o.guard = none → o.op = .fieldAddr tt (.tmp t) fi → Tryz.prog.underlying tt = some (.struct fs) → fs[fi]? = some fd → fd.type = 3 → fd.offset = fo → a'.eval (.tmp t) = conc m (.ptr bx ox) → N bx → DetOpG Tryz.prog #[⟨some 87, .load 22 (.tmp 13), y87, z87, f87, none⟩, ⟨some 88, .move (.tmp 20), y88, z88, f88, none⟩, ⟨some 89, .load 22 (.tmp 13), y89, z89, f89, none⟩, ⟨some 90, .move (.tmp 20), y90, z90, f90, none⟩, ⟨some 91, .load 3 (.tmp 14), y91, z91, f91, none⟩, ⟨some 92, .fieldAddr 76 (.tmp 10) 0, y92, z92, f92, none⟩, ⟨some 93, .load 3 (.tmp 92), y93, z93, f93, none⟩, ⟨some 94, .indexAddr 22 (.tmp 87) (.tmp 88), y94, z94, f94, none⟩, ⟨some 95, .fieldAddr 46 (.tmp 94) 4, y95, z95, f95, none⟩, ⟨none, .store 3 (.tmp 95) (.tmp 91), ys1, zs1, fs1, none⟩, ⟨some 96, .indexAddr 22 (.tmp 89) (.tmp 90), y96, z96, f96, none⟩, ⟨some 97, .fieldAddr 46 (.tmp 96) 6, y97, z97, f97, none⟩, ⟨none, .store 3 (.tmp 97) (.tmp 93), ys2, zs2, fs2, none⟩] S j o a' (conc m (.ptr bx (ox + fo))) := fun h9 h12 hg hop hu hf ht hfo he hn D w' _ _ _ hS => by
  subst hfo
  exact wpl_fad hg hop hu hf (by rw [ht, sz3]; decide) hS.2.rel he hn (wpList_nil ⟨rfl, rfl, SK h9 h12 hS⟩)
 have st1 : ∀ {o : Oper} {a' : Act}, o.guard = none → o.op = .store 3 (.tmp 95) (.tmp 91) → a'.eval (.tmp 95) = conc m (.ptr b (off + i * 7 + 4)) → a'.eval (.tmp 91) = conc m (.int k) → DetOpG Tryz.prog #[⟨some 87, .load 22 (.tmp 13), y87, z87, f87, none⟩, ⟨some 88, .move (.tmp 20), y88, z88, f88, none⟩, ⟨some 89, .load 22 (.tmp 13), y89, z89, f89, none⟩, ⟨some 90, .move (.tmp 20), y90, z90, f90, none⟩, ⟨some 91, .load 3 (.tmp 14), y91, z91, f91, none⟩, ⟨some 92, .fieldAddr 76 (.tmp 10) 0, y92, z92, f92, none⟩, ⟨some 93, .load 3 (.tmp 92), y93, z93, f93, none⟩, ⟨some 94, .indexAddr 22 (.tmp 87) (.tmp 88), y94, z94, f94, none⟩, ⟨some 95, .fieldAddr 46 (.tmp 94) 4, y95, z95, f95, none⟩, ⟨none, .store 3 (.tmp 95) (.tmp 91), ys1, zs1, fs1, none⟩, ⟨some 96, .indexAddr 22 (.tmp 89) (.tmp 90), y96, z96, f96, none⟩, ⟨some 97, .fieldAddr 46 (.tmp 96) 6, y97, z97, f97, none⟩, ⟨none, .store 3 (.tmp 97) (.tmp 93), ys2, zs2, fs2, none⟩] S 9 o a' undef := by
  intro o a' hg hop he hv D w' h9 _ _ hS
  have h12 : D 12 = false := by
   cases hd : D 12 with
   | false => rfl
   | true => rw [hS.1 hd] at h9; cases h9
  have s0 : Step ri m N lim B H w m N (HX lc) w' := by have := hS.2; rw [h9, h12] at this; exact this
  refine wpl_store hg hop (by rw [sz3]; decide) s0.rel he hN (atb lc) hl hv trivial (by rw [sz3]; rfl) (by rw [sz3]; omega) fun w2 s1 => wpList_nil ⟨rfl, rfl, fun _ => by simp, ?_⟩
  have s2 := s0.trans (s1.stored s0.rel.wf (atb lc) hl (clear.set _) (by show _ + 1 ≤ _; omega))
  show Step ri m N lim B H w m N (HX (lD (D 9 || 9 == 9) (D 12 || 12 == 9) _ _ k now lc)) w2
  rw [h12, h9]
  refine Step.same s2 ?_ ?_ ?_ fun x => ?_
  ·show (H.setB b _).nx = ((H.setB b _).setB b _).nx; simp only [setB_nx]
  ·show (H.setB b _).cnt = ((H.setB b _).setB b _).cnt; simp only [setB_cnt]
  ·show (H.setB b _).fam = ((H.setB b _).setB b _).fam; simp only [setB_fam]
  ·show PT.get x (H.setB b (some (.cells (over (off + (i * 7 + 4)) [.int k] lc) ty root ab g rb))).bl = PT.get x ((H.setB b _).setB b (some (.cells (over (off + i * 7 + 4) [.int k] lc) ty root ab g rb))).bl
   rw [setB_bl, setB_bl, setB_bl, Nat.add_assoc]
   split <;> rfl
 have st2 : ∀ {o : Oper} {a' : Act}, o.after = fs2 → o.guard = none → o.op = .store 3 (.tmp 97) (.tmp 93) → a'.eval (.tmp 97) = conc m (.ptr b (off + i * 7 + 6)) → a'.eval (.tmp 93) = conc m (.int now) → DetOpG Tryz.prog #[⟨some 87, .load 22 (.tmp 13), y87, z87, f87, none⟩, ⟨some 88, .move (.tmp 20), y88, z88, f88, none⟩, ⟨some 89, .load 22 (.tmp 13), y89, z89, f89, none⟩, ⟨some 90, .move (.tmp 20), y90, z90, f90, none⟩, ⟨some 91, .load 3 (.tmp 14), y91, z91, f91, none⟩, ⟨some 92, .fieldAddr 76 (.tmp 10) 0, y92, z92, f92, none⟩, ⟨some 93, .load 3 (.tmp 92), y93, z93, f93, none⟩, ⟨some 94, .indexAddr 22 (.tmp 87) (.tmp 88), y94, z94, f94, none⟩, ⟨some 95, .fieldAddr 46 (.tmp 94) 4, y95, z95, f95, none⟩, ⟨none, .store 3 (.tmp 95) (.tmp 91), ys1, zs1, fs1, none⟩, ⟨some 96, .indexAddr 22 (.tmp 89) (.tmp 90), y96, z96, f96, none⟩, ⟨some 97, .fieldAddr 46 (.tmp 96) 6, y97, z97, f97, none⟩, ⟨none, .store 3 (.tmp 97) (.tmp 93), ys2, zs2, fs2, none⟩] S 12 o a' undef := by
  intro o a' ha hg hop he hv D w' h12 _ haf hS
  have h9 : D 9 = true := by
   obtain ⟨e, he1, he2, he3⟩ := hord
   have := haf e (by rw [ha]; exact he1) he2
   rw [he3] at this
   exact this
  have l1 := lo true false
  have s0 : Step ri m N lim B H w m N (HX (lD true false (off + (i * 7 + 6)) (off + (i * 7 + 4)) k now lc)) w' := by have := hS.2; rw [h9, h12] at this; exact this
  refine wpl_store hg hop (by rw [sz3]; decide) s0.rel he hN (atb _) hl hv trivial (by rw [sz3]; rfl) (by rw [sz3, l1]; omega) fun w2 s1 => wpList_nil ⟨rfl, rfl, fun _ => by simp [h9], ?_⟩
  have s2 := s0.trans (s1.stored s0.rel.wf (atb _) hl (by rw [l1]; exact clear.set _) (by show _ + 1 ≤ _; rw [l1]; omega))
  show Step ri m N lim B H w m N (HX (lD (D 9 || 9 == 12) (D 12 || 12 == 12) _ _ k now lc)) w2
  rw [h9, h12]
  refine Step.same s2 ?_ ?_ ?_ fun x => ?_
  ·show (H.setB b _).nx = ((H.setB b _).setB b _).nx; simp only [setB_nx]
  ·show (H.setB b _).cnt = ((H.setB b _).setB b _).cnt; simp only [setB_cnt]
  ·show (H.setB b _).fam = ((H.setB b _).setB b _).fam; simp only [setB_fam]
  ·show PT.get x (H.setB b (some (.cells (over (off + (i * 7 + 6)) [.int now] (over (off + (i * 7 + 4)) [.int k] lc)) ty root ab g rb))).bl = PT.get x ((H.setB b _).setB b (some (.cells (over (off + i * 7 + 6) [.int now] (over (off + (i * 7 + 4)) [.int k] lc)) ty root ab g rb))).bl
   rw [setB_bl, setB_bl, setB_bl, Nat.add_assoc off (i * 7) 6]
   split <;> rfl
 refine wpDetG_cons (ld3 (by decide) (by decide) rfl rfl e13) ?_
 refine wpDetG_cons (mvi (by decide) (by decide) rfl rfl (by rw [ev_ne (by decide)]; exact e20)) ?_
 refine wpDetG_cons (ld3 (by decide) (by decide) rfl rfl (by rw [ev_ne (by decide), ev_ne (by decide)]; exact e13)) ?_
 refine wpDetG_cons (mvi (by decide) (by decide) rfl rfl (by rw [ev_ne (by decide), ev_ne (by decide), ev_ne (by decide)]; exact e20)) ?_
 refine wpDetG_cons (ldi (t := 14) (by decide) (by decide) rfl rfl (by simp only [ev_ne, ne_eq]; simp [ev_ne, e14]) n4 d4 c4) ?_
 refine wpDetG_cons (fad (t := 10) (ox := 0) (fo := 0) (by decide) (by decide) rfl rfl Tryz.underlying76 rfl rfl rfl (by simp [ev_ne, e10]) n5) ?_
 refine wpDetG_cons (ldi (t := 92) (by decide) (by decide) rfl rfl (by simp [ev_same, hsz, Go.Proofs.Seat4.put_size]) n5 d5 c5) ?_
 refine wpDetG_cons (iad (by decide) (by decide) rfl rfl (by decide) (by simp [ev_ne, ev_no, ev_same, hsz, Go.Proofs.Seat4.put_size]) (by simp [ev_ne, ev_no, ev_same, hsz, Go.Proofs.Seat4.put_size])) ?_
 refine wpDetG_cons (fad (t := 94) (fo := 4) (by decide) (by decide) rfl rfl Tryz.underlying46 rfl rfl rfl (by simp [ev_ne, ev_no, ev_same, hsz, Go.Proofs.Seat4.put_size]; rfl) hN) ?_
 refine wpDetG_cons (st1 rfl rfl (by simp [ev_ne, ev_no, ev_same, hsz, Go.Proofs.Seat4.put_size]) (by simp [ev_ne, ev_no, ev_same, hsz, Go.Proofs.Seat4.put_size])) ?_
 refine wpDetG_cons (iad (by decide) (by decide) rfl rfl (by decide) (by simp [ev_ne, ev_no, ev_same, hsz, Go.Proofs.Seat4.put_size]) (by simp [ev_ne, ev_no, ev_same, hsz, Go.Proofs.Seat4.put_size])) ?_
 refine wpDetG_cons (fad (t := 96) (fo := 6) (by decide) (by decide) rfl rfl Tryz.underlying46 rfl rfl rfl (by simp [ev_ne, ev_no, ev_same, hsz, Go.Proofs.Seat4.put_size]; rfl) hN) ?_
 refine wpDetG_cons (st2 rfl rfl rfl (by simp [ev_ne, ev_no, ev_same, hsz, Go.Proofs.Seat4.put_size]) (by simp [ev_ne, ev_no, ev_same, hsz, Go.Proofs.Seat4.put_size])) ?_
 intro D w' hD hS
 have g9 := hD 9 (by simp)
 have g12 := hD 12 (by simp)
 have s := hS.2
 rw [g9, g12] at s
 refine next _ w' s ?_ ?_ fun t ht => ?_
 ·simp [Go.Proofs.Seat4.put_size, hsz]
 ·simp [Go.Proofs.Seat4.put_defers]
 ·have hne : ∀ s : Nat, 87 ≤ s → s ≤ 97 → t ≠ s := fun s h1 h2 => by omega
  simp only [ev_no, ev_ne (hne 87 (by omega) (by omega)), ev_ne (hne 88 (by omega) (by omega)), ev_ne (hne 89 (by omega) (by omega)), ev_ne (hne 90 (by omega) (by omega)), ev_ne (hne 91 (by omega) (by omega)), ev_ne (hne 92 (by omega) (by omega)), ev_ne (hne 93 (by omega) (by omega)), ev_ne (hne 94 (by omega) (by omega)), ev_ne (hne 95 (by omega) (by omega)), ev_ne (hne 96 (by omega) (by omega)), ev_ne (hne 97 (by omega) (by omega))]
end Go.Proofs.Seat9
end
section
set_option linter.all false
namespace Go.Proofs.Seat9
open Av Go.RowKit Go.Proofs.Seat4
theorem ag82 : isAggT Tryz.prog 82 = false := by kernel_rfl
theorem ag83 : isAggT Tryz.prog 83 = false := by kernel_rfl
theorem ag90 : isAggT Tryz.prog 90 = true := by kernel_rfl
theorem sz90 : szT Tryz.prog 90 = 6 := by kernel_rfl
theorem ky90 : keyOK Tryz.prog 90 = true := by kernel_rfl
theorem sh90 : shT Tryz.prog 90 = some (.agg [.i, .i, .i, .i, .i, .b]) := by kernel_rfl
theorem zv4 : zeroV Tryz.prog 4 = some (.bool false) := by kernel_rfl
theorem zc90 : zeroC Tryz.prog 90 = some [.int (.ofNat 0), .int (.ofNat 0), .int (.ofNat 0), .int (.ofNat 0), .int (.ofNat 0), .bool false] := by kernel_rfl
theorem frT_ev {m : M} {N : Pos → Prop} {σ : Sl} {n t : Nat} {q : Pos} {v : AV} {T : PT AV} {a : Act} (hF : FrT m N σ n T a.tmps) (hs : slot σ t = some q) (hq : PT.get q T = some v) : a.eval (.tmp t) = conc m v ∧ okV m N v := by
 refine ⟨?_, hF.ok q v hq⟩
 have := hF.val t q hs
 rw [hq] at this
 exact this
theorem nodup_len : ∀ {l r : List Nat}, l.Nodup → (∀ x ∈ l, x ∈ r) → l.length ≤ r.length
 | [], r, _, _ => Nat.zero_le _
 | a :: l, r, hn, hs => by
   rw [List.nodup_cons] at hn
   have h1 : a ∈ r := hs a (by simp)
   have h2 := nodup_len (r := r.erase a) hn.2 fun x hx => (List.mem_erase_of_ne (fun e => hn.1 (by rw [← e]; exact hx))).2 (hs x (by simp [hx]))
   rw [List.length_erase_of_mem h1] at h2
   have := List.length_pos_of_mem h1
   simp only [List.length_cons]
   omega
theorem num_sucN : ∀ (n : Nat) (p : Pos), (sucN n p).num = p.num + n
 | 0, p => rfl
 | n + 1, p => by show (sucN n p).succ.num = _; rw [Pos.num_succ, num_sucN n p]; omega
theorem bx_ok {ri : Nat → Option RInfo} {m : M} {N : Pos → Prop} {lim B : Nat} {H : AH} {w : World} (hR : Rel ri m N N lim B H w) {b : Pos} {v : AV} (hN : N b) (h : Bx H b v) : okV m N v := by
 obtain ⟨l3, ty3, r3, ab3, g3, bi3, h1, h2⟩ := h
 have hob := hR.obj b _ hN h1
 obtain ⟨cs, fz, _, _, x3, _⟩ := hob
 exact (x3 _ (List.mem_of_getElem? h2)).2
abbrev SH : Sh := .agg [.i, .i, .i, .i, .i, .b]
theorem map_ne {H : AH} {b bo root : Pos} {es : List ME} {clock birth ty ab g rb : Nat} {l : List AV} (h1 : PT.get bo H.bl = some (.map es clock birth)) (h2 : PT.get b H.bl = some (.cells l ty root ab g rb)) : b ≠ bo := fun e => by subst e; rw [h1] at h2; cases h2
theorem done_step {ri : Nat → Option RInfo} {m m1 : M} {N N1 : Pos → Prop} {lim B : Nat} {H : AH} {w w2 : World} {T : PT AV} {q1 q2 q3 q4 q5 b1 b2 b3 b4 b5 bo bs : Pos} {k now : Int} {es es2 : List ME} {clock birth : Nat} {b : Pos} {off len : Nat} {l : List AV} {ty : Nat} {root : Pos} {ab g rb : Nat} {vr : AV} {S : List Nat} {it : Option AObj}
 (hw : Wf lim H) (G : RD SH 7 lim T H q1 q2 q3 q4 q5 b1 b2 b3 b4 b5 bo bs k now es es2 clock birth b off len l ty root ab g rb vr) (nd : S.Nodup) (sub : ∀ x ∈ S, x ∈ es.map (·.born)) (hall : ∀ e ∈ hsE SH es es2 S, e.born ∈ S)
 (s : Step ri m N lim B H w m1 N1 (HS SH 7 4 6 H es es2 (.int k) (.int now) bo b off clock birth l ty root ab g rb S it) w2) : Step ri m N lim B H w m1 N1 (rngH SH 7 4 6 H es es2 (.int k) (.int now) bo b off clock birth l ty root ab g rb) w2 := by
 obtain ⟨hin, hE, hL⟩ := hs_full (sz := 7) (p1 := 4) (p2 := 6) (off := off) (l := l) G.good.nd hall (.int k) (.int now)
 have hlen : S.length = es.length := by
  have h1 : S.length ≤ (es.map (·.born)).length := nodup_len nd sub
  have h2 : (es.map (·.born)).length ≤ S.length := nodup_len G.good.nd fun x hx => by
   obtain ⟨e, he, rfl⟩ := List.mem_map.1 hx
   exact hin e he
  simp at h1 h2
  omega
 have hbb : b ≠ bo := map_ne G.mo G.cb
 have hbn : b ≠ H.nx := fun e => by have := (hw.lt b _ G.cb).1; rw [e] at this; omega
 have hon : bo ≠ H.nx := fun e => by have := (hw.lt bo _ G.mo).1; rw [e] at this; omega
 have hbl : ∀ x, PT.get x (rngH SH 7 4 6 H es es2 (.int k) (.int now) bo b off clock birth l ty root ab g rb).bl = if x = bo then some (.map (rest SH es2 es) clock birth) else if x = b then some (.cells (updR (plcs SH 7 4 off es2 es) (plcs SH 7 6 off es2 es) (.int k) (.int now) l 0) ty root ab g rb) else PT.get x (H.kill b root ab (ab + l.length)).bl := by
  intro x
  unfold rngH
  rw [(bump_eq _ _).1, setB_bl, setB_bl, llen_eq]
  rfl
 have keepK : Keep lim H (rngH SH 7 4 6 H es es2 (.int k) (.int now) bo b off clock birth l ty root ab g rb) := fun x ox hx hlx => by
  have hK := HS_keep (h := SH) (sz := 7) (p1 := 4) (p2 := 6) (es2 := es2) (k := .int k) (now := .int now) (o := off) (S := S) (it := it) hw G.cb G.lr G.mo G.lb x ox hx hlx
  have hxn : x ≠ H.nx := fun e => by have := (hw.lt x _ hx).1; rw [e] at this; omega
  have hxo : x ≠ bo := fun e => by subst e; rw [G.mo] at hx; cases hx; have := G.lb; simp only [AObj.birth] at hlx; omega
  have hxb : x ≠ b := fun e => by subst e; rw [G.cb] at hx; cases hx; have := G.lr; simp only [AObj.birth] at hlx; omega
  rw [hbl, if_neg hxo, if_neg hxb]
  rw [(HS_as (h := SH) (sz := 7) (p1 := 4) (p2 := 6) (es2 := es2) (off := off) (S := S) (it := it) (bo := bo) (b := b) (l := l) (ty := ty) (root := root) (ab := ab) (g := g) (rb := rb) (es := es) (clock := clock) (birth := birth) hw (.int k) (.int now)).2 x (hw.lt x _ hx).1 hxo hxb] at hK
  exact hK
 refine s.less ?_ ?_ ?_ (fun x ox hx => ?_) keepK
 ·unfold rngH
  rw [(bump_eq _ _).2.2.1, setB_nx, setB_nx, kill_nx, HS_nx, hlen]
 ·unfold rngH
  rw [(bump_eq _ _).2.2.2, setB_cnt, setB_cnt, kill_cnt, HS_cnt, hlen]
 ·unfold rngH
  rw [(bump_eq _ _).2.1, setB_fam, setB_fam, kill_fam, HS_fam]
 ·rw [hbl] at hx
  split at hx
  ·rename_i e
   subst e
   rw [HS_bo hon, hE]; exact hx
  ·rename_i h1
   split at hx
   ·rename_i e
    subst e
    rw [HS_b hbn hbb, hL]; exact hx
   ·rename_i h2
    have hlt : x.num < H.nx.num := by
     rcases kill_bl H b root ab (ab + l.length) x with ⟨e, _⟩ | ⟨e, _⟩
     ·rw [e] at hx; cases hx
     ·rw [e] at hx; exact (hw.lt x _ hx).1
    rw [(HS_as (h := SH) (sz := 7) (p1 := 4) (p2 := 6) (es2 := es2) (off := off) (S := S) (it := it) (bo := bo) (b := b) (l := l) (ty := ty) (root := root) (ab := ab) (g := g) (rb := rb) (es := es) (clock := clock) (birth := birth) hw (.int k) (.int now)).2 x hlt h1 h2]
    exact hx
theorem close_step {ri : Nat → Option RInfo} {m m1 : M} {N N1 : Pos → Prop} {lim B : Nat} {H : AH} {w w2 : World} {T : PT AV} {q1 q2 q3 q4 q5 b1 b2 b3 b4 b5 bo bs : Pos} {k now : Int} {es es2 : List ME} {clock birth : Nat} {b : Pos} {off len : Nat} {l : List AV} {ty : Nat} {root : Pos} {ab g rb : Nat} {vr : AV} {S : List Nat} {it : AObj} {Z : AH}
 (hw : Wf lim H) (G : RD SH 7 lim T H q1 q2 q3 q4 q5 b1 b2 b3 b4 b5 bo bs k now es es2 clock birth b off len l ty root ab g rb vr) (s : Step ri m N lim B H w m1 N1 Z w2)
 (z1 : PT.get H.nx Z.bl = some it) (z2 : PT.get bo Z.bl = some (.map (hsE SH es es2 S) clock birth)) (z3 : PT.get b Z.bl = some (.cells (hsL SH 7 4 6 es es2 (.int k) (.int now) off l S) ty root ab g rb)) (z4 : Z.fam = H.fam ∧ ∀ x, x.num < H.nx.num → x ≠ bo → x ≠ b → ∀ o, PT.get x (H.kill b root ab (ab + l.length)).bl = some o → PT.get x Z.bl = some o) (z5 : Z.nx = sucN (S.length + 1) H.nx) (z6 : Z.cnt = H.cnt + (S.length + 1)) :
 Step ri m N lim B H w m1 N1 (HS SH 7 4 6 H es es2 (.int k) (.int now) bo b off clock birth l ty root ab g rb S (some it)) w2 := by
 have hbb : b ≠ bo := map_ne G.mo G.cb
 have hbn : b ≠ H.nx := fun e => by have := (hw.lt b _ G.cb).1; rw [e] at this; omega
 have hon : bo ≠ H.nx := fun e => by have := (hw.lt bo _ G.mo).1; rw [e] at this; omega
 refine s.less (by rw [HS_nx, z5]) (by rw [HS_cnt, z6]) (by rw [HS_fam, z4.1]) (fun x ox hx => ?_) (HS_keep hw G.cb G.lr G.mo G.lb)
 by_cases h1 : x = H.nx
 ·subst h1; rw [HS_it] at hx; rw [z1]; exact hx
 ·by_cases h2 : x = bo
  ·subst h2; rw [HS_bo hon] at hx; rw [z2]; exact hx
  ·by_cases h3 : x = b
   ·subst h3; rw [HS_b hbn hbb] at hx; rw [z3]; exact hx
   ·have hlt := (hw.lt x _ (HS_old G.cb h1 h2 h3 hx).1).1
    refine z4.2 x hlt h2 h3 _ ?_
    rw [(HS_as (h := SH) (sz := 7) (p1 := 4) (p2 := 6) (es2 := es2) (off := off) (S := S) (it := some it) (bo := bo) (b := b) (l := l) (ty := ty) (root := root) (ab := ab) (g := g) (rb := rb) (es := es) (clock := clock) (birth := birth) hw (.int k) (.int now)).2 x hlt h2 h3] at hx
    exact hx
set_option maxRecDepth 10000 in
set_option maxHeartbeats 4000000 in
theorem rng_snd {y76 : TypeId} {z76 : String} {f76 : Array Edge} {y77 : TypeId} {z77 : String} {f77 : Array Edge} {y78 : TypeId} {z78 : String} {f78 : Array Edge} {y79 : TypeId} {z79 : String} {f79 : Array Edge} {y80 : TypeId} {z80 : String} {f80 : Array Edge} {y81 : TypeId} {z81 : String} {f81 : Array Edge} {y82 : TypeId} {z82 : String} {f82 : Array Edge} {y19 : TypeId} {z19 : String} {f19 : Array Edge} {ys0 : TypeId} {zs0 : String} {fs0 : Array Edge} {y20 : TypeId} {z20 : String} {f20 : Array Edge} {y83 : TypeId} {z83 : String} {f83 : Array Edge} {y84 : TypeId} {z84 : String} {f84 : Array Edge} {y85 : TypeId} {z85 : String} {f85 : Array Edge} {y86 : TypeId} {z86 : String} {f86 : Array Edge} {y98 : TypeId} {z98 : String} {f98 : Array Edge} {y99 : TypeId} {z99 : String} {f99 : Array Edge} {ys3 : TypeId} {zs3 : String} {fs3 : Array Edge} {y87 : TypeId} {z87 : String} {f87 : Array Edge} {y88 : TypeId} {z88 : String} {f88 : Array Edge} {y89 : TypeId} {z89 : String} {f89 : Array Edge} {y90 : TypeId} {z90 : String} {f90 : Array Edge} {y91 : TypeId} {z91 : String} {f91 : Array Edge} {y92 : TypeId} {z92 : String} {f92 : Array Edge} {y93 : TypeId} {z93 : String} {f93 : Array Edge} {y94 : TypeId} {z94 : String} {f94 : Array Edge} {y95 : TypeId} {z95 : String} {f95 : Array Edge} {ys1 : TypeId} {zs1 : String} {fs1 : Array Edge} {y96 : TypeId} {z96 : String} {f96 : Array Edge} {y97 : TypeId} {z97 : String} {f97 : Array Edge} {ys2 : TypeId} {zs2 : String} {fs2 : Array Edge} {ri : Nat → Option RInfo} {σ : Sl} {q1 q2 q3 q4 q5 : Pos} (s12 : slot σ 12 = some q1) (s15 : slot σ 15 = some q2) (s13 : slot σ 13 = some q3) (s14 : slot σ 14 = some q4) (s10 : slot σ 10 = some q5)
 (off19 : slot σ 19 = none) (off20 : slot σ 20 = none) (offs : ∀ t : Nat, 76 ≤ t → t ≤ 99 → slot σ t = none)
 (hmo : Tryz.prog.follows .mixedOrders = true) (hdet : detOk #[⟨some 87, .load 22 (.tmp 13), y87, z87, f87, none⟩, ⟨some 88, .move (.tmp 20), y88, z88, f88, none⟩, ⟨some 89, .load 22 (.tmp 13), y89, z89, f89, none⟩, ⟨some 90, .move (.tmp 20), y90, z90, f90, none⟩, ⟨some 91, .load 3 (.tmp 14), y91, z91, f91, none⟩, ⟨some 92, .fieldAddr 76 (.tmp 10) 0, y92, z92, f92, none⟩, ⟨some 93, .load 3 (.tmp 92), y93, z93, f93, none⟩, ⟨some 94, .indexAddr 22 (.tmp 87) (.tmp 88), y94, z94, f94, none⟩, ⟨some 95, .fieldAddr 46 (.tmp 94) 4, y95, z95, f95, none⟩, ⟨none, .store 3 (.tmp 95) (.tmp 91), ys1, zs1, fs1, none⟩, ⟨some 96, .indexAddr 22 (.tmp 89) (.tmp 90), y96, z96, f96, none⟩, ⟨some 97, .fieldAddr 46 (.tmp 96) 6, y97, z97, f97, none⟩, ⟨none, .store 3 (.tmp 97) (.tmp 93), ys2, zs2, fs2, none⟩] = true) (hord : ∃ e ∈ fs2, Region.binds .any e = true ∧ e.on = 9) {i18 i19 i20 i21 i22 i23 : Nat} :
 CSnd Tryz.prog ri σ 119 none (Code.seq (Code.region i18 #[⟨some 76, .load 82 (.tmp 12), y76, z76, f76, none⟩, ⟨some 77, .range 82 (.tmp 76), y77, z77, f77, none⟩] false) (Code.block 4 (Code.loop (Code.seq (Code.region i19 #[⟨some 78, .next (.tmp 77) false, y78, z78, f78, none⟩, ⟨some 79, .extract (.tmp 78) 0, y79, z79, f79, none⟩] false) (Code.seq (Code.cond (.tmp 79) Code.skip (Code.exit 4)) (Code.block 5 (Code.seq (Code.region i20 #[⟨some 80, .entry (.tmp 77), y80, z80, f80, none⟩, ⟨some 81, .extract (.tmp 80) 0, y81, z81, f81, none⟩, ⟨some 82, .extract (.tmp 80) 1, y82, z82, f82, none⟩, ⟨some 19, .alloc 90, y19, z19, f19, none⟩, ⟨none, .store 90 (.tmp 19) (.tmp 81), ys0, zs0, fs0, none⟩, ⟨some 20, .assign (.tmp 82), y20, z20, f20, none⟩] false) (Code.seq (Code.region i21 #[⟨some 83, .load 83 (.tmp 15), y83, z83, f83, none⟩, ⟨some 84, .load 90 (.tmp 19), y84, z84, f84, none⟩, ⟨some 85, .lookup 83 (.tmp 83) (.tmp 84) false, y85, z85, f85, none⟩, ⟨some 86, .unOp .not 4 (.tmp 85), y86, z86, f86, none⟩] false) (Code.cond (.tmp 86) (Code.seq (Code.region i22 #[⟨some 87, .load 22 (.tmp 13), y87, z87, f87, none⟩, ⟨some 88, .move (.tmp 20), y88, z88, f88, none⟩, ⟨some 89, .load 22 (.tmp 13), y89, z89, f89, none⟩, ⟨some 90, .move (.tmp 20), y90, z90, f90, none⟩, ⟨some 91, .load 3 (.tmp 14), y91, z91, f91, none⟩, ⟨some 92, .fieldAddr 76 (.tmp 10) 0, y92, z92, f92, none⟩, ⟨some 93, .load 3 (.tmp 92), y93, z93, f93, none⟩, ⟨some 94, .indexAddr 22 (.tmp 87) (.tmp 88), y94, z94, f94, none⟩, ⟨some 95, .fieldAddr 46 (.tmp 94) 4, y95, z95, f95, none⟩, ⟨none, .store 3 (.tmp 95) (.tmp 91), ys1, zs1, fs1, none⟩, ⟨some 96, .indexAddr 22 (.tmp 89) (.tmp 90), y96, z96, f96, none⟩, ⟨some 97, .fieldAddr 46 (.tmp 96) 6, y97, z97, f97, none⟩, ⟨none, .store 3 (.tmp 97) (.tmp 93), ys2, zs2, fs2, none⟩] true) (Code.region i23 #[⟨some 98, .load 82 (.tmp 12), y98, z98, f98, none⟩, ⟨some 99, .load 90 (.tmp 19), y99, z99, f99, none⟩, ⟨none, .call { callee := .builtin .delete, args := #[.tmp 98, .tmp 99], argTypes := #[82, 90] }, ys3, zs3, fs3, none⟩] false)) Code.skip))))))))) (cRngD SH 7 4 6 (.t q1) (.t q2) (.t q3) (.t q4) (.t q5)) := fun m N lim B H w T D a hd o Q hR hF hD hh hk hQ => by
 obtain ⟨b1, b2, b3, b4, b5, bo, bs, k, now, es, es2, clock, birth, b, off, len, l, ty, root, ab, g, rb, vr, G, rfl⟩ := cRngD_ok hk
 have hw := hR.wf
 have E12 := frT_ev hF s12 G.t1
 have E15 := frT_ev hF s15 G.t2
 have E13 := frT_ev hF s13 G.t3
 have E14 := frT_ev hF s14 G.t4
 have E10 := frT_ev hF s10 G.t5
 have hbo : N bo := bx_ok hR E12.2 G.c1
 have hbs : N bs := bx_ok hR E15.2 G.c2
 have hbv : okV m N vr := bx_ok hR E13.2 G.c3
 have hNb : N b := by
  rcases G.sl with ⟨c, rfl⟩ | ⟨c, rfl⟩
  ·exact hbv
  ·exact hbv.1
 have hbb : b ≠ bo := map_ne G.mo G.cb
 have hbn : b ≠ H.nx := fun e => by have := (hw.lt b _ G.cb).1; rw [e] at this; omega
 have hon : bo ≠ H.nx := fun e => by have := (hw.lt bo _ G.mo).1; rw [e] at this; omega
 have hlimc : lim ≤ H.cnt := by have h1 := (hw.lt bo _ G.mo).2; have h2 := G.lb; simp only [AObj.birth] at h1; omega
 let HSx : List Nat → AH := fun S => HS SH 7 4 6 H es es2 (.int k) (.int now) bo b off clock birth l ty root ab g rb S (some (.iter (some bo) clock (encL S) H.cnt))
 have hasz : a.tmps.size = 119 := hF.size
 refine wpIn_seq (wpIn_wide.2 (wp_region_list ?_))
 obtain ⟨l1, ty1, r1, ab1, g1, bi1, u1, u2⟩ := G.c1
 refine wpl_load1 rfl rfl Tryz.underlying82 ag82 hR E12.1 E12.2 u1 u2 fun _ => ?_
 refine wpl_rng rfl rfl Tryz.underlying82 hR (ev_same (by rw [hasz]; decide)) hbo G.mo fun m1 N1 w1 s1 hn1 => wpList_nil ?_
 show (Code.block 4 _).wpIn _ _ _ _ _ _
 let J : Nat → Act → World → Prop := fun j a1 w1 => ∃ m1 N1 S, Step ri m N lim B H w m1 N1 (HSx S) w1 ∧ FrT m1 N1 σ 119 T a1.tmps ∧ DsR m1 N1 none D a1.defers ∧ a1.eval (.tmp 77) = conc m1 (.ptr H.nx 0) ∧ S.Nodup ∧ (∀ x ∈ S, x ∈ es.map (·.born)) ∧ j + S.length = es.length
 refine wpIn_block (wpIn_loop_fuel J (j0 := es.length) ?_ ?_)
 ·refine ⟨m1, N1, [], ?_, ((hF.off (offs 76 (by decide) (by decide))).off (offs 77 (by decide) (by decide))).keep s1.ag s1.sub, ?_, ev_same (by rw [Go.Proofs.Seat4.put_size, hasz]; decide), List.nodup_nil, (fun x hx => by cases hx), by simp⟩
  ·refine close_step hw G s1 ?_ ?_ ?_ ?_ ?_ ?_
   ·rw [fresh_bl, if_pos rfl]; rfl
   ·rw [fresh_bl, if_neg hon, hsE_nil]; exact G.mo
   ·rw [fresh_bl, if_neg hbn, hsL_nil]; exact G.cb
   ·refine ⟨by cases H; rfl, fun x hx h1 h2 ox hox => ?_⟩
    rw [fresh_bl, if_neg (fun e => by rw [e] at hx; omega)]
    rcases kill_bl H b root ab (ab + l.length) x with ⟨e, _⟩ | ⟨e, _⟩
    ·rw [e] at hox; cases hox
    ·rw [e] at hox; exact hox
   ·rw [fresh_nx]; rfl
   ·rw [fresh_cnt]; rfl
  ·rw [Go.Proofs.Seat4.put_defers, Go.Proofs.Seat4.put_defers]; exact hD.keep s1.ag s1.sub
 ·rintro j a1 w1 ⟨m1, N1, S, s0, f1, d1, e77, nd, sub, hj⟩
  have hsz1 : a1.tmps.size = 119 := f1.size
  have hn1 : N1 H.nx := s0.all _ (Nat.le_refl _) (by show _ < (HS _ _ _ _ _ _ _ _ _ _ _ _ _ _ _ _ _ _ _ _ _ _).nx.num; rw [HS_nx, num_sucN]; omega)
  have hit : PT.get H.nx (HSx S).bl = some (.iter (some bo) clock (encL S) H.cnt) := HS_it
  have hbo1 : PT.get bo (HSx S).bl = some (.map (hsE SH es es2 S) clock birth) := HS_bo hon
  have hb1 : PT.get b (HSx S).bl = some (.cells (hsL SH 7 4 6 es es2 (.int k) (.int now) off l S) ty root ab g rb) := HS_b hbn hbb
  have hXnx : (HSx S).nx = sucN (S.length + 1) H.nx := HS_nx
  have hXcnt : (HSx S).cnt = H.cnt + (S.length + 1) := HS_cnt
  have hXas : AsIn H b bo root ab (ab + l.length) (HSx S) := HS_as hw _ _
  refine wpIn_seq (wpIn_wide.2 (wp_region_list ?_))
  refine wpl_next (r := H.nx) (b := bo) rfl rfl e77 s0.rel hn1 hit hlimc hbo1 (fun e he => G.good.lt e (List.mem_filter.1 he).1) ?_ ?_
  ·intro w2 hall s2
   refine wpl_ext (l := [.bool false]) rfl rfl s2.rel (ev_same (by rw [hsz1]; decide)) ⟨trivial, trivial⟩ rfl fun _ => wpList_nil ?_
   refine wpIn_seq (wpIn_cond_false (ev_same (by rw [Go.Proofs.Seat4.put_size, hsz1]; decide)) (wpIn_exit ?_))
   show Q .normal _ w2
   refine hQ _ _ _ ⟨m1, N1, done_step hw G nd sub hall (s0.trans s2), (f1.off (offs 78 (by decide) (by decide))).off (offs 79 (by decide) (by decide)), ?_, trivial⟩
   rw [Go.Proofs.Seat4.put_defers, Go.Proofs.Seat4.put_defers]; exact d1
  ·intro e he w2 hne hkk hvk s2
   obtain ⟨hem, hcond⟩ := List.mem_filter.1 he
   obtain ⟨iv, hval, hilt⟩ := G.good.val e hem
   have hself := G.good.self e hem
   obtain ⟨kl, hkl, hkn⟩ := eqB_agg hself
   have hkn : kl.length = 6 := hkn
   have hck : cellsOf e.key = kl := by rw [hkl]; rfl
   let X1 : AH := (HSx S).setB H.nx (some (.iter (some bo) clock (encL (S ++ [e.born])) H.cnt))
   have s2' : Step ri m1 N1 lim B (HSx S) w1 m1 N1 X1 w2 := s2
   have hX1nx : X1.nx = sucN (S.length + 1) H.nx := by show ((HSx S).setB _ _).nx = _; rw [setB_nx, hXnx]
   have hX1num : X1.nx.num = H.nx.num + (S.length + 1) := by rw [hX1nx, num_sucN]
   have hX1cnt : X1.cnt = H.cnt + (S.length + 1) := by show ((HSx S).setB _ _).cnt = _; rw [setB_cnt, hXcnt]
   have x1bo : PT.get bo X1.bl = some (.map (hsE SH es es2 S) clock birth) := by show PT.get bo ((HSx S).setB _ _).bl = _; rw [setB_bl, if_neg hon]; exact hbo1
   have x1b : PT.get b X1.bl = some (.cells (hsL SH 7 4 6 es es2 (.int k) (.int now) off l S) ty root ab g rb) := by show PT.get b ((HSx S).setB _ _).bl = _; rw [setB_bl, if_neg hbn]; exact hb1
   have x1it : PT.get H.nx X1.bl = some (.iter (some bo) clock (encL (S ++ [e.born])) H.cnt) := by show PT.get H.nx ((HSx S).setB _ _).bl = _; rw [setB_bl, if_pos rfl]
   have x1as : AsIn H b bo root ab (ab + l.length) X1 := hXas.set (.inr (.inr (Nat.le_refl _))) _
   have nHX : H.nx ≠ X1.nx := fun e => by rw [e] at hX1num; omega
   have nbX : b ≠ X1.nx := fun e => by have := (hw.lt b _ G.cb).1; rw [e] at this; omega
   have noX : bo ≠ X1.nx := fun e => by have := (hw.lt bo _ G.mo).1; rw [e] at this; omega
   clear_value X1
   refine wpl_ext (l := [.bool true, e.key, e.val]) rfl rfl s2'.rel (ev_same (by rw [hsz1]; decide)) ⟨trivial, hkk, hvk, trivial⟩ rfl fun _ => wpList_nil ?_
   refine wpIn_seq (wpIn_cond_true (ev_same (by rw [Go.Proofs.Seat4.put_size, hsz1]; decide)) (wpIn_skip ?_))
   show (Code.block 5 _).wpIn _ _ _ _ _ _
   have f2 : FrT m1 N1 σ 119 T ((a1.put (some 78) (conc m1 (.tup [.bool true, e.key, e.val]))).put (some 79) (conc m1 (.bool true))).tmps := (f1.off (offs 78 (by decide) (by decide))).off (offs 79 (by decide) (by decide))
   have d2 : DsR m1 N1 none D ((a1.put (some 78) (conc m1 (.tup [.bool true, e.key, e.val]))).put (some 79) (conc m1 (.bool true))).defers := by rw [Go.Proofs.Seat4.put_defers, Go.Proofs.Seat4.put_defers]; exact d1
   have e77b : ((a1.put (some 78) (conc m1 (.tup [.bool true, e.key, e.val]))).put (some 79) (conc m1 (.bool true))).eval (.tmp 77) = conc m1 (.ptr H.nx 0) := by rw [ev_ne (by decide), ev_ne (by decide)]; exact e77
   generalize (a1.put (some 78) (conc m1 (.tup [.bool true, e.key, e.val]))).put (some 79) (conc m1 (.bool true)) = a2 at f2 d2 e77b ⊢
   have hsz2 : a2.tmps.size = 119 := f2.size
   refine wpIn_block (wpIn_seq (wpIn_wide.2 (wp_region_list ?_)))
   refine wpl_entry (r := H.nx) (b := bo) (sn := S) (e := e) rfl rfl e77b s2'.rel hn1 x1it x1bo he (fun x hx hb => born_uniq G.good.nd (List.mem_filter.1 hx).1 hem hb) ?_
   refine wpl_ext (l := [e.key, e.val]) (v := e.key) rfl rfl s2'.rel (ev_same (by rw [hsz2]; decide)) ⟨hkk, hvk, trivial⟩ rfl fun _ => ?_
   refine wpl_ext (l := [e.key, e.val]) (v := e.val) rfl rfl s2'.rel (by rw [ev_ne (by decide)]; exact ev_same (by rw [hsz2]; decide)) ⟨hkk, hvk, trivial⟩ rfl fun _ => ?_
   refine wpl_alloc rfl rfl zc90 s2'.rel fun m2 N2 w3 s3 hn3 => ?_
   have hkk2 : okV m2 N2 e.key := okV_agree s3.ag s3.sub _ hkk
   have hvk2 : okV m2 N2 e.val := okV_agree s3.ag s3.sub _ hvk
   have hka : conc m2 e.key = conc m1 e.key := conc_agree s3.ag _ hkk
   have hva : conc m2 e.val = conc m1 e.val := conc_agree s3.ag _ hvk
   have gnx : PT.get X1.nx (newCells X1 [.int (.ofNat 0), .int (.ofNat 0), .int (.ofNat 0), .int (.ofNat 0), .int (.ofNat 0), .bool false] 90 0).bl = some (.cells [.int (.ofNat 0), .int (.ofNat 0), .int (.ofNat 0), .int (.ofNat 0), .int (.ofNat 0), .bool false] 90 X1.nx 0 0 X1.cnt) := by rw [newCells_eq, fresh_bl, if_pos rfl]
   refine wpl_store (t := 19) (s := 81) (v := e.key) rfl rfl (by rw [sz90]; decide) s3.rel (ev_same (by simp [Go.Proofs.Seat4.put_size, hsz2])) hn3 gnx (by rw [hX1cnt]; omega) (by rw [hka, ev_ne (by decide), ev_ne (by decide)]; exact ev_same (by simp [Go.Proofs.Seat4.put_size, hsz2])) hkk2 (by rw [hck, hkn, sz90]) (by rw [sz90]; simp) fun w4 s4 => ?_
   have s4' := s4.stored s3.rel.wf gnx (by rw [hX1cnt]; omega) (fun ids hi x hx hxe => by
    have hfam : (newCells X1 [.int (.ofNat 0), .int (.ofNat 0), .int (.ofNat 0), .int (.ofNat 0), .int (.ofNat 0), .bool false] 90 0).fam = X1.fam := by cases X1; rfl
    rw [hfam] at hi
    have h1 := s2'.rel.wf.rootIn _ _ hi
    have h2 := (s2'.rel.wf.mem _ _ hi _ h1).1
    omega) (by rw [hck, hkn]; simp)
   rw [hck, over0 (l := [.int (.ofNat 0), .int (.ofNat 0), .int (.ofNat 0), .int (.ofNat 0), .int (.ofNat 0), .bool false]) (by rw [hkn]; rfl)] at s4'
   generalize hY : (newCells X1 [.int (.ofNat 0), .int (.ofNat 0), .int (.ofNat 0), .int (.ofNat 0), .int (.ofNat 0), .bool false] 90 0).setB X1.nx (some (.cells kl 90 X1.nx 0 0 X1.cnt)) = Y at s4'
   have s04 : Step ri m N lim B H w m2 N2 Y w4 := ((s0.trans s2').trans s3).trans s4'
   have ybl : ∀ x, x ≠ X1.nx → PT.get x Y.bl = PT.get x X1.bl := fun x hx => by rw [← hY, setB_bl, if_neg hx, newCells_eq, fresh_bl, if_neg hx]
   have yk : PT.get X1.nx Y.bl = some (.cells kl 90 X1.nx 0 0 X1.cnt) := by rw [← hY, setB_bl, if_pos rfl]
   have yas : AsIn H b bo root ab (ab + l.length) Y := by rw [← hY, newCells_eq]; exact (x1as.fresh (by omega) _).set (.inr (.inr (by omega))) _
   have ynx : Y.nx = sucN (S.length + 2) H.nx := by rw [← hY, setB_nx, newCells_eq, fresh_nx, hX1nx]; rfl
   have ycnt : Y.cnt = H.cnt + (S.length + 2) := by rw [← hY, setB_cnt, newCells_eq, fresh_cnt, hX1cnt]; omega
   have yit : PT.get H.nx Y.bl = some (.iter (some bo) clock (encL (S ++ [e.born])) H.cnt) := by rw [ybl _ nHX]; exact x1it
   have ybo : PT.get bo Y.bl = some (.map (hsE SH es es2 S) clock birth) := by rw [ybl _ noX]; exact x1bo
   have yb : PT.get b Y.bl = some (.cells (hsL SH 7 4 6 es es2 (.int k) (.int now) off l S) ty root ab g rb) := by rw [ybl _ nbX]; exact x1b
   refine wpl_mv (t := 82) (v := e.val) rfl (.inr rfl) s4'.rel (by rw [hva, ev_no, ev_ne (by decide)]; exact ev_same (by simp [Go.Proofs.Seat4.put_size, hsz2])) hvk2 (wpList_nil ?_)
   show (Code.seq _ _).wpIn _ _ _ _ _ _
   have f3 : FrT m2 N2 σ 119 T ((((((a2.put (some 80) (conc m1 (.tup [e.key, e.val]))).put (some 81) (conc m1 e.key)).put (some 82) (conc m1 e.val)).put (some 19) (conc m2 (.ptr X1.nx 0))).put none undef).put (some 20) (conc m2 e.val)).tmps := (((((f2.off (offs 80 (by decide) (by decide))).off (offs 81 (by decide) (by decide))).off (offs 82 (by decide) (by decide))).off off19).off off20).keep s3.ag s3.sub
   have d3 : DsR m2 N2 none D ((((((a2.put (some 80) (conc m1 (.tup [e.key, e.val]))).put (some 81) (conc m1 e.key)).put (some 82) (conc m1 e.val)).put (some 19) (conc m2 (.ptr X1.nx 0))).put none undef).put (some 20) (conc m2 e.val)).defers := by simp only [Go.Proofs.Seat4.put_defers]; exact d2.keep s3.ag s3.sub
   have e77c : ((((((a2.put (some 80) (conc m1 (.tup [e.key, e.val]))).put (some 81) (conc m1 e.key)).put (some 82) (conc m1 e.val)).put (some 19) (conc m2 (.ptr X1.nx 0))).put none undef).put (some 20) (conc m2 e.val)).eval (.tmp 77) = conc m2 (.ptr H.nx 0) := by
    rw [ev_ne (by decide), ev_no, ev_ne (by decide), ev_ne (by decide), ev_ne (by decide), ev_ne (by decide), e77b]
    exact (conc_agree s3.ag (.ptr H.nx 0) hn1).symm
   have e19 : ((((((a2.put (some 80) (conc m1 (.tup [e.key, e.val]))).put (some 81) (conc m1 e.key)).put (some 82) (conc m1 e.val)).put (some 19) (conc m2 (.ptr X1.nx 0))).put none undef).put (some 20) (conc m2 e.val)).eval (.tmp 19) = conc m2 (.ptr X1.nx 0) := by
    rw [ev_ne (by decide), ev_no]; exact ev_same (by simp [Go.Proofs.Seat4.put_size, hsz2])
   have e20 : ((((((a2.put (some 80) (conc m1 (.tup [e.key, e.val]))).put (some 81) (conc m1 e.key)).put (some 82) (conc m1 e.val)).put (some 19) (conc m2 (.ptr X1.nx 0))).put none undef).put (some 20) (conc m2 e.val)).eval (.tmp 20) = conc m2 e.val := ev_same (by simp [Go.Proofs.Seat4.put_size, hsz2])
   generalize (((((a2.put (some 80) (conc m1 (.tup [e.key, e.val]))).put (some 81) (conc m1 e.key)).put (some 82) (conc m1 e.val)).put (some 19) (conc m2 (.ptr X1.nx 0))).put none undef).put (some 20) (conc m2 e.val) = a3 at f3 d3 e77c e19 e20 ⊢
   have hsz3 : a3.tmps.size = 119 := f3.size
   have sub2 : ∀ x, N x → N2 x := s04.sub
   refine wpIn_seq (wpIn_wide.2 (wp_region_list ?_))
   obtain ⟨l2, ty2, r2, ab2, g2, bi2, v1, v2⟩ := yas.box hw G.mo G.c2 G.n2 G.k2
   obtain ⟨c2', bi2', hms⟩ := G.ms
   have yms := yas.map hw G.cb hms G.ne
   refine wpl_load1 rfl rfl Tryz.underlying83 ag83 s04.rel (frT_ev f3 s15 G.t2).1 (sub2 _ E15.2) v1 v2 fun _ => ?_
   refine wpl_loadN rfl rfl Tryz.underlying90 ag90 s04.rel (by rw [ev_ne (by decide)]; exact e19) hn3 yk (by rw [sz90]; simp [hkn]) fun _ => ?_
   have hkl2 : (.agg ((kl.drop 0).take (szT Tryz.prog 90)) : AV) = e.key := by rw [hkl, sz90, List.drop_zero, List.take_of_length_le (by omega)]
   rw [hkl2]
   refine wpl_look rfl rfl Tryz.underlying83 ky90 sh90 zv4 (by decide) s04.rel (by rw [ev_ne (by decide)]; exact ev_same (by rw [hsz3]; decide)) (sub2 _ hbs) yms (ev_same (by rw [Go.Proofs.Seat4.put_size, hsz3]; decide)) hkk2 hself (G.good.un e hem) ?_
   refine wpl_not rfl rfl s04.rel (ev_same (by simp [Go.Proofs.Seat4.put_size, hsz3])) (wpList_nil ?_)
   show (Code.cond _ _ _).wpIn _ _ _ _ _ _
   have f4 : FrT m2 N2 σ 119 T ((((a3.put (some 83) (conc m2 (.mp bs))).put (some 84) (conc m2 e.key)).put (some 85) (conc m2 (.bool !unT SH es2 e.key))).put (some 86) (conc m2 (.bool !(!unT SH es2 e.key)))).tmps := (((f3.off (offs 83 (by decide) (by decide))).off (offs 84 (by decide) (by decide))).off (offs 85 (by decide) (by decide))).off (offs 86 (by decide) (by decide))
   have d4 : DsR m2 N2 none D ((((a3.put (some 83) (conc m2 (.mp bs))).put (some 84) (conc m2 e.key)).put (some 85) (conc m2 (.bool !unT SH es2 e.key))).put (some 86) (conc m2 (.bool !(!unT SH es2 e.key)))).defers := by simp only [Go.Proofs.Seat4.put_defers]; exact d3
   have e77d : ((((a3.put (some 83) (conc m2 (.mp bs))).put (some 84) (conc m2 e.key)).put (some 85) (conc m2 (.bool !unT SH es2 e.key))).put (some 86) (conc m2 (.bool !(!unT SH es2 e.key)))).eval (.tmp 77) = conc m2 (.ptr H.nx 0) := by rw [ev_ne (by decide), ev_ne (by decide), ev_ne (by decide), ev_ne (by decide)]; exact e77c
   have e19d : ((((a3.put (some 83) (conc m2 (.mp bs))).put (some 84) (conc m2 e.key)).put (some 85) (conc m2 (.bool !unT SH es2 e.key))).put (some 86) (conc m2 (.bool !(!unT SH es2 e.key)))).eval (.tmp 19) = conc m2 (.ptr X1.nx 0) := by rw [ev_ne (by decide), ev_ne (by decide), ev_ne (by decide), ev_ne (by decide)]; exact e19
   have e20d : ((((a3.put (some 83) (conc m2 (.mp bs))).put (some 84) (conc m2 e.key)).put (some 85) (conc m2 (.bool !unT SH es2 e.key))).put (some 86) (conc m2 (.bool !(!unT SH es2 e.key)))).eval (.tmp 20) = conc m2 e.val := by rw [ev_ne (by decide), ev_ne (by decide), ev_ne (by decide), ev_ne (by decide)]; exact e20
   have e86 : ((((a3.put (some 83) (conc m2 (.mp bs))).put (some 84) (conc m2 e.key)).put (some 85) (conc m2 (.bool !unT SH es2 e.key))).put (some 86) (conc m2 (.bool !(!unT SH es2 e.key)))).eval (.tmp 86) = .bool (unT SH es2 e.key) := by rw [ev_same (by simp [Go.Proofs.Seat4.put_size, hsz3]), Bool.not_not]; rfl
   generalize (((a3.put (some 83) (conc m2 (.mp bs))).put (some 84) (conc m2 e.key)).put (some 85) (conc m2 (.bool !unT SH es2 e.key))).put (some 86) (conc m2 (.bool !(!unT SH es2 e.key))) = a4 at f4 d4 e77d e19d e20d e86 ⊢
   have nd' : (S ++ [e.born]).Nodup := by
    rw [List.nodup_append]
    exact ⟨nd, by simp, fun x hx y hy => by rw [List.mem_singleton] at hy; intro hxy; exact hne (by rw [← hy, ← hxy]; exact hx)⟩
   have sub' : ∀ x ∈ S ++ [e.born], x ∈ es.map (·.born) := fun x hx => by
    rcases List.mem_append.1 hx with hx | hx
    ·exact sub x hx
    ·rw [List.mem_singleton] at hx; exact List.mem_map.2 ⟨e, hem, hx.symm⟩
   have hlen' : (S ++ [e.born]).length = S.length + 1 := by simp
   have hle : (S ++ [e.born]).length ≤ es.length := by have := nodup_len nd' sub'; simpa using this
   have fin : ∀ {m5 : M} {N5 : Pos → Prop} {w5 : World} {a5 : Act}, Step ri m N lim B H w m5 N5 (HSx (S ++ [e.born])) w5 → FrT m5 N5 σ 119 T a5.tmps → DsR m5 N5 none D a5.defers → a5.eval (.tmp 77) = conc m5 (.ptr H.nx 0) → ∃ j', j' < j ∧ J j' a5 w5 := fun h1 h2 h3 h4 =>
    ⟨j - 1, by omega, _, _, _, h1, h2, h3, h4, nd', sub', by omega⟩
   cases hu : unT SH es2 e.key with
   | false =>
     rw [hu] at e86
     refine wpIn_cond_false e86 (wpIn_skip ?_)
     show ∃ j', j' < j ∧ J j' a4 w4
     obtain ⟨g1, g2⟩ := hs_seen (h := SH) (sz := 7) (p1 := 4) (p2 := 6) (es2 := es2) (k := .int k) (now := .int now) (o := off) (l := l) (S := S) G.good.nd hem hu
     exact fin (close_step hw G s04 yit (by rw [g2]; exact ybo) (by rw [g1]; exact yb) ⟨yas.1, fun x hx h1 h2 ox hox => by rw [yas.2 x hx h1 h2]; exact hox⟩ (by rw [ynx, hlen']) (by rw [ycnt, hlen'])) f4 d4 e77d
   | true =>
     rw [hu] at e86
     have hroom : off + (iv * 7 + 7) ≤ l.length := by
      have := G.room
      have h3 : iv * 7 + 7 ≤ len * 7 := by omega
      omega
     obtain ⟨g1, g2⟩ := hs_un (h := SH) (sz := 7) (p1 := 4) (p2 := 6) (es2 := es2) (k := .int k) (now := .int now) (o := off) (l := l) (S := S) G.good.nd hem hu hval (by decide) (by decide) (by decide) hroom
     refine wpIn_cond_true e86 (wpIn_seq (wpIn_wide.2 ?_))
     have hlL : (hsL SH 7 4 6 es es2 (.int k) (.int now) off l S).length = l.length := hsL_len
     have clr := yas.clear hw G.mo ⟨_, _, _, ybo⟩
     refine reg22 (b := b) (b3 := b3) (b4 := b4) (b5 := b5) (vr := vr) (off := off) (len := len) (i := iv) (k := k) (now := now) (ty := ty) (root := root) (ab := ab) (g := g) (rb := rb) hmo hdet hord s04.rel f4.size (frT_ev f4 s13 G.t3).1 (frT_ev f4 s14 G.t4).1 (frT_ev f4 s10 G.t5).1 (by rw [e20d, hval]) (sub2 _ E13.2) (sub2 _ E14.2) (sub2 _ E10.2) (yas.box hw G.mo G.c3 G.n3 G.k3) (yas.box hw G.mo G.c4 G.n4 G.k4) (yas.box hw G.mo G.c5 G.n5 G.k5) G.sl (sub2 _ hNb) yb G.lr (by rw [hlL]; exact clr) hilt (by rw [hlL]; exact G.room) G.n3 G.n4 G.n5 ?_
     intro a5 w5 s5 hsz5 hd5 hev5
     show (Code.region _ _ false).wpIn _ _ _ _ _ _
     generalize hV : Y.setB b (some (.cells (over (off + (iv * 7 + 6)) [.int now] (over (off + (iv * 7 + 4)) [.int k] (hsL SH 7 4 6 es es2 (.int k) (.int now) off l S))) ty root ab g rb)) = V at s5
     have vbl : ∀ x, x ≠ b → PT.get x V.bl = PT.get x Y.bl := fun x hx => by rw [← hV, setB_bl, if_neg hx]
     have vas : AsIn H b bo root ab (ab + l.length) V := by rw [← hV]; exact yas.set (.inr (.inl rfl)) _
     have vb : PT.get b V.bl = some (.cells (hsL SH 7 4 6 es es2 (.int k) (.int now) off l (S ++ [e.born])) ty root ab g rb) := by rw [← hV, setB_bl, if_pos rfl, g1]
     have vbo : PT.get bo V.bl = some (.map (hsE SH es es2 S) clock birth) := by rw [vbl bo (fun e => hbb e.symm)]; exact ybo
     have vit : PT.get H.nx V.bl = some (.iter (some bo) clock (encL (S ++ [e.born])) H.cnt) := by rw [vbl H.nx (fun e => hbn e.symm)]; exact yit
     have vk : PT.get X1.nx V.bl = some (.cells kl 90 X1.nx 0 0 X1.cnt) := by rw [vbl X1.nx (fun e => nbX e.symm)]; exact yk
     have vnx : V.nx = sucN (S.length + 2) H.nx := by rw [← hV, setB_nx, ynx]
     have vcnt : V.cnt = H.cnt + (S.length + 2) := by rw [← hV, setB_cnt, ycnt]
     have s05 : Step ri m N lim B H w m2 N2 V w5 := s04.trans s5
     have f5 : FrT m2 N2 σ 119 T a5.tmps := ⟨hsz5, fun t p hs => by
      have ht : t < 87 ∨ 97 < t := by
       rcases Nat.lt_or_ge t 87 with h | h
       ·exact .inl h
       ·rcases Nat.lt_or_ge 97 t with h2 | h2
        ·exact .inr h2
        ·rw [offs t (by omega) (by omega)] at hs; cases hs
      have := hev5 t ht
      show a5.eval (.tmp t) = _
      rw [this]
      exact f4.val t p hs, f4.ok⟩
     have e19e : a5.eval (.tmp 19) = conc m2 (.ptr X1.nx 0) := by rw [hev5 19 (by decide)]; exact e19d
     have e77e : a5.eval (.tmp 77) = conc m2 (.ptr H.nx 0) := by rw [hev5 77 (by decide)]; exact e77d
     refine wpIn_wide.2 (wp_region_list ?_)
     obtain ⟨l6, ty6, r6, ab6, g6, bi6, x1, x2⟩ := vas.box hw G.mo G.c1 G.n1 G.k1
     refine wpl_load1 rfl rfl Tryz.underlying82 ag82 s05.rel (frT_ev f5 s12 G.t1).1 (sub2 _ E12.2) x1 x2 fun _ => ?_
     refine wpl_loadN rfl rfl Tryz.underlying90 ag90 s05.rel (by rw [ev_ne (by decide)]; exact e19e) hn3 vk (by rw [sz90]; simp [hkn]) fun _ => ?_
     rw [hkl2]
     refine wpl_del (e := e) rfl rfl rfl Tryz.underlying82 ky90 sh90 (by decide) s05.rel (by rw [ev_ne (by decide)]; exact ev_same (by rw [hsz5]; decide)) (sub2 _ hbo) vbo G.lb (ev_same (by rw [Go.Proofs.Seat4.put_size, hsz5]; decide)) hkk2 (List.Nodup.sublist (List.Sublist.map _ List.filter_sublist) G.good.nd) (fun x hx hb => born_uniq G.good.nd (List.mem_filter.1 hx).1 hem hb) hself (fun x hx hb => G.good.ne e hem x (List.mem_filter.1 hx).1 (fun h => hb h.symm)) fun m6 N6 w6 s6 => wpList_nil ?_
     show ∃ j', j' < j ∧ J j' _ w6
     refine fin (close_step hw G (s05.trans s6) ?_ ?_ ?_ ?_ ?_ ?_) ?_ ?_ ?_
     ·rw [setB_bl, if_neg (fun e => hon e.symm)]; exact vit
     ·rw [setB_bl, if_pos rfl, g2]
     ·rw [setB_bl, if_neg hbb]; exact vb
     ·have := vas.set (x := bo) (.inl rfl) (some (.map ((hsE SH es es2 S).filter fun x => decide (x.born ≠ e.born)) clock birth))
      exact ⟨this.1, fun x hx h1 h2 ox hox => by rw [this.2 x hx h1 h2]; exact hox⟩
     ·rw [setB_nx, vnx, hlen']
     ·rw [setB_cnt, vcnt, hlen']
     ·exact ((f5.off (offs 98 (by decide) (by decide))).off (offs 99 (by decide) (by decide))).keep s6.ag s6.sub
     ·simp only [Go.Proofs.Seat4.put_defers]; rw [hd5]; exact d4.keep s6.ag s6.sub
     ·rw [ev_no, ev_ne (by decide), ev_ne (by decide), e77e]
      exact (conc_agree s6.ag (.ptr H.nx 0) (s3.sub _ hn1)).symm
end Go.Proofs.Seat9
end

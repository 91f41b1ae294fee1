/- A part of the proof that nurserylaw36.HappensBefore returns true for every input. -/
import Derived.Test.YtbaakaaimolagaaGreatDoorTba
import Derived.Test.YtbaakaaimolagaaGreatDoorHkr
import Derived.Test.YtbaakaaimolagaaGreatDoorLis
namespace AvT
open Go Go.Proofs Av
open Go.Proofs.Seat4 (sortK testK ascK)
section
variable {ri : Nat → Option RInfo} {m : M} {N : Pos → Prop} {lim B : Nat} {H : AH} {w w' : World}
/-- A new row, somewhere behind the world that was. -/
theorem rel_newAt (h : Rel ri m N N lim B H w) {o : AObj} {g c : Nat} (hb : o.birth = H.cnt) (hr : ∀ l ty root ab g birth, o = .cells l ty root ab g birth → root = H.nx)
    (hw : RowKit.Below w.heap.size w w') (hg : w.heap.size ≤ g) (ho : LObj ri (m.set H.nx g 0 c) (more N H.nx) H.nx w' o) :
    Rel ri (m.set H.nx g 0 c) (more N H.nx) (more N H.nx) lim B (H.fresh o) w' := by
  have hnx := h.nx
  have ha : Agree N m (m.set H.nx g 0 c) := Agree.set hnx m _ _ _
  have hne : ∀ b, N b → b ≠ H.nx := fun b hb e => hnx (e ▸ hb)
  have hold : ∀ b x, N b → PT.get b (H.fresh o).bl = some x → PT.get b H.bl = some x := fun b x hb hx => by rwa [fresh_bl, if_neg (hne b hb)] at hx
  have hlt : ∀ b x, N b → PT.get b H.bl = some x → m.ad b < w.heap.size := fun b x hb hx => (h.obj b x hb hx).lt
  refine ⟨fun b hb => ?_, fun b hb => hb, fun b x hb hx => ?_, fun b x hb hx hl => ?_, fun b b' x x' hb hb' hx hx' hne' had => ?_, h.wf.fresh hb hr, ?_⟩
  · rw [fresh_nx, Pos.num_succ]
    rcases hb with hb | rfl
    · have := h.lt b hb; omega
    · omega
  · rcases hb with hb | rfl
    · have hx' := hold b x hb hx
      exact (h.obj b x hb hx').keep hb ha (fun _ y => .inl y) (hw.block _ (hlt b x hb hx'))
    · rw [fresh_bl, if_pos rfl] at hx
      cases hx
      exact ho
  · rcases hb with hb | rfl
    · rw [ha.ad b hb]
      exact h.perm b x hb (hold b x hb hx) hl
    · rw [M.set_ad]; exact Nat.le_trans h.base hg
  · rcases hb with hb | rfl
    · rcases hb' with hb' | rfl
      · rw [ha.ad b hb, ha.ad b' hb'] at had
        obtain ⟨l, ty, root, ab, g, birth, l', ty', ab', g', birth', f1, f2, f6⟩ := h.apart b b' x x' hb hb' (hold b x hb hx) (hold b' x' hb' hx') hne' had
        refine ⟨l, ty, root, ab, g, birth, l', ty', ab', g', birth', ?_, ?_, ?_⟩
        · rw [fresh_bl, if_neg (hne b hb)]; exact f1
        · rw [fresh_bl, if_neg (hne b' hb')]; exact f2
        · rw [ha.off b hb, ha.off b' hb']; exact f6
      · rw [ha.ad b hb, M.set_ad] at had
        have := hlt b x hb (hold b x hb hx)
        omega
    · rcases hb' with hb' | rfl
      · rw [ha.ad b' hb', M.set_ad] at had
        have := hlt b' x' hb' (hold b' x' hb' hx')
        omega
      · exact absurd rfl hne'
  · exact Nat.le_trans h.base hw.size
theorem step_newAt (h : Rel ri m N N lim B H w) {l : List AV} {ty gz g c : Nat} {cs : Array Value} {fz : Nat × Nat} (hw : RowKit.Below w.heap.size w w') (hg : w.heap.size ≤ g) (ho : w'.heap[g]? = some (.cells cs ty fz))
    (hcs : ∀ (i : Nat) (x : AV), l[i]? = some x → cs[i]? = some (conc m x)) (hl : ∀ x ∈ l, sc x = true ∧ okV m N x)
    (hfz : ∀ i, i < cs.size → ¬ (fz.1 ≤ i ∧ i < fz.2)) (hgz : gz ≠ 0 → c * gz ≤ cs.size ∧ l.length ≤ c * gz) :
    Step ri m N lim B H w (m.set H.nx g 0 c) (more N H.nx) (newCells H l ty gz) w' := by
  have ha : Agree N m (m.set H.nx g 0 c) := Agree.set h.nx m _ _ _
  rw [newCells_eq]
  have hrel := rel_newAt (g := g) (c := c) h (o := .cells l ty H.nx 0 gz H.cnt) rfl (fun _ _ _ _ _ _ e => by cases e; rfl) hw hg ⟨cs, fz, by rw [M.set_ad]; exact ho, fun i x hx => by rw [M.set_off, Nat.zero_add, hcs i x hx, conc_agree ha x (hl x (List.mem_of_getElem? hx)).2],
    fun x hx => ⟨(hl x hx).1, okV_agree ha (fun _ y => .inl y) x (hl x hx).2⟩, hfz, fun hg' => by rw [M.set_off, M.set_cap, Nat.zero_add]; exact hgz hg'⟩
  refine ⟨hrel, ha, fun x hx => .inl hx, fun x hx => ?_, ⟨hw.os, hw.tape, hw.output, hw.size, fun k hk => hw.block k (Nat.lt_of_lt_of_le hk h.base)⟩, Keep.fresh h.wf _ lim, ?_, ?_, fun x h1 h2 => ?_, Ext.fresh H rfl⟩
  · rcases hx with hx | rfl
    · exact .inl hx
    · exact .inr ⟨Nat.le_refl _, by rw [M.set_ad]; exact Nat.le_trans h.base hg⟩
  · rw [fresh_nx, Pos.num_succ]; omega
  · rw [fresh_cnt]; omega
  · rw [fresh_nx, Pos.num_succ] at h2
    exact .inr (Pos.num_inj (by omega))
end
noncomputable def hkL : Hook := fun _ xs h => List.rec (motive := fun _ => R CO) (.er [207]) (fun x r _ => List.rec (motive := fun _ => R CO) (x.unMap (.er [204]) (fun b => h.mapOf b (fun es clock _ =>
   Bool.rec (motive := fun _ => R CO) (.er [206]) (.ok (.ret (.su h.nx 0 es.length 0) (newCells h (sortK es) 48 3)))
     (band (Nat.beq clock es.length) (band (Nat.ble 1 es.length) (band (Nat.ble es.length 12) (band (testK es 0) (ascK (sortK es))))))) (.er [203])) (.er [204])) (fun _ _ _ => .er [208]) r) xs
theorem hkL_ok : HkOK Tryz.prog ri 54 hkL := by
  intro m N lim B H w xs co hR hx hk
  match xs, hx, hk with
  | [], _, hk => cases hk
  | _ :: _ :: _, _, hk => cases hk
  | [x], hx, hk =>
    change x.unMap _ _ _ = _ at hk
    rcases AV.unMap_ok hk with ⟨_, h⟩ | ⟨b, rfl, h⟩ | h
    · cases h
    · obtain ⟨es, clock, birth, hb, h⟩ := mapOf_ok h
      cases ht : band (Nat.beq clock es.length) (band (Nat.ble 1 es.length) (band (Nat.ble es.length 12) (band (testK es 0) (ascK (sortK es))))) with
      | false => rw [ht] at h; cases h
      | true =>
        rw [ht] at h
        cases h
        obtain ⟨h1, ht⟩ := and_of ht
        obtain ⟨h2, ht⟩ := and_of ht
        obtain ⟨h3, ht⟩ := and_of ht
        obtain ⟨h4, h5⟩ := and_of ht
        have e1 := Nat.eq_of_beq_eq_true h1
        have e2 := Nat.le_of_ble_eq_true h2
        have e3 := Nat.le_of_ble_eq_true h3
        obtain ⟨d, g1, g2, g3⟩ := Go.Proofs.Seat4.testK_ok m es 0 h4
        rw [g2] at h5
        have hN : N b := hx.1
        have hobj := (hR.obj b _ hN hb).1
        rw [g1, e1] at hobj
        have hM : Go.Proofs.Seat4.MapIs w (m.ad b) (d.map Go.Proofs.Seat4.acKV) := by
          show _ = some _
          rw [hobj, List.length_map, g3]
        have hc := Go.Proofs.Seat4.list54 d (m.ad b) w hM (by omega) (by omega) h5
        refine ⟨enters_of Tryz.func54 (by kernel_rfl) rfl _ _, callsIn_wide.2 (hc.mono fun e w' hp => ?_)⟩
        obtain ⟨g, cap, cur, rfl, p1, p2, p3, p4, p5, p6⟩ := hp
        have hlen : (sortK es).length = 3 * d.length := by
          rw [g2, Go.Proofs.Seat4.flat3_len _ (fun _ => rfl), (Go.Proofs.Seat4.sortA_perm d).length_eq]
        have hmap : (Go.Proofs.Seat4.sortA d).flatMap Go.Proofs.Seat4.acCells = (sortK es).map (conc m) := by
          rw [g2, List.map_flatMap]
          rfl
        have hst := step_newAt hR (l := sortK es) (ty := 48) (gz := 3) (c := cap) p6 p2 p1 (fun i x hi => ?_) (fun x hi => ?_) (fun i _ => by simp) (fun _ => ⟨by omega, by omega⟩)
        · refine ⟨_, _, hst, ⟨.inr rfl, ?_⟩, ?_⟩
          · rw [M.set_cap]; omega
          · simp only [conc, M.set_ad, M.set_off, M.set_cap, g3, Nat.sub_zero]
        · have hi' : i < 3 * d.length := by rw [← hlen]; exact (List.getElem?_eq_some_iff.1 hi).1
          rw [p5 i (by omega), hmap, List.getElem?_map, hi]
          rfl
        · rw [g2] at hi
          obtain ⟨a, _, ha⟩ := List.mem_flatMap.1 hi
          simp only [Go.Proofs.Seat4.acAV, List.mem_cons, List.not_mem_nil, or_false] at ha
          rcases ha with rfl | rfl | rfl <;> exact ⟨rfl, trivial⟩
    · cases h
theorem hks_ok : ∀ x ∈ [(54, hkL)], HkOK Tryz.prog ri x.1 x.2 := fun x hx => by
  cases List.mem_singleton.1 hx
  exact hkL_ok
end AvT

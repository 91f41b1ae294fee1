/- end, by the program. -/
import Derived.Test.YtgeclafcbgocgaaDoorBeg
namespace Go.Proofs.YtgeclafcbgocgaaDoor
open Go.RowKit Go.Maps
theorem clsCells_end (l : List Cl) (T : Nat) (h : T < l.length) (p r : Int) : CE.all (l.set T { l.getD T zCl with end_ := p, result := r }) = ((CE.all l).set (T * 6 + 5) (.int .i64 p)).set (T * 6 + 3) (.int .i64 r) := by
  induction l generalizing T with
  | nil => simp at h
  | cons x l ih =>
    cases T with
    | zero => rfl
    | succ T =>
      have h' : T < l.length := by simpa using h
      have hi := ih T h'
      have h1 : (T + 1) * 6 + 5 = 6 + (T * 6 + 5) := by omega
      have h2 : (T + 1) * 6 + 3 = 6 + (T * 6 + 3) := by omega
      have hl : (clCells x).length = 6 := rfl
      have e1 : (x :: l).set (T + 1) { (x :: l).getD (T + 1) zCl with end_ := p, result := r } = x :: l.set T { l.getD T zCl with end_ := p, result := r } := by simp
      rw [e1]
      show clCells x ++ CE.all (l.set T { l.getD T zCl with end_ := p, result := r }) = ((clCells x ++ CE.all l).set _ _).set _ _
      rw [hi, h1, h2, List.set_append_right _ _ (by omega), List.set_append_right _ _ (by omega), hl]
      simp
theorem clsCells_at (l : List Cl) (T j : Nat) (h : T < l.length) (hj : j < 6) : (CE.all l)[T * 6 + j]? = (clCells l[T])[j]? := by
  induction l generalizing T with
  | nil => simp at h
  | cons x l ih =>
    have hl : (clCells x).length = 6 := rfl
    cases T with
    | zero =>
      show (clCells x ++ CE.all l)[0 * 6 + j]? = _
      rw [List.getElem?_append_left (by omega)]
      simp
    | succ T =>
      have h' : T < l.length := by simpa using h
      show (clCells x ++ CE.all l)[(T + 1) * 6 + j]? = _
      rw [List.getElem?_append_right (by omega), hl]
      have : (T + 1) * 6 + j - 6 = T * 6 + j := by omega
      rw [this, ih T h']
      rfl
theorem end_fin {Bk Mb base p : Nat} {c : List Cl} {t r : Int} {i g cap : Nat} {W w1 : World} (Ho : openIx c t = some i) (H : BkS Bk Mb base c p W) (F1 : Frm Bk Mb base W w1) (M1 : MapB Mb (c.set i { c.getD i zCl with end_ := p, result := r }) w1)
    (hrow : w1.heap[Bk]? = some (.cells #[.slice (some ⟨g, 0, none⟩) c.length cap, .map (some Mb), .int .i64 (p : Int)] 55 (0, 0))) (hownA : w1.ownsRow base 32 6 (.slice (some ⟨g, 0, none⟩) c.length cap) c.length (CE.all c))
    (hBM : Bk ≠ Mb) (hMb : Mb < base) (hBk : Bk < base) (hs : base ≤ w1.heap.size) :
    BPost Bk Mb base c p ⟨t, 0, r, true⟩ W (.returned (.int .i64 0)) (((w1.setCell ⟨g, i * 6 + 5, none⟩ (.int .i64 (p : Int))).setCell ⟨g, i * 6 + 3, none⟩ (.int .i64 r)).setCell ⟨Bk, 2, none⟩ (.int .i64 ((p : Int) + 1))) := by
  obtain ⟨hi, -, -⟩ := openIx_spec Ho
  have hR := bookStep_end (p := p) (m := 0) (a := r) Ho
  have hgb := (hownA.lt g rfl)
  have hgB : g ≠ Bk := by omega
  have hgM : g ≠ Mb := by omega
  have st1 := hownA.stored (i * 6 + 5) (.int .i64 (p : Int))
  have st2 := st1.1.stored (i * 6 + 3) (.int .i64 r)
  have hcs := clsCells_end c i hi p r
  have hst2 := st2.1
  rw [← hcs] at hst2
  have g1 := setCell_grown w1 g (i * 6 + 5) (.int .i64 (p : Int))
  have g2 := setCell_grown (w1.setCell ⟨g, i * 6 + 5, none⟩ (.int .i64 (p : Int))) g (i * 6 + 3) (.int .i64 r)
  have g3 := setCell_grown ((w1.setCell ⟨g, i * 6 + 5, none⟩ (.int .i64 (p : Int))).setCell ⟨g, i * 6 + 3, none⟩ (.int .i64 r)) Bk 2 (.int .i64 ((p : Int) + 1))
  have hr2 : ((w1.setCell ⟨g, i * 6 + 5, none⟩ (.int .i64 (p : Int))).setCell ⟨g, i * 6 + 3, none⟩ (.int .i64 r)).heap[Bk]? = some (.cells #[.slice (some ⟨g, 0, none⟩) c.length cap, .map (some Mb), .int .i64 (p : Int)] 55 (0, 0)) := (setCell_other _ _ hgB.symm).trans ((setCell_other _ _ hgB.symm).trans hrow)
  have hr3 := setCell_heap hr2 2 (.int .i64 ((p : Int) + 1))
  have hM : some Mb ≠ some Bk := fun e => hBM (Option.some.inj e).symm
  have hMg : some Mb ≠ some g := fun e => hgM (Option.some.inj e).symm
  refine ⟨by rw [hR], ?_, ?_⟩
  · rw [hR]
    refine ⟨by have := bookStep_uni H.uni p ⟨t, 0, r, true⟩; rwa [hR] at this, by have := bookStep_len H.len p ⟨t, 0, r, true⟩; rwa [hR] at this, ?_, ⟨.slice (some ⟨g, 0, none⟩) c.length cap, ?_, ?_⟩, ?_⟩
    · exact ((M1.kept g1 hMg).kept g2 hMg).kept g3 hM
    · rw [hr3]
      simp
    · rw [List.length_set]
      exact hst2.kept g3 (.inr fun e => hgB (Option.some.inj e))
    · simp [World.setCell]; omega
  · exact F1.trans ((Frm.grown g1 hs (.inr (.inr (.inr ⟨g, rfl, hgb.1⟩)))).trans ((Frm.grown g2 (by simp [World.setCell]; omega) (.inr (.inr (.inr ⟨g, rfl, hgb.1⟩)))).trans (Frm.grown g3 (by simp [World.setCell]; omega) (.inr (.inl rfl)))))
theorem BPost.drew {Bk Mb base p : Nat} {c : List Cl} {m : Mk} {W W' : World} {e : Ending} (h : BPost Bk Mb base c p m W e W') : BPost Bk Mb base c p m W e W'.drew := by
  obtain ⟨h1, ⟨a1, a2, ⟨D, n, b1, b2, b3⟩, ⟨v, c1, c2⟩, a5⟩, f1, f2, f3, f4, f5⟩ := h
  exact ⟨h1, ⟨a1, a2, ⟨D, n, b1.drew, b2, b3⟩, ⟨v, c1, c2.drew⟩, a5⟩, f1, f2, f3, f4, f5⟩
set_option maxRecDepth 100000 in
set_option maxHeartbeats 4000000 in
theorem end50 (Bk Mb base : Nat) (c : List Cl) (p : Nat) (t r : Int) (W : World) (h : BkS Bk Mb base c p W) (hp : p ≤ 1000000) (hBk : Bk < base) (hMb : Mb < base) (ht : -1000 ≤ t ∧ t ≤ 1000) :
    Calls Tryd.prog 50 #[.pointer (some ⟨Bk, 0, none⟩), .int .i64 t, .int .i64 r] W (BPost Bk Mb base c p ⟨t, 0, r, true⟩ W) := by
  obtain ⟨x, hrun, hx⟩ := h.map.look t (by omega) (by omega)
  obtain ⟨v, hrow, hown⟩ := h.row
  have c0 : W.cell? ⟨Bk, 0, none⟩ = some v := cell_heap hrow 0
  have c1 : W.cell? ⟨Bk, 1, none⟩ = some (.map (some Mb)) := cell_heap hrow 1
  have c2 : W.cell? ⟨Bk, 2, none⟩ = some (.int .i64 (p : Int)) := cell_heap hrow 2
  cases ho : openIx c t with
  | none =>
    have hR := bookStep_closed (p := p) (m := 0) (a := r) ho
    have hP : BPost Bk Mb base c p ⟨t, 0, r, true⟩ W (.returned (.int .i64 17)) W := ⟨by rw [hR], by rw [hR]; exact h, Frm.refl _ _ _ _⟩
    rw [ho] at hrun
    simp only [Option.isSome_none] at hrun
    have HP := Lib.hid hP
    clear hP hR h hx hown hrow ho
    go_enter Tryd.func50, Tryd.ntmps50
    go_wp2_with fail
    go_ret
    exact HP.out
  | some i =>
    obtain ⟨hi, -, -⟩ := openIx_spec ho
    obtain rfl := hx i ho
    obtain ⟨g, cap, rfl, hg0, hg1⟩ := hown.form (by omega)
    rw [ho] at hrun
    simp only [Option.isSome_some] at hrun
    obtain ⟨D, n, hm1, hm2, hm3⟩ := h.map
    have hlen := h.len
    have hsz := h.sz
    have Hdel := Lib.hid (hm3.del h.uni ho (y := { c.getD i zCl with end_ := p, result := r }) (by show ¬ ((p : Nat) : Int) < 0; omega))
    have hBM : Bk ≠ Mb := by
      obtain ⟨es, clock, hmo⟩ := h.map.obj
      rintro rfl
      rw [hrow] at hmo
      cases hmo
    have H := Lib.hid h
    have Ho := Lib.hid ho
    have Hown := Lib.hid hown
    have Hrow := Lib.hid hrow
    clear h hx ho hown hrow hm3
    go_enter Tryd.func50, Tryd.ntmps50
    go_upto_region 5 with (at_delete; refine wpList_delete_own _ rfl _ _ 53 3 rfl 3 law3 Tryd.underlying53 _ Mb n D rfl hm1 _ _ rfl (keyOf_int_mk Tryd.underlying3 (wf_small (by omega) (by omega))) ?_; intro w1 hown1 hturn1)
    have hgr0 := hturn1.grown
    have hs1 : W.heap.size ≤ w1.heap.size := hgr0.size
    have hrow1 : w1.heap[Bk]? = some (.cells #[.slice (some ⟨g, 0, none⟩) c.length cap, .map (some Mb), .int .i64 (p : Int)] 55 (0, 0)) := (hgr0.block Bk (by omega) (fun e => hBM (Option.some.inj e))).trans Hrow.out
    have hownA : w1.ownsRow base 32 6 (.slice (some ⟨g, 0, none⟩) c.length cap) c.length (CE.all c) := Hown.out.kept hgr0 (.inr fun e => by have := (Hown.out.lt _ e).1; omega)
    have hgb := hownA.lt g rfl
    have d0 : w1.cell? ⟨Bk, 0, none⟩ = some (.slice (some ⟨g, 0, none⟩) c.length cap) := cell_heap hrow1 0
    have d2 : w1.cell? ⟨Bk, 2, none⟩ = some (.int .i64 (p : Int)) := cell_heap hrow1 2
    have e2 : w1.frozen? ⟨Bk, 2, none⟩ = false := frozen_heap hrow1 2
    have x5 : w1.cell? ⟨g, i * 6 + 5, none⟩ = some (.int .i64 (c[i]).end_) := (hownA.cellAt (i * 6 + 5) (by omega)).trans (clsCells_at _ i 5 hi (by decide))
    have x3 : w1.cell? ⟨g, i * 6 + 3, none⟩ = some (.int .i64 (c[i]).result) := (hownA.cellAt (i * 6 + 3) (by omega)).trans (clsCells_at _ i 3 hi (by decide))
    have y5 := hownA.frozenAt (i * 6 + 5)
    have y3 := hownA.frozenAt (i * 6 + 3)
    have hgB : g ≠ Bk := by omega
    have hF1 : Frm Bk Mb base W w1 := Frm.grown hgr0 hsz (.inr (.inr (.inl rfl)))
    have hM1 : MapB Mb (c.set i { c.getD i zCl with end_ := p, result := r }) w1 := ⟨_, _, hown1, by rw [List.length_set]; exact hm2, Hdel.out⟩
    have hfin := end_fin Ho.out H.out hF1 hM1 hrow1 hownA hBM hMb hBk (by omega)
    have HF := Lib.hid hfin
    clear hfin hF1 hM1 hrow1 hownA hm1 hown1 hturn1 hgr0 hrun c0 c1 c2
    go_region
    all_goals
      go_wp2_with fail
      go_ret
      first
        | exact HF.out
        | exact HF.out.drew
end Go.Proofs.YtgeclafcbgocgaaDoor

/- begin, by the program. -/
import Derived.Test.YtgeclafcbgocgaaDoorBok
import Derived.Deep.RegionLaw
namespace Go.Proofs.YtgeclafcbgocgaaDoor
open Go.RowKit Go.Maps
theorem inf32 : (Tryd.prog.info? 32).map (fun i => (i.zero, i.size, i.bytes)) = some (some (.agg #[.int .i64 0, .int .i64 0, .int .i64 0, .int .i64 0, .int .i64 0, .int .i64 0]), 6, 48) := by kernel_rfl
/-- What begin and end leave. -/
def BPost (Bk Mb base : Nat) (c : List Cl) (p : Nat) (m : Mk) (W : World) (e : Ending) (W' : World) : Prop :=
  e = .returned (.int .i64 (bookStep c p m).2) ∧ BkS Bk Mb base (bookStep c p m).1 (if (bookStep c p m).2 = 0 then p + 1 else p) W' ∧ Frm Bk Mb base W W'
theorem bookStep_open {c : List Cl} {p : Nat} {t m a : Int} {i : Nat} (h : openIx c t = some i) : bookStep c p ⟨t, m, a, false⟩ = (c, 17) := by unfold bookStep; rw [h]
theorem bookStep_full {c : List Cl} {p : Nat} {t m a : Int} (h : openIx c t = none) (hl : c.length = 100) : bookStep c p ⟨t, m, a, false⟩ = (c, 4) := by unfold bookStep; rw [h]; exact if_pos hl
theorem bookStep_new {c : List Cl} {p : Nat} {t m a : Int} (h : openIx c t = none) (hl : c.length ≠ 100) : bookStep c p ⟨t, m, a, false⟩ = (c ++ [⟨t, m, a, 0, p, -1⟩], 0) := by unfold bookStep; rw [h]; exact if_neg hl
theorem bookStep_closed {c : List Cl} {p : Nat} {t m a : Int} (h : openIx c t = none) : bookStep c p ⟨t, m, a, true⟩ = (c, 17) := by unfold bookStep; rw [h]
theorem bookStep_end {c : List Cl} {p : Nat} {t m a : Int} {i : Nat} (h : openIx c t = some i) : bookStep c p ⟨t, m, a, true⟩ = (c.set i { c.getD i zCl with end_ := p, result := a }, 0) := by unfold bookStep; rw [h]
theorem key_int (t : Int) : WideAt.IsKeyLit (.int .i64 t) := by simp [WideAt.IsKeyLit]
theorem FZ (w : World) (o : Obj) (a : Addr) (h : a.block < w.heap.size) : (w.alloc o).frozen? a = w.frozen? a := ((Below.refl w.heap.size w).alloc (Nat.le_refl _) o).frozen h
theorem setCell_grown (w : World) (b j : Nat) (v : Value) : w.grownBy (w.setCell ⟨b, j, none⟩ v) (some b) := ⟨rfl, rfl, rfl, by simp [World.setCell], fun i _ hi => setCell_other j v (fun e => hi (by rw [e]))⟩
theorem alloc_grown (w : World) (o : Obj) : w.grownBy (w.alloc o) none := World.grownBy_alloc w o none
theorem begin_fin {Bk Mb base p : Nat} {c : List Cl} {t m a : Int} {W w1 w3 : World} {o : Obj} {v v3 : Value} (Ho : openIx c t = none) (Hl : ¬ c.length = 100) (H : BkS Bk Mb base c p W) (F1 : Frm Bk Mb base W w1) (M1 : MapB Mb (c ++ [⟨t, m, a, 0, p, -1⟩]) w1)
    (hrow : w1.heap[Bk]? = some (.cells #[v, .map (some Mb), .int .i64 (p : Int)] 55 (0, 0))) (hgr : (w1.alloc o).grownBy w3 v.ownBlock) (hob : ¬ (v.ownBlock = some Bk)) (hownA : w1.ownsRow base 32 6 v c.length (CE.all c))
    (hown3 : w3.ownsRow base 32 6 v3 (c.length + 1) (CE.all c ++ clCells ⟨t, m, a, 0, p, -1⟩)) (hBM : Bk ≠ Mb) (hMb : Mb < base) (hBk : Bk < base) (hs : base ≤ w1.heap.size) :
    BPost Bk Mb base c p ⟨t, m, a, false⟩ W (.returned (.int .i64 0)) ((w3.setCell ⟨Bk, 0, none⟩ v3).setCell ⟨Bk, 2, none⟩ (.int .i64 ((p : Int) + 1))) := by
  have hR := bookStep_new (p := p) (m := m) (a := a) Ho Hl
  have hs2 : w1.heap.size ≤ w3.heap.size := by have := hgr.size; simp at this; omega
  have hobM : some Mb ≠ v.ownBlock := fun e => by have := (hownA.lt Mb e.symm).1; omega
  have hr3 : w3.heap[Bk]? = some (.cells #[v, .map (some Mb), .int .i64 (p : Int)] 55 (0, 0)) := (hgr.block Bk (by simp; omega) (fun e => hob e.symm)).trans ((heap_alloc_lt _ _ (by omega)).trans hrow)
  have hne3 := own_ne hown3 hr3 (by decide)
  have g1 := setCell_grown w3 Bk 0 v3
  have g2 := setCell_grown (w3.setCell ⟨Bk, 0, none⟩ v3) Bk 2 (.int .i64 ((p : Int) + 1))
  have hr4 : (w3.setCell ⟨Bk, 0, none⟩ v3).heap[Bk]? = some (.cells #[v3, .map (some Mb), .int .i64 (p : Int)] 55 (0, 0)) := setCell_heap hr3 0 v3
  have hr5 : ((w3.setCell ⟨Bk, 0, none⟩ v3).setCell ⟨Bk, 2, none⟩ (.int .i64 ((p : Int) + 1))).heap[Bk]? = some (.cells #[v3, .map (some Mb), .int .i64 ((p : Int) + 1)] 55 (0, 0)) := setCell_heap hr4 2 _
  have hM : some Mb ≠ some Bk := fun e => hBM (Option.some.inj e).symm
  refine ⟨by rw [hR], ?_, ?_⟩
  · rw [hR]
    refine ⟨by have := bookStep_uni H.uni p ⟨t, m, a, false⟩; rwa [hR] at this, by have := bookStep_len H.len p ⟨t, m, a, false⟩; rwa [hR] at this, ?_, ⟨v3, ?_, ?_⟩, ?_⟩
    · exact (((M1.kept (alloc_grown w1 o) (by simp)).kept hgr hobM).kept g1 hM).kept g2 hM
    · rw [hr5]
      simp
    · rw [List.length_append, Enc.all_snoc]
      exact (hown3.kept g1 (.inr hne3)).kept g2 (.inr hne3)
    · simp [World.setCell]; omega
  · refine F1.trans ((Frm.grown (alloc_grown w1 o) hs (.inl rfl)).trans ((Frm.grown hgr (by simp; omega) ?_).trans ((Frm.grown g1 (by omega) (.inr (.inl rfl))).trans (Frm.grown g2 (by simp [World.setCell]; omega) (.inr (.inl rfl))))))
    cases hq : v.ownBlock with
    | none => exact .inl rfl
    | some g => exact .inr (.inr (.inr ⟨g, rfl, (hownA.lt g hq).1⟩))
set_option maxRecDepth 100000 in
set_option maxHeartbeats 4000000 in
theorem begin49 (Bk Mb base : Nat) (c : List Cl) (p : Nat) (t m a : Int) (W : World) (h : BkS Bk Mb base c p W) (hp : p ≤ 1000000) (hBk : Bk < base) (hMb : Mb < base) (ht : -1000 ≤ t ∧ t ≤ 1000) :
    Calls Tryd.prog 49 #[.pointer (some ⟨Bk, 0, none⟩), .int .i64 t, .int .i64 m, .int .i64 a] W (BPost Bk Mb base c p ⟨t, m, a, false⟩ W) := by
  obtain ⟨x, hrun, hx⟩ := h.map.look t (by omega) (by omega)
  obtain ⟨v, hrow, hown⟩ := h.row
  have c0 : W.cell? ⟨Bk, 0, none⟩ = some v := cell_heap hrow 0
  have c1 : W.cell? ⟨Bk, 1, none⟩ = some (.map (some Mb)) := cell_heap hrow 1
  have c2 : W.cell? ⟨Bk, 2, none⟩ = some (.int .i64 (p : Int)) := cell_heap hrow 2
  obtain ⟨A, cap, hvs⟩ : ∃ A cap, v = .slice A c.length cap := by
    rcases hown.2 with ⟨rfl, h0⟩ | ⟨g, cap, cur, rfl, -⟩
    · exact ⟨none, 0, by rw [h0]⟩
    · exact ⟨_, _, rfl⟩
  cases ho : openIx c t with
  | some i =>
    have hR := bookStep_open (p := p) (m := m) (a := a) ho
    have hP : BPost Bk Mb base c p ⟨t, m, a, false⟩ W (.returned (.int .i64 17)) W := ⟨by rw [hR], by rw [hR]; exact h, Frm.refl _ _ _ _⟩
    rw [ho] at hrun
    simp only [Option.isSome_some] at hrun
    have HP := Lib.hid hP
    subst hvs
    clear hP hR h hx hown hrow ho
    go_enter Tryd.func49, Tryd.ntmps49
    go_wp2_with fail
    go_ret
    exact HP.out
  | none =>
    rw [ho] at hrun
    simp only [Option.isSome_none] at hrun
    by_cases hl : c.length = 100
    · have hR := bookStep_full (p := p) (m := m) (a := a) ho hl
      have hP : BPost Bk Mb base c p ⟨t, m, a, false⟩ W (.returned (.int .i64 4)) W := ⟨by rw [hR], by rw [hR]; exact h, Frm.refl _ _ _ _⟩
      have HP := Lib.hid hP
      subst hvs
      have hl' : ((c.length : Int) == 100) = true := by rw [hl]; rfl
      clear hP hR h hx hown hrow ho hl
      go_enter Tryd.func49, Tryd.ntmps49
      go_wp2_with fail
      go_ret
      exact HP.out
    · have hl' : ((c.length : Int) == 100) = false := by simp; omega
      have H := Lib.hid h
      have Ho := Lib.hid ho
      have Hl := Lib.hid hl
      have Hown := Lib.hid hown
      have Hrow := Lib.hid hrow
      clear h hx ho hl hown hrow
      subst hvs
      go_enter Tryd.func49, Tryd.ntmps49
      go_upto_region 6 with fail
      obtain ⟨D, n, hm1, hm2, hm3⟩ := H.out.map
      have hlen := H.out.len
      have hsz := H.out.sz
      have hput := hm3.put hm1.isMap t m a p (key_int t)
      have Hput := Lib.hid hput
      clear hput hm3
      refine wp_region_tail 10 (by kernel_rfl) (by kernel_rfl) (fun W' => ∃ n, W' = W.drewN n) ⟨1, rfl⟩ ?_
      iterate 10
        apply wpDetT_cons
        · rintro wx ⟨n, rfl⟩
          go_wp2_with fail
          exact ⟨rfl, rfl, n, rfl⟩
        go_frame
      rintro wx ⟨nq, rfl⟩
      have hm1' : (W.drewN nq).ownsMap Tryd.prog 3 (plainElem Tryd.prog 3) Mb n D := hm1
      go_wp2_with (at_mapUpdate; refine wpList_mapUpdate_own _ rfl _ _ _ 53 rfl 3 3 law3 Tryd.underlying53 _ Mb n D rfl hm1' (by unfold maxLen; omega) _ _ _ rfl rfl (keyOf_int_mk Tryd.underlying3 (wf_small (by omega) (by omega))) _ [] (plainElem_int Tryd.underlying3 (wf_small (by omega) (by omega))) ?_; intro w1 hown1 hgr1)
      obtain ⟨i0, hi0, hz0, hz1, hz2⟩ := info_parts inf32
      have hgr0 : W.grownBy w1 (some Mb) := ⟨hgr1.os, hgr1.tape, hgr1.output, hgr1.size, hgr1.block⟩
      have hBM : Bk ≠ Mb := by
        obtain ⟨es, clock, hmo⟩ := H.out.map.obj
        rintro rfl
        rw [Hrow.out] at hmo
        cases hmo
      have hs1 : W.heap.size ≤ w1.heap.size := hgr0.size
      have hrow1 : w1.heap[Bk]? = some (.cells #[.slice A c.length cap, .map (some Mb), .int .i64 (p : Int)] 55 (0, 0)) := (hgr0.block Bk (by omega) (fun e => hBM (Option.some.inj e))).trans Hrow.out
      have hownA : w1.ownsRow base 32 6 (.slice A c.length cap) c.length (CE.all c) := Hown.out.kept hgr0 (.inr fun e => by have := (Hown.out.lt _ e).1; omega)
      have hob : ¬ ((Value.slice A c.length cap).ownBlock = some Bk) := own_ne hownA hrow1 (by decide)
      have d0 : w1.cell? ⟨Bk, 0, none⟩ = some (.slice A c.length cap) := cell_heap hrow1 0
      have d1 : w1.cell? ⟨Bk, 1, none⟩ = some (.map (some Mb)) := cell_heap hrow1 1
      have d2 : w1.cell? ⟨Bk, 2, none⟩ = some (.int .i64 (p : Int)) := cell_heap hrow1 2
      have e0 : w1.frozen? ⟨Bk, 0, none⟩ = false := frozen_heap hrow1 0
      have e2 : w1.frozen? ⟨Bk, 2, none⟩ = false := frozen_heap hrow1 2
      have hF1 : Frm Bk Mb base W w1 := Frm.grown hgr0 hsz (.inr (.inr (.inl rfl)))
      have hM1 : MapB Mb (c ++ [⟨t, m, a, 0, p, -1⟩]) w1 := ⟨_, _, hown1, by simp; omega, Hput.out⟩
      have hbs1 : base ≤ w1.heap.size := by omega
      have HF1 := Lib.hid hF1
      have HM1 := Lib.hid hM1
      have Hrow1 := Lib.hid hrow1
      clear hF1 hM1 hrow1 hm1 hm1' hown1 hgr1 hgr0 hrun c0 c1 c2
      have hBw : Bk < w1.heap.size := by omega
      go_region_law (refine step_append_lies _ (by rfl) _ _ _ (by rfl) base 32 i0 _ 6 48 Tryd.underlying22 hi0 hz0 hz1 hz2 rfl (by omega) _ _ _ (by rfl) ((hownA.alloc _).drew) ⟨w1.heap.size, 0, none⟩ 1 1 (clCells ⟨t, m, a, 0, p, -1⟩) (by rfl) (by rfl) (World.news_of_block (cs := (clCells ⟨t, m, a, 0, p, -1⟩).toArray) (t := 32) (fr := (0, 0)) (heap_alloc_new w1 _)) (clCells_one _) (by omega) (by unfold maxLen; omega) (by omega) (by simp; omega) (w1.heap.size + 1) (by simp) ?_; intro gg cap3 w3 hown3 hgrow hat hlt3; have k0 : w3.cell? ⟨Bk, 0, none⟩ = some (.slice A c.length cap) := (hgrow.cell_far _ (by simp; omega) (Ne.symm hob)).trans ((World.cell?_alloc_lt w1 _ ⟨Bk, 0, none⟩ hBw).trans d0); have k2 : w3.cell? ⟨Bk, 2, none⟩ = some (.int .i64 (p : Int)) := (hgrow.cell_far _ (by simp; omega) (Ne.symm hob)).trans ((World.cell?_alloc_lt w1 _ ⟨Bk, 2, none⟩ hBw).trans d2); have k3 : w3.frozen? ⟨Bk, 0, none⟩ = false := (hgrow.frozen_far _ (by simp; omega) (Ne.symm hob)).trans ((FZ w1 _ ⟨Bk, 0, none⟩ hBw).trans e0); have k4 : w3.frozen? ⟨Bk, 2, none⟩ = false := (hgrow.frozen_far _ (by simp; omega) (Ne.symm hob)).trans ((FZ w1 _ ⟨Bk, 2, none⟩ hBw).trans e2))
      all_goals
        go_wp2_with fail
        go_ret
        have hg' : (w1.alloc (.cells (clCells ⟨t, m, a, 0, p, -1⟩).toArray 32)).grownBy w3 (Value.slice A c.length cap).ownBlock := ⟨hgrow.os, hgrow.tape, hgrow.output, hgrow.size, hgrow.block⟩
        exact begin_fin Ho.out Hl.out H.out HF1.out HM1.out Hrow1.out hg' hob hownA hown3 hBM hMb hBk hbs1
end Go.Proofs.YtgeclafcbgocgaaDoor

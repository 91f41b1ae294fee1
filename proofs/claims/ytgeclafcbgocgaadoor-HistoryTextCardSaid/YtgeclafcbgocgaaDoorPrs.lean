/- Parse, by the program: its memory. -/
import Derived.Test.YtgeclafcbgocgaaDoorRgl
import Derived.Test.YtgeclafcbgocgaaDoorLin
namespace Go.Proofs.YtgeclafcbgocgaaDoor
open Go.RowKit Go.Shelf
/-- What lies in memory while the lines are read. -/
structure RdS (w : World) (L : Loop) (c : List Cl) (p : Nat) (t : List UInt8) (W : World) : Prop where
  blw : Below w.heap.size w W
  top : w.heap.size + 8 ≤ W.heap.size
  r2 : W.heap[w.heap.size]? = some (.cells #[.slice none 0 0] 22 (0, 0))
  r3 : W.heap[w.heap.size + 1]? = some (.cells #[.int .i64 0] 25 (0, 0))
  bk : BkS (w.heap.size + 3) (w.heap.size + 2) (w.heap.size + 8) c p W
  bp : W.heap[w.heap.size + 4]? = some (.cells #[.pointer (some ⟨w.heap.size + 3, 0, none⟩)] 52 (0, 0))
  cap : W.heap[w.heap.size + 5]? = some (.cells #[.string ⟨t.toArray⟩] 9 (0, 0))
  df : W.heap[w.heap.size + 6]? = some (.deferred (some []))
  lp : W.heap[w.heap.size + 7]? = some (.loop L)
theorem RdS.frm {w W W1 : World} {L : Loop} {c c' : List Cl} {p p' : Nat} {t : List UInt8} (h : RdS w L c p t W) (hf : Frm (w.heap.size + 3) (w.heap.size + 2) (w.heap.size + 8) W W1) (hb : BkS (w.heap.size + 3) (w.heap.size + 2) (w.heap.size + 8) c' p' W1) : RdS w L c' p' t W1 := by
  obtain ⟨f1, f2, f3, f4, f5⟩ := hf
  have k : ∀ i, i < w.heap.size + 8 → i ≠ w.heap.size + 3 → i ≠ w.heap.size + 2 → W1.heap[i]? = W.heap[i]? := f5
  exact ⟨h.blw.trans ⟨f1, f2, f3, f4, fun i hi => f5 i (by omega) (by omega) (by omega)⟩, Nat.le_trans h.top f4, (k _ (by omega) (by omega) (by omega)).trans h.r2, (k _ (by omega) (by omega) (by omega)).trans h.r3, hb, (k _ (by omega) (by omega) (by omega)).trans h.bp, (k _ (by omega) (by omega) (by omega)).trans h.cap, (k _ (by omega) (by omega) (by omega)).trans h.df, (k _ (by omega) (by omega) (by omega)).trans h.lp⟩
theorem RdS.below {w W W1 : World} {L : Loop} {c : List Cl} {p : Nat} {t : List UInt8} (h : RdS w L c p t W) (hb : Below W.heap.size W W1) : RdS w L c p t W1 :=
  h.frm (Frm.below (hb.mono h.top)) (h.bk.below hb)
theorem BkS.grown {Bk Mb base p : Nat} {c : List Cl} {W W' : World} {b : Nat} (h : BkS Bk Mb base c p W) (hg : W.grownBy W' (some b)) (h1 : b ≠ Bk) (h2 : b ≠ Mb) (h3 : b < base) (hBk : Bk < base) : BkS Bk Mb base c p W' := by
  obtain ⟨v, e1, e2⟩ := h.row
  have hs := h.sz
  exact ⟨h.uni, h.len, h.map.kept hg (fun e => h2 (Option.some.inj e).symm), ⟨v, (hg.block _ (by omega) (fun e => h1 (Option.some.inj e).symm)).trans e1, e2.kept hg (.inr fun e => by have := (e2.lt b e).1; omega)⟩, Nat.le_trans hs hg.size⟩
theorem RdS.put {w W : World} {L : Loop} (L' : Loop) {c : List Cl} {p : Nat} {t : List UInt8} (h : RdS w L c p t W) : RdS w L' c p t (W.putObj (w.heap.size + 7) (.loop L')) := by
  have htop := h.top
  have k : ∀ i, i ≠ w.heap.size + 7 → (W.putObj (w.heap.size + 7) (.loop L')).heap[i]? = W.heap[i]? := fun i hi => World.putObj_heap_other hi
  have hg : W.grownBy (W.putObj (w.heap.size + 7) (.loop L')) (some (w.heap.size + 7)) := ⟨rfl, rfl, rfl, by simp, fun i _ hi => k i (fun e => hi (by rw [e]))⟩
  exact ⟨h.blw.grown hg (by omega) (fun j hj => by cases hj; omega), by simpa using htop, (k _ (by omega)).trans h.r2, (k _ (by omega)).trans h.r3, h.bk.grown hg (by omega) (by omega) (by omega) (by omega), (k _ (by omega)).trans h.bp, (k _ (by omega)).trans h.cap, (k _ (by omega)).trans h.df, World.putObj_heap_same (by omega)⟩
theorem RdS.setCap {w W : World} {L : Loop} {c : List Cl} {p : Nat} {t : List UInt8} (t' : List UInt8) (h : RdS w L c p t W) : RdS w L c p t' (W.setCell ⟨w.heap.size + 5, 0, none⟩ (.string ⟨t'.toArray⟩)) := by
  have k : ∀ i, i ≠ w.heap.size + 5 → (W.setCell ⟨w.heap.size + 5, 0, none⟩ (.string ⟨t'.toArray⟩)).heap[i]? = W.heap[i]? := fun i hi => setCell_other _ _ hi
  have hg := setCell_grown W (w.heap.size + 5) 0 (.string ⟨t'.toArray⟩)
  exact ⟨h.blw.setCell (by show w.heap.size ≤ w.heap.size + 5; omega) _, by simpa [World.setCell] using h.top, (k _ (by omega)).trans h.r2, (k _ (by omega)).trans h.r3, h.bk.grown hg (by omega) (by omega) (by omega) (by omega), (k _ (by omega)).trans h.bp, setCell_heap h.cap 0 _, (k _ (by omega)).trans h.df, (k _ (by omega)).trans h.lp⟩
/-- .. when the loop has been left: what is returned lies in its cells. -/
structure RdX (w : World) (L : Loop) (v : Value) (x : Int) (W : World) : Prop where
  blw : Below w.heap.size w W
  top : w.heap.size + 8 ≤ W.heap.size
  r2 : W.heap[w.heap.size]? = some (.cells #[v] 22 (0, 0))
  r3 : W.heap[w.heap.size + 1]? = some (.cells #[.int .i64 x] 25 (0, 0))
  df : W.heap[w.heap.size + 6]? = some (.deferred (some []))
  lp : W.heap[w.heap.size + 7]? = some (.loop L)
theorem RdX.put {w W : World} {L : Loop} (L' : Loop) {v : Value} {x : Int} (h : RdX w L v x W) : RdX w L' v x (W.putObj (w.heap.size + 7) (.loop L')) := by
  have htop := h.top
  have k : ∀ i, i ≠ w.heap.size + 7 → (W.putObj (w.heap.size + 7) (.loop L')).heap[i]? = W.heap[i]? := fun i hi => World.putObj_heap_other hi
  have hg : W.grownBy (W.putObj (w.heap.size + 7) (.loop L')) (some (w.heap.size + 7)) := ⟨rfl, rfl, rfl, by simp, fun i _ hi => k i (fun e => hi (by rw [e]))⟩
  exact ⟨h.blw.grown hg (by omega) (fun j hj => by cases hj; omega), by simpa using htop, (k _ (by omega)).trans h.r2, (k _ (by omega)).trans h.r3, (k _ (by omega)).trans h.df, World.putObj_heap_same (by omega)⟩
theorem RdS.toX {w W : World} {L : Loop} {c : List Cl} {p : Nat} {t : List UInt8} (v : Value) (x : Int) (h : RdS w L c p t W) : RdX w L v x ((W.setCell ⟨w.heap.size, 0, none⟩ v).setCell ⟨w.heap.size + 1, 0, none⟩ (.int .i64 x)) := by
  have k : ∀ (V : World) (b j : Nat) (v : Value), j ≠ b → (V.setCell ⟨b, 0, none⟩ v).heap[j]? = V.heap[j]? := fun V b j v hj => setCell_other _ _ hj
  refine ⟨(h.blw.setCell (by show w.heap.size ≤ w.heap.size; omega) _).setCell (by show w.heap.size ≤ w.heap.size + 1; omega) _, by simpa [World.setCell] using h.top, ?_, ?_, ?_, ?_⟩
  · rw [k _ _ _ _ (by omega)]
    exact setCell_heap h.r2 0 _
  · exact setCell_heap ((k _ _ _ _ (by omega)).trans h.r3) 0 _
  · rw [k _ _ _ _ (by omega), k _ _ _ _ (by omega)]
    exact h.df
  · rw [k _ _ _ _ (by omega), k _ _ _ _ (by omega)]
    exact h.lp
theorem RdX.cells {w W : World} {L : Loop} {v : Value} {x : Int} (h : RdX w L v x W) : (W.putObj (w.heap.size + 6) (.deferred none)).cell? ⟨w.heap.size, 0, none⟩ = some v ∧ (W.putObj (w.heap.size + 6) (.deferred none)).cell? ⟨w.heap.size + 1, 0, none⟩ = some (.int .i64 x) ∧ Below w.heap.size w (W.putObj (w.heap.size + 6) (.deferred none)) := by
  have htop := h.top
  have k : ∀ i, i ≠ w.heap.size + 6 → (W.putObj (w.heap.size + 6) (.deferred none)).heap[i]? = W.heap[i]? := fun i hi => World.putObj_heap_other hi
  have hg : W.grownBy (W.putObj (w.heap.size + 6) (.deferred none)) (some (w.heap.size + 6)) := ⟨rfl, rfl, rfl, by simp, fun i _ hi => k i (fun e => hi (by rw [e]))⟩
  refine ⟨?_, ?_, h.blw.grown hg (by omega) (fun j hj => by cases hj; omega)⟩
  · exact (cell_heap ((k _ (by omega)).trans h.r2) 0).trans rfl
  · exact (cell_heap ((k _ (by omega)).trans h.r3) 0).trans rfl
set_option maxRecDepth 100000 in
theorem lines30 (s : List UInt8) (w : World) : Calls Tryd.prog 30 #[.string ⟨s.toArray⟩] w fun e w' => e = .returned (.func (.func 45) #[] #[.pointer (some ⟨w.heap.size, 0, none⟩)]) ∧ w.alloc (.cells #[.string ⟨s.toArray⟩] 9) = w' := by
  have hmf : ∀ fn first cap w, (Instr.makeFunc fn first cap).run Tryd.prog w = .ok (.func fn first cap) w := fun _ _ _ _ => rfl
  go_enter Tryd.func30, Tryd.ntmps30
  go_wp2_with fail
  go_ret
  exact ⟨rfl, rfl⟩
theorem heap8 (w : World) (o0 o1 o2 o3 o4 o5 o6 o7 : Obj) : ∀ j (o : Obj), [o0, o1, o2, o3, o4, o5, o6, o7][j]? = some o → ((((((((w.alloc o0).alloc o1).alloc o2).alloc o3).alloc o4).alloc o5).alloc o6).alloc o7).heap[w.heap.size + j]? = some o := by
  intro j o hj
  have key : ((((((((w.alloc o0).alloc o1).alloc o2).alloc o3).alloc o4).alloc o5).alloc o6).alloc o7).heap = (((((((w.heap.push o0).push o1).push o2).push o3).push o4).push o5).push o6).push o7 := rfl
  have hl : ∀ i : Nat, ((((((((w.alloc o0).alloc o1).alloc o2).alloc o3).alloc o4).alloc o5).alloc o6).alloc o7).heap[i]? = (w.heap.toList ++ [o0, o1, o2, o3, o4, o5, o6, o7])[i]? := fun i => by
    rw [key, ← Array.getElem?_toList]
    simp
  rw [hl, List.getElem?_append_right (by simp)]
  simpa using hj
end Go.Proofs.YtgeclafcbgocgaaDoor

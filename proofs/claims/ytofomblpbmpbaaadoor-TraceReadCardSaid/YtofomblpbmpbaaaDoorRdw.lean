/- Read by the program. -/
import Derived.Test.YtofomblpbmpbaaaDoorRgl
import Derived.Test.YtofomblpbmpbaaaDoorRnd
import Derived.Test.YtofomblpbmpbaaaDoorRrd
import Derived.Test.YtofomblpbmpbaaaDoorPar
namespace Go.Proofs.YtofomblpbmpbaaaDoor
open Go.RowKit Go.Shelf
attribute [local go_sem] Oper.semAt_some
set_option maxRecDepth 100000 in
theorem lines55 (s : List UInt8) (w : World) : Calls Tryd.prog 55 #[.string ⟨s.toArray⟩] w fun e w' => e = .returned (.func (.func 74) #[] #[.pointer (some ⟨w.heap.size, 0, none⟩)]) ∧ w.alloc (.cells #[.string ⟨s.toArray⟩] 9) = w' := by
  have hmf : ∀ fn first cap w, (Instr.makeFunc fn first cap).run Tryd.prog w = .ok (.func fn first cap) w := fun _ _ _ _ => rfl
  go_enter Tryd.func55, Tryd.ntmps55
  go_wp2_with fail
  go_ret
  exact ⟨rfl, rfl⟩
theorem countByte_le (s : List UInt8) (c : UInt8) : Lib.countByte s c ≤ s.length := List.count_le_length
theorem inf23 : (Tryd.prog.info? 23).map (fun i => (i.zero, i.size, i.bytes)) = some (some (.agg #[.int .i64 0, .int .i64 0, .int .i64 0, .int .i64 0, .int .i64 0, .int .i64 0, .int .i64 0, .int .i64 0]), 8, 64) := by kernel_rfl
/-- What lies in memory while the lines are read: B: the heap's size when the call began. -/
structure RdS (w : World) (L : Loop) (acc : List Ev) (t : List UInt8) (W : World) : Prop where
  blw : Below w.heap.size w W
  top : w.heap.size + 7 ≤ W.heap.size
  r2 : W.heap[w.heap.size]? = some (.cells #[.slice none 0 0] 31 (0, 0))
  r3 : W.heap[w.heap.size + 1]? = some (.cells #[.int .i64 0] 3 (0, 0))
  r4 : W.heap[w.heap.size + 2]? = some (.cells #[.int .i64 0] 25 (0, 0))
  out : ∃ v, W.heap[w.heap.size + 3]? = some (.cells #[v] 31 (0, 0)) ∧ W.ownsRow (w.heap.size + 7) 23 8 v acc.length (evsCells acc)
  cap : W.heap[w.heap.size + 4]? = some (.cells #[.string ⟨t.toArray⟩] 9 (0, 0))
  df : W.heap[w.heap.size + 5]? = some (.deferred (some []))
  lp : W.heap[w.heap.size + 6]? = some (.loop L)
theorem RdS.below {w W W1 : World} {L : Loop} {acc : List Ev} {t : List UInt8} (h : RdS w L acc t W) (hb : Below W.heap.size W W1) : RdS w L acc t W1 := by
  have k : ∀ i, i < w.heap.size + 7 → W1.heap[i]? = W.heap[i]? := fun i hi => hb.block i (Nat.lt_of_lt_of_le hi h.top)
  obtain ⟨v, h1, h2⟩ := h.out
  exact ⟨h.blw.trans (hb.mono (Nat.le_trans (by omega) h.top)), Nat.le_trans h.top hb.size, (k _ (by omega)).trans h.r2, (k _ (by omega)).trans h.r3, (k _ (by omega)).trans h.r4, ⟨v, (k _ (by omega)).trans h1, own_below h2 hb⟩, (k _ (by omega)).trans h.cap, (k _ (by omega)).trans h.df, (k _ (by omega)).trans h.lp⟩
theorem RdS.put {w W : World} {L : Loop} (L' : Loop) {acc : List Ev} {t : List UInt8} (h : RdS w L acc t W) : RdS w L' acc t (W.putObj (w.heap.size + 6) (.loop L')) := by
  have htop := h.top
  have k : ∀ i, i ≠ w.heap.size + 6 → (W.putObj (w.heap.size + 6) (.loop L')).heap[i]? = W.heap[i]? := fun i hi => World.putObj_heap_other hi
  obtain ⟨v, h1, h2⟩ := h.out
  have hg : W.grownBy (W.putObj (w.heap.size + 6) (.loop L')) (some (w.heap.size + 6)) := ⟨rfl, rfl, rfl, by simp, fun i _ hi => k i (fun e => hi (by rw [e]))⟩
  refine ⟨h.blw.grown hg (by omega) (fun j hj => by cases hj; omega), by simpa using htop, (k _ (by omega)).trans h.r2, (k _ (by omega)).trans h.r3, (k _ (by omega)).trans h.r4, ⟨v, (k _ (by omega)).trans h1, ?_⟩, (k _ (by omega)).trans h.cap, (k _ (by omega)).trans h.df, World.putObj_heap_same (by omega)⟩
  refine h2.kept hg (.inr fun e => ?_)
  have := (h2.lt _ e).1
  omega
theorem RdS.setCap {w W : World} {L : Loop} {acc : List Ev} {t : List UInt8} (t' : List UInt8) (h : RdS w L acc t W) : RdS w L acc t' (W.setCell ⟨w.heap.size + 4, 0, none⟩ (.string ⟨t'.toArray⟩)) := by
  have k : ∀ i, i ≠ w.heap.size + 4 → (W.setCell ⟨w.heap.size + 4, 0, none⟩ (.string ⟨t'.toArray⟩)).heap[i]? = W.heap[i]? := fun i hi => Below.heap_setCell _ _ _ _ hi
  obtain ⟨v, h1, h2⟩ := h.out
  have hg : W.grownBy (W.setCell ⟨w.heap.size + 4, 0, none⟩ (.string ⟨t'.toArray⟩)) (some (w.heap.size + 4)) := ⟨rfl, rfl, rfl, by simp [World.setCell], fun i _ hi => k i (fun e => hi (by rw [e]))⟩
  refine ⟨h.blw.setCell (by show w.heap.size ≤ w.heap.size + 4; omega) _, by simpa [World.setCell] using h.top, (k _ (by omega)).trans h.r2, (k _ (by omega)).trans h.r3, (k _ (by omega)).trans h.r4, ⟨v, (k _ (by omega)).trans h1, ?_⟩, setCell_heap h.cap 0 _, (k _ (by omega)).trans h.df, (k _ (by omega)).trans h.lp⟩
  refine h2.kept hg (.inr fun e => ?_)
  have := (h2.lt _ e).1
  omega
/-- The events so far are one more. -/
theorem RdS.setOut {w W W1 : World} {L : Loop} {acc acc' : List Ev} {t : List UInt8} {v v' : Value} (h : RdS w L acc t W) (hv : W.ownsRow (w.heap.size + 7) 23 8 v acc.length (evsCells acc)) (hg : W.grownBy W1 v.ownBlock) (hv' : W1.ownsRow (w.heap.size + 7) 23 8 v' acc'.length (evsCells acc')) :
    RdS w L acc' t (W1.setCell ⟨w.heap.size + 3, 0, none⟩ v') := by
  have htop := h.top
  have hne : ∀ i, i < w.heap.size + 7 → some i ≠ v.ownBlock := fun i hi e => by have := (hv.lt i e.symm).1; omega
  have k : ∀ i, i < w.heap.size + 7 → i ≠ w.heap.size + 3 → (W1.setCell ⟨w.heap.size + 3, 0, none⟩ v').heap[i]? = W.heap[i]? := fun i hi hn => (Below.heap_setCell _ _ _ _ hn).trans (hg.block i (by omega) (hne i hi))
  obtain ⟨v0, h1, -⟩ := h.out
  have h3 : W1.heap[w.heap.size + 3]? = some (.cells #[v0] 31 (0, 0)) := (hg.block _ (by omega) (hne _ (by omega))).trans h1
  have hg2 : W1.grownBy (W1.setCell ⟨w.heap.size + 3, 0, none⟩ v') (some (w.heap.size + 3)) := ⟨rfl, rfl, rfl, by simp [World.setCell], fun i _ hi => Below.heap_setCell _ _ _ _ (fun e => hi (by rw [e]))⟩
  refine ⟨(h.blw.grown hg (by omega) (fun j hj => by have := (hv.lt j hj).1; omega)).setCell (by show w.heap.size ≤ w.heap.size + 3; omega) _, by have := hg.size; simp [World.setCell]; omega, (k _ (by omega) (by omega)).trans h.r2, (k _ (by omega) (by omega)).trans h.r3, (k _ (by omega) (by omega)).trans h.r4,
    ⟨v', setCell_heap h3 0 _, ?_⟩, (k _ (by omega) (by omega)).trans h.cap, (k _ (by omega) (by omega)).trans h.df, (k _ (by omega) (by omega)).trans h.lp⟩
  refine hv'.kept hg2 (.inr fun e => ?_)
  have := (hv'.lt _ e).1
  omega
/-- .. and when a round has left by 'return'. -/
structure RdX (w : World) (L : Loop) (i : Int) (W : World) : Prop where
  blw : Below w.heap.size w W
  top : w.heap.size + 7 ≤ W.heap.size
  r2 : W.heap[w.heap.size]? = some (.cells #[.slice none 0 0] 31 (0, 0))
  r3 : W.heap[w.heap.size + 1]? = some (.cells #[.int .i64 i] 3 (0, 0))
  r4 : W.heap[w.heap.size + 2]? = some (.cells #[.int .i64 3] 25 (0, 0))
  df : W.heap[w.heap.size + 5]? = some (.deferred (some []))
  lp : W.heap[w.heap.size + 6]? = some (.loop L)
theorem RdX.put {w W : World} {L : Loop} (L' : Loop) {i : Int} (h : RdX w L i W) : RdX w L' i (W.putObj (w.heap.size + 6) (.loop L')) := by
  have htop := h.top
  have k : ∀ i, i ≠ w.heap.size + 6 → (W.putObj (w.heap.size + 6) (.loop L')).heap[i]? = W.heap[i]? := fun i hi => World.putObj_heap_other hi
  have hg : W.grownBy (W.putObj (w.heap.size + 6) (.loop L')) (some (w.heap.size + 6)) := ⟨rfl, rfl, rfl, by simp, fun i _ hi => k i (fun e => hi (by rw [e]))⟩
  exact ⟨h.blw.grown hg (by omega) (fun j hj => by cases hj; omega), by simpa using htop, (k _ (by omega)).trans h.r2, (k _ (by omega)).trans h.r3, (k _ (by omega)).trans h.r4, (k _ (by omega)).trans h.df, World.putObj_heap_same (by omega)⟩
/-- What lies there when the call is about to return. -/
structure RdF (w : World) (v x y : Value) (W : World) : Prop where
  blw : Below w.heap.size w W
  top : w.heap.size + 7 ≤ W.heap.size
  r2 : W.heap[w.heap.size]? = some (.cells #[v] 31 (0, 0))
  r3 : W.heap[w.heap.size + 1]? = some (.cells #[x] 3 (0, 0))
  r4 : W.heap[w.heap.size + 2]? = some (.cells #[y] 25 (0, 0))
  df : W.heap[w.heap.size + 5]? = some (.deferred (some []))
theorem RdX.fin {w W : World} {L : Loop} {i : Int} (h : RdX w L i W) : RdF w (.slice none 0 0) (.int .i64 i) (.int .i64 3) W := ⟨h.blw, h.top, h.r2, h.r3, h.r4, h.df⟩
theorem RdF.cells {w W : World} {v x y : Value} (h : RdF w v x y W) : (W.putObj (w.heap.size + 5) (.deferred none)).cell? ⟨w.heap.size, 0, none⟩ = some v ∧ (W.putObj (w.heap.size + 5) (.deferred none)).cell? ⟨w.heap.size + 1, 0, none⟩ = some x ∧
    (W.putObj (w.heap.size + 5) (.deferred none)).cell? ⟨w.heap.size + 2, 0, none⟩ = some y ∧ Below w.heap.size w (W.putObj (w.heap.size + 5) (.deferred none)) := by
  have htop := h.top
  have k : ∀ i, i ≠ w.heap.size + 5 → (W.putObj (w.heap.size + 5) (.deferred none)).heap[i]? = W.heap[i]? := fun i hi => World.putObj_heap_other hi
  have hg : W.grownBy (W.putObj (w.heap.size + 5) (.deferred none)) (some (w.heap.size + 5)) := ⟨rfl, rfl, rfl, by simp, fun i _ hi => k i (fun e => hi (by rw [e]))⟩
  refine ⟨?_, ?_, ?_, h.blw.grown hg (by omega) (fun j hj => by cases hj; omega)⟩
  · exact (cell_heap ((k _ (by omega)).trans h.r2) 0).trans rfl
  · exact (cell_heap ((k _ (by omega)).trans h.r3) 0).trans rfl
  · exact (cell_heap ((k _ (by omega)).trans h.r4) 0).trans rfl
theorem RdS.fin {w W : World} {L : Loop} {acc : List Ev} {t : List UInt8} (h : RdS w L acc t W) {v : Value} (hown : W.ownsRow (w.heap.size + 7) 23 8 v acc.length (evsCells acc)) :
    RdF w v (.int .i64 0) (.int .i64 0) (((W.setCell ⟨w.heap.size, 0, none⟩ v).setCell ⟨w.heap.size + 1, 0, none⟩ (.int .i64 0)).setCell ⟨w.heap.size + 2, 0, none⟩ (.int .i64 0)) ∧
    ((((W.setCell ⟨w.heap.size, 0, none⟩ v).setCell ⟨w.heap.size + 1, 0, none⟩ (.int .i64 0)).setCell ⟨w.heap.size + 2, 0, none⟩ (.int .i64 0)).putObj (w.heap.size + 5) (.deferred none)).ownsRow (w.heap.size + 7) 23 8 v acc.length (evsCells acc) := by
  have k : ∀ (V : World) (b j : Nat) (v : Value), j ≠ b → (V.setCell ⟨b, 0, none⟩ v).heap[j]? = V.heap[j]? := fun V b j v hj => Below.heap_setCell _ _ _ _ hj
  have hne : ∀ i, i < w.heap.size + 7 → v.ownBlock ≠ some i := fun i hi e => by have := (hown.lt i e).1; omega
  have ks : ∀ (V : World) (b : Nat) (u : Value), b < w.heap.size + 7 → V.ownsRow (w.heap.size + 7) 23 8 v acc.length (evsCells acc) → (V.setCell ⟨b, 0, none⟩ u).ownsRow (w.heap.size + 7) 23 8 v acc.length (evsCells acc) := fun V b u hb hV =>
    hV.kept (row := some b) ⟨rfl, rfl, rfl, by simp [World.setCell], fun i _ hi => k _ _ _ _ (fun e => hi (by rw [e]))⟩ (.inr (hne b hb))
  refine ⟨⟨((h.blw.setCell (by show w.heap.size ≤ w.heap.size; omega) _).setCell (by show w.heap.size ≤ w.heap.size + 1; omega) _).setCell (by show w.heap.size ≤ w.heap.size + 2; omega) _, by simpa [World.setCell] using h.top, ?_, ?_, ?_, ?_⟩, ?_⟩
  · rw [k _ _ _ _ (by omega), k _ _ _ _ (by omega)]
    exact setCell_heap h.r2 0 _
  · rw [k _ _ _ _ (by omega)]
    exact setCell_heap ((k _ _ _ _ (by omega)).trans h.r3) 0 _
  · exact setCell_heap (((k _ _ _ _ (by omega)).trans (k _ _ _ _ (by omega))).trans h.r4) 0 _
  · rw [k _ _ _ _ (by omega), k _ _ _ _ (by omega), k _ _ _ _ (by omega)]
    exact h.df
  · have h3 := ks _ (w.heap.size + 2) (.int .i64 0) (by omega) (ks _ (w.heap.size + 1) (.int .i64 0) (by omega) (ks _ w.heap.size v (by omega) hown))
    exact h3.kept (row := some (w.heap.size + 5)) ⟨rfl, rfl, rfl, by simp, fun i _ hi => World.putObj_heap_other (fun e => hi (by rw [e]))⟩ (.inr (hne _ (by omega)))
theorem heap7 (w : World) (o0 o1 o2 o3 o4 o5 o6 : Obj) : (((((((w.alloc o0).alloc o1).alloc o2).alloc o3).alloc o4).alloc o5).alloc o6).heap[w.heap.size]? = some o0 ∧ (((((((w.alloc o0).alloc o1).alloc o2).alloc o3).alloc o4).alloc o5).alloc o6).heap[w.heap.size + 1]? = some o1 ∧
    (((((((w.alloc o0).alloc o1).alloc o2).alloc o3).alloc o4).alloc o5).alloc o6).heap[w.heap.size + 2]? = some o2 ∧ (((((((w.alloc o0).alloc o1).alloc o2).alloc o3).alloc o4).alloc o5).alloc o6).heap[w.heap.size + 3]? = some o3 ∧
    (((((((w.alloc o0).alloc o1).alloc o2).alloc o3).alloc o4).alloc o5).alloc o6).heap[w.heap.size + 4]? = some o4 ∧ (((((((w.alloc o0).alloc o1).alloc o2).alloc o3).alloc o4).alloc o5).alloc o6).heap[w.heap.size + 5]? = some o5 ∧
    (((((((w.alloc o0).alloc o1).alloc o2).alloc o3).alloc o4).alloc o5).alloc o6).heap[w.heap.size + 6]? = some o6 := by
  have key : (((((((w.alloc o0).alloc o1).alloc o2).alloc o3).alloc o4).alloc o5).alloc o6).heap = ((((((w.heap.push o0).push o1).push o2).push o3).push o4).push o5).push o6 := rfl
  have hl : ∀ i : Nat, (((((((w.alloc o0).alloc o1).alloc o2).alloc o3).alloc o4).alloc o5).alloc o6).heap[i]? = (w.heap.toList ++ [o0, o1, o2, o3, o4, o5, o6])[i]? := fun i => by
    rw [key, ← Array.getElem?_toList]
    simp
  have hr : ∀ j : Nat, (w.heap.toList ++ [o0, o1, o2, o3, o4, o5, o6])[w.heap.size + j]? = [o0, o1, o2, o3, o4, o5, o6][j]? := fun j => by
    rw [List.getElem?_append_right (by simp)]
    simp
  exact ⟨(hl _).trans (hr 0), (hl _).trans (hr 1), (hl _).trans (hr 2), (hl _).trans (hr 3), (hl _).trans (hr 4), (hl _).trans (hr 5), (hl _).trans (hr 6)⟩
theorem RdX.below {w W W1 : World} {L : Loop} {i : Int} (h : RdX w L i W) (hb : Below W.heap.size W W1) : RdX w L i W1 := by
  have k : ∀ i, i < w.heap.size + 7 → W1.heap[i]? = W.heap[i]? := fun i hi => hb.block i (Nat.lt_of_lt_of_le hi h.top)
  exact ⟨h.blw.trans (hb.mono (Nat.le_trans (by omega) h.top)), Nat.le_trans h.top hb.size, (k _ (by omega)).trans h.r2, (k _ (by omega)).trans h.r3, (k _ (by omega)).trans h.r4, (k _ (by omega)).trans h.df, (k _ (by omega)).trans h.lp⟩
theorem RdS.toX {w W : World} {L : Loop} {acc : List Ev} {t : List UInt8} (i : Int) (h : RdS w L acc t W) : RdX w L i (((W.setCell ⟨w.heap.size, 0, none⟩ (.slice none 0 0)).setCell ⟨w.heap.size + 1, 0, none⟩ (.int .i64 i)).setCell ⟨w.heap.size + 2, 0, none⟩ (.int .i64 3)) := by
  have k : ∀ (V : World) (b j : Nat) (v : Value), j ≠ b → (V.setCell ⟨b, 0, none⟩ v).heap[j]? = V.heap[j]? := fun V b j v hj => Below.heap_setCell _ _ _ _ hj
  refine ⟨((h.blw.setCell (by show w.heap.size ≤ w.heap.size; omega) _).setCell (by show w.heap.size ≤ w.heap.size + 1; omega) _).setCell (by show w.heap.size ≤ w.heap.size + 2; omega) _, by simpa [World.setCell] using h.top, ?_, ?_, ?_, ?_, ?_⟩
  · rw [k _ _ _ _ (by omega), k _ _ _ _ (by omega)]
    exact setCell_heap h.r2 0 _
  · rw [k _ _ _ _ (by omega)]
    exact setCell_heap ((k _ _ _ _ (by omega)).trans h.r3) 0 _
  · exact setCell_heap (((k _ _ _ _ (by omega)).trans (k _ _ _ _ (by omega))).trans h.r4) 0 _
  · rw [k _ _ _ _ (by omega), k _ _ _ _ (by omega), k _ _ _ _ (by omega)]
    exact h.df
  · rw [k _ _ _ _ (by omega), k _ _ _ _ (by omega), k _ _ _ _ (by omega)]
    exact h.lp
theorem own_slice {w : World} {base e size n : Nat} {v : Value} {xs : List Value} (h : w.ownsRow base e size v n xs) : ∃ A c, v = .slice A n c := by
  rcases h.2 with ⟨rfl, rfl⟩ | ⟨g, cap, cur, rfl, -⟩
  · exact ⟨_, _, rfl⟩
  · exact ⟨_, _, rfl⟩
def RdJ (w : World) (s : List UInt8) (r : List Ev × Int × Int) (L : Loop) (t : List UInt8) (W : World) : Prop := ∃ acc, RdS w L acc t W ∧ RdTo t acc r ∧ acc.length + t.length ≤ s.length
def RdJ' (w : World) (s : List UInt8) (r : List Ev × Int × Int) (L : Loop) (t : List UInt8) (W : World) : Prop := ∃ acc, RdS w L acc t W ∧ RdTo (Lib.cut t [10]).2.1 acc r ∧ acc.length + (Lib.cut t [10]).2.1.length ≤ s.length
def RdJx (w : World) (r : List Ev × Int × Int) (L : Loop) (W : World) : Prop := ∃ i, RdX w L i W ∧ r = ([], i, 3)
set_option maxRecDepth 100000 in
set_option maxHeartbeats 4000000 in
theorem read22 (s : List UInt8) (w : World) (hE : Env w) (hs : s.length ≤ 19000) (r : List Ev × Int × Int) (hr : RdTo s [] r) : Calls Tryd.prog 22 #[.string ⟨s.toArray⟩] w (RdPost r w) := by
  have hcb := countByte_le s 10
  refine (callsIn_wide (n := 9)).1 ?_
  refine callsIn_of_wp_marks Tryd.func22 rfl trivial ?_ rfl
  simp only [Tryd.ntmps22, List.size_toArray, List.length_cons, List.length_nil, Nat.reduceAdd, Nat.reduceSub, Array.replicate_succ, Array.replicate_zero, List.push_toArray, List.append_toArray, List.nil_append, List.cons_append]
  gi_wp2
  refine ⟨trivial, ?_⟩
  refine (callsIn_wide.2 (count54 s 10 _)).mono ?_
  rintro e w1 ⟨rfl, rfl⟩
  gi_wp2
  refine ⟨trivial, ?_⟩
  refine (callsIn_wide.2 (lines55 s _)).mono ?_
  rintro e w1 ⟨rfl, rfl⟩
  gi_wp2
  obtain ⟨w5, hw5⟩ : ∃ w5, (((((w.alloc (.cells #[.slice none 0 0] 31)).alloc (.cells #[.int .i64 0] 3)).alloc (.cells #[.int .i64 0] 25)).alloc (.cells #[.slice none 0 0] 31)).alloc (.cells #[.string ⟨s.toArray⟩] 9)) = w5 := ⟨_, rfl⟩
  have hz : w5.heap.size = w.heap.size + 5 := by rw [← hw5]; simp
  have hh0 : ∀ L, RdJ w s r L s ((w5.alloc (.deferred (some []))).alloc (.loop L)) := by
    intro L
    have hb : Below w.heap.size w ((w5.alloc (.deferred (some []))).alloc (.loop L)) := by
      rw [← hw5]
      exact (((((((Below.refl _ _).alloc (Nat.le_refl _) _).alloc (by simp) _).alloc (by simp; omega) _).alloc (by simp; omega) _).alloc (by simp; omega) _).alloc (by simp; omega) _).alloc (by simp; omega) _
    have h7 := heap7 w (.cells #[.slice none 0 0] 31) (.cells #[.int .i64 0] 3) (.cells #[.int .i64 0] 25) (.cells #[.slice none 0 0] 31) (.cells #[.string ⟨s.toArray⟩] 9) (.deferred (some [])) (.loop L)
    rw [hw5] at h7
    obtain ⟨e0, e1, e2, e3, e4, e5, e6⟩ := h7
    exact ⟨[], ⟨hb, by simp [hz], e0, e1, e2, ⟨.slice none 0 0, e3, World.ownsRow_nil _ _ _ _⟩, e4, e5, e6⟩, hr, by simp⟩
  rw [hw5]
  refine wpIn_range_lines (Bc := w.heap.size + 4) (N := s.length) (by omega) (by omega) rfl (RdJ w s r) (RdJ' w s r) (RdJx w r) ?_ ?_ ?_ ?_ ?_ ?_ ?_ ?_ ?_ ?_ s hh0
    (fun t => { tmps := #[.string ⟨s.toArray⟩, undef, .pointer (some ⟨w.heap.size, 0, none⟩), .pointer (some ⟨w.heap.size + 1, 0, none⟩), .pointer (some ⟨w.heap.size + 1 + 1, 0, none⟩), .pointer (some ⟨w.heap.size + 1 + 1 + 1, 0, none⟩), .string ⟨(Lib.cut t [10]).1.toArray⟩, .bool (Lib.cut t [10]).2.2, undef, undef, .string ⟨s.toArray⟩, .int .i64 (Lib.countByte s 10), .bool (decide (20000 < (Lib.countByte s 10 : Int))), .string ⟨s.toArray⟩, .func (.func 74) #[] #[.pointer (some ⟨w.heap.size + 1 + 1 + 1 + 1, 0, none⟩)], .string ⟨(Lib.cut t [10]).1.toArray⟩, .bool (Lib.cut t [10]).2.2, undef, undef, undef, undef, undef, undef, undef, undef, undef, undef, undef, undef, undef, undef, undef, undef, undef, undef], defers := [] }) ?assign ?body ?done ?stop
  case assign =>
    intro t W K hK
    gi_wp2
    exact hK
  case body =>
    rintro L t W ⟨acc, hS, hto, hlen⟩ ht
    have hEW := hE.below hS.blw
    have hmf : Tryd.prog.follows .mixedOrders = true := by kernel_rfl
    rcases cut_case t ht with ⟨hno, hcut⟩ | ⟨a, rst, rfl, hno, hcut⟩
    · rw [hcut]
      have hres := rdTo_open hno ht hto
      have n0 := parse14 t W hEW (by omega)
      unfold PPost at n0
      have HS := Lib.hid hS
      have Hres := Lib.hid hres
      clear hto ht hEW hh0 hw5 hz hr hS hres hno hcut
      obtain ⟨er, her⟩ : ∃ er, (parseR (pParse t) t).2 = er := ⟨_, rfl⟩
      obtain ⟨x, hx⟩ : ∃ x, (parseR (pParse t) t).1 = x := ⟨_, rfl⟩
      rw [her, hx] at n0
      clear her hx
      gi_wp2
      refine ⟨trivial, ?_⟩
      refine (CallsIn.inRound _ (callsIn_wide.2 n0)).mono ?_
      rintro e w1 ⟨rfl, hb1⟩
      have hS1 := HS.out.below hb1
      obtain ⟨v, hv, hown⟩ := hS1.out
      obtain ⟨A, c, rfl⟩ := own_slice hown
      have htop := hS1.top
      have q0 := cell_heap hS1.r2 0
      have q1 := cell_heap hS1.r3 0
      have q2 := cell_heap hS1.r4 0
      have q3 := cell_heap hv 0
      have f0 := frozen_heap hS1.r2 0
      have f1 := frozen_heap hS1.r3 0
      have f2 := frozen_heap hS1.r4 0
      have f3 := frozen_heap hv 0
      have HS1 := Lib.hid hS1
      have Hown := Lib.hid hown
      clear n0 hS1 hv hown HS hb1
      simp only [List.getElem?_toArray, List.getElem?_cons_zero] at q0 q1 q2 q3
      unfold evCells
      by_cases he : er = 0
      · subst he
        gi_wp2
        obtain ⟨b0, hb0⟩ : ∃ b, w.heap.size = b := ⟨_, rfl⟩
        obtain ⟨b1, hb1⟩ : ∃ b, w.heap.size + 1 = b := ⟨_, rfl⟩
        obtain ⟨b2, hb2⟩ : ∃ b, w.heap.size + 1 + 1 = b := ⟨_, rfl⟩
        obtain ⟨b3, hb3⟩ : ∃ b, w.heap.size + 1 + 1 + 1 = b := ⟨_, rfl⟩
        have n01 : b0 ≠ b1 := by omega
        have n02 : b0 ≠ b2 := by omega
        have n03 : b0 ≠ b3 := by omega
        have n12 : b1 ≠ b2 := by omega
        have n13 : b1 ≠ b3 := by omega
        have n23 : b2 ≠ b3 := by omega
        rw [show w.heap.size + 3 = b3 from by omega] at q3
        rw [show w.heap.size + 2 = b2 from by omega] at q2 f2
        rw [hb1] at q1 f1
        rw [hb0] at q0 f0
        have Hp : ∀ X : Obj, RdX w L acc.length (((((w1.alloc X).drew.setCell ⟨b0, 0, none⟩ (.slice none 0 0)).setCell ⟨b1, 0, none⟩ (.int .i64 acc.length)).setCell ⟨b2, 0, none⟩ (.int .i64 3))) := by
          intro X
          rw [← hb0, ← hb1, ← hb2]
          exact (HS1.out.below ((Below.refl _ _).alloc (Nat.le_refl _) X).drew).toX _
        rw [hb3, hb2, hb1, hb0]
        have s0 : b0 < w1.heap.size := by omega
        have s1 : b1 < w1.heap.size := by omega
        have s2 : b2 < w1.heap.size := by omega
        have s3 : b3 < w1.heap.size := by omega
        clear hb0 hb1 hb2 hb3 htop
        refine wpIn_region_any hmf ?_
        have kc : ∀ (b : Nat) (X : Obj) (u : Value), b < w1.heap.size → w1.cell? ⟨b, 0, none⟩ = some u → (w1.alloc X).drew.cell? ⟨b, 0, none⟩ = some u := fun b X u hb h => (World.cell?_alloc_lt w1 X ⟨b, 0, none⟩ hb).trans h
        have kf : ∀ (b : Nat) (X : Obj), b < w1.heap.size → w1.frozen? ⟨b, 0, none⟩ = false → (w1.alloc X).drew.frozen? ⟨b, 0, none⟩ = false := fun b X hb h => (World.frozen?_alloc_old w1 X ⟨b, 0, none⟩ (Nat.ne_of_lt hb)).trans h
        obtain ⟨X, hX⟩ : ∃ X : Obj, (Obj.cells #[.int .i64 x.step, .int .i64 x.time, .int .i64 x.task, .int .i64 x.kind, .int .i64 x.object, .int .i64 x.scope, .int .i64 x.value, .int .i64 x.other] 23) = X := ⟨_, rfl⟩
        rw [hX]
        have W3 := kc b3 X _ s3 q3
        have W2 := kc b2 X _ s2 q2
        have W1 := kc b1 X _ s1 q1
        have W0 := kc b0 X _ s0 q0
        have F2 := kf b2 X s2 f2
        have F1 := kf b1 X s1 f1
        have F0 := kf b0 X s0 f0
        have HX := Lib.hid (Hp X)
        clear kc kf q0 q1 q2 q3 f0 f1 f2 s0 s1 s2 s3 hX Hp HS1
        obtain ⟨V0, hV0⟩ : ∃ V0, (w1.alloc X).drew = V0 := ⟨_, rfl⟩
        have hV0' : { w1.alloc X with drawn := (w1.alloc X).drawn + 1 } = V0 := hV0
        rw [hV0']
        rw [hV0] at W0 W1 W2 W3 F0 F1 F2 HX
        clear hV0 hV0'
        refine region5 rfl (by kernel_rfl) (by kernel_rfl) (by kernel_rfl) (by kernel_rfl) (by kernel_rfl) (by kernel_rfl) (by kernel_rfl) (by kernel_rfl) (by simp) rfl rfl rfl rfl rfl (Wa := V0.setCell ⟨b0, 0, none⟩ (.slice none 0 0)) (Wb := (V0.setCell ⟨b0, 0, none⟩ (.slice none 0 0)).setCell ⟨b1, 0, none⟩ (.int .i64 acc.length)) (Wc := ((V0.setCell ⟨b0, 0, none⟩ (.slice none 0 0)).setCell ⟨b1, 0, none⟩ (.int .i64 acc.length)).setCell ⟨b2, 0, none⟩ (.int .i64 3)) (v0 := .slice A acc.length c) (v1 := .int .i64 acc.length) ?_ ?_ ?_ ?_ ?_ ?_
        · have c3 : ∀ V, V = V0 ∨ V = V0.setCell ⟨b0, 0, none⟩ (.slice none 0 0) → V.cell? ⟨b3, 0, none⟩ = some (.slice A acc.length c) := by
            rintro V (rfl | rfl)
            · exact W3
            · rw [World.cell?_setCell_other _ _ _ _ (by intro e; cases e; exact n03 rfl)]
              exact W3
          intro V hV
          have h3 := c3 V hV
          clear c3 hV W0 W1 W2 W3 F0 F1 F2
          go_wp2
          exact ⟨rfl, rfl, rfl⟩
        · intro V hV
          clear hV W0 W1 W2 W3 F0 F1 F2
          go_frame
          go_wp2
          exact ⟨rfl, rfl, rfl⟩
        · clear W1 W2 W3 F1 F2
          rintro b (rfl | rfl | rfl)
          · go_wp2
            exact ⟨rfl, rfl, rfl⟩
          · go_frame
            go_wp2
            exact ⟨rfl, rfl, rfl⟩
          · go_frame
            go_wp2
            exact ⟨rfl, rfl, rfl⟩
        · have c1 : (V0.setCell ⟨b0, 0, none⟩ (.slice none 0 0)).cell? ⟨b1, 0, none⟩ = some (.int .i64 0) := by
            rw [World.cell?_setCell_other _ _ _ _ (by intro e; cases e; exact n01 rfl)]
            exact W1
          have d1 : (V0.setCell ⟨b0, 0, none⟩ (.slice none 0 0)).frozen? ⟨b1, 0, none⟩ = false := by
            rw [World.frozen?_setCell]
            exact F1
          clear W0 W1 W2 W3 F0 F1 F2 HX
          generalize V0.setCell ⟨b0, 0, none⟩ (.slice none 0 0) = V1 at *
          go_frame
          go_wp2
          exact ⟨rfl, rfl, rfl⟩
        · have c2 : ((V0.setCell ⟨b0, 0, none⟩ (.slice none 0 0)).setCell ⟨b1, 0, none⟩ (.int .i64 acc.length)).cell? ⟨b2, 0, none⟩ = some (.int .i64 0) := by
            rw [World.cell?_setCell_other _ _ _ _ (by intro e; cases e; exact n12 rfl), World.cell?_setCell_other _ _ _ _ (by intro e; cases e; exact n02 rfl)]
            exact W2
          have d2 : ((V0.setCell ⟨b0, 0, none⟩ (.slice none 0 0)).setCell ⟨b1, 0, none⟩ (.int .i64 acc.length)).frozen? ⟨b2, 0, none⟩ = false := by
            rw [World.frozen?_setCell, World.frozen?_setCell]
            exact F2
          clear W0 W1 W2 W3 F0 F1 F2 HX
          generalize (V0.setCell ⟨b0, 0, none⟩ (.slice none 0 0)).setCell ⟨b1, 0, none⟩ (.int .i64 acc.length) = V1 at *
          go_frame
          go_wp2
          exact ⟨rfl, rfl, rfl⟩
        · clear W0 W1 W2 W3 F0 F1 F2
          gi_wp2
          exact ⟨_, HX.out, Hres.out⟩
      · have he' : (er != 0) = true := by simpa using he
        gi_wp2
        obtain ⟨b0, hb0⟩ : ∃ b, w.heap.size = b := ⟨_, rfl⟩
        obtain ⟨b1, hb1⟩ : ∃ b, w.heap.size + 1 = b := ⟨_, rfl⟩
        obtain ⟨b2, hb2⟩ : ∃ b, w.heap.size + 1 + 1 = b := ⟨_, rfl⟩
        obtain ⟨b3, hb3⟩ : ∃ b, w.heap.size + 1 + 1 + 1 = b := ⟨_, rfl⟩
        have n01 : b0 ≠ b1 := by omega
        have n02 : b0 ≠ b2 := by omega
        have n03 : b0 ≠ b3 := by omega
        have n12 : b1 ≠ b2 := by omega
        have n13 : b1 ≠ b3 := by omega
        have n23 : b2 ≠ b3 := by omega
        rw [show w.heap.size + 3 = b3 from by omega] at q3
        rw [show w.heap.size + 2 = b2 from by omega] at q2 f2
        rw [hb1] at q1 f1
        rw [hb0] at q0 f0
        have Hp : ∀ X : Obj, RdX w L acc.length (((((w1.alloc X).drew.setCell ⟨b0, 0, none⟩ (.slice none 0 0)).setCell ⟨b1, 0, none⟩ (.int .i64 acc.length)).setCell ⟨b2, 0, none⟩ (.int .i64 3))) := by
          intro X
          rw [← hb0, ← hb1, ← hb2]
          exact (HS1.out.below ((Below.refl _ _).alloc (Nat.le_refl _) X).drew).toX _
        rw [hb3, hb2, hb1, hb0]
        have s0 : b0 < w1.heap.size := by omega
        have s1 : b1 < w1.heap.size := by omega
        have s2 : b2 < w1.heap.size := by omega
        have s3 : b3 < w1.heap.size := by omega
        clear hb0 hb1 hb2 hb3 htop
        refine wpIn_region_any hmf ?_
        have kc : ∀ (b : Nat) (X : Obj) (u : Value), b < w1.heap.size → w1.cell? ⟨b, 0, none⟩ = some u → (w1.alloc X).drew.cell? ⟨b, 0, none⟩ = some u := fun b X u hb h => (World.cell?_alloc_lt w1 X ⟨b, 0, none⟩ hb).trans h
        have kf : ∀ (b : Nat) (X : Obj), b < w1.heap.size → w1.frozen? ⟨b, 0, none⟩ = false → (w1.alloc X).drew.frozen? ⟨b, 0, none⟩ = false := fun b X hb h => (World.frozen?_alloc_old w1 X ⟨b, 0, none⟩ (Nat.ne_of_lt hb)).trans h
        obtain ⟨X, hX⟩ : ∃ X : Obj, (Obj.cells #[.int .i64 x.step, .int .i64 x.time, .int .i64 x.task, .int .i64 x.kind, .int .i64 x.object, .int .i64 x.scope, .int .i64 x.value, .int .i64 x.other] 23) = X := ⟨_, rfl⟩
        rw [hX]
        have W3 := kc b3 X _ s3 q3
        have W2 := kc b2 X _ s2 q2
        have W1 := kc b1 X _ s1 q1
        have W0 := kc b0 X _ s0 q0
        have F2 := kf b2 X s2 f2
        have F1 := kf b1 X s1 f1
        have F0 := kf b0 X s0 f0
        have HX := Lib.hid (Hp X)
        clear kc kf q0 q1 q2 q3 f0 f1 f2 s0 s1 s2 s3 hX Hp HS1
        obtain ⟨V0, hV0⟩ : ∃ V0, (w1.alloc X).drew = V0 := ⟨_, rfl⟩
        have hV0' : { w1.alloc X with drawn := (w1.alloc X).drawn + 1 } = V0 := hV0
        rw [hV0']
        rw [hV0] at W0 W1 W2 W3 F0 F1 F2 HX
        clear hV0 hV0'
        refine region5 rfl (by kernel_rfl) (by kernel_rfl) (by kernel_rfl) (by kernel_rfl) (by kernel_rfl) (by kernel_rfl) (by kernel_rfl) (by kernel_rfl) (by simp) rfl rfl rfl rfl rfl (Wa := V0.setCell ⟨b0, 0, none⟩ (.slice none 0 0)) (Wb := (V0.setCell ⟨b0, 0, none⟩ (.slice none 0 0)).setCell ⟨b1, 0, none⟩ (.int .i64 acc.length)) (Wc := ((V0.setCell ⟨b0, 0, none⟩ (.slice none 0 0)).setCell ⟨b1, 0, none⟩ (.int .i64 acc.length)).setCell ⟨b2, 0, none⟩ (.int .i64 3)) (v0 := .slice A acc.length c) (v1 := .int .i64 acc.length) ?_ ?_ ?_ ?_ ?_ ?_
        · have c3 : ∀ V, V = V0 ∨ V = V0.setCell ⟨b0, 0, none⟩ (.slice none 0 0) → V.cell? ⟨b3, 0, none⟩ = some (.slice A acc.length c) := by
            rintro V (rfl | rfl)
            · exact W3
            · rw [World.cell?_setCell_other _ _ _ _ (by intro e; cases e; exact n03 rfl)]
              exact W3
          intro V hV
          have h3 := c3 V hV
          clear c3 hV W0 W1 W2 W3 F0 F1 F2
          go_wp2
          exact ⟨rfl, rfl, rfl⟩
        · intro V hV
          clear hV W0 W1 W2 W3 F0 F1 F2
          go_frame
          go_wp2
          exact ⟨rfl, rfl, rfl⟩
        · clear W1 W2 W3 F1 F2
          rintro b (rfl | rfl | rfl)
          · go_wp2
            exact ⟨rfl, rfl, rfl⟩
          · go_frame
            go_wp2
            exact ⟨rfl, rfl, rfl⟩
          · go_frame
            go_wp2
            exact ⟨rfl, rfl, rfl⟩
        · have c1 : (V0.setCell ⟨b0, 0, none⟩ (.slice none 0 0)).cell? ⟨b1, 0, none⟩ = some (.int .i64 0) := by
            rw [World.cell?_setCell_other _ _ _ _ (by intro e; cases e; exact n01 rfl)]
            exact W1
          have d1 : (V0.setCell ⟨b0, 0, none⟩ (.slice none 0 0)).frozen? ⟨b1, 0, none⟩ = false := by
            rw [World.frozen?_setCell]
            exact F1
          clear W0 W1 W2 W3 F0 F1 F2 HX
          generalize V0.setCell ⟨b0, 0, none⟩ (.slice none 0 0) = V1 at *
          go_frame
          go_wp2
          exact ⟨rfl, rfl, rfl⟩
        · have c2 : ((V0.setCell ⟨b0, 0, none⟩ (.slice none 0 0)).setCell ⟨b1, 0, none⟩ (.int .i64 acc.length)).cell? ⟨b2, 0, none⟩ = some (.int .i64 0) := by
            rw [World.cell?_setCell_other _ _ _ _ (by intro e; cases e; exact n12 rfl), World.cell?_setCell_other _ _ _ _ (by intro e; cases e; exact n02 rfl)]
            exact W2
          have d2 : ((V0.setCell ⟨b0, 0, none⟩ (.slice none 0 0)).setCell ⟨b1, 0, none⟩ (.int .i64 acc.length)).frozen? ⟨b2, 0, none⟩ = false := by
            rw [World.frozen?_setCell, World.frozen?_setCell]
            exact F2
          clear W0 W1 W2 W3 F0 F1 F2 HX
          generalize (V0.setCell ⟨b0, 0, none⟩ (.slice none 0 0)).setCell ⟨b1, 0, none⟩ (.int .i64 acc.length) = V1 at *
          go_frame
          go_wp2
          exact ⟨rfl, rfl, rfl⟩
        · clear W0 W1 W2 W3 F0 F1 F2
          gi_wp2
          exact ⟨_, HX.out, Hres.out⟩
    · rw [hcut]
      have n0 := parse14 a W hEW (by simp at hlen; omega)
      unfold PPost at n0
      have hok := fun h0 => rdTo_ok hno h0 hto
      have hbad := fun h0 => rdTo_bad hno h0 hto
      have Hok := Lib.hid hok
      have Hbad := Lib.hid hbad
      have HS := Lib.hid hS
      have Hcut := Lib.hid hcut
      clear hto ht hEW hh0 hw5 hz hr hS hok hbad hno hcut
      have her : (parseR (pParse a) a).2 = errOf a := rfl
      have hx : (parseR (pParse a) a).1 = evOf a := rfl
      rw [her, hx] at n0
      clear her hx
      by_cases he : errOf a = 0
      · have Hto := Lib.hid (Hok.out he)
        rw [he] at n0
        generalize evOf a = x at *
        clear he
        gi_wp2
        refine ⟨trivial, ?_⟩
        refine (CallsIn.inRound _ (callsIn_wide.2 n0)).mono ?_
        rintro e w1 ⟨rfl, hb1⟩
        have hS1 := HS.out.below hb1
        obtain ⟨v, hv, hown⟩ := hS1.out
        obtain ⟨A, c, rfl⟩ := own_slice hown
        have htop := hS1.top
        have q0 := cell_heap hS1.r2 0
        have q1 := cell_heap hS1.r3 0
        have q2 := cell_heap hS1.r4 0
        have q3 := cell_heap hv 0
        have f0 := frozen_heap hS1.r2 0
        have f1 := frozen_heap hS1.r3 0
        have f2 := frozen_heap hS1.r4 0
        have f3 := frozen_heap hv 0
        have HS1 := Lib.hid hS1
        have Hown := Lib.hid hown
        clear n0 hS1 hv hown HS hb1
        simp only [List.getElem?_toArray, List.getElem?_cons_zero] at q0 q1 q2 q3
        obtain ⟨b3, hb3⟩ : ∃ b, w.heap.size + 1 + 1 + 1 = b := ⟨_, rfl⟩
        rw [show w.heap.size + 3 = b3 from by omega] at q3 f3
        have s3 : b3 < w1.heap.size := by omega
        have s4 : w.heap.size + 7 ≤ w1.heap.size := htop
        have hla : acc.length + 1 ≤ 19001 := by simp at hlen; omega
        rw [hb3]
        have Hb3 := Lib.hid hb3
        clear q0 q1 q2 f0 f1 f2 htop hb3
        obtain ⟨i0, hi0, hz0, hz1, hz2⟩ := info_parts inf23
        unfold evCells
        gi_wp2_with (gi_at_builtin; refine wpListIn_append_own _ rfl _ _ 31 rfl (w.heap.size + 7) 23 i0 _ 8 64 Tryd.underlying31 hi0 hz0 hz1 hz2 rfl (by decide) _ _ _ rfl ((Hown.out.alloc _).alloc _) ⟨w1.heap.size + 1, 0, none⟩ 1 1 (evCells x) rfl rfl (fun j u hj => by rw [plain_add]; exact Row.new _ _ _ _ (by simp) j u hj) (evCells_one _) (by unfold maxLen; omega) (by omega) (by simp; omega) ?_; intro v' w2 hown2 hgr2 _; obtain ⟨A2, c2, rfl⟩ := own_slice hown2; have hblk := (hgr2.block b3 (by simp; omega) (fun e => by have := (Hown.out.lt b3 e.symm).1; have := Hb3.out; omega)).trans ((Below.heap_alloc (w1.alloc _) _ b3 (by simp; omega)).trans (Below.heap_alloc w1 _ b3 s3)); have q3' := (World.cell?_of_block (a := ⟨b3, 0, none⟩) hblk).trans q3; have f3' := (World.frozen?_of_block (a := ⟨b3, 0, none⟩) hblk).trans f3)
        refine ⟨acc ++ [x], ?_, ?_, ?_⟩
        · rw [← Hb3.out]
          have hS2 := (HS1.out.below ((Below.refl _ _).alloc (Nat.le_refl _) (.cells #[.int .i64 x.step, .int .i64 x.time, .int .i64 x.task, .int .i64 x.kind, .int .i64 x.object, .int .i64 x.scope, .int .i64 x.value, .int .i64 x.other] 23))).below ((Below.refl _ _).alloc (Nat.le_refl _) (.cells #[.int .i64 x.step, .int .i64 x.time, .int .i64 x.task, .int .i64 x.kind, .int .i64 x.object, .int .i64 x.scope, .int .i64 x.value, .int .i64 x.other] 23))
          exact hS2.setOut ((Hown.out.alloc _).alloc _) hgr2 (by rw [List.length_append, evsCells_snoc]; exact hown2)
        · rw [Hcut.out]
          exact Hto.out
        · rw [Hcut.out]
          simp at hlen ⊢
          omega
      · have Hres := Lib.hid (Hbad.out he)
        generalize evOf a = x at *
        generalize errOf a = er at *
        gi_wp2
        refine ⟨trivial, ?_⟩
        refine (CallsIn.inRound _ (callsIn_wide.2 n0)).mono ?_
        rintro e w1 ⟨rfl, hb1⟩
        have hS1 := HS.out.below hb1
        obtain ⟨v, hv, hown⟩ := hS1.out
        obtain ⟨A, c, rfl⟩ := own_slice hown
        have htop := hS1.top
        have q0 := cell_heap hS1.r2 0
        have q1 := cell_heap hS1.r3 0
        have q2 := cell_heap hS1.r4 0
        have q3 := cell_heap hv 0
        have f0 := frozen_heap hS1.r2 0
        have f1 := frozen_heap hS1.r3 0
        have f2 := frozen_heap hS1.r4 0
        have f3 := frozen_heap hv 0
        have HS1 := Lib.hid hS1
        have Hown := Lib.hid hown
        clear n0 hS1 hv hown HS hb1
        simp only [List.getElem?_toArray, List.getElem?_cons_zero] at q0 q1 q2 q3
        unfold evCells
        have he' : (er != 0) = true := by simpa using he
        gi_wp2
        obtain ⟨b0, hb0⟩ : ∃ b, w.heap.size = b := ⟨_, rfl⟩
        obtain ⟨b1, hb1⟩ : ∃ b, w.heap.size + 1 = b := ⟨_, rfl⟩
        obtain ⟨b2, hb2⟩ : ∃ b, w.heap.size + 1 + 1 = b := ⟨_, rfl⟩
        obtain ⟨b3, hb3⟩ : ∃ b, w.heap.size + 1 + 1 + 1 = b := ⟨_, rfl⟩
        have n01 : b0 ≠ b1 := by omega
        have n02 : b0 ≠ b2 := by omega
        have n03 : b0 ≠ b3 := by omega
        have n12 : b1 ≠ b2 := by omega
        have n13 : b1 ≠ b3 := by omega
        have n23 : b2 ≠ b3 := by omega
        rw [show w.heap.size + 3 = b3 from by omega] at q3
        rw [show w.heap.size + 2 = b2 from by omega] at q2 f2
        rw [hb1] at q1 f1
        rw [hb0] at q0 f0
        have Hp : ∀ X : Obj, RdX w L acc.length (((((w1.alloc X).drew.setCell ⟨b0, 0, none⟩ (.slice none 0 0)).setCell ⟨b1, 0, none⟩ (.int .i64 acc.length)).setCell ⟨b2, 0, none⟩ (.int .i64 3))) := by
          intro X
          rw [← hb0, ← hb1, ← hb2]
          exact (HS1.out.below ((Below.refl _ _).alloc (Nat.le_refl _) X).drew).toX _
        rw [hb3, hb2, hb1, hb0]
        have s0 : b0 < w1.heap.size := by omega
        have s1 : b1 < w1.heap.size := by omega
        have s2 : b2 < w1.heap.size := by omega
        have s3 : b3 < w1.heap.size := by omega
        clear hb0 hb1 hb2 hb3 htop
        refine wpIn_region_any hmf ?_
        have kc : ∀ (b : Nat) (X : Obj) (u : Value), b < w1.heap.size → w1.cell? ⟨b, 0, none⟩ = some u → (w1.alloc X).drew.cell? ⟨b, 0, none⟩ = some u := fun b X u hb h => (World.cell?_alloc_lt w1 X ⟨b, 0, none⟩ hb).trans h
        have kf : ∀ (b : Nat) (X : Obj), b < w1.heap.size → w1.frozen? ⟨b, 0, none⟩ = false → (w1.alloc X).drew.frozen? ⟨b, 0, none⟩ = false := fun b X hb h => (World.frozen?_alloc_old w1 X ⟨b, 0, none⟩ (Nat.ne_of_lt hb)).trans h
        obtain ⟨X, hX⟩ : ∃ X : Obj, (Obj.cells #[.int .i64 x.step, .int .i64 x.time, .int .i64 x.task, .int .i64 x.kind, .int .i64 x.object, .int .i64 x.scope, .int .i64 x.value, .int .i64 x.other] 23) = X := ⟨_, rfl⟩
        rw [hX]
        have W3 := kc b3 X _ s3 q3
        have W2 := kc b2 X _ s2 q2
        have W1 := kc b1 X _ s1 q1
        have W0 := kc b0 X _ s0 q0
        have F2 := kf b2 X s2 f2
        have F1 := kf b1 X s1 f1
        have F0 := kf b0 X s0 f0
        have HX := Lib.hid (Hp X)
        clear kc kf q0 q1 q2 q3 f0 f1 f2 s0 s1 s2 s3 hX Hp HS1
        obtain ⟨V0, hV0⟩ : ∃ V0, (w1.alloc X).drew = V0 := ⟨_, rfl⟩
        have hV0' : { w1.alloc X with drawn := (w1.alloc X).drawn + 1 } = V0 := hV0
        rw [hV0']
        rw [hV0] at W0 W1 W2 W3 F0 F1 F2 HX
        clear hV0 hV0'
        refine region5 rfl (by kernel_rfl) (by kernel_rfl) (by kernel_rfl) (by kernel_rfl) (by kernel_rfl) (by kernel_rfl) (by kernel_rfl) (by kernel_rfl) (by simp) rfl rfl rfl rfl rfl (Wa := V0.setCell ⟨b0, 0, none⟩ (.slice none 0 0)) (Wb := (V0.setCell ⟨b0, 0, none⟩ (.slice none 0 0)).setCell ⟨b1, 0, none⟩ (.int .i64 acc.length)) (Wc := ((V0.setCell ⟨b0, 0, none⟩ (.slice none 0 0)).setCell ⟨b1, 0, none⟩ (.int .i64 acc.length)).setCell ⟨b2, 0, none⟩ (.int .i64 3)) (v0 := .slice A acc.length c) (v1 := .int .i64 acc.length) ?_ ?_ ?_ ?_ ?_ ?_
        · have c3 : ∀ V, V = V0 ∨ V = V0.setCell ⟨b0, 0, none⟩ (.slice none 0 0) → V.cell? ⟨b3, 0, none⟩ = some (.slice A acc.length c) := by
            rintro V (rfl | rfl)
            · exact W3
            · rw [World.cell?_setCell_other _ _ _ _ (by intro e; cases e; exact n03 rfl)]
              exact W3
          intro V hV
          have h3 := c3 V hV
          clear c3 hV W0 W1 W2 W3 F0 F1 F2
          go_wp2
          exact ⟨rfl, rfl, rfl⟩
        · intro V hV
          clear hV W0 W1 W2 W3 F0 F1 F2
          go_frame
          go_wp2
          exact ⟨rfl, rfl, rfl⟩
        · clear W1 W2 W3 F1 F2
          rintro b (rfl | rfl | rfl)
          · go_wp2
            exact ⟨rfl, rfl, rfl⟩
          · go_frame
            go_wp2
            exact ⟨rfl, rfl, rfl⟩
          · go_frame
            go_wp2
            exact ⟨rfl, rfl, rfl⟩
        · have c1 : (V0.setCell ⟨b0, 0, none⟩ (.slice none 0 0)).cell? ⟨b1, 0, none⟩ = some (.int .i64 0) := by
            rw [World.cell?_setCell_other _ _ _ _ (by intro e; cases e; exact n01 rfl)]
            exact W1
          have d1 : (V0.setCell ⟨b0, 0, none⟩ (.slice none 0 0)).frozen? ⟨b1, 0, none⟩ = false := by
            rw [World.frozen?_setCell]
            exact F1
          clear W0 W1 W2 W3 F0 F1 F2 HX
          generalize V0.setCell ⟨b0, 0, none⟩ (.slice none 0 0) = V1 at *
          go_frame
          go_wp2
          exact ⟨rfl, rfl, rfl⟩
        · have c2 : ((V0.setCell ⟨b0, 0, none⟩ (.slice none 0 0)).setCell ⟨b1, 0, none⟩ (.int .i64 acc.length)).cell? ⟨b2, 0, none⟩ = some (.int .i64 0) := by
            rw [World.cell?_setCell_other _ _ _ _ (by intro e; cases e; exact n12 rfl), World.cell?_setCell_other _ _ _ _ (by intro e; cases e; exact n02 rfl)]
            exact W2
          have d2 : ((V0.setCell ⟨b0, 0, none⟩ (.slice none 0 0)).setCell ⟨b1, 0, none⟩ (.int .i64 acc.length)).frozen? ⟨b2, 0, none⟩ = false := by
            rw [World.frozen?_setCell, World.frozen?_setCell]
            exact F2
          clear W0 W1 W2 W3 F0 F1 F2 HX
          generalize (V0.setCell ⟨b0, 0, none⟩ (.slice none 0 0)).setCell ⟨b1, 0, none⟩ (.int .i64 acc.length) = V1 at *
          go_frame
          go_wp2
          exact ⟨rfl, rfl, rfl⟩
        · clear W0 W1 W2 W3 F0 F1 F2
          gi_wp2
          exact ⟨_, HX.out, Hres.out⟩
  case done =>
    rintro L W ⟨acc, hS, hto, hlen⟩
    have hres := rdTo_nil hto
    obtain ⟨v, hv, hown⟩ := hS.out
    have hfin := hS.fin hown
    obtain ⟨A, c, rfl⟩ := own_slice hown
    have htop := hS.top
    have q0 := cell_heap hS.r2 0
    have q1 := cell_heap hS.r3 0
    have q2 := cell_heap hS.r4 0
    have q3 := cell_heap hv 0
    have f0 := frozen_heap hS.r2 0
    have f1 := frozen_heap hS.r3 0
    have f2 := frozen_heap hS.r4 0
    have Hfin := Lib.hid hfin
    have Hres := Lib.hid hres
    clear hto hv hown hfin hres hS hh0 hw5 hr
    simp only [List.getElem?_toArray, List.getElem?_cons_zero] at q0 q1 q2 q3
    obtain ⟨b1, hb1⟩ : ∃ b, w.heap.size + 1 = b := ⟨_, rfl⟩
    obtain ⟨b2, hb2⟩ : ∃ b, w.heap.size + 1 + 1 = b := ⟨_, rfl⟩
    obtain ⟨b3, hb3⟩ : ∃ b, w.heap.size + 1 + 1 + 1 = b := ⟨_, rfl⟩
    have n01 : w.heap.size ≠ b1 := by omega
    have n02 : w.heap.size ≠ b2 := by omega
    have n12 : b1 ≠ b2 := by omega
    rw [show w.heap.size + 3 = b3 from by omega] at q3
    rw [show w.heap.size + 2 = b2 from by omega] at q2 f2
    rw [hb1] at q1 f1
    rw [show w.heap.size + 2 = b2 from by omega, hb1] at Hfin
    rw [hb3, hb2, hb1]
    have HB := Lib.hid hb1
    have HB2 := Lib.hid hb2
    clear hb1 hb2 hb3 htop
    rw [hz]
    gi_wp2
    obtain ⟨hF, hO⟩ := Hfin.out
    refine ⟨by simp, .inl ⟨_, _, rfl, run_takeDeferred hF.df, ?_⟩⟩
    obtain ⟨c0, c1, c2, hbl⟩ := hF.cells
    rw [show w.heap.size + 2 = b2 from HB2.out] at c2
    rw [HB.out] at c1
    refine ⟨.tuple #[.slice A acc.length c, .int .i64 0, .int .i64 0], ?_, ⟨.slice A acc.length c, ?_, ?_, hbl⟩⟩
    · simp [results, Tryd.results22, go_sem, c0, c1, c2]
    · rw [Hres.out]
    · rw [Hres.out]
      exact evsV_own hO
  case stop =>
    rintro L W ⟨i, hX, hri⟩
    have hF := hX.fin
    rw [hz]
    gi_wp2
    refine ⟨by simp, .inl ⟨_, _, rfl, run_takeDeferred hF.df, ?_⟩⟩
    obtain ⟨c0, c1, c2, hbl⟩ := hF.cells
    refine ⟨.tuple #[.slice none 0 0, .int .i64 i, .int .i64 3], ?_, ⟨.slice none 0 0, ?_, ?_, hbl⟩⟩
    · simp [results, Tryd.results22, go_sem, c0, c1, c2]
    · rw [hri]
    · rw [hri]
      exact EvsV.nil_ _ _ _
  · intro L t W ⟨acc, h, _⟩; rw [hz]; exact h.lp
  · intro L t W ⟨acc, h, _⟩; rw [hz]; exact h.lp
  · intro L W ⟨i, h, _⟩; rw [hz]; exact h.lp
  · intro L L' t W ⟨acc, h, h2⟩; rw [hz]; exact ⟨acc, h.put L', h2⟩
  · intro L L' t W ⟨acc, h, h2⟩; rw [hz]; exact ⟨acc, h.put L', h2⟩
  · intro L L' W ⟨i, h, h2⟩; rw [hz]; exact ⟨i, h.put L', h2⟩
  · intro L t W ⟨acc, h, h2, h3⟩; exact ⟨hE.below h.blw, cell_heap h.cap 0, by omega⟩
  · intro L t W W1 ⟨acc, h, h2⟩ hb; exact ⟨acc, h.below hb, h2⟩
  · intro L t W ⟨acc, h, h2⟩; exact ⟨cell_heap h.cap 0, frozen_heap h.cap 0⟩
  · intro L t W ⟨acc, h, h2⟩ _; exact ⟨acc, h.setCap _, h2⟩
end Go.Proofs.YtofomblpbmpbaaaDoor

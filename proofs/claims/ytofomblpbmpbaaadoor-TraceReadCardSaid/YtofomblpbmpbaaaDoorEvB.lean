/- An event in a block of its own: reads and stores. -/
import Derived.Test.YtofomblpbmpbaaaDoorBeh
namespace Go.Proofs.YtofomblpbmpbaaaDoor
open Go.RowKit
theorem cell_heap {w : World} {b : Nat} {cs : Array Value} {t : TypeId} {fr : Nat × Nat} (h : w.heap[b]? = some (.cells cs t fr)) (j : Nat) : w.cell? ⟨b, j, none⟩ = cs[j]? := by simp [World.cell?, h]
theorem frozen_heap {w : World} {b : Nat} {cs : Array Value} {t : TypeId} (h : w.heap[b]? = some (.cells cs t (0, 0))) (j : Nat) : w.frozen? ⟨b, j, none⟩ = false := by simp [World.frozen?, h]
/-- An event in a block of its own. -/
def EvAt (w : World) (b : Nat) (e : Ev) : Prop := w.heap[b]? = some (.cells (evCells e).toArray 23 (0, 0))
theorem EvAt.lt {w : World} {b : Nat} {e : Ev} (h : EvAt w b e) : b < w.heap.size := (Array.getElem?_eq_some_iff.1 h).1
theorem EvAt.below {w w' : World} {b B : Nat} {e : Ev} (h : EvAt w b e) (hb : Below B w w') (hB : b < B) : EvAt w' b e := (hb.block b hB).trans h
theorem EvAt.other {w : World} {b : Nat} {e : Ev} (h : EvAt w b e) {p : Addr} (hp : b ≠ p.block) (v : Value) : EvAt (w.setCell p v) b e := (Below.heap_setCell _ _ _ _ hp).trans h
theorem EvAt.cells {w : World} {b : Nat} {e : Ev} (h : EvAt w b e) : w.cell? ⟨b, 0, none⟩ = some (.int .i64 e.step) ∧ w.cell? ⟨b, 1, none⟩ = some (.int .i64 e.time) ∧ w.cell? ⟨b, 2, none⟩ = some (.int .i64 e.task) ∧ w.cell? ⟨b, 3, none⟩ = some (.int .i64 e.kind) ∧
    w.cell? ⟨b, 4, none⟩ = some (.int .i64 e.object) ∧ w.cell? ⟨b, 5, none⟩ = some (.int .i64 e.scope) ∧ w.cell? ⟨b, 6, none⟩ = some (.int .i64 e.value) ∧ w.cell? ⟨b, 7, none⟩ = some (.int .i64 e.other) :=
  ⟨cell_heap h 0, cell_heap h 1, cell_heap h 2, cell_heap h 3, cell_heap h 4, cell_heap h 5, cell_heap h 6, cell_heap h 7⟩
theorem EvAt.row {w : World} {b : Nat} {e : Ev} (h : EvAt w b e) : Row w b 0 (evCells e) := by
  intro j v hj
  rw [cell_heap h, Nat.zero_add]
  simpa using hj
theorem setCell_heap {w : World} {b : Nat} {cs : Array Value} {t : TypeId} {fr : Nat × Nat} (h : w.heap[b]? = some (.cells cs t fr)) (j : Nat) (v : Value) : (w.setCell ⟨b, j, none⟩ v).heap[b]? = some (.cells (cs.setIfInBounds j v) t fr) := by
  simp [World.setCell, Array.getElem?_modify, h]
theorem EvAt.set0 {w : World} {b : Nat} {e : Ev} (h : EvAt w b e) (n : Int) : EvAt (w.setCell ⟨b, 0, none⟩ (.int .i64 n)) b { e with step := n } := setCell_heap h 0 _
theorem EvAt.set1 {w : World} {b : Nat} {e : Ev} (h : EvAt w b e) (n : Int) : EvAt (w.setCell ⟨b, 1, none⟩ (.int .i64 n)) b { e with time := n } := setCell_heap h 1 _
theorem EvAt.set2 {w : World} {b : Nat} {e : Ev} (h : EvAt w b e) (n : Int) : EvAt (w.setCell ⟨b, 2, none⟩ (.int .i64 n)) b { e with task := n } := setCell_heap h 2 _
theorem EvAt.set3 {w : World} {b : Nat} {e : Ev} (h : EvAt w b e) (n : Int) : EvAt (w.setCell ⟨b, 3, none⟩ (.int .i64 n)) b { e with kind := n } := setCell_heap h 3 _
theorem EvAt.set4 {w : World} {b : Nat} {e : Ev} (h : EvAt w b e) (n : Int) : EvAt (w.setCell ⟨b, 4, none⟩ (.int .i64 n)) b { e with object := n } := setCell_heap h 4 _
theorem EvAt.set5 {w : World} {b : Nat} {e : Ev} (h : EvAt w b e) (n : Int) : EvAt (w.setCell ⟨b, 5, none⟩ (.int .i64 n)) b { e with scope := n } := setCell_heap h 5 _
theorem EvAt.set6 {w : World} {b : Nat} {e : Ev} (h : EvAt w b e) (n : Int) : EvAt (w.setCell ⟨b, 6, none⟩ (.int .i64 n)) b { e with value := n } := setCell_heap h 6 _
theorem EvAt.set7 {w : World} {b : Nat} {e : Ev} (h : EvAt w b e) (n : Int) : EvAt (w.setCell ⟨b, 7, none⟩ (.int .i64 n)) b { e with other := n } := setCell_heap h 7 _
theorem setRow_heap_at (w : World) (b : Nat) (cs cs' : Array Value) (t : TypeId) (h : w.heap[b]? = some (.cells cs t (0, 0))) : (w.setRow b cs').heap[b]? = some (.cells cs' t (0, 0)) := setRow_heap w b cs cs' t (0, 0) h
/-- A store of a whole event. -/
theorem wpList_storeEv {ops : Array Oper} {rest : List Oper} {o : Oper} {a : Act} {w : World} {Q : Exit → Act → World → Prop} (hgd : o.guard = none) (x y : Operand) (ho : o.op = .store 23 x y)
    (b : Nat) (e e' : Ev) (hx : a.eval x = .pointer (some ⟨b, 0, none⟩)) (hy : a.eval y = .agg (evCells e').toArray) (he : EvAt w b e)
    (h : ∀ w', EvAt w' b e' → (∀ k, k ≠ b → w'.heap[k]? = w.heap[k]?) → w'.heap.size = w.heap.size → (∀ B w0, Below B w0 w → B ≤ b → Below B w0 w') → wpList Tryd.prog ops Q rest (a.put o.dst undef) w') : wpList Tryd.prog ops Q (o :: rest) a w :=
  wpList_plain hgd fun _ hK => wp_store_row 23 x y ho b _ hx hy 23 _ he (by kernel_rfl) (by simp [evCells]) (by simp [evCells, Value.oneCell']) (hK _ _ (h _ (setRow_heap_at w b _ _ _ he) (fun k hk => setRow_other w b k _ hk) (by simp [World.setRow]) (fun B w0 hb hB => hb.trans ⟨rfl, rfl, rfl, by simp [World.setRow], fun k hk => setRow_other w b k _ (by omega)⟩)))
end Go.Proofs.YtofomblpbmpbaaaDoor

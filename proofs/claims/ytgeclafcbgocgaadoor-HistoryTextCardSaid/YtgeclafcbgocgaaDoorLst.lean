/- Lists of things of one size in memory. -/
import Derived.Test.YtgeclafcbgocgaaDoorGen
import Derived.Test.YtgeclafcbgocgaaDoorHpc
import Derived.Lib.Hide
import Derived.Deep.Light
namespace Go.Proofs.YtgeclafcbgocgaaDoor
open Go.RowKit
/-- How a thing lies in memory: its cells, and how many these are. -/
structure Enc (α : Type) where
  cells : α → List Value
  size : Nat
  len : ∀ x, (cells x).length = size
  one : ∀ x, ∀ u ∈ cells x, u.oneCell' = true
variable {α : Type}
def Enc.all (E : Enc α) (l : List α) : List Value := l.flatMap E.cells
theorem Enc.all_len (E : Enc α) (l : List α) : (E.all l).length = l.length * E.size := by
  induction l with
  | nil => simp [Enc.all]
  | cons e l ih =>
    show (E.cells e ++ E.all l).length = _
    rw [List.length_append, ih, E.len, List.length_cons, Nat.succ_mul, Nat.add_comm]
theorem Enc.all_snoc (E : Enc α) (l : List α) (e : α) : E.all (l ++ [e]) = E.all l ++ E.cells e := by simp [Enc.all]
/-- The things l lie one behind the other from a place on. -/
def LAt (E : Enc α) (w : World) (b off : Nat) (l : List α) : Prop := ∀ k (h : k < l.length), Row w b (off + k * E.size) (E.cells l[k])
theorem LAt.below {E : Enc α} {w w' : World} {b off B : Nat} {l : List α} (h : LAt E w b off l) (hb : Below B w w') (hB : b < B) : LAt E w' b off l := fun k hk => (h k hk).below hb hB
theorem lAt_of_row {E : Enc α} {w : World} {b : Nat} : ∀ {l : List α} {off : Nat}, Row w b off (E.all l) → LAt E w b off l
  | [], _, _ => fun k h => absurd h (Nat.not_lt_zero _)
  | e :: l, off, h => fun k hk => by
    have h' : Row w b off (E.cells e ++ E.all l) := h
    obtain ⟨h1, h2⟩ := h'.append
    cases k with
    | zero => simpa using h1
    | succ k =>
      have := lAt_of_row h2 k (by simpa using hk)
      rw [E.len] at this
      rw [show off + (k + 1) * E.size = off + E.size + k * E.size from by rw [Nat.succ_mul]; omega]
      exact this
/-- A slice that holds the things l. -/
def LV (E : Enc α) (w : World) (v : Value) (l : List α) : Prop := ∃ A c, v = .slice A l.length c ∧ l.length ≤ c ∧ (l ≠ [] → ∃ b off, A = some ⟨b, off, none⟩ ∧ b < w.heap.size ∧ LAt E w b off l)
theorem LV.split {E : Enc α} {w : World} {v : Value} {l : List α} (h : LV E w v l) : (∃ A c, v = .slice A 0 c ∧ l = []) ∨ ∃ b off cap, v = .slice (some ⟨b, off, none⟩) l.length cap ∧ l.length ≤ cap ∧ b < w.heap.size ∧ LAt E w b off l := by
  obtain ⟨A, c, rfl, hc, hr⟩ := h
  cases l with
  | nil => exact .inl ⟨A, c, rfl, rfl⟩
  | cons e l =>
    obtain ⟨b, off, rfl, hb, hrow⟩ := hr (by simp)
    exact .inr ⟨b, off, c, rfl, hc, hb, hrow⟩
theorem LV.mk_ {E : Enc α} {w : World} {l : List α} {b off cap : Nat} (hc : l.length ≤ cap) (hb : b < w.heap.size) (h : LAt E w b off l) : LV E w (.slice (some ⟨b, off, none⟩) l.length cap) l := ⟨_, _, rfl, hc, fun _ => ⟨b, off, rfl, hb, h⟩⟩
theorem LV.nil_ (E : Enc α) (w : World) (A : Option Addr) (c : Nat) : LV E w (.slice A 0 c) [] := ⟨A, c, rfl, Nat.zero_le _, fun h => absurd rfl h⟩
theorem LV.below {E : Enc α} {w w' : World} {v : Value} {l : List α} (h : LV E w v l) (hb : Below w.heap.size w w') : LV E w' v l := by
  obtain ⟨A, c, h1, h2, hr⟩ := h
  refine ⟨A, c, h1, h2, fun hl => ?_⟩
  obtain ⟨b, off, h3, h4, h5⟩ := hr hl
  exact ⟨b, off, h3, Nat.lt_of_lt_of_le h4 hb.size, h5.below hb h4⟩
theorem lv_own {E : Enc α} {w : World} {base e size : Nat} {v : Value} {l : List α} (h : w.ownsRow base e size v l.length (E.all l)) : LV E w v l := by
  rcases ownsRow_row h with ⟨rfl, h0, -⟩ | ⟨g, cap, rfl, -, hg, hcap, hrow⟩
  · rw [List.eq_nil_of_length_eq_zero h0]
    exact LV.nil_ _ _ _ _
  · exact LV.mk_ hcap hg (lAt_of_row hrow)
theorem take_snoc {α : Type} (l : List α) (k : Nat) (h : k < l.length) : l.take (k + 1) = l.take k ++ [l[k]] := by
  rw [List.take_succ_eq_append_getElem h]
theorem cell_heap {w : World} {b : Nat} {cs : Array Value} {t : TypeId} {fr : Nat × Nat} (h : w.heap[b]? = some (.cells cs t fr)) (j : Nat) : w.cell? ⟨b, j, none⟩ = cs[j]? := by simp [World.cell?, h]
theorem frozen_heap {w : World} {b : Nat} {cs : Array Value} {t : TypeId} (h : w.heap[b]? = some (.cells cs t (0, 0))) (j : Nat) : w.frozen? ⟨b, j, none⟩ = false := by simp [World.frozen?, h]
theorem setCell_heap {w : World} {b : Nat} {cs : Array Value} {t : TypeId} {fr : Nat × Nat} (h : w.heap[b]? = some (.cells cs t fr)) (j : Nat) (v : Value) : (w.setCell ⟨b, j, none⟩ v).heap[b]? = some (.cells (cs.setIfInBounds j v) t fr) := by
  simp [World.setCell, Array.getElem?_modify, h]
theorem heap_alloc_lt (w : World) (o : Obj) {i : Nat} (h : i < w.heap.size) : (w.alloc o).heap[i]? = w.heap[i]? := ((Below.refl w.heap.size w).alloc (Nat.le_refl _) o).block i h
theorem setCell_other {w : World} {b i : Nat} (j : Nat) (v : Value) (h : i ≠ b) : (w.setCell ⟨b, j, none⟩ v).heap[i]? = w.heap[i]? := Below.heap_setCell _ _ _ _ h
/-! ### calls, edges, numbers -/
def clCells (x : Cl) : List Value := [.int .i64 x.task, .int .i64 x.method, .int .i64 x.arg, .int .i64 x.result, .int .i64 x.begin_, .int .i64 x.end_]
theorem clCells_one (x : Cl) : ∀ u ∈ clCells x, u.oneCell' = true := by intro u hu; simp only [clCells, List.mem_cons, List.not_mem_nil, or_false] at hu; rcases hu with rfl | rfl | rfl | rfl | rfl | rfl <;> rfl
def CE : Enc Cl := ⟨clCells, 6, fun _ => rfl, clCells_one⟩
abbrev clsCells (l : List Cl) : List Value := CE.all l
abbrev ClV (w : World) (v : Value) (l : List Cl) : Prop := LV CE w v l
theorem T22 : ElemT Tryd.prog 22 32 6 48 := ElemT.mk' Tryd.underlying22 (z := .agg #[.int .i64 0, .int .i64 0, .int .i64 0, .int .i64 0, .int .i64 0, .int .i64 0]) (by kernel_rfl) rfl (by decide)
def edCells (x : Int × Int) : List Value := [.int .i64 x.1, .int .i64 x.2]
theorem edCells_one (x : Int × Int) : ∀ u ∈ edCells x, u.oneCell' = true := by intro u hu; simp only [edCells, List.mem_cons, List.not_mem_nil, or_false] at hu; rcases hu with rfl | rfl <;> rfl
def EE : Enc (Int × Int) := ⟨edCells, 2, fun _ => rfl, edCells_one⟩
theorem T35 : ElemT Tryd.prog 35 40 2 16 := ElemT.mk' Tryd.underlying35 (z := .agg #[.int .i64 0, .int .i64 0]) (by kernel_rfl) rfl (by decide)
def inCells (x : Int) : List Value := [.int .i64 x]
def IE : Enc Int := ⟨inCells, 1, fun _ => rfl, by intro x u hu; simp only [inCells, List.mem_cons, List.not_mem_nil, or_false] at hu; subst hu; rfl⟩
theorem T43 : ElemT Tryd.prog 43 3 1 8 := ElemT.mk' Tryd.underlying43 (z := .int .i64 0) (by kernel_rfl) rfl (by decide)
set_option maxRecDepth 100000 in
theorem great8 (w : World) (v : Value) (l : List Cl) (h : ClV w v l) : Calls Tryd.prog 8 #[v] w fun e w' => e = .returned (.bool (decide (20 < l.length ∧ l.length ≤ 100) || decide (110 < l.length))) ∧ w = w' := by
  obtain ⟨A, c, rfl, -, -⟩ := h
  go_enter Tryd.func8, Tryd.ntmps8
  by_cases h1 : 20 < l.length
  · by_cases h2 : l.length ≤ 100
    · have e1 : (decide (20 < l.length ∧ l.length ≤ 100) || decide (110 < l.length)) = true := by simp [h1, h2]
      rw [e1]
      go_wp2_with fail
      go_ret
      exact ⟨rfl, rfl⟩
    · have e1 : (decide (20 < l.length ∧ l.length ≤ 100) || decide (110 < l.length)) = decide (110 < l.length) := by simp [h2]
      rw [e1]
      by_cases h3 : 110 < l.length
      · rw [decide_eq_true h3]
        go_wp2_with fail
        go_ret
        refine ⟨?_, rfl⟩
        simp; omega
      · rw [decide_eq_false h3]
        go_wp2_with fail
        go_ret
        refine ⟨?_, rfl⟩
        simp; omega
  · have e1 : (decide (20 < l.length ∧ l.length ≤ 100) || decide (110 < l.length)) = false := by simp; omega
    rw [e1]
    go_wp2_with fail
    go_ret
    refine ⟨?_, rfl⟩
    simp; omega
end Go.Proofs.YtgeclafcbgocgaaDoor

/- The book: its memory; begin. -/
import Derived.Test.YtgeclafcbgocgaaDoorHpd
import Derived.Test.YtgeclafcbgocgaaDoorBef
import Derived.Test.YtgeclafcbgocgaaDoorDtl
import Derived.Maps.OwnSet
import Derived.Tactics2
import Derived.StillTactics
import Derived.OwnWalk
import Derived.Laws.Pointers
import Derived.Deep.RegionHeld3
import Derived.Deep.AppendLies
import Derived.BigRegion
namespace Go.Proofs.YtgeclafcbgocgaaDoor
open Go.RowKit Go.Maps
abbrev DM := DataW Unit
def MapO (D : DM) (c : List Cl) : Prop := ∀ t : Int, Maps.has D (.int .i64 t) = (openIx c t).isSome ∧ ∀ i, openIx c t = some i → D.atKey (.int .i64 t) (.lit (.int .i64 0)) = .lit (.int .i64 (i : Int))
theorem mapO_nil : MapO (.map []) [] := fun t => ⟨rfl, fun i h => by cases h⟩
theorem wf_small {n : Int} (h0 : -9223372036854775808 ≤ n) (h1 : n ≤ 9223372036854775807) : (Lit.int .i64 n).wf = true := by
  simp [Lit.wf]
  first
    | exact ⟨h0, h1⟩
    | (rw [IntKind.wrap_i64]; omega)
    | omega
theorem MapO.put {D : DM} {c : List Cl} (h : MapO D c) (hD : IsMap D) (t0 m a p : Int) (hk : WideAt.IsKeyLit (.int .i64 t0)) : MapO (D.put (.int .i64 t0) (.lit (.int .i64 (c.length : Int)))) (c ++ [⟨t0, m, a, 0, p, -1⟩]) := by
  intro t
  rw [openIx_begin]
  by_cases e : t = t0
  · subst e
    rw [if_pos rfl]
    exact ⟨has_put_same hD hk _, fun i hi => by obtain rfl := Option.some.inj hi; exact atKey_put_same hD hk _ _⟩
  · rw [if_neg e]
    have hne : Lit.int .i64 t ≠ Lit.int .i64 t0 := fun h => by injection h with _ h; exact e h
    rw [has_put_other hne, atKey_put_other hne]
    exact h t
theorem MapO.del {D : DM} {c : List Cl} (h : MapO D c) (U : Uni c) {t0 : Int} {i : Nat} (ho : openIx c t0 = some i) {y : Cl} (hy : ¬ y.end_ < 0) : MapO (D.del (.int .i64 t0)) (c.set i y) := by
  intro t
  rw [openIx_set U ho hy]
  by_cases e : t = t0
  · subst e
    rw [if_pos rfl]
    exact ⟨has_del_same, fun i hi => by cases hi⟩
  · rw [if_neg e]
    have hne : Lit.int .i64 t ≠ Lit.int .i64 t0 := fun h => by injection h with _ h; exact e h
    rw [has_del_other hne, atKey_del_other hne]
    exact h t
theorem law3 : Keyed Tryd.prog 3 := int_keyed Tryd.underlying3
theorem zero3 (w : World) : (zeroValue 3).run Tryd.prog w = .ok (.int .i64 0) w := by kernel_rfl
/-- The map of the open calls. -/
def MapB (Mb : Nat) (c : List Cl) (W : World) : Prop := ∃ (D : DM) (n : Nat), W.ownsMap Tryd.prog 3 (plainElem Tryd.prog 3) Mb n D ∧ n ≤ c.length ∧ MapO D c
theorem MapB.kept {Mb : Nat} {c : List Cl} {w w' : World} {row : Option Nat} (h : MapB Mb c w) (hg : w.grownBy w' row) (hne : some Mb ≠ row) : MapB Mb c w' := by
  obtain ⟨D, n, h1, h2, h3⟩ := h
  exact ⟨D, n, h1.kept hg hne, h2, h3⟩
theorem MapB.lt {Mb : Nat} {c : List Cl} {w : World} (h : MapB Mb c w) : Mb < w.heap.size := by
  obtain ⟨D, n, h1, h2, h3⟩ := h
  exact h1.lt
theorem MapB.obj {Mb : Nat} {c : List Cl} {w : World} (h : MapB Mb c w) : ∃ es clock, w.heap[Mb]? = some (.map es clock) := by
  obtain ⟨D, n, ⟨es, clock, h1, -⟩, -⟩ := h
  exact ⟨es, clock, h1⟩
theorem grownBy_below {w w' : World} (h : Below w.heap.size w w') : w.grownBy w' none := ⟨h.os, h.tape, h.output, h.size, fun i hi _ => h.block i hi⟩
theorem MapB.below {Mb : Nat} {c : List Cl} {w w' : World} (h : MapB Mb c w) (hb : Below w.heap.size w w') : MapB Mb c w' := h.kept (grownBy_below hb) (by simp)
set_option maxRecDepth 100000 in
theorem MapB.look {Mb : Nat} {c : List Cl} {w : World} (h : MapB Mb c w) (t : Int) (ht0 : -9223372036854775808 ≤ t) (ht1 : t ≤ 9223372036854775807) :
    ∃ x : Int, (Instr.lookup 53 (.map (some Mb)) (.int .i64 t) true).run Tryd.prog w = .ok (.tuple #[.int .i64 x, .bool (openIx c t).isSome]) w ∧ ∀ i, openIx c t = some i → x = i := by
  obtain ⟨D, n, h1, h2, h3⟩ := h
  obtain ⟨v, ps, hr, hv⟩ := h1.look_ok law3 Tryd.underlying53 (zero3 w) (plainElem_int Tryd.underlying3 (by decide)) (keyOf_int_mk Tryd.underlying3 (wf_small ht0 ht1))
  obtain ⟨x, rfl, hx, -⟩ := plainElem_int_inv Tryd.underlying3 hv
  refine ⟨x, by rw [hr, (h3 t).1], fun i hi => ?_⟩
  have := (h3 t).2 i hi
  have hx' := congrArg Prod.fst hx
  simp only at hx'
  rw [this] at hx'
  injection hx' with h
  injection h with _ h
  exact h.symm
/-- What lies in memory of a book. -/
structure BkS (Bk Mb base : Nat) (c : List Cl) (p : Nat) (W : World) : Prop where
  uni : Uni c
  len : c.length ≤ 100
  map : MapB Mb c W
  row : ∃ v, W.heap[Bk]? = some (.cells #[v, .map (some Mb), .int .i64 (p : Int)] 55 (0, 0)) ∧ W.ownsRow base 32 6 v c.length (CE.all c)
  sz : base ≤ W.heap.size
/-- All but a book is as it was, below a place. -/
def Frm (Bk Mb B : Nat) (w w' : World) : Prop := w'.os = w.os ∧ w'.tape = w.tape ∧ w'.output = w.output ∧ w.heap.size ≤ w'.heap.size ∧ ∀ i, i < B → i ≠ Bk → i ≠ Mb → w'.heap[i]? = w.heap[i]?
theorem Frm.refl (Bk Mb B : Nat) (w : World) : Frm Bk Mb B w w := ⟨rfl, rfl, rfl, Nat.le_refl _, fun _ _ _ _ => rfl⟩
theorem Frm.trans {Bk Mb B : Nat} {w w' w'' : World} (h : Frm Bk Mb B w w') (h' : Frm Bk Mb B w' w'') : Frm Bk Mb B w w'' := by
  obtain ⟨a1, a2, a3, a4, a5⟩ := h
  obtain ⟨b1, b2, b3, b4, b5⟩ := h'
  exact ⟨b1.trans a1, b2.trans a2, b3.trans a3, Nat.le_trans a4 b4, fun i h1 h2 h3 => (b5 i h1 h2 h3).trans (a5 i h1 h2 h3)⟩
theorem Frm.below {Bk Mb B : Nat} {w w' : World} (h : Below B w w') : Frm Bk Mb B w w' := ⟨h.os, h.tape, h.output, h.size, fun i hi _ _ => h.block i hi⟩
theorem Frm.grown {Bk Mb B : Nat} {w w' : World} {row : Option Nat} (h : w.grownBy w' row) (hB : B ≤ w.heap.size) (hr : row = none ∨ row = some Bk ∨ row = some Mb ∨ ∃ g, row = some g ∧ B ≤ g) : Frm Bk Mb B w w' := by
  refine ⟨h.os, h.tape, h.output, h.size, fun i h1 h2 h3 => h.block i (Nat.lt_of_lt_of_le h1 hB) ?_⟩
  rcases hr with rfl | rfl | rfl | ⟨g, rfl, hg⟩
  · simp
  · simpa using h2
  · simpa using h3
  · intro e
    have := Option.some.inj e
    omega
end Go.Proofs.YtgeclafcbgocgaaDoor

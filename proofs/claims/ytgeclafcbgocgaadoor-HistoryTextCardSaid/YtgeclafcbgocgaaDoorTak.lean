/- The positions of the marks, by the program: the closure. -/
import Derived.Test.YtgeclafcbgocgaaDoorLst
import Derived.Laws.OwnMore
namespace Go.Proofs.YtgeclafcbgocgaaDoor
open Go.RowKit
def seenL (n : Nat) (d : List Int) : List Value := (List.range n).map (fun j : Nat => Value.bool (decide ((j : Int) ∈ d)))
theorem seenL_len (n : Nat) (d : List Int) : (seenL n d).length = n := by simp [seenL]
theorem seenL_at {n : Nat} (d : List Int) {j : Nat} (h : j < n) : (seenL n d)[j]? = some (.bool (decide ((j : Int) ∈ d))) := by simp [seenL, h]
theorem seenL_set {n : Nat} (d : List Int) {j : Nat} (h : j < n) : (seenL n d).set j (.bool true) = seenL n (d ++ [(j : Int)]) := by
  refine List.ext_getElem? fun i => ?_
  by_cases hi : i < n
  · rw [seenL_at _ hi]
    by_cases hij : j = i
    · subst hij
      rw [List.getElem?_set_self (by rw [seenL_len]; exact h)]
      simp
    · rw [List.getElem?_set_ne hij, seenL_at _ hi]
      have : ¬ ((i : Int) = (j : Int)) := by omega
      simp [this]
  · rw [List.getElem?_eq_none (by rw [List.length_set, seenL_len]; omega), List.getElem?_eq_none (by rw [seenL_len]; omega)]
theorem seenL_nil (n : Nat) : seenL n [] = List.replicate n (.bool false) := by
  refine List.ext_getElem? fun i => ?_
  by_cases hi : i < n
  · rw [seenL_at _ hi]; simp [hi]
  · rw [List.getElem?_eq_none (by rw [seenL_len]; omega), List.getElem?_eq_none (by simp; omega)]
/-- The cells of the closure: the count, the slice, and what it holds. -/
structure SeenS (w : World) (Bn Bs Sb n : Nat) (d : List Int) : Prop where
  n_ : w.heap[Bn]? = some (.cells #[.int .i64 n] 3 (0, 0))
  s_ : w.heap[Bs]? = some (.cells #[.slice (some ⟨Sb, 0, none⟩) n n] 91 (0, 0))
  d_ : w.heap[Sb]? = some (.cells (seenL n d).toArray 4 (0, 0))
  ns : Bn ≠ Sb
  ss : Bs ≠ Sb
theorem inf4 : (Tryd.prog.info? 4).map (fun i => (i.zero, i.size, i.bytes)) = some (some (.bool false), 1, 1) := by kernel_rfl
theorem mk91 (W : World) (n : Nat) (hn : n ≤ 1000000) : (Instr.makeSlice 91 (.int .i64 (n : Int)) (.int .i64 (n : Int))).run Tryd.prog W = .ok (.slice (some ⟨W.heap.size, 0, none⟩) n n) (W.alloc (.cells (seenL n []).toArray 4)) := by
  obtain ⟨i, hi, h0, h1, h2⟩ := info_parts inf4
  have := run_makeSlice (P := Tryd.prog) W 91 4 i _ Tryd.underlying91 hi h0 .i64 .i64 (n : Int) (n : Int) (by omega) (Int.le_refl _) (by rw [h1]; omega) (by rw [h2]; omega) (by omega)
  have e : madeCells (Value.bool false).cells n = (seenL n []).toArray := Array.toList_inj.1 ((toList_madeCells_one (.bool false) n).trans (seenL_nil n).symm)
  rw [this, h1, Nat.mul_one, Int.toNat_natCast, e]
set_option maxRecDepth 100000 in
set_option maxHeartbeats 1000000 in
theorem take54 (w : World) (Bn Bs Sb n B : Nat) (d : List Int) (k : Int) (h : SeenS w Bn Bs Sb n d) (hk : 0 ≤ k) (hB : B ≤ Sb) :
    Calls Tryd.prog 54 #[.int .i64 k, .pointer (some ⟨Bn, 0, none⟩), .pointer (some ⟨Bs, 0, none⟩)] w fun e w' =>
      (((n : Int) ≤ k ∨ k ∈ d) ∧ e = .returned (.bool false) ∧ w = w') ∨ (¬ ((n : Int) ≤ k ∨ k ∈ d) ∧ e = .returned (.bool true) ∧ SeenS w' Bn Bs Sb n (d ++ [k]) ∧ Below B w w' ∧ ∀ i, i ≠ Sb → w'.heap[i]? = w.heap[i]?) := by
  have c1 : w.cell? ⟨Bn, 0, none⟩ = some (.int .i64 n) := cell_heap h.n_ 0
  have c2 : w.cell? ⟨Bs, 0, none⟩ = some (.slice (some ⟨Sb, 0, none⟩) n n) := cell_heap h.s_ 0
  by_cases h1 : (n : Int) ≤ k
  · go_enter Tryd.func54, Tryd.ntmps54
    go_wp2_with fail
    go_ret
    exact .inl ⟨.inl h1, rfl, rfl⟩
  · obtain ⟨j, rfl⟩ : ∃ j : Nat, k = j := ⟨k.toNat, by omega⟩
    have hj : j < n := by omega
    have c3 : w.cell? ⟨Sb, j, none⟩ = some (.bool (decide ((j : Int) ∈ d))) := by
      rw [cell_heap h.d_ j]
      simpa using seenL_at d hj
    have f3 : w.frozen? ⟨Sb, j, none⟩ = false := frozen_heap h.d_ j
    rcases Bool.eq_false_or_eq_true (decide ((j : Int) ∈ d)) with h2 | h2
    · rw [h2] at c3
      have h2' := of_decide_eq_true h2
      have H2 := Lib.hid h2'
      clear h2 h2'
      go_enter Tryd.func54, Tryd.ntmps54
      go_wp2_with fail
      go_ret
      exact .inl ⟨.inr H2.out, rfl, rfl⟩
    · rw [h2] at c3
      have h2' := of_decide_eq_false h2
      have H2 := Lib.hid h2'
      have H := Lib.hid h
      clear h2 h2' h
      go_enter Tryd.func54, Tryd.ntmps54
      go_wp2_with fail
      go_ret
      refine .inr ⟨?_, rfl, ?_, ?_, fun i hi => Below.heap_setCell _ _ _ _ hi⟩
      · have h9 := H2.out
        first
          | exact h9
          | exact ⟨h1, h9⟩
      · have h := H.out
        have key : ∀ i, i ≠ Sb → (w.setCell ⟨Sb, j, none⟩ (.bool true)).heap[i]? = w.heap[i]? := fun i hi => Below.heap_setCell _ _ _ _ hi
        refine ⟨(key _ h.ns).trans h.n_, (key _ h.ss).trans h.s_, ?_, h.ns, h.ss⟩
        have := setCell_heap h.d_ j (.bool true)
        rw [this, ← seenL_set d hj]
        simp
      · exact (Below.refl _ _).setCell (by exact hB) _
end Go.Proofs.YtgeclafcbgocgaaDoor

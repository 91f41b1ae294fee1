/- strings.Builder in a block of its own: what its methods write, and that they leave the other blocks below a mark alone. -/
import Derived.Test.YtofomblpbmpbaaaDoorGen
import Derived.Test.YtofomblpbmpbaaaDoorShelf
namespace Go.Proofs.YtofomblpbmpbaaaDoor
open Go.RowKit
/-- Below block number lo nothing but block b has turned. -/
structure But (b lo : Nat) (w w' : World) : Prop where
  os : w'.os = w.os
  tape : w'.tape = w.tape
  output : w'.output = w.output
  size : w.heap.size ≤ w'.heap.size
  block : ∀ k, k < lo → k ≠ b → w'.heap[k]? = w.heap[k]?
theorem But.refl (b lo : Nat) (w : World) : But b lo w w := ⟨rfl, rfl, rfl, Nat.le_refl _, fun _ _ _ => rfl⟩
theorem But.trans {b lo : Nat} {w w' w'' : World} (h : But b lo w w') (k : But b lo w' w'') : But b lo w w'' :=
  ⟨k.os.trans h.os, k.tape.trans h.tape, k.output.trans h.output, Nat.le_trans h.size k.size, fun i hi hn => (k.block i hi hn).trans (h.block i hi hn)⟩
theorem But.of_below {b lo : Nat} {w w' : World} (h : Below lo w w') : But b lo w w' := ⟨h.os, h.tape, h.output, h.size, fun k hk _ => h.block k hk⟩
theorem But.below {b lo : Nat} {w w' : World} (h : But b lo w w') (hb : b ≤ lo) : Below b w w' := ⟨h.os, h.tape, h.output, h.size, fun k hk => h.block k (by omega) (by omega)⟩
theorem But.setCell {b lo : Nat} {w w' : World} (h : But b lo w w') (off : Nat) (v : Value) : But b lo w (w'.setCell ⟨b, off, none⟩ v) :=
  h.trans ⟨rfl, rfl, rfl, by simp [World.setCell], fun k _ hn => Below.heap_setCell _ _ _ _ hn⟩
theorem But.grown {b lo : Nat} {w w' w'' : World} {row : Option Nat} (h : But b lo w w') (hg : w'.grownBy w'' row) (hlo : lo ≤ w'.heap.size) (hr : ∀ k, row = some k → lo ≤ k) : But b lo w w'' :=
  h.trans ⟨hg.os, hg.tape, hg.output, hg.size, fun k hk _ => hg.block k (by omega) (fun e => by have := hr k e.symm; omega)⟩
theorem But.alloc {b lo : Nat} {w w' : World} (h : But b lo w w') (hlo : lo ≤ w'.heap.size) (o : Obj) : But b lo w (w'.alloc o) :=
  h.trans (But.of_below ((Below.refl lo w').alloc hlo o))
theorem But.cell {b lo : Nat} {w w' : World} (h : But b lo w w') {p : Addr} (hp : p.block < lo) (hn : p.block ≠ b) : w'.cell? p = w.cell? p := World.cell?_of_block (h.block p.block hp hn)
/-- The builder at block b holds the bytes l; its buffer lies at lo or later. -/
def IsB (w : World) (b lo : Nat) (l : List UInt8) : Prop :=
  b < lo ∧ lo ≤ w.heap.size ∧ ∃ p v, w.heap[b]? = some (.cells #[p, v] 57 (0, 0)) ∧ (p = .pointer none ∨ p = .pointer (some ⟨b, 0, none⟩)) ∧ w.ownsRow lo 5 1 v l.length (Lib.byteCells l)
/-- .. and it has been used. -/
def IsBU (w : World) (b lo : Nat) (l : List UInt8) : Prop :=
  b < lo ∧ lo ≤ w.heap.size ∧ ∃ v, w.heap[b]? = some (.cells #[.pointer (some ⟨b, 0, none⟩), v] 57 (0, 0)) ∧ w.ownsRow lo 5 1 v l.length (Lib.byteCells l)
theorem IsBU.isB {w : World} {b lo : Nat} {l : List UInt8} (h : IsBU w b lo l) : IsB w b lo l := by
  obtain ⟨h1, h2, v, h3, h4⟩ := h
  exact ⟨h1, h2, _, v, h3, .inr rfl, h4⟩
theorem ownsRow_mono {w : World} {lo lo' e size n : Nat} {v : Value} {xs : List Value} (h : w.ownsRow lo e size v n xs) (hl : lo' ≤ lo) : w.ownsRow lo' e size v n xs := by
  refine ⟨h.1, ?_⟩
  rcases h.2 with h | ⟨g, cap, cur, h1, h2, h3⟩
  · exact .inl h
  · exact .inr ⟨g, cap, cur, h1, Nat.le_trans hl h2, h3⟩
theorem IsB.lib {w : World} {b lo : Nat} {l : List UInt8} (h : IsB w b lo l) : Lib.IsBuilder 57 5 b b (Lib.byteCells l) w := by
  obtain ⟨h1, h2, p, v, h3, h4, h5⟩ := h
  have hat : Lib.BuilderAt 57 5 b b p (Lib.byteCells l) w := by
    refine ⟨Nat.le_refl _, v, h3, ?_, fun e => ?_⟩
    · rw [Lib.byteCells_length]
      exact ownsRow_mono h5 (Nat.le_of_lt h1)
    · have := (h5.lt b e).1
      omega
  rcases h4 with rfl | rfl
  · exact .inl hat
  · exact .inr hat
theorem IsB.new (w : World) (b : Nat) (o : Obj → Prop) (hb : w.heap[b]? = some (.cells #[.pointer none, .slice none 0 0] 57 (0, 0))) (lo : Nat) (h1 : b < lo) (h2 : lo ≤ w.heap.size) : IsB w b lo [] :=
  ⟨h1, h2, _, _, hb, .inl rfl, World.ownsRow_nil _ _ _ _⟩
theorem heap_lt {w : World} {b : Nat} {o : Obj} (h : w.heap[b]? = some o) : b < w.heap.size := (Array.getElem?_eq_some_iff.1 h).1
/-- Blocks that turn elsewhere do the builder nothing. -/
theorem IsB.keep {w w' : World} {b lo : Nat} {l : List UInt8} (h : IsB w b lo l) (hb : Below w.heap.size w w') : IsB w' b lo l := by
  obtain ⟨h1, h2, p, v, h3, h4, h5⟩ := h
  refine ⟨h1, Nat.le_trans h2 hb.size, p, v, (hb.block b (heap_lt h3)).trans h3, h4, ?_⟩
  exact h5.kept (row := none) ⟨hb.os, hb.tape, hb.output, hb.size, fun k hk _ => hb.block k hk⟩ (by cases v.ownBlock <;> simp)
theorem size57 : ∃ j, Tryd.prog.info? 57 = some j ∧ j.size = 2 := by
  have h : (Tryd.prog.info? 57).map (·.size) = some 2 := by kernel_rfl
  obtain ⟨j, hj, hs⟩ := Option.map_eq_some_iff.1 h
  exact ⟨j, hj, hs⟩
theorem lies57 : liesAt Tryd.prog Tryd.prog.depth 57 (2 / Tryd.prog.cellsOf 57) 0 57 1 = true := by kernel_rfl
set_option maxRecDepth 100000 in
theorem copyCheck_used (b : Nat) (w : World) (h0 : w.cell? ⟨b, 0, none⟩ = some (.pointer (some ⟨b, 0, none⟩))) :
    Calls Tryd.prog 61 #[.pointer (some ⟨b, 0, none⟩)] w fun e w' => e = .returned (.tuple #[]) ∧ w = w' := by
  obtain ⟨j, hj, _⟩ := size57
  go_enter Tryd.func61, Tryd.ntmps61
  go_wp2
  rw [Lib.run_neq_ptr_same w _ Tryd.underlying54 hj]
  go_wp2
  go_end0
  exact ⟨rfl, rfl⟩
set_option maxRecDepth 100000 in
theorem copyCheck_fresh (b : Nat) (w : World) (h0 : w.cell? ⟨b, 0, none⟩ = some (.pointer none)) (hsh : w.shape? b = some (57, 2)) (hfz : w.frozen? ⟨b, 0, none⟩ = false) :
    Calls Tryd.prog 61 #[.pointer (some ⟨b, 0, none⟩)] w fun e w' => e = .returned (.tuple #[]) ∧ w.setCell ⟨b, 0, none⟩ (.pointer (some ⟨b, 0, none⟩)) = w' := by
  obtain ⟨j, hj, hjs⟩ := size57
  go_enter Tryd.func61, Tryd.ntmps61
  go_wp2
  rw [Lib.run_to_unsafe w ⟨b, 0, none⟩ Tryd.underlying54 Tryd.underlying100 hj (by rw [hjs]; decide) hsh (Nat.zero_lt_succ 1)]
  simp only [Result.andThen]
  rw [Oper.upon_value]
  go_wp2
  rw [run_callFunc_extern Tryd.func75 (by kernel_rfl) (by kernel_rfl) (by kernel_rfl) (e := Extern.AbiNoEscape.same) (by kernel_rfl)]
  rw [Lib.run_noEscape]
  simp only [Result.andThen]
  rw [Oper.upon_value]
  go_wp2
  rw [Lib.run_from_unsafe w ⟨b, 0, none⟩ Tryd.underlying100 Tryd.underlying54 hj hsh lies57]
  simp only [Result.andThen]
  rw [Oper.upon_value]
  go_wp2
  go_end0
  exact ⟨rfl, rfl⟩
theorem copyCheck61 (b lo : Nat) (l : List UInt8) (w : World) (h : IsB w b lo l) :
    Calls Tryd.prog 61 #[.pointer (some ⟨b, 0, none⟩)] w fun e w' => e = .returned (.tuple #[]) ∧ IsBU w' b lo l ∧ But b lo w w' := by
  obtain ⟨h1, h2, p, v, h3, h4, h5⟩ := h
  have hlt := heap_lt h3
  rcases h4 with rfl | rfl
  · refine (copyCheck_fresh b w (by simp [World.cell?, h3]) (by simp [World.shape?, h3]) (by simp [World.frozen?, h3])).mono ?_
    rintro e w' ⟨rfl, rfl⟩
    refine ⟨rfl, ⟨h1, by simpa [World.setCell] using h2, v, by simp [World.setCell, Array.getElem?_modify, h3], ?_⟩, (But.refl _ _ _).setCell _ _⟩
    refine h5.kept (row := some b) ⟨rfl, rfl, rfl, by simp [World.setCell], fun k _ hk => Below.heap_setCell _ _ _ _ (fun e => hk (by simp [e]))⟩ (.inr fun e => ?_)
    have := (h5.lt b e).1
    omega
  · refine (copyCheck_used b w (by simp [World.cell?, h3])).mono ?_
    rintro e w' ⟨rfl, rfl⟩
    exact ⟨rfl, ⟨h1, h2, v, h3, h5⟩, But.refl _ _ _⟩
theorem T55 : ElemT Tryd.prog 55 5 1 1 := ElemT.mk' Tryd.underlying55 (z := .int .u8 0) (by kernel_rfl) rfl (by decide)
/-- The buffer's cell is stored anew. -/
theorem IsBU.stored {w w2 : World} {b lo n : Nat} {l l' : List UInt8} {v v' : Value} (h1 : b < lo) (h2 : lo ≤ w2.heap.size) (h3 : w2.heap[b]? = some (.cells #[.pointer (some ⟨b, 0, none⟩), v] 57 (0, 0))) (h5 : w2.ownsRow lo 5 1 v' n (Lib.byteCells l')) (hn : n = l'.length) :
    IsBU (w2.setCell ⟨b, 1, none⟩ v') b lo l' := by
  subst hn
  refine ⟨h1, by simpa [World.setCell] using h2, v', by simp [World.setCell, Array.getElem?_modify, h3], ?_⟩
  refine h5.kept (row := some b) ⟨rfl, rfl, rfl, by simp [World.setCell], fun k _ hk => Below.heap_setCell _ _ _ _ (fun e => hk (by simp [e]))⟩ (.inr fun e => ?_)
  have := (h5.lt b e).1
  omega
set_option maxRecDepth 100000 in
theorem writeByte36 (b lo : Nat) (l : List UInt8) (c : UInt8) (w : World) (h : IsB w b lo l) (hlen : l.length + 1 ≤ 1048576) :
    Calls Tryd.prog 36 #[.pointer (some ⟨b, 0, none⟩), .int .u8 c.toNat] w fun e w' => e = .returned .nilIface ∧ IsBU w' b lo (l ++ [c]) ∧ But b lo w w' := by
  go_enter Tryd.func36, Tryd.ntmps36
  go_wp2_with fail
  refine (copyCheck61 b lo l w h).mono ?_
  rintro e w1 ⟨rfl, ⟨h1, h2, v, h3, h5⟩, hb1⟩
  have hlt := heap_lt h3
  have c0 : w1.cell? ⟨b, 0, none⟩ = some (.pointer (some ⟨b, 0, none⟩)) := by rw [Lib.cell_of_heap h3]; rfl
  have c1 : w1.cell? ⟨b, 1, none⟩ = some v := by rw [Lib.cell_of_heap h3]; rfl
  go_wp2_with (at_builtin; refine wpList_app rfl _ _ 55 rfl lo 5 1 1 T55 v _ _ rfl (h5.alloc _) w1.heap.size [.int .u8 c.toNat] rfl rfl (Row.new _ _ _ _ rfl) (by intro u hu; simp at hu; subst hu; rfl) hlen (by omega) (by simp; omega) ?_)
  intro v' w2 hown' hgrow
  have hb2 : w2.heap[b]? = some (.cells #[.pointer (some ⟨b, 0, none⟩), v] 57 (0, 0)) := by
    rw [hgrow.block b (by simp; omega) (fun e => by have := (h5.lt b e.symm).1; omega), Lib.alloc_old w1 _ b hlt]
    exact h3
  have d0 : w2.cell? ⟨b, 0, none⟩ = some (.pointer (some ⟨b, 0, none⟩)) := by rw [Lib.cell_of_heap hb2]; rfl
  have d1 : w2.cell? ⟨b, 1, none⟩ = some v := by rw [Lib.cell_of_heap hb2]; rfl
  have f1 : w2.frozen? ⟨b, 1, none⟩ = false := Lib.frozen_of_heap hb2 1
  have hsz := hgrow.size
  obtain ⟨g, cap, rfl⟩ : ∃ g cap, v' = .slice (some ⟨g, 0, none⟩) (l.length + 1) cap := by
    rcases hown'.2 with ⟨_, h0⟩ | ⟨g, cap, cur, hv, _⟩
    · omega
    · exact ⟨g, cap, hv⟩
  go_wp2
  go_ret
  refine ⟨rfl, IsBU.stored (w := w2) (l := l) h1 (by simp at hsz; omega) hb2 (l' := l ++ [c]) (by simpa [Lib.byteCells] using hown') (by simp), ?_⟩
  exact ((hb1.alloc h2 _).grown hgrow (by simp; omega) (fun k hk => (h5.lt k hk).1)).setCell _ _
set_option maxRecDepth 100000 in
theorem writeString37 (b lo : Nat) (l s : List UInt8) (w : World) (h : IsB w b lo l) (hlen : l.length + s.length ≤ 1048576) :
    Calls Tryd.prog 37 #[.pointer (some ⟨b, 0, none⟩), .string ⟨s.toArray⟩] w fun e w' => e = .returned (.tuple #[.int .i64 s.length, .nilIface]) ∧ IsBU w' b lo (l ++ s) ∧ But b lo w w' := by
  obtain ⟨ht, ⟨i, z, hi, hz, hsize, hby, hzs⟩, hsz0⟩ := T55
  go_enter Tryd.func37, Tryd.ntmps37
  go_wp2_with fail
  refine (copyCheck61 b lo l w h).mono ?_
  rintro e w1 ⟨rfl, ⟨h1, h2, v, h3, h5⟩, hb1⟩
  have hlt := heap_lt h3
  have c0 : w1.cell? ⟨b, 0, none⟩ = some (.pointer (some ⟨b, 0, none⟩)) := by rw [Lib.cell_of_heap h3]; rfl
  have c1 : w1.cell? ⟨b, 1, none⟩ = some v := by rw [Lib.cell_of_heap h3]; rfl
  have i0 : i.zero = some (.int .u8 0) := by
    have h0 : (Tryd.prog.info? 5).map (·.zero) = some (some (.int .u8 0)) := by kernel_rfl
    rw [hi] at h0
    exact Option.some.inj h0
  go_wp2_with (at_builtin; refine Lib.wpList_append_own_string _ rfl _ _ 55 9 rfl lo 5 i Tryd.underlying55 Tryd.underlying9 hi i0 hsize hby _ _ _ rfl h5 ⟨s.toArray⟩ rfl ?c3 ?c4 ?c5 ?_)
  case c3 => have e : (ByteArray.mk s.toArray).size = s.length := by simp [ByteArray.size]
             unfold maxLen; rw [e]; omega
  case c4 => have e : (ByteArray.mk s.toArray).size = s.length := by simp [ByteArray.size]
             rw [e]; omega
  case c5 => omega
  intro v' w2 hown' hgrow _
  have hb2 : w2.heap[b]? = some (.cells #[.pointer (some ⟨b, 0, none⟩), v] 57 (0, 0)) := by
    rw [hgrow.block b hlt (fun e => by have := (h5.lt b e.symm).1; omega)]
    exact h3
  have d0 : w2.cell? ⟨b, 0, none⟩ = some (.pointer (some ⟨b, 0, none⟩)) := by rw [Lib.cell_of_heap hb2]; rfl
  have d1 : w2.cell? ⟨b, 1, none⟩ = some v := by rw [Lib.cell_of_heap hb2]; rfl
  have f1 : w2.frozen? ⟨b, 1, none⟩ = false := Lib.frozen_of_heap hb2 1
  have hsz := hgrow.size
  obtain ⟨q, n, cap, rfl⟩ : ∃ q n cap, v' = .slice q n cap := by
    rcases hown'.2 with ⟨hv, _⟩ | ⟨g, cap, cur, hv, _⟩
    · exact ⟨_, _, _, hv⟩
    · exact ⟨_, _, _, hv⟩
  go_wp2
  go_ret2
  refine ⟨rfl, IsBU.stored (w := w2) (l := l) h1 (by omega) hb2 (l' := l ++ s) (by simpa [Lib.byteCells, Lib.strCells] using hown') (by simp), ?_⟩
  exact (hb1.grown hgrow h2 (fun k hk => (h5.lt k hk).1)).setCell _ _
theorem len35 (b lo : Nat) (l : List UInt8) (w : World) (h : IsB w b lo l) :
    Calls Tryd.prog 35 #[.pointer (some ⟨b, 0, none⟩)] w fun e w' => e = .returned (.int .i64 l.length) ∧ w = w' :=
  (Tryd.Builder_Len b b _ w h.lib).mono fun e w' h => ⟨by rw [h.1, Lib.byteCells_length], h.2.symm⟩
theorem string41 (b lo : Nat) (l : List UInt8) (w : World) (h : IsB w b lo l) :
    Calls Tryd.prog 41 #[.pointer (some ⟨b, 0, none⟩)] w fun e w' => e = .returned (.string ⟨l.toArray⟩) ∧ Below b w w' :=
  (Tryd.Builder_String_any b b l w h.lib (by have := h.1; have := h.2.1; omega)).mono fun e w' h => ⟨h.1, h.2⟩
end Go.Proofs.YtofomblpbmpbaaaDoor

/- A part of the proof. -/
import Derived.Test.YtdimfodgmaelhaaGreatDoorPay
import Derived.Test.YtdimfodgmaelhaaGreatDoorPaz
import Derived.Shelf.Strings.BuilderK
import Derived.Test.YtdimfodgmaelhaaGreatDoorPba
import Derived.Shelf.Abstract
import Derived.Laws.CopyRow
import Derived.Test.YtdimfodgmaelhaaGreatDoorPab
import Derived.Laws.CopyOwn
import Derived.Lib.ItoaLen
import Derived.Lib.ItoaMem
import Derived.Lib.Hide
import Derived.Lib.AppendIntMem
import Derived.Test.YtdimfodgmaelhaaGreatDoorProg
import Derived.Test.YtdimfodgmaelhaaGreatDoorPad
import Derived.Tactics
import Derived.Tactics2
import Derived.Defers
import Derived.Recover
import Derived.Laws.Pointers
import Derived.TacticsInMore
import Derived.RegionIn
import Derived.LoopNIn
import Derived.RecoverIn
import Derived.KernelRfl
import Derived.Maps.RangeWalk
set_option linter.all false
section
namespace Go.Proofs.Seat9
open Go.RowKit Go.Proofs.Seat4
structure But (b lo : Nat) (w w' : World) : Prop where
 os : w'.os = w.os
 tape : w'.tape = w.tape
 output : w'.output = w.output
 size : w.heap.size ≤ w'.heap.size
 block : ∀ k, k < lo → k ≠ b → w'.heap[k]? = w.heap[k]?
 kept : ∀ X cs t g, X ≠ b → t ≠ 5 → w.heap[X]? = some (.cells cs t g) → w'.heap[X]? = some (.cells cs t g)
theorem But.refl (b lo : Nat) (w : World) : But b lo w w := ⟨rfl, rfl, rfl, Nat.le_refl _, fun _ _ _ => rfl, fun _ _ _ _ _ _ h => h⟩
theorem But.trans {b lo : Nat} {w w' w'' : World} (h : But b lo w w') (k : But b lo w' w'') : But b lo w w'' :=
 ⟨k.os.trans h.os, k.tape.trans h.tape, k.output.trans h.output, Nat.le_trans h.size k.size, fun i hi hn => (k.block i hi hn).trans (h.block i hi hn), fun X cs t g hX ht e => k.kept X cs t g hX ht (h.kept X cs t g hX ht e)⟩
theorem heap_lt {w : World} {b : Nat} {o : Obj} (h : w.heap[b]? = some o) : b < w.heap.size := (Array.getElem?_eq_some_iff.1 h).1
theorem But.of_below {b lo : Nat} {w w' : World} (h : Below w.heap.size w w') (hl : lo ≤ w.heap.size) : But b lo w w' := ⟨h.os, h.tape, h.output, h.size, fun k hk _ => h.block k (by omega), fun X _ _ _ _ _ e => (h.block X (heap_lt e)).trans e⟩
theorem But.below {b lo : Nat} {w w' : World} (h : But b lo w w') (hb : b ≤ lo) : Below b w w' := ⟨h.os, h.tape, h.output, h.size, fun k hk => h.block k (by omega) (by omega)⟩
theorem But.setCell {b lo : Nat} {w w' : World} (h : But b lo w w') (off : Nat) (v : Value) : But b lo w (w'.setCell ⟨b, off, none⟩ v) :=
 h.trans ⟨rfl, rfl, rfl, by simp [World.setCell], fun k _ hn => Below.heap_setCell _ _ _ _ hn, fun X _ _ _ hX _ e => (Below.heap_setCell _ _ _ _ hX).trans e⟩
theorem own5 {w : World} {lo n k : Nat} {v : Value} {xs : List Value} {c : Array Value} {t : TypeId} {g : Nat × Nat} (h : w.ownsRow lo 5 1 v n xs) (hk : v.ownBlock = some k) (e : w.heap[k]? = some (.cells c t g)) : t = 5 := by
 rcases h.2 with ⟨rfl, _⟩ | ⟨g', cap, cur, rfl, hb, hg, _⟩
 ·simp [Value.ownBlock] at hk
 ·simp [Value.ownBlock] at hk
  subst hk
  rw [hg] at e
  cases e
  rfl
theorem But.grown {b lo n : Nat} {w w' w'' : World} {v : Value} {xs : List Value} (h : But b lo w w') (h5 : w'.ownsRow lo 5 1 v n xs) (hg : w'.grownBy w'' v.ownBlock) (hlo : lo ≤ w'.heap.size) : But b lo w w'' :=
 h.trans ⟨hg.os, hg.tape, hg.output, hg.size, fun k hk _ => hg.block k (by omega) (fun e => by have := (h5.lt k e.symm).1; omega), fun X _ _ _ _ ht e => (hg.block X (heap_lt e) (fun e' => ht (own5 h5 e'.symm e))).trans e⟩
theorem But.alloc {b lo : Nat} {w w' : World} (h : But b lo w w') (hlo : lo ≤ w'.heap.size) (o : Obj) : But b lo w (w'.alloc o) :=
 h.trans (But.of_below ((Below.refl _ w').alloc (Nat.le_refl _) o) hlo)
theorem But.cell {b lo : Nat} {w w' : World} (h : But b lo w w') {p : Addr} (hp : p.block < lo) (hn : p.block ≠ b) : w'.cell? p = w.cell? p := World.cell?_of_block (h.block p.block hp hn)
def IsB (w : World) (b lo : Nat) (l : List UInt8) : Prop :=
 b < lo ∧ lo ≤ w.heap.size ∧ ∃ p v, w.heap[b]? = some (.cells #[p, v] 55 (0, 0)) ∧ (p = .pointer none ∨ p = .pointer (some ⟨b, 0, none⟩)) ∧ w.ownsRow lo 5 1 v l.length (Lib.byteCells l)
def IsBU (w : World) (b lo : Nat) (l : List UInt8) : Prop :=
 b < lo ∧ lo ≤ w.heap.size ∧ ∃ v, w.heap[b]? = some (.cells #[.pointer (some ⟨b, 0, none⟩), v] 55 (0, 0)) ∧ w.ownsRow lo 5 1 v l.length (Lib.byteCells l)
theorem IsBU.isB {w : World} {b lo : Nat} {l : List UInt8} (h : IsBU w b lo l) : IsB w b lo l := by
 obtain ⟨h1, h2, v, h3, h4⟩ := h
 exact ⟨h1, h2, _, v, h3, .inr rfl, h4⟩
theorem ownsRow_mono {w : World} {lo lo' e size n : Nat} {v : Value} {xs : List Value} (h : w.ownsRow lo e size v n xs) (hl : lo' ≤ lo) : w.ownsRow lo' e size v n xs := by
 refine ⟨h.1, ?_⟩
 rcases h.2 with h | ⟨g, cap, cur, h1, h2, h3⟩
 ·exact .inl h
 ·exact .inr ⟨g, cap, cur, h1, Nat.le_trans hl h2, h3⟩
theorem IsB.lib {w : World} {b lo : Nat} {l : List UInt8} (h : IsB w b lo l) : Lib.IsBuilder 55 5 b b (Lib.byteCells l) w := by
 obtain ⟨h1, h2, p, v, h3, h4, h5⟩ := h
 have hat : Lib.BuilderAt 55 5 b b p (Lib.byteCells l) w := by
  refine ⟨Nat.le_refl _, v, h3, ?_, fun e => ?_⟩
  ·rw [Lib.byteCells_length]
   exact ownsRow_mono h5 (Nat.le_of_lt h1)
  ·have := (h5.lt b e).1
   omega
 rcases h4 with rfl | rfl
 ·exact .inl hat
 ·exact .inr hat
theorem IsB.new (w : World) (b : Nat) (o : Obj → Prop) (hb : w.heap[b]? = some (.cells #[.pointer none, .slice none 0 0] 55 (0, 0))) (lo : Nat) (h1 : b < lo) (h2 : lo ≤ w.heap.size) : IsB w b lo [] :=
 ⟨h1, h2, _, _, hb, .inl rfl, World.ownsRow_nil _ _ _ _⟩
theorem IsB.keep {w w' : World} {b lo : Nat} {l : List UInt8} (h : IsB w b lo l) (hb : Below w.heap.size w w') : IsB w' b lo l := by
 obtain ⟨h1, h2, p, v, h3, h4, h5⟩ := h
 refine ⟨h1, Nat.le_trans h2 hb.size, p, v, (hb.block b (heap_lt h3)).trans h3, h4, ?_⟩
 exact h5.kept (row := none) ⟨hb.os, hb.tape, hb.output, hb.size, fun k hk _ => hb.block k hk⟩ (by cases v.ownBlock <;> simp)
theorem size88 : ∃ j, Tryz.prog.info? 55 = some j ∧ j.size = 2 := by
 have h : (Tryz.prog.info? 55).map (·.size) = some 2 := by kernel_rfl
 obtain ⟨j, hj, hs⟩ := Option.map_eq_some_iff.1 h
 exact ⟨j, hj, hs⟩
theorem lies88 : liesAt Tryz.prog Tryz.prog.depth 55 (2 / Tryz.prog.cellsOf 55) 0 55 1 = true := by kernel_rfl
set_option maxRecDepth 100000 in
theorem copyCheck_used (b : Nat) (w : World) (h0 : w.cell? ⟨b, 0, none⟩ = some (.pointer (some ⟨b, 0, none⟩))) :
 Calls Tryz.prog 40 #[.pointer (some ⟨b, 0, none⟩)] w fun e w' => e = .returned (.tuple #[]) ∧ w = w' := by
 obtain ⟨j, hj, _⟩ := size88
 go_enter Tryz.func40, Tryz.ntmps40
 go_wp2
 rw [Lib.run_neq_ptr_same w _ Tryz.underlying52 hj]
 go_wp2
 go_end0
 exact ⟨rfl, rfl⟩
set_option maxRecDepth 100000 in
theorem copyCheck_fresh (b : Nat) (w : World) (h0 : w.cell? ⟨b, 0, none⟩ = some (.pointer none)) (hsh : w.shape? b = some (55, 2)) (hfz : w.frozen? ⟨b, 0, none⟩ = false) :
 Calls Tryz.prog 40 #[.pointer (some ⟨b, 0, none⟩)] w fun e w' => e = .returned (.tuple #[]) ∧ w.setCell ⟨b, 0, none⟩ (.pointer (some ⟨b, 0, none⟩)) = w' := by
 obtain ⟨j, hj, hjs⟩ := size88
 go_enter Tryz.func40, Tryz.ntmps40
 go_wp2
 rw [Lib.run_to_unsafe w ⟨b, 0, none⟩ Tryz.underlying52 Tryz.underlying150 hj (by rw [hjs]; decide) hsh (Nat.zero_lt_succ 1)]
 simp only [Result.andThen]
 rw [Oper.upon_value]
 go_wp2
 rw [run_callFunc_extern Tryz.func65 (by kernel_rfl) (by kernel_rfl) (by kernel_rfl) (e := Extern.AbiNoEscape.same) (by kernel_rfl)]
 rw [Lib.run_noEscape]
 simp only [Result.andThen]
 rw [Oper.upon_value]
 go_wp2
 rw [Lib.run_from_unsafe w ⟨b, 0, none⟩ Tryz.underlying150 Tryz.underlying52 hj hsh lies88]
 simp only [Result.andThen]
 rw [Oper.upon_value]
 go_wp2
 go_end0
 exact ⟨rfl, rfl⟩
theorem copyCheck53 (b lo : Nat) (l : List UInt8) (w : World) (h : IsB w b lo l) :
 Calls Tryz.prog 40 #[.pointer (some ⟨b, 0, none⟩)] w fun e w' => e = .returned (.tuple #[]) ∧ IsBU w' b lo l ∧ But b lo w w' := by
 obtain ⟨h1, h2, p, v, h3, h4, h5⟩ := h
 have hlt := heap_lt h3
 rcases h4 with rfl | rfl
 ·refine (copyCheck_fresh b w (by simp [World.cell?, h3]) (by simp [World.shape?, h3]) (by simp [World.frozen?, h3])).mono ?_
  rintro e w' ⟨rfl, rfl⟩
  refine ⟨rfl, ⟨h1, by simpa [World.setCell] using h2, v, by simp [World.setCell, Array.getElem?_modify, h3], ?_⟩, (But.refl _ _ _).setCell _ _⟩
  refine h5.kept (row := some b) ⟨rfl, rfl, rfl, by simp [World.setCell], fun k _ hk => Below.heap_setCell _ _ _ _ (fun e => hk (by simp [e]))⟩ (.inr fun e => ?_)
  have := (h5.lt b e).1
  omega
 ·refine (copyCheck_used b w (by simp [World.cell?, h3])).mono ?_
  rintro e w' ⟨rfl, rfl⟩
  exact ⟨rfl, ⟨h1, h2, v, h3, h5⟩, But.refl _ _ _⟩
theorem T86 : ElemT Tryz.prog 53 5 1 1 := ElemT.mk' Tryz.underlying53 (z := .int .u8 0) (by kernel_rfl) rfl (by decide)
theorem IsBU.stored {w w2 : World} {b lo n : Nat} {l l' : List UInt8} {v v' : Value} (h1 : b < lo) (h2 : lo ≤ w2.heap.size) (h3 : w2.heap[b]? = some (.cells #[.pointer (some ⟨b, 0, none⟩), v] 55 (0, 0))) (h5 : w2.ownsRow lo 5 1 v' n (Lib.byteCells l')) (hn : n = l'.length) :
 IsBU (w2.setCell ⟨b, 1, none⟩ v') b lo l' := by
 subst hn
 refine ⟨h1, by simpa [World.setCell] using h2, v', by simp [World.setCell, Array.getElem?_modify, h3], ?_⟩
 refine h5.kept (row := some b) ⟨rfl, rfl, rfl, by simp [World.setCell], fun k _ hk => Below.heap_setCell _ _ _ _ (fun e => hk (by simp [e]))⟩ (.inr fun e => ?_)
 have := (h5.lt b e).1
 omega
set_option maxRecDepth 100000 in
theorem writeByte32 (b lo : Nat) (l : List UInt8) (c : UInt8) (w : World) (h : IsB w b lo l) (hlen : l.length + 1 ≤ 1048576) :
 Calls Tryz.prog 23 #[.pointer (some ⟨b, 0, none⟩), .int .u8 c.toNat] w fun e w' => e = .returned .nilIface ∧ IsBU w' b lo (l ++ [c]) ∧ But b lo w w' := by
 go_enter Tryz.func23, Tryz.ntmps23
 go_wp2_with fail
 refine (copyCheck53 b lo l w h).mono ?_
 rintro e w1 ⟨rfl, ⟨h1, h2, v, h3, h5⟩, hb1⟩
 have hlt := heap_lt h3
 have c0 : w1.cell? ⟨b, 0, none⟩ = some (.pointer (some ⟨b, 0, none⟩)) := by rw [Lib.cell_of_heap h3]; rfl
 have c1 : w1.cell? ⟨b, 1, none⟩ = some v := by rw [Lib.cell_of_heap h3]; rfl
 go_wp2_with (at_builtin; refine wpList_app rfl _ _ 53 rfl lo 5 1 1 T86 v _ _ rfl (h5.alloc _) w1.heap.size [.int .u8 c.toNat] rfl rfl (Row.new _ _ _ _ rfl) (by intro u hu; simp at hu; subst hu; rfl) hlen (by omega) (by simp; omega) ?_)
 intro v' w2 hown' hgrow
 have hb2 : w2.heap[b]? = some (.cells #[.pointer (some ⟨b, 0, none⟩), v] 55 (0, 0)) := by
  rw [hgrow.block b (by simp; omega) (fun e => by have := (h5.lt b e.symm).1; omega), Lib.alloc_old w1 _ b hlt]
  exact h3
 have d0 : w2.cell? ⟨b, 0, none⟩ = some (.pointer (some ⟨b, 0, none⟩)) := by rw [Lib.cell_of_heap hb2]; rfl
 have d1 : w2.cell? ⟨b, 1, none⟩ = some v := by rw [Lib.cell_of_heap hb2]; rfl
 have f1 : w2.frozen? ⟨b, 1, none⟩ = false := Lib.frozen_of_heap hb2 1
 have hsz := hgrow.size
 obtain ⟨g, cap, rfl⟩ : ∃ g cap, v' = .slice (some ⟨g, 0, none⟩) (l.length + 1) cap := by
  rcases hown'.2 with ⟨_, h0⟩ | ⟨g, cap, cur, hv, _⟩
  ·omega
  ·exact ⟨g, cap, hv⟩
 go_wp2
 go_ret
 refine ⟨rfl, IsBU.stored (w := w2) (l := l) h1 (by simp at hsz; omega) hb2 (l' := l ++ [c]) (by simpa [Lib.byteCells] using hown') (by simp), ?_⟩
 exact ((hb1.alloc h2 _).grown (h5.alloc _) hgrow (by simp; omega)).setCell _ _
set_option maxRecDepth 100000 in
theorem writeString30 (b lo : Nat) (l s : List UInt8) (w : World) (h : IsB w b lo l) (hlen : l.length + s.length ≤ 1048576) :
 Calls Tryz.prog 20 #[.pointer (some ⟨b, 0, none⟩), .string ⟨s.toArray⟩] w fun e w' => e = .returned (.tuple #[.int .i64 s.length, .nilIface]) ∧ IsBU w' b lo (l ++ s) ∧ But b lo w w' := by
 obtain ⟨ht, ⟨i, z, hi, hz, hsize, hby, hzs⟩, hsz0⟩ := T86
 go_enter Tryz.func20, Tryz.ntmps20
 go_wp2_with fail
 refine (copyCheck53 b lo l w h).mono ?_
 rintro e w1 ⟨rfl, ⟨h1, h2, v, h3, h5⟩, hb1⟩
 have hlt := heap_lt h3
 have c0 : w1.cell? ⟨b, 0, none⟩ = some (.pointer (some ⟨b, 0, none⟩)) := by rw [Lib.cell_of_heap h3]; rfl
 have c1 : w1.cell? ⟨b, 1, none⟩ = some v := by rw [Lib.cell_of_heap h3]; rfl
 have i0 : i.zero = some (.int .u8 0) := by
  have h0 : (Tryz.prog.info? 5).map (·.zero) = some (some (.int .u8 0)) := by kernel_rfl
  rw [hi] at h0
  exact Option.some.inj h0
 go_wp2_with (at_builtin; refine Lib.wpList_append_own_string _ rfl _ _ 53 9 rfl lo 5 i Tryz.underlying53 Tryz.underlying9 hi i0 hsize hby _ _ _ rfl h5 ⟨s.toArray⟩ rfl ?c3 ?c4 ?c5 ?_)
 case c3 => have e : (ByteArray.mk s.toArray).size = s.length := by simp [ByteArray.size]
            unfold maxLen; rw [e]; omega
 case c4 => have e : (ByteArray.mk s.toArray).size = s.length := by simp [ByteArray.size]
            rw [e]; omega
 case c5 => omega
 intro v' w2 hown' hgrow _
 have hb2 : w2.heap[b]? = some (.cells #[.pointer (some ⟨b, 0, none⟩), v] 55 (0, 0)) := by
  rw [hgrow.block b hlt (fun e => by have := (h5.lt b e.symm).1; omega)]
  exact h3
 have d0 : w2.cell? ⟨b, 0, none⟩ = some (.pointer (some ⟨b, 0, none⟩)) := by rw [Lib.cell_of_heap hb2]; rfl
 have d1 : w2.cell? ⟨b, 1, none⟩ = some v := by rw [Lib.cell_of_heap hb2]; rfl
 have f1 : w2.frozen? ⟨b, 1, none⟩ = false := Lib.frozen_of_heap hb2 1
 have hsz := hgrow.size
 obtain ⟨q, n, cap, rfl⟩ : ∃ q n cap, v' = .slice q n cap := by
  rcases hown'.2 with ⟨hv, _⟩ | ⟨g, cap, cur, hv, _⟩
  ·exact ⟨_, _, _, hv⟩
  ·exact ⟨_, _, _, hv⟩
 go_wp2
 go_ret2
 refine ⟨rfl, IsBU.stored (w := w2) (l := l) h1 (by omega) hb2 (l' := l ++ s) (by simpa [Lib.byteCells, Lib.strCells] using hown') (by simp), ?_⟩
 exact (hb1.grown h5 hgrow h2).setCell _ _
theorem string33 (b lo : Nat) (l : List UInt8) (w : World) (h : IsB w b lo l) :
 Calls Tryz.prog 24 #[.pointer (some ⟨b, 0, none⟩)] w fun e w' => e = .returned (.string ⟨l.toArray⟩) ∧ Below b w w' :=
 (Tryz.Builder_String_any b b l w h.lib (by have := h.1; have := h.2.1; omega)).mono fun e w' h => ⟨h.1, h.2⟩
end Go.Proofs.Seat9
end
section
set_option linter.all false
namespace Go.Proofs.Seat9
open Go.RowKit Go.Proofs.Seat4
def delS (kind : Int) (x : Sp) : Bool := x.kind != kind
set_option maxRecDepth 100000 in
theorem del19 (kind : Int) (b : Nat) (x : Sp) (w : World) (hb : w.cell? ⟨b, 0, none⟩ = some (.int .i64 kind)) (hbl : b < w.heap.size) :
 Calls Tryz.prog 19 #[.agg (spCells x).toArray, .pointer (some ⟨b, 0, none⟩)] w fun e w' => e = .returned (.bool (delS kind x)) ∧ Below w.heap.size w w' := by
 have hne : b ≠ w.heap.size := by omega
 simp only [spCells]
 unfold delS
 go_enter Tryz.func19, Tryz.ntmps19
 go_wp2
 go_ret
 exact ⟨rfl, (Below.refl _ _).alloc (Nat.le_refl _) _⟩
theorem eg19 : ∀ args w, (callFunc 19 args).run Tryz.prog w = .ok (.enter 19 args) w := enters_of Tryz.func19 (by kernel_rfl) rfl
def IxPost (l : List Sp) (p : Sp → Bool) (w : World) (e : Ending) (w' : World) : Prop := Below w.heap.size w w' ∧ ((∃ k, ∃ h : k < l.length, e = .returned (.int .i64 k) ∧ p l[k] = true ∧ ∀ j (h : j < l.length), j < k → p l[j] = false) ∨ (e = .returned (.int .i64 (-1)) ∧ ∀ m ∈ l, p m = false))
set_option maxRecDepth 100000 in
set_option maxHeartbeats 2000000 in
theorem index39 (l : List Sp) (v : Value) (kind : Int) (b : Nat) (w : World) (hv : SpV w v l) (hl : l.length ≤ 9223372036854775807) (hb : w.cell? ⟨b, 0, none⟩ = some (.int .i64 kind)) (hbl : b < w.heap.size) :
 Calls Tryz.prog 39 #[v, .func (.func 19) #[] #[.pointer (some ⟨b, 0, none⟩)]] w (IxPost l (delS kind) w) := by
 obtain ⟨A, cap, rfl, hcap, hlie⟩ := hv
 have Hlie := Lib.hid hlie
 have Hb := Lib.hid hb
 clear hlie hb
 have eg := eg19
 go_enter Tryz.func39, Tryz.ntmps39
 go_wp2
 go_loopw [8] (fun s8 wr => ∃ k : Nat, k ≤ l.length ∧ s8 = .int .i64 k ∧ Below w.heap.size w wr ∧ Hid (∀ j (h : j < l.length), j < k → delS kind l[j] = false)) (fun s8 _ => l.length - (intOf s8).toNat)
 case atStart => exact ⟨0, Nat.zero_le _, rfl, Below.refl _ _, fun j _ h => absurd h (Nat.not_lt_zero _)⟩
 case round =>
  obtain ⟨k, hk, rfl, hbw, hno⟩ := hrel
  by_cases hlt : k < l.length
  ·obtain ⟨bb, off, rfl, hbb, hrow⟩ := Hlie.out (by intro e; subst e; simp at hlt)
   have hr' : Row wr bb (off + k * 7) (spCells l[k]) := (hrow k hlt).below hbw hbb
   have hcall := del19 kind b l[k] wr ((hbw.cell (p := ⟨b, 0, none⟩) hbl).trans Hb.out) (Nat.lt_of_lt_of_le hbl hbw.size)
   obtain ⟨M, hM⟩ : ∃ M, l[k] = M := ⟨_, rfl⟩
   rw [hM] at hr' hcall
   have HM := Lib.hid hM
   have Hbw := Lib.hid hbw
   have hsz := hbw.size
   clear hrow hM hbw
   rcases Bool.eq_false_or_eq_true (delS kind M) with hq | hq
   ·rw [hq] at hcall
    have Hq := Lib.hid hq
    have Hcall := Lib.hid hcall
    clear hq hcall
    go_wp2_with (first | ((with_reducible refine wpList_load_agg (o := ⟨some 15, .load 46 (.tmp 14), _, _, _, none⟩) rfl 46 _ rfl bb (off + k * 7) ?_ _ hr' _ Tryz.underlying46 rfl ?_ ?_); (focus rfl); (focus kernel_rfl)) | (go_at_fn 19; refine Hcall.out.mono ?_; rintro e w1 ⟨rfl, hb1⟩))
    go_ret
    exact ⟨Hbw.out.trans (below_mono hb1 hsz), .inl ⟨k, hlt, rfl, by rw [HM.out]; exact Hq.out, hno.out⟩⟩
   ·rw [hq] at hcall
    have Hq := Lib.hid hq
    have Hcall := Lib.hid hcall
    clear hq hcall
    go_wp2_with (first | ((with_reducible refine wpList_load_agg (o := ⟨some 15, .load 46 (.tmp 14), _, _, _, none⟩) rfl 46 _ rfl bb (off + k * 7) ?_ _ hr' _ Tryz.underlying46 rfl ?_ ?_); (focus rfl); (focus kernel_rfl)) | (go_at_fn 19; refine Hcall.out.mono ?_; rintro e w1 ⟨rfl, hb1⟩))
    refine ⟨⟨k + 1, hlt, by simp, Hbw.out.trans (below_mono hb1 hsz), ?_⟩, ?_⟩
    ·intro j hj hjk
     by_cases he : j = k
     ·subst he; rw [HM.out]; exact Hq.out
     ·exact hno.out j hj (by omega)
    ·simp [intOf]; omega
  ·have hx : ¬ (k : Int) < (l.length : Int) := by omega
   go_wp2_with fail
   go_ret
   refine ⟨hbw, .inr ⟨rfl, fun m hm => ?_⟩⟩
   obtain ⟨j, hj, rfl⟩ := List.mem_iff_getElem.1 hm
   exact hno.out j hj (by omega)
theorem T22 : ElemT Tryz.prog 22 46 7 56 := ElemT.mk' Tryz.underlying22 (z := .agg #[.int .i64 0, .int .i64 0, .int .i64 0, .int .i64 0, .int .i64 0, .int .i64 0, .int .i64 0]) (by kernel_rfl) rfl (by decide)
end Go.Proofs.Seat9
end
section
set_option linter.all false
namespace Go.Proofs.Seat9
open Go.RowKit Go.Proofs.Seat4
theorem row_of_spAt {w : World} {b off : Nat} {l : List Sp} (h : LAt SE w b off l) : Row w b off (SE.all l) := fun j v hj => by
 have key : ∀ (l : List Sp) (j : Nat), (SE.all l)[j]? = l[j / 7]?.bind fun x => (spCells x)[j % 7]? := by
  intro l
  induction l with
  | nil => intro j; simp [Enc.all]
  | cons x l ih =>
    intro j
    show (spCells x ++ SE.all l)[j]? = _
    rw [List.getElem?_append]
    have hx : (spCells x).length = 7 := rfl
    rw [hx]
    split
    ·rename_i h; rw [Nat.div_eq_of_lt h, Nat.mod_eq_of_lt h]; rfl
    ·rename_i h
     rw [ih]
     have h1 : j / 7 = (j - 7) / 7 + 1 := by omega
     have h2 : j % 7 = (j - 7) % 7 := by omega
     rw [h1, h2]
     rfl
 rw [key] at hj
 cases hm : l[j / 7]? with
 | none => rw [hm] at hj; cases hj
 | some x =>
   rw [hm] at hj
   obtain ⟨hk, rfl⟩ := List.getElem?_eq_some_iff.1 hm
   have := h (j / 7) hk (j % 7) v hj
   rwa [show off + j / 7 * SE.size + j % 7 = off + j from by show off + j / 7 * 7 + j % 7 = _; omega] at this
def OwnS (w : World) (base g cap : Nat) (l : List Sp) : Prop := base ≤ g ∧ ∃ tl : List Value, w.heap[g]? = some (.cells (SE.all l ++ tl).toArray 46 (0, 0)) ∧ l.length ≤ cap
def CloneP (l : List Sp) (w : World) (e : Ending) (w' : World) : Prop := Below w.heap.size w w' ∧ ((∃ A c, e = .returned (.slice A 0 c) ∧ l = []) ∨ ∃ g c, e = .returned (.slice (some ⟨g, 0, none⟩) l.length c) ∧ OwnS w' w.heap.size g c l)
set_option maxRecDepth 100000 in
set_option maxHeartbeats 1000000 in
theorem clone18 (l : List Sp) (b off cap : Nat) (w : World) (hl : l.length ≤ 1000000) (hrow : Row w b off (SE.all l)) :
 Calls Tryz.prog 18 #[.slice (some ⟨b, off, none⟩) l.length cap] w (CloneP l w) := by
 obtain ⟨ht, ⟨i, z, hi, hz, hsize, hby, hzs⟩, hsz⟩ := T22
 have Hrow := Lib.hid hrow
 clear hrow
 have hown : (w.alloc (.cells #[] 46)).ownsRow w.heap.size 46 7 (.slice (some ⟨w.heap.size, 0, none⟩) 0 0) 0 [] := ⟨rfl, .inr ⟨w.heap.size, 0, #[], rfl, Nat.le_refl _, heap_alloc_new w _, Nat.le_refl _, Nat.zero_le _, rfl, rfl⟩⟩
 have Hown := Lib.hid hown
 clear hown
 go_enter Tryz.func18, Tryz.ntmps18
 go_wp2_with fail
 rw [Lib.run_eql_slice_nil w 22 46 _ _ _ _ _ Tryz.underlying22]
 simp only [Result.andThen_ok, Option.isNone_some]
 rw [Oper.upon_value]
 go_wp2_with (at_builtin; refine wpList_append_own _ rfl _ _ 22 rfl w.heap.size 46 i z 7 56 ht hi hz hsize hby hzs hsz _ 0 [] rfl Hown.out ⟨b, off, none⟩ l.length cap (SE.all l) rfl (SE.all_len l) ?r1 ?r2 ?r3 ?r4 ?r5 ?_)
 case r1 => intro j u hj; rw [plain_add]; exact (by
  have hlt := (Row.lt Hrow.out (fun e => by rw [e] at hj; cases hj))
  exact (((Below.refl w.heap.size w).alloc (Nat.le_refl _) _).cell (p := ⟨b, off + j, none⟩) hlt).trans (Hrow.out j u hj))
 case r2 => intro u hu; obtain ⟨m, _, hm⟩ := List.mem_flatMap.1 hu; exact spCells_one m u hm
 case r3 => unfold maxLen; omega
 case r4 => omega
 case r5 => simp
 intro v' w1 hown' hgr _
 have hown2 : w1.ownsRow w.heap.size 46 7 v' l.length (SE.all l) := by simpa using hown'
 have hbel : Below w.heap.size w w1 := ((Below.refl w.heap.size w).alloc (Nat.le_refl _) _).grown hgr (by simp) (fun k hk => by cases hk; exact Nat.le_refl _)
 have H2 := Lib.hid hown2
 have H3 := Lib.hid hbel
 clear hown' hown2 hbel hgr
 go_wp2
 go_ret
 refine ⟨H3.out, ?_⟩
 rcases H2.out.2 with ⟨e, h0⟩ | ⟨g, c, cur, e, h1, h2, h3, h4, h5, h6⟩
 ·exact .inl ⟨none, 0, by rw [e]; rfl, List.eq_nil_of_length_eq_zero h0⟩
 ·exact .inr ⟨g, c, by rw [e]; rfl, h1, cur.toList.drop (l.length * 7), by rw [h2, ← h6, List.take_append_drop], h3⟩
set_option maxRecDepth 100000 in
theorem clone18n (c : Nat) (w : World) : Calls Tryz.prog 18 #[.slice none 0 c] w (CloneP [] w) := by
 go_enter Tryz.func18, Tryz.ntmps18
 go_wp2_with fail
 rw [Lib.run_eql_slice_nil w 22 46 _ _ _ _ _ Tryz.underlying22]
 simp only [Result.andThen_ok, Option.isNone_none]
 rw [Oper.upon_value]
 go_wp2
 go_ret
 exact ⟨Below.refl _ _, .inl ⟨_, _, rfl, rfl⟩⟩
end Go.Proofs.Seat9
end
section
set_option linter.all false
namespace Go.Proofs.Seat9
open Go.RowKit Go.Proofs.Seat4
theorem all_get (l : List Sp) (j : Nat) : (SE.all l)[j]? = l[j / 7]?.bind fun x => (spCells x)[j % 7]? := by
 induction l generalizing j with
 | nil => simp [Enc.all]
 | cons x l ih =>
   show (spCells x ++ SE.all l)[j]? = _
   rw [List.getElem?_append]
   have hx : (spCells x).length = 7 := rfl
   rw [hx]
   split
   ·rename_i h; rw [Nat.div_eq_of_lt h, Nat.mod_eq_of_lt h]; rfl
   ·rename_i h
    rw [ih]
    have h1 : j / 7 = (j - 7) / 7 + 1 := by omega
    have h2 : j % 7 = (j - 7) % 7 := by omega
    rw [h1, h2]
    rfl
theorem all_app (x y : List Sp) : SE.all (x ++ y) = SE.all x ++ SE.all y := List.flatMap_append
theorem all_take (l : List Sp) (i : Nat) (h : i ≤ l.length) : (SE.all l).take (i * 7) = SE.all (l.take i) := by
 conv => lhs; rw [← List.take_append_drop i l]
 rw [all_app]
 have hl : (SE.all (l.take i)).length = i * 7 := by rw [SE.all_len, List.length_take, Nat.min_eq_left h]; rfl
 rw [← hl, List.take_left]
theorem all_drop (l : List Sp) (i : Nat) (h : i ≤ l.length) : (SE.all l).drop (i * 7) = SE.all (l.drop i) := by
 conv => lhs; rw [← List.take_append_drop i l]
 rw [all_app]
 have hl : (SE.all (l.take i)).length = i * 7 := by rw [SE.all_len, List.length_take, Nat.min_eq_left h]; rfl
 rw [← hl, List.drop_left]
theorem all_set (L : List Sp) (i : Nat) (M : Sp) (tl : List Value) (h : i < L.length) : (SE.all L ++ tl).take (i * 7 + 0) ++ spCells M ++ (SE.all L ++ tl).drop (i * 7 + 0 + 7) = SE.all (L.set i M) ++ tl := by
 have hl : (SE.all L).length = L.length * 7 := SE.all_len L
 rw [Nat.add_zero, List.take_append_of_le_length (by omega), all_take L i (by omega), show i * 7 + 7 = (i + 1) * 7 by omega, List.drop_append_of_le_length (by omega), all_drop L (i + 1) (by omega)]
 rw [List.set_eq_take_append_cons_drop, if_pos h]
 simp [Enc.all]
 rfl
section
variable {ops : Array Oper} {rest : List Oper} {o : Oper} {a : Act} {w : World} {Q : Exit → Act → World → Prop}
theorem sz46' : Av.szT Tryz.prog 46 = 7 := by kernel_rfl
theorem wpList_store_sp (hg : o.guard = none) (x v : Operand) (ho : o.op = .store 46 x v) (g i : Nat) (hx : a.eval x = .pointer (some ⟨g, i * 7, none⟩)) (M : Sp) (hv : a.eval v = .agg (spCells M).toArray) (L : List Sp) (tl : List Value)
 (hh : w.heap[g]? = some (.cells (SE.all L ++ tl).toArray 46 (0, 0))) (hi : i < L.length) (h : wpList Tryz.prog ops Q rest (a.put o.dst undef) (w.setRow g (SE.all (L.set i M) ++ tl).toArray)) : wpList Tryz.prog ops Q (o :: rest) a w :=
 wpList_plain hg fun K hK => by
  have hs := run_storeCells_at (P := Tryz.prog) g (i * 7) 46 (spCells M) 0 _ w hh (by simp only [List.size_toArray, List.length_append]; rw [SE.all_len]; show i * 7 + 0 + 7 ≤ L.length * 7 + _; omega) (spCells_one M)
  simp only [] at hs
  rw [show (spCells M).length = 7 from rfl, all_set L i M tl hi] at hs
  have : (execOp a.eval o).run Tryz.prog w = .ok .skip (w.setRow g (SE.all (L.set i M) ++ tl).toArray) := by
   unfold execOp
   rw [ho]
   simp only [hx, hv, Instr.storeAt, Instr.sureAddr, Sem.run_bind, Sem.run_pure, Result.andThen_ok, storeVar, Av.run_sizeOf (P := Tryz.prog) (t := 46) (by rw [sz46']; decide), sz46']
   rw [if_neg (by simp [Value.cells, spCells])]
   simp only [Value.cells, hs, Result.andThen_ok]
  unfold Oper.wp
  rw [this]
  exact hK _ _ h
theorem run_clear_sp (g i k c off : Nat) (hoff : k = 0 ∨ off = i * 7) (L : List Sp) (tl : List Value) (hh : w.heap[g]? = some (.cells (SE.all L ++ tl).toArray 46 (0, 0))) (hi : i + k = L.length) :
 ∃ w' tl', (Builtin.clear_ #[22] 0 #[.slice (some ⟨g, off, none⟩) k c]).run Tryz.prog w = .ok (.tuple #[]) w' ∧ w'.heap[g]? = some (.cells (SE.all (L.take i) ++ tl').toArray 46 (0, 0)) ∧ Below g w w' := by
 have hi' : SE.all L ++ tl = SE.all (L.take i) ++ (SE.all (L.drop i) ++ tl) := by
  conv => lhs; rw [← List.take_append_drop i L]
  rw [all_app, List.append_assoc]
 cases k with
 | zero =>
   refine ⟨w, _, ?_, by rw [hh, hi'], Below.refl _ _⟩
   simp [Builtin.clear_, run_underlying Tryz.underlying22]
 | succ k =>
   rcases hoff with hoff | hoff
   ·cases hoff
   subst hoff
   have hz : ∀ w, (zeroValue 46).run Tryz.prog w = .ok (.agg #[.int .i64 0, .int .i64 0, .int .i64 0, .int .i64 0, .int .i64 0, .int .i64 0, .int .i64 0]) w := fun w => by
    have h1 : (Tryz.prog.info? 46).map (·.zero) = some (some (.agg #[.int .i64 0, .int .i64 0, .int .i64 0, .int .i64 0, .int .i64 0, .int .i64 0, .int .i64 0])) := by kernel_rfl
    obtain ⟨j, hj, hzz⟩ := Option.map_eq_some_iff.1 h1
    simp [zeroValue, typeInfo, hj, hzz]
   have hzc : ∀ n, (Builtin.zeroCells #[.int .i64 0, .int .i64 0, .int .i64 0, .int .i64 0, .int .i64 0, .int .i64 0, .int .i64 0] n).toList.length = n * 7 ∧ ∀ v ∈ (Builtin.zeroCells #[.int .i64 0, .int .i64 0, .int .i64 0, .int .i64 0, .int .i64 0, .int .i64 0, .int .i64 0] n).toList, v.oneCell' = true := fun n => by
    refine ⟨by simp [Builtin.zeroCells], fun v hv => ?_⟩
    unfold Builtin.zeroCells at hv
    rw [Array.toList_map, List.mem_map] at hv
    obtain ⟨i, _, rfl⟩ := hv
    have hj : i % 7 < 7 := Nat.mod_lt _ (by decide)
    show ((#[.int .i64 0, .int .i64 0, .int .i64 0, .int .i64 0, .int .i64 0, .int .i64 0, .int .i64 0] : Array Value)[i % 7]!).oneCell' = true
    generalize i % 7 = j at hj
    match j, hj with
    | 0, _ | 1, _ | 2, _ | 3, _ | 4, _ | 5, _ | 6, _ => rfl
   have hs := run_storeCells_at (P := Tryz.prog) g (i * 7) 46 (Builtin.zeroCells #[.int .i64 0, .int .i64 0, .int .i64 0, .int .i64 0, .int .i64 0, .int .i64 0, .int .i64 0] (k + 1)).toList 0 _ w hh (by simp only [List.size_toArray, List.length_append]; rw [SE.all_len, (hzc _).1]; show i * 7 + 0 + (k + 1) * 7 ≤ L.length * 7 + _; omega) (hzc _).2
   simp only [] at hs
   refine ⟨_, (Builtin.zeroCells #[.int .i64 0, .int .i64 0, .int .i64 0, .int .i64 0, .int .i64 0, .int .i64 0, .int .i64 0] (k + 1)).toList ++ (SE.all L ++ tl).drop (i * 7 + 0 + (Builtin.zeroCells #[.int .i64 0, .int .i64 0, .int .i64 0, .int .i64 0, .int .i64 0, .int .i64 0, .int .i64 0] (k + 1)).toList.length), by simp only [Builtin.clear_]; simp [run_underlying Tryz.underlying22, hz, Value.cells, hs]; rfl, ?_, below_setRow (Below.refl _ _) (Nat.le_refl _) _⟩
   rw [setRow_heap w g _ _ 46 (0, 0) hh]
   rw [Nat.add_zero, List.take_append_of_le_length (by rw [SE.all_len]; show i * 7 ≤ L.length * 7; omega), all_take L i (by omega)]
   first | rfl | simp only [List.append_assoc]
end
end Go.Proofs.Seat9
end
section
set_option linter.all false
namespace Go.Proofs.Seat9
open Go.RowKit Go.Proofs.Seat4
structure DelR (base g : Nat) (kind : Int) (l : List Sp) (w0 wr : World) (i j : Nat) (L : List Sp) (tl : List Value) : Prop where
 heap : wr.heap[g]? = some (.cells (SE.all L ++ tl).toArray 46 (0, 0))
 len : L.length = l.length
 mine : L.take i = mine kind (l.take j)
 rest : L.drop j = l.drop j
 ij : i ≤ j
 jn : j ≤ l.length
 below : Below base w0 wr
theorem DelR.at {base g : Nat} {kind : Int} {l : List Sp} {w0 wr : World} {i j : Nat} {L : List Sp} {tl : List Value} (h : DelR base g kind l w0 wr i j L tl) (hj : j < l.length) : Row wr g (j * 7) (spCells l[j]) := by
 have hjL : j < L.length := by rw [h.len]; exact hj
 have e : L[j] = l[j] := by
  have h1 : (L.drop j)[0]? = (l.drop j)[0]? := by rw [h.rest]
  rw [List.getElem?_drop, List.getElem?_drop, Nat.add_zero, List.getElem?_eq_getElem hjL, List.getElem?_eq_getElem hj] at h1
  exact Option.some.inj h1
 rw [← e]
 intro t v ht
 rw [cell_heap h.heap, List.getElem?_toArray, List.getElem?_append_left (by rw [SE.all_len]; have : t < 7 := (List.getElem?_eq_some_iff.1 ht).1; show j * 7 + t < L.length * 7; omega), all_get]
 have ht7 : t < 7 := (List.getElem?_eq_some_iff.1 ht).1
 rw [show (j * 7 + t) / 7 = j by omega, show (j * 7 + t) % 7 = t by omega, List.getElem?_eq_getElem hjL]
 exact ht
theorem DelR.skip {base g : Nat} {kind : Int} {l : List Sp} {w0 wr w1 : World} {i j : Nat} {L : List Sp} {tl : List Value} (h : DelR base g kind l w0 wr i j L tl) (hj : j < l.length) (hd : delS kind l[j] = true) (hb : Below (wr.heap.size) wr w1) (hbase : base ≤ wr.heap.size) (hg : g < wr.heap.size) : DelR base g kind l w0 w1 i (j + 1) L tl := by
 refine ⟨(hb.block g hg).trans h.heap, h.len, ?_, ?_, by have := h.ij; omega, hj, h.below.trans (below_mono hb hbase)⟩
 ·rw [mine_take kind l j hj, h.mine, if_neg (by intro e; simp [delS, e] at hd), List.append_nil]
 ·have := congrArg (List.drop 1) h.rest
  simpa [List.drop_drop] using this
theorem DelR.keep {base g : Nat} {kind : Int} {l : List Sp} {w0 wr w1 : World} {i j : Nat} {L : List Sp} {tl : List Value} (h : DelR base g kind l w0 wr i j L tl) (hj : j < l.length) (hd : delS kind l[j] = false) (hb : Below (wr.heap.size) wr w1) (hbase : base ≤ wr.heap.size) (hbg : base ≤ g) (hg : g < wr.heap.size) :
 w1.heap[g]? = some (.cells (SE.all L ++ tl).toArray 46 (0, 0)) ∧ i < L.length ∧ DelR base g kind l w0 (w1.setRow g (SE.all (L.set i l[j]) ++ tl).toArray) (i + 1) (j + 1) (L.set i l[j]) tl := by
 have h1 := (hb.block g hg).trans h.heap
 have hiL : i < L.length := by rw [h.len]; have := h.ij; omega
 refine ⟨h1, hiL, setRow_heap w1 g _ _ 46 (0, 0) h1, by rw [List.length_set, h.len], ?_, ?_, by have := h.ij; omega, hj, below_setRow (h.below.trans (below_mono hb hbase)) hbg _⟩
 ·rw [mine_take kind l j hj, ← h.mine, if_pos (by simpa [delS] using hd)]
  rw [List.take_succ_eq_append_getElem (by rw [List.length_set]; exact hiL), List.take_set_of_le (Nat.le_refl _)]
  simp
 ·rw [List.drop_set_of_lt (by have := h.ij; omega)]
  have := congrArg (List.drop 1) h.rest
  simpa [List.drop_drop] using this
end Go.Proofs.Seat9
end
section
set_option linter.all false
namespace Go.Proofs.Seat9
open Go.RowKit Go.Proofs.Seat4
set_option maxRecDepth 100000 in
set_option maxHeartbeats 4000000 in
theorem delfn17 (l : List Sp) (base g c : Nat) (kind : Int) (b : Nat) (w : World) (hl : l.length ≤ 1000000) (hown : OwnS w base g c l) (hb : w.cell? ⟨b, 0, none⟩ = some (.int .i64 kind)) (hbl : b < base) (hbase : base ≤ w.heap.size) :
 Calls Tryz.prog 17 #[.slice (some ⟨g, 0, none⟩) l.length c, .func (.func 19) #[] #[.pointer (some ⟨b, 0, none⟩)]] w fun e w' => Below base w w' ∧ ∃ c', e = .returned (.slice (some ⟨g, 0, none⟩) (mine kind l).length c') ∧ (mine kind l).length ≤ c' ∧ g < w'.heap.size ∧ LAt SE w' g 0 (mine kind l) := by
 obtain ⟨hbg, tl, hg, hc⟩ := hown
 have hglt : g < w.heap.size := heap_lt hg
 have hr0 : LAt SE w g 0 l := lAt_of_row fun j v hj => by
  rw [Nat.zero_add, cell_heap hg, List.getElem?_toArray, List.getElem?_append_left ((List.getElem?_eq_some_iff.1 hj).1)]; exact hj
 have hix := index39 l (.slice (some ⟨g, 0, none⟩) l.length c) kind b w (LV.mk_ hc hglt hr0) (by omega) hb (by omega)
 have Hg := Lib.hid hg
 have Hr0 := Lib.hid hr0
 have Hb := Lib.hid hb
 have Hix := Lib.hid hix
 clear hg hr0 hb hix
 have eg := eg19
 go_enter Tryz.func17, Tryz.ntmps17
 go_wp2_with fail
 refine Hix.out.mono ?_
 rintro e w1 ⟨hb1, hk⟩
 have Hb1 := Lib.hid hb1
 have hsz1 := hb1.size
 clear hb1
 rcases hk with ⟨k, hk, rfl, hq, hno⟩ | ⟨rfl, hno⟩
 ·have hne : ((k : Int) == -1) = false := by simp
  have hD : DelR base g kind l w w1 k (k + 1) l tl := by
   refine ⟨(Hb1.out.block g hglt).trans Hg.out, rfl, ?_, rfl, by omega, hk, below_mono Hb1.out hbase⟩
   have h1 : ∀ j, j ≤ k → mine kind (l.take j) = l.take j := fun j hj => by
    unfold mine
    rw [List.filter_eq_self]
    intro x hx
    obtain ⟨t, ht, rfl⟩ := List.mem_iff_getElem.1 hx
    rw [List.length_take] at ht
    rw [List.getElem_take]
    have := hno t (by omega) (by omega)
    simpa [delS] using this
   rw [mine_take kind l k hk, h1 k (Nat.le_refl _), if_neg (by intro e; simp [delS, e] at hq), List.append_nil]
  have HD := Lib.hid hD
  have Hne := Lib.hid hne
  have Hno := Lib.hid hno
  clear hD hne hno hq
  go_wp2
  rw [Hne.out]
  go_loopw [5, 6] (fun iv jv wr => ∃ i j : Nat, ∃ L, iv = .int .i64 i ∧ jv = .int .i64 j ∧ DelR base g kind l w wr i j L tl) (fun _ jv _ => l.length - (intOf jv).toNat)
  case atStart => exact ⟨k, k + 1, l, rfl, by simp, HD.out⟩
  case round =>
   obtain ⟨i, j, L, rfl, rfl, hR⟩ := hrel
   have hij := hR.ij
   have hjn := hR.jn
   have hsz := hR.below.size
   have hLl := hR.len
   by_cases hlt : j < l.length
   ·have hr' : Row wr g (j * 7) (spCells l[j]) := hR.at hlt
    have hcell : wr.cell? ⟨b, 0, none⟩ = some (.int .i64 kind) := (hR.below.cell (p := ⟨b, 0, none⟩) hbl).trans Hb.out
    generalize hM : l[j] = M at *
    have HR := Lib.hid hR
    have HM := Lib.hid hM
    have rM : Row (wr.alloc (.cells #[.int .i64 M.kind, .int .i64 M.task, .int .i64 M.index, .int .i64 M.from_, .int .i64 M.to_, .int .i64 M.start, .int .i64 M.end_] 46)) wr.heap.size 0 (spCells M) := Row.new wr _ _ _ rfl
    have hcall := del19 kind b M (wr.alloc (.cells #[.int .i64 M.kind, .int .i64 M.task, .int .i64 M.index, .int .i64 M.from_, .int .i64 M.to_, .int .i64 M.start, .int .i64 M.end_] 46)) ((((Below.refl wr.heap.size wr).alloc (Nat.le_refl _) _).cell (p := ⟨b, 0, none⟩) (by show b < wr.heap.size; omega)).trans hcell) (by simp; omega)
    clear hR hM hcell HD
    rcases Bool.eq_false_or_eq_true (delS kind M) with hq | hq
    ·rw [hq] at hcall
     have Hq := Lib.hid hq
     have Hcall := Lib.hid hcall
     clear hq hcall
     go_wp2_with (first
      | ((with_reducible refine wpList_load_agg (o := ⟨some 25, .load 46 (.tmp 24), _, _, _, none⟩) rfl 46 _ rfl g (j * 7) ?_ _ hr' _ Tryz.underlying46 rfl ?_ ?_); (focus rfl); (focus kernel_rfl); simp only [spCells])
      | ((with_reducible refine wpList_load_agg (o := ⟨some 27, .load 46 (.tmp 7), _, _, _, none⟩) rfl 46 _ rfl wr.heap.size 0 ?_ _ rM _ Tryz.underlying46 rfl ?_ ?_); (focus rfl); (focus kernel_rfl))
      | (go_at_fn 19; refine Hcall.out.mono ?_; rintro e w1 ⟨rfl, hb1⟩))
     have hbw : Below wr.heap.size wr w1 := ((Below.refl _ _).alloc (Nat.le_refl _) _).trans (below_mono hb1 (by simp))
     go_roundw
     case rel => exact ⟨i, j + 1, L, rfl, by simp, HR.out.skip hlt (by rw [HM.out]; exact Hq.out) hbw (by omega) (by omega)⟩
     case measure => simp [intOf]; omega
    ·rw [hq] at hcall
     have Hq := Lib.hid hq
     have Hcall := Lib.hid hcall
     clear hq hcall
     go_wp2_with (first
      | ((with_reducible refine wpList_load_agg (o := ⟨some 25, .load 46 (.tmp 24), _, _, _, none⟩) rfl 46 _ rfl g (j * 7) ?_ _ hr' _ Tryz.underlying46 rfl ?_ ?_); (focus rfl); (focus kernel_rfl); simp only [spCells])
      | ((with_reducible refine wpList_load_agg (o := ⟨some 27, .load 46 (.tmp 7), _, _, _, none⟩) rfl 46 _ rfl wr.heap.size 0 ?_ _ rM _ Tryz.underlying46 rfl ?_ ?_); (focus rfl); (focus kernel_rfl))
      | (go_at_fn 19; refine Hcall.out.mono ?_; rintro e w1 ⟨rfl, hb1⟩
         have hbw : Below wr.heap.size wr w1 := ((Below.refl _ _).alloc (Nat.le_refl _) _).trans (below_mono hb1 (by simp))
         obtain ⟨hh1, hiL, hR2⟩ := HR.out.keep hlt (by rw [HM.out]; exact Hq.out) hbw (by omega) hbg (by omega)
         rw [HM.out] at hR2
         have HR2 := Lib.hid hR2
         have rM2 : Row w1 wr.heap.size 0 (spCells M) := rM.below hb1 (by simp)
         clear hR2)
      | ((with_reducible refine wpList_load_agg (o := ⟨some 32, .load 46 (.tmp 7), _, _, _, none⟩) rfl 46 _ rfl wr.heap.size 0 ?_ _ rM2 _ Tryz.underlying46 rfl ?_ ?_); (focus rfl); (focus kernel_rfl))
      | ((with_reducible refine wpList_store_sp (o := ⟨none, .store 46 (.tmp 33) (.tmp 32), _, _, _, none⟩) rfl _ _ rfl g i ?_ M ?_ L tl hh1 hiL ?_); (focus rfl); (focus rfl)))
     go_roundw
     case rel => exact ⟨i + 1, j + 1, L.set i M, by simp, by simp, HR2.out⟩
     case measure => simp [intOf]; omega
   ·have hjl : j = l.length := by omega
    subst hjl
    have hmi : L.take i = mine kind l := by have := hR.mine; rwa [List.take_of_length_le (Nat.le_refl _)] at this
    have hlen : (mine kind l).length = i := by rw [← hmi, List.length_take]; omega
    have hh := hR.heap
    have HR := Lib.hid hR
    have Hmi := Lib.hid hmi
    have Hlen := Lib.hid hlen
    have hiL : i + (l.length - i) = L.length := by omega
    clear hR hmi hlen HD
    go_wp2
    ·obtain ⟨w2, tl2, hrun, hh2, hb2⟩ := run_clear_sp (w := wr) g i (l.length - i) 0 0 (.inl (by omega)) L tl hh hiL
     rw [hrun]
     simp only [Result.andThen_ok]
     rw [Oper.upon_value]
     clear hrun
     go_wp2
     go_ret
     have hle : (mine kind l).length ≤ i := by rw [Hlen.out]; exact Nat.le_refl _
     refine ⟨HR.out.below.trans (below_mono hb2 hbg), _, by rw [Hlen.out]; rfl, ?_, ?_, ?_⟩
     ·omega
     ·exact heap_lt hh2
     ·rw [← Hmi.out]
      refine lAt_of_row fun j v hj => ?_
      rw [Nat.zero_add, cell_heap hh2, List.getElem?_toArray, List.getElem?_append_left ((List.getElem?_eq_some_iff.1 hj).1)]; exact hj
    ·obtain ⟨w2, tl2, hrun, hh2, hb2⟩ := run_clear_sp (w := wr) g i (l.length - i) (c - i) (i * 7) (.inr rfl) L tl hh hiL
     rw [hrun]
     simp only [Result.andThen_ok]
     rw [Oper.upon_value]
     clear hrun
     go_wp2
     go_ret
     have hle : (mine kind l).length ≤ i := by rw [Hlen.out]; exact Nat.le_refl _
     refine ⟨HR.out.below.trans (below_mono hb2 hbg), _, by rw [Hlen.out]; rfl, ?_, ?_, ?_⟩
     ·omega
     ·exact heap_lt hh2
     ·rw [← Hmi.out]
      refine lAt_of_row fun j v hj => ?_
      rw [Nat.zero_add, cell_heap hh2, List.getElem?_toArray, List.getElem?_append_left ((List.getElem?_eq_some_iff.1 hj).1)]; exact hj
 ·have hall : mine kind l = l := by
   unfold mine
   rw [List.filter_eq_self]
   intro x hx
   have := hno x hx
   simpa [delS] using this
  have Hall := Lib.hid hall
  clear hall hno
  go_wp2
  go_ret
  rw [Hall.out]
  exact ⟨below_mono Hb1.out hbase, c, rfl, hc, by omega, Hr0.out.below Hb1.out hglt⟩
end Go.Proofs.Seat9
end
section
set_option linter.all false
namespace Go.Proofs.Seat9
open Go.RowKit Go.Proofs.Seat4
set_option maxRecDepth 100000 in
set_option maxHeartbeats 1000000 in
theorem check7e (A : Option Addr) (c : Nat) (w : World) : Calls Tryz.prog 7 #[.slice A 0 c] w fun e w' => e = .returned (.int .i64 0) ∧ Below w.heap.size w w' := by
 go_enter Tryz.func7, Tryz.ntmps7
 go_wp2
 go_loopw [9] (fun v wr => v = .int .i64 0 ∧ w = wr) (fun _ _ => 0)
 case atStart => exact ⟨rfl, rfl⟩
 case round =>
  obtain ⟨rfl, rfl⟩ := hrel
  go_wp2
  go_ret
  exact ⟨rfl, Below.refl _ _⟩
theorem check7 (l : List Sp) (v : Value) (w : World) (hv : SpV w v l) (hl : l.length ≤ 1000000) : Calls Tryz.prog 7 #[v] w fun e w' => e = .returned (.int .i64 (chk l)) ∧ Below w.heap.size w w' := by
 rcases hv.split with ⟨A, c, rfl, rfl⟩ | ⟨b, off, cap, rfl, hc, hb, hr⟩
 ·exact check7e A c w
 ·exact check7p l b off cap w hb hl hr hc
set_option maxRecDepth 100000 in
set_option maxHeartbeats 1000000 in
theorem clone18z (ad : Addr) (cap : Nat) (w : World) :
 Calls Tryz.prog 18 #[.slice (some ad) 0 cap] w (CloneP [] w) := by
 obtain ⟨ht, ⟨i, z, hi, hz, hsize, hby, hzs⟩, hsz⟩ := T22
 have hown : (w.alloc (.cells #[] 46)).ownsRow w.heap.size 46 7 (.slice (some ⟨w.heap.size, 0, none⟩) 0 0) 0 [] := ⟨rfl, .inr ⟨w.heap.size, 0, #[], rfl, Nat.le_refl _, heap_alloc_new w _, Nat.le_refl _, Nat.zero_le _, rfl, rfl⟩⟩
 have Hown := Lib.hid hown
 clear hown
 go_enter Tryz.func18, Tryz.ntmps18
 go_wp2_with fail
 rw [Lib.run_eql_slice_nil w 22 46 _ _ _ _ _ Tryz.underlying22]
 simp only [Result.andThen_ok, Option.isNone_some]
 rw [Oper.upon_value]
 go_wp2_with (at_builtin; refine wpList_append_own _ rfl _ _ 22 rfl w.heap.size 46 i z 7 56 ht hi hz hsize hby hzs hsz _ 0 [] rfl Hown.out ad 0 cap [] rfl rfl ?r1 ?r2 ?r3 ?r4 ?r5 ?_)
 case r1 => intro j u hj; simp at hj
 case r2 => intro u hu; simp at hu
 case r3 => unfold maxLen; omega
 case r4 => omega
 case r5 => simp
 intro v' w1 hown' hgr _
 have hown2 : w1.ownsRow w.heap.size 46 7 v' 0 [] := by simpa using hown'
 have hbel : Below w.heap.size w w1 := ((Below.refl w.heap.size w).alloc (Nat.le_refl _) _).grown hgr (by simp) (fun k hk => by cases hk; exact Nat.le_refl _)
 have H2 := Lib.hid hown2
 have H3 := Lib.hid hbel
 clear hown' hown2 hbel hgr
 go_wp2
 go_ret
 refine ⟨H3.out, ?_⟩
 rcases H2.out.2 with ⟨e, h0⟩ | ⟨g, c, cur, e, h1, h2, h3, h4, h5, h6⟩
 ·exact .inl ⟨none, 0, by rw [e]; rfl, rfl⟩
 ·exact .inl ⟨some ⟨g, 0, none⟩, c, by rw [e]; rfl, rfl⟩
theorem clone18v (l : List Sp) (v : Value) (w : World) (hv : SpV w v l) (hl : l.length ≤ 1000000) : Calls Tryz.prog 18 #[v] w (CloneP l w) := by
 rcases hv.split with ⟨A, c, rfl, rfl⟩ | ⟨b, off, cap, rfl, hc, hb, hr⟩
 ·cases A with
  | none => exact clone18n c w
  | some ad =>
    exact clone18z ad c w
 ·exact clone18 l b off cap w hl (row_of_spAt hr)
set_option maxRecDepth 100000 in
set_option maxHeartbeats 1000000 in
theorem delfn17e (A : Option Addr) (c : Nat) (kind : Int) (b : Nat) (w : World) (hb : w.cell? ⟨b, 0, none⟩ = some (.int .i64 kind)) (hbl : b < w.heap.size) :
 Calls Tryz.prog 17 #[.slice A 0 c, .func (.func 19) #[] #[.pointer (some ⟨b, 0, none⟩)]] w fun e w' => Below w.heap.size w w' ∧ e = .returned (.slice A 0 c) := by
 have hix := index39 [] (.slice A 0 c) kind b w (LV.nil_ _ _ _ _) (by simp) hb hbl
 have Hix := Lib.hid hix
 clear hix
 have eg := eg19
 go_enter Tryz.func17, Tryz.ntmps17
 go_wp2_with fail
 refine Hix.out.mono ?_
 rintro e w1 ⟨hb1, hk⟩
 have Hb1 := Lib.hid hb1
 clear hb1
 rcases hk with ⟨k, hk, rfl, hq, hno⟩ | ⟨rfl, hno⟩
 ·cases hk
 ·clear hno
  go_wp2
  go_ret
  exact ⟨Hb1.out, rfl⟩
end Go.Proofs.Seat9
end
section
set_option linter.all false
namespace Go.Proofs.Seat9
open Go.RowKit Go.Proofs.Seat4
theorem conv1 (W : World) (x : Int) (h0 : 0 ≤ x) (h1 : x < 256) :
 (convert 53 9 (.slice (some ⟨W.heap.size, 0, none⟩) 1 1)).run Tryz.prog (W.alloc (.cells #[.int .u8 x] 5)) = .ok (.string ⟨#[UInt8.ofNat x.toNat]⟩) (W.alloc (.cells #[.int .u8 x] 5)) := by
 have := run_convert_bytes_back (P := Tryz.prog) (W.alloc (.cells #[.int .u8 x] 5)) 53 9 5 ⟨W.heap.size, 0, none⟩ 1 [UInt8.ofNat x.toNat] Tryz.underlying53 Tryz.underlying5 Tryz.underlying9 (fun j hj => by
  have hj0 : j = 0 := by simpa using hj
  subst hj0
  rw [plain_add, cell_of_row _ _ _ #[.int .u8 x] 5 (0, 0) (heap_alloc_new W _)]
  simp only [List.getElem_cons_zero, Nat.add_zero]
  rw [UInt8.toNat_ofNat', Nat.mod_eq_of_lt (by omega), show ((x.toNat : Nat) : Int) = x from by omega]
  rfl)
 exact this
theorem dec_step (m : Nat) (h : 9 < m) (l : List UInt8) : Lib.decDigits (m / 10) ++ (48 + UInt8.ofNat (m % 10)) :: l = Lib.decDigits m ++ l := by
 rw [Lib.decDigits.eq_1 m, dif_neg (by omega)]
 simp
theorem dec_last (m : Nat) (h : m ≤ 9) (l : List UInt8) : (48 + UInt8.ofNat m) :: l = Lib.decDigits m ++ l := by
 rw [Lib.decDigits.eq_1 m, dif_pos (by omega)]
 simp
theorem cat1 (x : UInt8) (l : List UInt8) : (ByteArray.mk #[x]) ++ (ByteArray.mk l.toArray) = ByteArray.mk (x :: l).toArray := ByteArray.mk_append_mk [x] l
theorem decD_len (n : Nat) (h : n ≤ 9223372036854775807) : (Lib.decDigits n).length ≤ 21 := by
 have hlen := Lib.itoa_length_le (n : Int) (by omega) (by omega)
 rwa [Lib.itoa_nonneg] at hlen
set_option maxRecDepth 100000 in
set_option maxHeartbeats 1000000 in
theorem decimal25p (N : Nat) (w : World) (hN : N ≤ 9223372036854775807) : Calls Tryz.prog 25 #[.int .i64 (N : Int)] w fun e w' => e = .returned (.string ⟨(Lib.decDigits N).toArray⟩) ∧ Below w.heap.size w w' := by
 go_enter Tryz.func25, Tryz.ntmps25
 go_wp2
 go_loopw [0, 3] (fun n out wr => ∃ (m : Nat) (l : List UInt8), n = .int .i64 m ∧ out = .string ⟨l.toArray⟩ ∧ m ≤ N ∧ Hid (Lib.decDigits m ++ l = Lib.decDigits N) ∧ Below w.heap.size w wr) (fun n _ _ => (intOf n).toNat)
 case atStart => exact ⟨N, [], rfl, rfl, Nat.le_refl _, by simp [Hid], Below.refl _ _⟩
 case round =>
  obtain ⟨m, l, rfl, rfl, hm, hl, hb⟩ := hrel
  have hll : l.length ≤ 21 := by
   have := decD_len N hN
   rw [← hl.out] at this
   simp at this
   omega
  have hsz := hb.size
  by_cases h : 9 < m
  ·have hcv := conv1 wr (48 + (m : Int) % 10) (by omega) (by omega)
   have hi : (9 : Int) < (m : Int) := by omega
   go_wp2
   go_roundw
   case rel => exact ⟨m / 10, (48 + UInt8.ofNat (m % 10)) :: l, by go_num, congrArg Value.string (cat1 _ _), by omega, (dec_step m h l).trans hl.out, hb.alloc hsz _⟩
   case measure => simp [intOf]; omega
  ·have Hd := Lib.hid ((dec_last m (by omega) l).trans hl.out)
   have hi : ¬ (9 : Int) < (m : Int) := by omega
   have hcv := conv1 wr (48 + (m : Int)) (by omega) (by omega)
   go_wp2
   go_ret
   refine ⟨?_, hb.alloc hsz _⟩
   have hd := Hd.out
   exact congrArg (fun b => Ending.returned (Value.string b)) ((cat1 _ _).trans (by rw [hd]))
theorem decimal25 (n : Int) (w : World) (h0 : 0 ≤ n) (h1 : n ≤ 9223372036854775807) : Calls Tryz.prog 25 #[.int .i64 n] w fun e w' => e = .returned (.string ⟨(Lib.itoa n).toArray⟩) ∧ Below w.heap.size w w' := by
 obtain ⟨m, hm⟩ : ∃ m : Nat, n = (m : Int) := ⟨n.natAbs, by omega⟩
 subst hm
 have := decimal25p m w (by omega)
 rwa [show Lib.itoa (m : Int) = Lib.decDigits m from Lib.itoa_nonneg m]
theorem itoa_m1 : Lib.itoa (-1) = [45, 49] := by
 have h := Lib.itoa_neg 1 (by omega)
 have h2 := dec_last 1 (by omega) []
 rw [List.append_nil] at h2
 rw [show ((-1 : Int)) = -((1 : Nat) : Int) from rfl, h, ← h2]
 rfl
end Go.Proofs.Seat9
end
section
set_option linter.all false
namespace Go.Proofs.Seat9
open Go.RowKit Go.Proofs.Seat4
structure Env (w : World) : Prop where
 top : 1 ≤ w.heap.size
 tab : Lib.TabIs Tryz.prog w "internal/strconv.uint64pow10" .u64 Lib.pow10Tab
theorem gTab : Tryz.prog.globalNamed "internal/strconv.uint64pow10" = some 0 := by kernel_rfl
theorem Env.below' {w w' : World} {B : Nat} (h : Env w) (hb : Below B w w') (hB : 1 ≤ B) : Env w' := ⟨Nat.le_trans h.top hb.size, var?_below hb gTab (by omega) h.tab⟩
theorem Env.below {w w' : World} (h : Env w) (hb : Below w.heap.size w w') : Env w' := h.below' hb h.top
theorem itoa21 (n : Int) (w : World) (hE : Env w) (h0 : -9223372036854775808 ≤ n) (h1 : n ≤ 9223372036854775807) :
 Calls Tryz.prog 21 #[.int .i64 n] w fun e w' => e = .returned (.string ⟨(Lib.itoa n).toArray⟩) ∧ Below w.heap.size w w' :=
 (Tryz.strconv_Itoa n h0 h1 w hE.tab).mono fun e w' ⟨he, k, os, hw⟩ => ⟨he, by rw [hw]; exact Lib.below_grow _ _ (Nat.le_refl _) _ _⟩
end Go.Proofs.Seat9
end
section
namespace Go.Proofs.Seat4
open Go.RowKit
open Go.Proofs
set_option maxHeartbeats 800000 in
theorem run1_idle (p : Addr) (w : World) :
 CallsDIn Fence.wide 0 Tryz.prog 364 #[.pointer (some p)] .returning w fun e u' w' => e = .returned (.tuple #[]) ∧ u' = .returning ∧ w' = w := by
 refine callsDIn_of_wpSIn Tryz.func364 rfl trivial fun c₀ cs hu => ?_
 simp only [Tryz.ntmps364, List.size_toArray, List.length_cons, List.length_nil, Nat.reduceAdd, Nat.reduceSub, Array.replicate_succ, Array.replicate_zero, List.push_toArray, List.append_toArray, List.nil_append, List.cons_append]
 apply wpSIn_seq
 apply wpSIn_region
 simp [wpOpsSIn, go_sem, recoverD, hu, Tryz.ntmps364, Exit.thenS]
 refine wpSIn_of_wpIn rfl ?_
 gi_wp2
 cases c₀
 simp_all [bodyPostS, results, Tryz.results364]
theorem ta1 (x y z : Int) (w : World) : (Instr.typeAssert (.iface 454 (.agg #[.int .i64 x, .int .i64 y, .int .i64 z])) 20 452 true).run Tryz.prog w = .ok (.tuple #[.int .i64 0, .bool false]) w := by kernel_rfl
theorem ta2 (x y z : Int) (w : World) : (Instr.typeAssert (.iface 454 (.agg #[.int .i64 x, .int .i64 y, .int .i64 z])) 20 454 true).run Tryz.prog w = .ok (.tuple #[.agg #[.int .i64 x, .int .i64 y, .int .i64 z], .bool true]) w := by kernel_rfl
set_option maxHeartbeats 800000 in
theorem run1_stop (b o : Nat) (x y z : Int) (w : World) (v0 v1 v2 : Value) (h0 : w.cell? ⟨b, o, none⟩ = some v0) (h1 : w.cell? ⟨b, o + 1, none⟩ = some v1) (h2 : w.cell? ⟨b, o + 2, none⟩ = some v2)
 (z0 : w.frozen? ⟨b, o, none⟩ = false) (z1 : w.frozen? ⟨b, o + 1, none⟩ = false) (z2 : w.frozen? ⟨b, o + 2, none⟩ = false) (hb : b < w.heap.size) :
 CallsDIn Fence.wide 0 Tryz.prog 364 #[.pointer (some ⟨b, o, none⟩)] (.panicking [{ v := .iface 454 (.agg #[.int .i64 x, .int .i64 y, .int .i64 z]), recovered := false }]) w fun e u' w' => e = .returned (.tuple #[]) ∧
  u' = .panicking [{ v := .iface 454 (.agg #[.int .i64 x, .int .i64 y, .int .i64 z]), recovered := true }] ∧ w' = (w.setCells b o [.int .i64 x, .int .i64 y, .int .i64 z]).alloc (.cells #[.int .i64 x, .int .i64 y, .int .i64 z] 454) := by
 refine callsDIn_of_wpSIn Tryz.func364 rfl trivial fun c₀ cs hu => ?_
 simp only [Tryz.ntmps364, List.size_toArray, List.length_cons, List.length_nil, Nat.reduceAdd, Nat.reduceSub, Array.replicate_succ, Array.replicate_zero, List.push_toArray, List.append_toArray, List.nil_append, List.cons_append]
 apply wpSIn_seq
 apply wpSIn_region
 simp [wpOpsSIn, go_sem, recoverD, hu, Tryz.ntmps364, Exit.thenS]
 refine wpSIn_of_wpIn rfl ?_
 have hta := ta1 x y z
 have htb := ta2 x y z
 generalize hQ : bodyPostS Tryz.prog _ _ _ _ = Q
 have HQ := Lib.hid hQ
 clear hQ
 gi_wp2
 cases c₀
 rw [← HQ.out]
 simp_all [bodyPostS, results, Tryz.results364, World.setCells]
theorem stepAlloc {ri : Nat → Option Av.RInfo} {m : Av.M} {N : Av.Pos → Prop} {lim B : Nat} {H : Av.AH} {w : World} (h : Av.Rel ri m N N lim B H w) (ob : Obj) : Av.Step ri m N lim B H w m N H (w.alloc ob) :=
 ⟨h.world (fun b o hb ho => Av.getElem?_push_lt ((h.obj b o hb ho).lt)) (by rw [Av.alloc_size]; have := h.base; omega), Av.Agree.refl _ _, fun _ x => x, fun _ x => .inl x, (Below.refl _ _).alloc h.base _, fun _ _ x _ => x, Nat.le_refl _, Nat.le_refl _, fun x h1 h2 => absurd h2 (Nat.not_lt.2 h1), Av.Ext.refl _⟩
open Av in
noncomputable def dhR : DHook := fun lim xs u h k => Bool.rec (motive := fun _ => R CO) (.er [200]) ((lget xs 0).unPtr (fun b o => Option.rec (motive := fun _ => R CO) (k none h) (fun v => v.unIfc (fun t x =>
 Bool.rec (motive := fun _ => R CO) (.er [201]) (x.unAgg (fun l => (lget l 0).unInt (fun a => (lget l 1).unInt (fun b' => (lget l 2).unInt (fun c => Bool.rec (motive := fun _ => R CO) (.er [202]) (h.write lim b o [.int a, .int b', .int c] (fun h' => k none h')) (Nat.beq (llen l) 3)) (.er [202])) (.er [202])) (.er [202])) (.er [202])) (Nat.beq t 454)) (.er [201])) u) (.er [200])) (Nat.beq (llen xs) 1)
open Av in
theorem dhR_ok {ri : Nat → Option RInfo} : DhOK Tryz.prog ri 364 dhR := by
 intro m N lim B H w xs u k co hR hx hu h
 rcases bool_ok h with ⟨h1, h⟩ | ⟨_, h⟩
 ·rw [llen_eq] at h1
  have h1 := beq_of h1
  match xs, h1, hx, h with
  | [a], _, hx, h =>
    rcases AV.unPtr_ok (show (lget [a] 0).unPtr _ _ = _ from h) with ⟨b, o, rfl, h⟩ | ⟨_, h⟩
    ·refine ⟨run_callFunc Tryz.func364 rfl rfl, ?_⟩
     cases u with
     | none =>
       refine (run1_idle _ w).mono fun e u' w' hp => ?_
       obtain ⟨rfl, rfl, rfl⟩ := hp
       exact ⟨_, none, H, m, N, rfl, Step.refl hR, fun v hv => (by cases hv), rfl, h⟩
     | some v =>
       rcases AV.unIfc_ok (show AV.unIfc v _ _ = _ from h) with ⟨t, x, rfl, h⟩ | h
       ·rcases bool_ok h with ⟨h2, h⟩ | ⟨_, h⟩
        ·have h2 := beq_of h2
         subst h2
         rcases AV.unAgg_ok h with ⟨l, rfl, h⟩ | ⟨_, h⟩
         ·rcases AV.unInt_ok h with ⟨a, e1, h⟩ | ⟨_, h⟩
          ·rcases AV.unInt_ok h with ⟨b', e2, h⟩ | ⟨_, h⟩
           ·rcases AV.unInt_ok h with ⟨c, e3, h⟩ | ⟨_, h⟩
            ·rcases bool_ok h with ⟨h3, h⟩ | ⟨_, h⟩
             ·rw [llen_eq] at h3
              have h3 := beq_of h3
              match l, h3, e1, e2, e3 with
              | [l0, l1, l2], _, e1, e2, e3 =>
                cases (show l0 = _ from e1)
                cases (show l1 = _ from e2)
                cases (show l2 = _ from e3)
                obtain ⟨l, ty, root, ab, g, birth, w1, w2, w3, w4⟩ := write_ok h
                have hN : N b := hx.1
                have hob := hR.obj b _ hN w1
                have w3' : o + 3 ≤ l.length := w3
                have g0 : w.cell? ⟨m.ad b, m.off b + o, none⟩ = some (conc m l[o]) := cell_of hob (List.getElem?_eq_getElem (by omega))
                have g1 : w.cell? ⟨m.ad b, m.off b + o + 1, none⟩ = some (conc m l[o + 1]) := by rw [Nat.add_assoc]; exact cell_of hob (List.getElem?_eq_getElem (by omega))
                have g2 : w.cell? ⟨m.ad b, m.off b + o + 2, none⟩ = some (conc m l[o + 2]) := by rw [Nat.add_assoc]; exact cell_of hob (List.getElem?_eq_getElem (by omega))
                have y0 : w.frozen? ⟨m.ad b, m.off b + o, none⟩ = false := frozen_of hob (by omega)
                have y1 : w.frozen? ⟨m.ad b, m.off b + o + 1, none⟩ = false := by rw [Nat.add_assoc]; exact frozen_of hob (by omega)
                have y2 : w.frozen? ⟨m.ad b, m.off b + o + 2, none⟩ = false := by rw [Nat.add_assoc]; exact frozen_of hob (by omega)
                refine CallsDIn.mono (run1_stop (m.ad b) (m.off b + o) a b' c w _ _ _ g0 g1 g2 y0 y1 y2 hob.lt) fun e u' w' hp => ?_
                obtain ⟨rfl, rfl, rfl⟩ := hp
                have s1 := Step.wrote hR (o := o) (vs := [.int a, .int b', .int c]) hN w1 w2 w3 (fun x hx => by
                 rcases List.mem_cons.1 hx with rfl | hx
                 ·exact ⟨rfl, trivial⟩
                 ·rcases List.mem_cons.1 hx with rfl | hx
                  ·exact ⟨rfl, trivial⟩
                  ·rcases List.mem_cons.1 hx with rfl | hx
                   ·exact ⟨rfl, trivial⟩
                   ·cases hx)
                exact ⟨_, none, _, m, N, rfl, s1.trans (stepAlloc s1.rel _), fun v hv => (by cases hv), rfl, w4⟩
             ·cases h
            ·cases h
           ·cases h
          ·cases h
         ·cases h
        ·cases h
       ·cases h
    ·cases h
 ·cases h
end Go.Proofs.Seat4
end
section
namespace Go.Proofs.Seat4
open Go.RowKit
def mkEs : List (Value × Value) → Nat → List MapEntry
 | [], _ => []
 | (k, v) :: r, i => ⟨k, v, i⟩ :: mkEs r (i + 1)
theorem mkEs_length (a : List (Value × Value)) (i : Nat) : (mkEs a i).length = a.length := by
 induction a generalizing i with
 | nil => rfl
 | cons x r ih => obtain ⟨k, v⟩ := x; simp [mkEs, ih]
theorem mkEs_mem (a : List (Value × Value)) (i : Nat) : ∀ e ∈ mkEs a i, ∃ j, ∃ h : j < a.length, e = ⟨a[j].1, a[j].2, i + j⟩ := by
 induction a generalizing i with
 | nil => intro e he; cases he
 | cons x r ih =>
   obtain ⟨k, v⟩ := x
   intro e he
   simp only [mkEs, List.mem_cons] at he
   rcases he with rfl | he
   ·exact ⟨0, by simp, rfl⟩
   ·obtain ⟨j, hj, rfl⟩ := ih (i + 1) e he
    exact ⟨j + 1, by simpa using hj, by simp [show i + 1 + j = i + (j + 1) from by omega]⟩
theorem mkEs_get (a : List (Value × Value)) (i j : Nat) (h : j < a.length) : (mkEs a i)[j]? = some ⟨a[j].1, a[j].2, i + j⟩ := by
 induction a generalizing i j with
 | nil => simp at h
 | cons x r ih =>
   obtain ⟨k, v⟩ := x
   cases j with
   | zero => simp [mkEs]
   | succ j =>
     simp only [mkEs, List.getElem?_cons_succ, List.getElem_cons_succ]
     rw [ih (i + 1) j (by simpa using h), show i + 1 + j = i + (j + 1) from by omega]
def MapIs (w : World) (m : Nat) (kvs : List (Value × Value)) : Prop := w.heap[m]? = some (.map (mkEs kvs 0).toArray kvs.length)
theorem MapIs.lt {w : World} {m : Nat} {kvs : List (Value × Value)} (h : MapIs w m kvs) : m < w.heap.size := (Array.getElem?_eq_some_iff.1 h).1
theorem MapIs.below {w w' : World} {m B : Nat} {kvs : List (Value × Value)} (h : MapIs w m kvs) (hb : Below B w w') (hm : m < B) : MapIs w' m kvs := (hb.block m hm).trans h
section
variable {P : Program}
variable {ops : Array Oper} {rest : List Oper} {o : Oper} {a : Act} {w : World} {Q : Exit → Act → World → Prop}
theorem run_getObj_map (m : Nat) (es : Array MapEntry) (c : Nat) (h : w.heap[m]? = some (.map es c)) : (getObj m).run P w = .ok (.map es c) w := by
 simp [getObj, Sem.run, h]
theorem run_setObj_map (m : Nat) (es : Array MapEntry) (c : Nat) (o' : Obj) (h : w.heap[m]? = some (.map es c)) : (setObj m o').run P w = .ok () { w with heap := w.heap.setIfInBounds m o' } := by
 simp [setObj, Sem.run, h]
def IterIs (w : World) (r m n : Nat) (seen : Array Nat) : Prop := w.heap[r]? = some (.mapIter (some m) n seen n)
theorem wpList_range_mk (hg : o.guard = none) (t k e : TypeId) (m : Operand) (hop : o.op = .range t m) (ht : P.underlying t = some (.map k e))
 (b : Nat) (hm : a.eval m = .map (some b)) (kvs : List (Value × Value)) (hM : MapIs w b kvs)
 (hK : IterIs (w.alloc (.mapIter (some b) kvs.length #[] kvs.length)) w.heap.size b kvs.length #[] → wpList P ops Q rest (a.put o.dst (.pointer (some ⟨w.heap.size, 0, none⟩))) (w.alloc (.mapIter (some b) kvs.length #[] kvs.length))) : wpList P ops Q (o :: rest) a w := by
 refine wpList_plain hg fun K' hK' => ?_
 have hrun : (Instr.range t (.map (some b))).run P w = .ok (.pointer (some ⟨w.heap.size, 0, none⟩)) (w.alloc (.mapIter (some b) kvs.length #[] kvs.length)) := by
  unfold Instr.range
  simp only [Sem.run_bind, run_underlying ht, Result.andThen_ok, run_getObj_map _ _ _ hM, Sem.run_pure]
  rfl
 unfold Oper.wp
 simp only [execOp, hop, hm, Sem.run_bind, hrun, Result.andThen_ok, Sem.run_pure]
 exact hK' _ _ (hK (heap_alloc_new w _))
theorem run_choose_next (w : World) (n : Nat) (hn : 1 ≤ n) : ∃ c w', c < n ∧ (choose (.mapNext n)).run P w = .ok c w' ∧ w'.heap = w.heap ∧ w'.os = w.os ∧ w'.tape = w.tape ∧ w'.output = w.output := by
 by_cases h : n ≤ 1
 ·refine ⟨0, w, by omega, ?_, rfl, rfl, rfl, rfl⟩
  simp [choose, Sem.run, Question.forced, h]
 ·refine ⟨_, { w with drawn := w.drawn + 1 }, Nat.mod_lt (w.tape w.drawn (.mapNext n)) (by omega), ?_, rfl, rfl, rfl, rfl⟩
  simp [choose, Sem.run, Question.forced, h, Question.cut]
theorem wpList_next_mk (hg : o.guard = none) (it : Operand) (hop : o.op = .next it false) (r b : Nat) (hit : a.eval it = .pointer (some ⟨r, 0, none⟩)) (kvs : List (Value × Value)) (hM : MapIs w b kvs) (seen : Array Nat) (hI : IterIs w r b kvs.length seen)
 (hDone : ∀ w' : World, (∀ j, j < kvs.length → j ∈ seen) → (∀ i : Nat, w'.heap[i]? = w.heap[i]?) → Below w.heap.size w w' → wpList P ops Q rest (a.put o.dst (.tuple #[.bool false])) w')
 (hMore : ∀ (j : Nat) (hj : j < kvs.length) (w' : World), j ∉ seen → IterIs w' r b kvs.length (seen.push j) → Below r w w' → w'.heap.size = w.heap.size → (∀ i : Nat, i ≠ r → w'.heap[i]? = w.heap[i]?) →
   wpList P ops Q rest (a.put o.dst (.tuple #[.bool true, kvs[j].1, kvs[j].2])) w') : wpList P ops Q (o :: rest) a w := by
 refine wpList_plain hg fun K' hK' => ?_
 have hrb : r ≠ b := by
  intro e
  subst e
  unfold IterIs at hI
  unfold MapIs at hM
  rw [hM] at hI
  cases hI
 have hborn : ∀ x ∈ mkEs kvs 0, x.born < kvs.length := fun x hx => by
  obtain ⟨j, hj, rfl⟩ := mkEs_mem kvs 0 x hx
  simpa using hj
 unfold Oper.wp
 simp only [execOp, hop, hit, Sem.run_bind, Instr.next]
 have hgo : (getObj r).run P w = .ok (.mapIter (some b) kvs.length seen kvs.length) w := by
  unfold IterIs at hI
  simp [getObj, Sem.run, hI]
 simp only [hgo, Result.andThen_ok, Sem.run_bind, run_getObj_map _ _ _ hM]
 have hall : ((mkEs kvs 0).toArray.all (·.born ≥ kvs.length)) = true → (mkEs kvs 0) = [] := by
  intro h
  cases hk : mkEs kvs 0 with
  | nil => rfl
  | cons e r =>
    rw [hk] at h
    have := hborn e (by rw [hk]; simp)
    simp at h
    omega
 have hno : ((!seen.isEmpty && !(mkEs kvs 0).toArray.isEmpty && (mkEs kvs 0).toArray.all (·.born ≥ kvs.length)) = true) = False := by
  simp only [eq_iff_iff, iff_false, Bool.and_eq_true, not_and]
  rintro ⟨_, h2⟩ h3
  rw [hall h3] at h2
  simp at h2
 have hold : ∀ f : MapEntry → Bool, (((mkEs kvs 0).toArray.filter f).filter (·.born < kvs.length)) = (mkEs kvs 0).toArray.filter f := by
  intro f
  rw [Array.filter_eq_self]
  intro x hx
  have := hborn x (by simpa using (Array.mem_filter.1 hx).1)
  simpa using this
 have hnew : ∀ f : MapEntry → Bool, (((mkEs kvs 0).toArray.filter f).filter (·.born ≥ kvs.length)) = #[] := by
  intro f
  rw [Array.filter_eq_empty_iff]
  intro x hx
  have := hborn x (by simpa using (Array.mem_filter.1 hx).1)
  simp
  omega
 simp only [hno, if_false, hold, hnew, Sem.run_bind, Sem.run_pure, Array.append_empty]
 generalize hL : (mkEs kvs 0).toArray.filter (fun e => !seen.contains e.born) = L
 have hLm : ∀ x, x ∈ L ↔ x ∈ mkEs kvs 0 ∧ x.born ∉ seen := by
  intro x
  rw [← hL]
  simp
 by_cases hLe : L = #[]
 ·subst hLe
  obtain ⟨c, w', hc, hrun, h1, h2, h3, h4⟩ := run_choose_next (P := P) w 1 (by omega)
  have hc0 : c = 0 := by omega
  subst hc0
  simp only [Array.isEmpty_empty, if_true, List.map_toArray, List.map_nil, Array.append_empty]
  rw [show (#[none] : Array (Option MapEntry)).size = 1 from rfl, hrun]
  simp only [Result.andThen_ok]
  refine hK' _ _ (hDone w' (fun j hj => ?_) (fun i => by rw [h1]) ⟨h2, h3, h4, by rw [h1]; exact Nat.le_refl _, fun k _ => by rw [h1]⟩)
  apply Classical.byContradiction
  intro hns
  have := (hLm ⟨kvs[j].1, kvs[j].2, 0 + j⟩).2 ⟨List.mem_of_getElem? (mkEs_get kvs 0 j hj), by simpa using hns⟩
  simp at this
 ·have hpos : 1 ≤ L.size := by
   rcases Nat.eq_zero_or_pos L.size with h | h
   ·exact absurd (Array.eq_empty_of_size_eq_zero h) hLe
   ·exact h
  have hie : L.isEmpty = false := by simpa using hLe
  obtain ⟨c, w', hc, hrun, h1, h2, h3, h4⟩ := run_choose_next (P := P) w L.size hpos
  simp only [hie, Bool.false_eq_true, if_false, Array.empty_append, Array.size_map]
  rw [hrun]
  simp only [Result.andThen_ok, Array.getElem?_map, Array.getElem?_eq_getElem hc, Option.map_some]
  have hmem := (hLm L[c]).1 (Array.getElem_mem hc)
  obtain ⟨j, hj, hej⟩ := mkEs_mem kvs 0 _ hmem.1
  have hns : j ∉ seen := by have := hmem.2; rw [hej] at this; simpa using this
  have hIw : w'.heap[r]? = some (.mapIter (some b) kvs.length seen kvs.length) := by rw [h1]; exact hI
  have hset : (setObj r (.mapIter (some b) kvs.length (seen.push L[c].born) kvs.length)).run P w' = .ok () { w' with heap := w'.heap.setIfInBounds r (.mapIter (some b) kvs.length (seen.push L[c].born) kvs.length) } := by
   simp [setObj, Sem.run, hIw]
  simp only [Sem.run_bind, hset, Result.andThen_ok, Sem.run_pure]
  have hlt : r < w.heap.size := (Array.getElem?_eq_some_iff.1 hI).1
  refine hK' _ _ ?_
  have := hMore j hj { w' with heap := w'.heap.setIfInBounds r (.mapIter (some b) kvs.length (seen.push L[c].born) kvs.length) } hns ?_ ?_ ?_ ?_
  ·rw [hej]
   rw [hej] at this
   exact this
  ·unfold IterIs
   rw [Array.getElem?_setIfInBounds, if_pos rfl, if_pos (by rw [h1]; exact hlt), hej]
   simp
  ·exact ⟨h2, h3, h4, by simp [h1], fun k hk => by simp [show ¬ r = k from by omega, h1]⟩
  ·simp [h1]
  ·intro i hi
   simp [show ¬ r = i from fun e => hi e.symm, h1]
theorem wpList_entry_mk (hg : o.guard = none) (it : Operand) (hop : o.op = .entry it) (r b : Nat) (hit : a.eval it = .pointer (some ⟨r, 0, none⟩)) (kvs : List (Value × Value)) (hM : MapIs w b kvs) (seen : Array Nat) (j : Nat) (hj : j < kvs.length) (hI : IterIs w r b kvs.length (seen.push j))
 (hK : wpList P ops Q rest (a.put o.dst (.tuple #[kvs[j].1, kvs[j].2])) w) : wpList P ops Q (o :: rest) a w := by
 refine wpList_plain hg fun K' hK' => ?_
 have hgo : (getObj r).run P w = .ok (.mapIter (some b) kvs.length (seen.push j) kvs.length) w := by
  unfold IterIs at hI
  simp [getObj, Sem.run, hI]
 have hfind : (mkEs kvs 0).toArray.find? (fun e => e.born == j) = some ⟨kvs[j].1, kvs[j].2, 0 + j⟩ := by
  have hg := mkEs_get kvs 0 j hj
  rw [List.find?_toArray]
  rw [List.find?_eq_some_iff_getElem]
  refine ⟨by simp, j, by rw [mkEs_length]; exact hj, ?_, ?_⟩
  ·have := (List.getElem?_eq_some_iff.1 hg).2
   exact this
  ·intro i hi
   have hik : i < kvs.length := by omega
   have := (List.getElem?_eq_some_iff.1 (mkEs_get kvs 0 i hik)).2
   rw [this]
   simp
   omega
 unfold Oper.wp
 simp only [execOp, hop, hit, Sem.run_bind, Instr.entry, hgo, Result.andThen_ok, Array.back?_push, run_getObj_map _ _ _ hM, hfind, Sem.run_pure, bne_self_eq_false, Bool.false_eq_true, if_false]
 exact hK' _ _ hK
end
theorem filter_lt {p q : Nat → Bool} (h : ∀ x, q x = true → p x = true) (j : Nat) (hp : p j = true) (hq : q j = false) : ∀ l : List Nat, j ∈ l → (l.filter q).length < (l.filter p).length := by
 have hle : ∀ l : List Nat, (l.filter q).length ≤ (l.filter p).length := by
  intro l
  induction l with
  | nil => simp
  | cons x l ih =>
    rw [List.filter_cons, List.filter_cons]
    by_cases hx : q x = true
    ·rw [if_pos hx, if_pos (h x hx)]
     simpa using ih
    ·rw [if_neg hx]
     split
     ·simp; omega
     ·exact ih
 intro l
 induction l with
 | nil => intro hj; cases hj
 | cons x l ih =>
   intro hj
   rw [List.filter_cons, List.filter_cons]
   rcases List.mem_cons.1 hj with rfl | hj
   ·rw [if_pos hp, if_neg (by simp [hq])]
    have := hle l
    simp
    omega
   ·have := ih hj
    by_cases hx : q x = true
    ·rw [if_pos hx, if_pos (h x hx)]
     simpa using this
    ·rw [if_neg hx]
     split
     ·simp; omega
     ·exact this
def leftOf (w : World) (r n : Nat) : Nat :=
 match w.heap[r]? with
 | some (.mapIter _ _ seen _) => ((List.range n).filter (fun j => !seen.contains j)).length
 | _ => 0
theorem leftOf_push {w w' : World} {r m n j : Nat} {seen : Array Nat} (h : IterIs w r m n seen) (h' : IterIs w' r m n (seen.push j)) (hj : j < n) (hn : j ∉ seen) : leftOf w' r n < leftOf w r n := by
 unfold IterIs at h h'
 unfold leftOf
 rw [h, h']
 refine filter_lt (fun x hx => ?_) j (by simpa using hn) (by simp) _ (by simpa using hj)
 simp at hx ⊢
 exact hx.1
end Go.Proofs.Seat4
end

/- The closure of the program's Parse: it reads a number into a field, and keeps in mind whether all could be read. -/
import Derived.Test.YtofomblpbmpbaaaDoorEvB
import Derived.Test.YtofomblpbmpbaaaDoorEnv
import Derived.Test.YtofomblpbmpbaaaDoorDtl
import Derived.Laws.EntriesVeiled
import Derived.Deep.Light
import Derived.RegionTactic
import Derived.ChangeAlike
import Derived.Lib.Hide
namespace Go.Proofs.YtofomblpbmpbaaaDoor
open Go.RowKit
def setF (e : Ev) (j : Nat) (n : Int) : Ev :=
  match j with
  | 0 => { e with step := n }
  | 1 => { e with time := n }
  | 2 => { e with task := n }
  | 3 => { e with kind := n }
  | 4 => { e with object := n }
  | 5 => { e with scope := n }
  | 6 => { e with value := n }
  | _ => { e with other := n }
theorem EvAt.setAt {w : World} {b : Nat} {e : Ev} (h : EvAt w b e) (j : Nat) (hj : j < 8) (n : Int) : EvAt (w.setCell ⟨b, j, none⟩ (.int .i64 n)) b (setF e j n) := by
  match j, hj with
  | 0, _ => exact h.set0 n
  | 1, _ => exact h.set1 n
  | 2, _ => exact h.set2 n
  | 3, _ => exact h.set3 n
  | 4, _ => exact h.set4 n
  | 5, _ => exact h.set5 n
  | 6, _ => exact h.set6 n
  | 7, _ => exact h.set7 n
/-- While Parse reads: the result's block R, the event's block E, the block K of ok, the parts at block g. -/
structure PS (w0 w : World) (R E K g : Nat) (ev : Ev) (ok : Bool) (ps : List (List UInt8)) : Prop where
  env : Env w
  res : EvAt w R zeroEv
  evt : EvAt w E ev
  okc : w.heap[K]? = some (.cells #[.bool ok] 4 (0, 0))
  row : Row w g 0 (ps.map strV)
  below : Below w0.heap.size w0 w
  top : 8 ≤ w0.heap.size
  e0 : w0.heap.size ≤ E
  k0 : w0.heap.size ≤ K
  r0 : w0.heap.size ≤ R
  g0 : g < w.heap.size
  re : R ≠ E
  rk : R ≠ K
  ek : E ≠ K
  ge : g ≠ E
  gk : g ≠ K
theorem PS.keep {w0 w w' : World} {R E K g : Nat} {ev : Ev} {ok : Bool} {ps : List (List UInt8)} (h : PS w0 w R E K g ev ok ps) (hb : Below w.heap.size w w') : PS w0 w' R E K g ev ok ps :=
  ⟨h.env.below hb, h.res.below hb h.res.lt, h.evt.below hb h.evt.lt, (hb.block K (Array.getElem?_eq_some_iff.1 h.okc).1).trans h.okc, h.row.below hb h.g0, h.below.trans (hb.mono h.below.size), h.top, h.e0, h.k0, h.r0, Nat.lt_of_lt_of_le h.g0 hb.size, h.re, h.rk, h.ek, h.ge, h.gk⟩
theorem row_set {w : World} {g b j : Nat} {cs : List Value} (h : Row w g 0 cs) (hg : g ≠ b) (v : Value) : Row (w.setCell ⟨b, j, none⟩ v) g 0 cs :=
  fun i u hu => (World.cell?_setCell_other _ _ _ _ (by intro e; first | exact hg (congrArg Addr.block e).symm | exact hg (congrArg Addr.block e))).trans (h i u hu)
theorem PS.setE {w0 w : World} {R E K g : Nat} {ev : Ev} {ok : Bool} {ps : List (List UInt8)} (h : PS w0 w R E K g ev ok ps) (j : Nat) (hj : j < 8) (n : Int) : PS w0 (w.setCell ⟨E, j, none⟩ (.int .i64 n)) R E K g (setF ev j n) ok ps :=
  ⟨h.env.below' (Below.setCell (Below.refl w.heap.size w |>.mono (Nat.le_refl _) |>.mono (Nat.le_of_lt h.evt.lt)) (Nat.le_refl _) _) (Nat.le_trans h.top h.e0), h.res.other h.re _, h.evt.setAt j hj n, (Below.heap_setCell _ _ _ _ (show K ≠ E from fun e => h.ek e.symm)).trans h.okc, row_set h.row h.ge _, h.below.setCell h.e0 _, h.top, h.e0, h.k0, h.r0, by simpa [World.setCell] using h.g0, h.re, h.rk, h.ek, h.ge, h.gk⟩
theorem PS.setK {w0 w : World} {R E K g : Nat} {ev : Ev} {ok : Bool} {ps : List (List UInt8)} (h : PS w0 w R E K g ev ok ps) (b : Bool) : PS w0 (w.setCell ⟨K, 0, none⟩ (.bool b)) R E K g ev b ps :=
  ⟨h.env.below' (Below.setCell (Below.refl w.heap.size w |>.mono (Nat.le_of_lt (Array.getElem?_eq_some_iff.1 h.okc).1)) (Nat.le_refl _) _) (Nat.le_trans h.top h.k0), h.res.other h.rk _, h.evt.other h.ek _, setCell_heap h.okc 0 _, row_set h.row h.gk _, h.below.setCell h.k0 _, h.top, h.e0, h.k0, h.r0, by simpa [World.setCell] using h.g0, h.re, h.rk, h.ek, h.ge, h.gk⟩
theorem PS.cellE {w0 w : World} {R E K g : Nat} {ev : Ev} {ok : Bool} {ps : List (List UInt8)} (h : PS w0 w R E K g ev ok ps) (j : Nat) (hj : j < 8) : ∃ n, w.cell? ⟨E, j, none⟩ = some (.int .i64 n) := by
  have c := h.evt.cells
  match j, hj with
  | 0, _ => exact ⟨_, c.1⟩
  | 1, _ => exact ⟨_, c.2.1⟩
  | 2, _ => exact ⟨_, c.2.2.1⟩
  | 3, _ => exact ⟨_, c.2.2.2.1⟩
  | 4, _ => exact ⟨_, c.2.2.2.2.1⟩
  | 5, _ => exact ⟨_, c.2.2.2.2.2.1⟩
  | 6, _ => exact ⟨_, c.2.2.2.2.2.2.1⟩
  | 7, _ => exact ⟨_, c.2.2.2.2.2.2.2⟩
def atoiOk (s : List UInt8) : Bool := (atoiO s).isSome
set_option maxRecDepth 100000 in
set_option maxHeartbeats 1000000 in
theorem read47 (w0 w : World) (R E K g : Nat) (ev : Ev) (ok : Bool) (ps : List (List UInt8)) (h : PS w0 w R E K g ev ok ps) (j : Nat) (hj : j < 8) (s : List UInt8) (hs : s.length ≤ 1048576) :
    Calls Tryd.prog 47 #[.pointer (some ⟨E, j, none⟩), .string ⟨s.toArray⟩, .pointer (some ⟨K, 0, none⟩)] w fun e w' => e = .returned (.tuple #[]) ∧ ∃ n, (∀ m, atoiO s = some m → n = m) ∧ PS w0 w' R E K g (setF ev j n) (ok && (atoiO s).isSome) ps := by
  go_enter Tryd.func47, Tryd.ntmps47
  go_wp2_with fail
  refine (atoi48 s w h.env hs).mono ?_
  rintro e w1 ⟨n, err, rfl, hA, hb⟩
  have h1 := h.keep hb
  obtain ⟨old, hold⟩ := h1.cellE j hj
  have hcK : w1.cell? ⟨K, 0, none⟩ = some (.bool ok) := cell_heap h1.okc 0
  have hfK := frozen_heap h1.okc 0
  have hfE := frozen_heap h1.evt j
  have hEK := h1.ek
  have hKE : K ≠ E := fun e => hEK e.symm
  have H1 := Lib.hid h1
  clear h1 h hb
  rcases hA with ⟨ha, rfl⟩ | ⟨ha, t, p, rfl⟩
  · have hat : atoiO s = some n := by unfold atoiO; rw [ha]
    have Hat := Lib.hid hat
    clear ha hat
    cases ok
    all_goals
      go_wp2_with fail
      go_region
      go_end0
      refine ⟨rfl, n, fun m hm => Option.some.inj (Hat.out.symm.trans hm), ?_⟩
      rw [Hat.out]
      exact ((H1.out.setE j hj n).setK _).keep (Below.refl _ _).drew
  · have hat : atoiO s = none := by
      unfold atoiO
      rcases hq : Lib.atoiAll s with v | - | -
      · exact absurd hq (ha v)
      · rfl
      · rfl
    have Hat := Lib.hid hat
    clear ha hat
    cases ok
    all_goals
      go_wp2_with fail
      go_region
      go_end0
      refine ⟨rfl, n, fun m hm => absurd (Hat.out.symm.trans hm) (by simp), ?_⟩
      rw [Hat.out]
      exact ((H1.out.setE j hj n).setK _).keep (Below.refl _ _).drew
end Go.Proofs.YtofomblpbmpbaaaDoor

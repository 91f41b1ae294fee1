/- A range over the iterator of lines: the law for the caller. -/
import Derived.Test.YtgeclafcbgocgaaDoorItr
namespace Go.Proofs.YtgeclafcbgocgaaDoor
open Go.RowKit Go.Shelf
/-- How the body of a round may be left: at its end, or by 'return'. -/
def roundEnds (A B : World → Prop) : Exit → Act → World → Prop
  | .normal, _, W' => A W'
  | .ret, _, W' => B W'
  | .exit _, _, _ => False
  | .goto _, _, _ => False
  | .panic _, _, _ => False
  | .outgrown, _, _ => False
theorem wpIn_range_lines {g : Operand} {assign body : Code} {Q : Exit → Act → World → Prop} {a : Act} {w : World} {n Bc N p q : Nat} (h1 : 1 ≤ n) (hN : N ≤ 1048576) (hg : a.eval g = .func (.func 45) #[] #[.pointer (some ⟨Bc, 0, none⟩)])
    (I I' : Loop → List UInt8 → World → Prop) (Ix : Loop → World → Prop)
    (hrec : ∀ L t W, I L t W → W.heap[w.heap.size + 1]? = some (.loop L)) (hrec' : ∀ L t W, I' L t W → W.heap[w.heap.size + 1]? = some (.loop L)) (hrecx : ∀ L W, Ix L W → W.heap[w.heap.size + 1]? = some (.loop L))
    (hput : ∀ L L' t W, I L t W → I L' t (W.putObj (w.heap.size + 1) (.loop L'))) (hput' : ∀ L L' t W, I' L t W → I' L' t (W.putObj (w.heap.size + 1) (.loop L'))) (hputx : ∀ L L' W, Ix L W → Ix L' (W.putObj (w.heap.size + 1) (.loop L')))
    (hE : ∀ L t W, I L t W → Env W ∧ W.cell? ⟨Bc, 0, none⟩ = some (.string ⟨t.toArray⟩) ∧ t.length ≤ N)
    (hst : ∀ L t W W1, I L t W → Below W.heap.size W W1 → I L t W1)
    (hE' : ∀ L t W, I' L t W → W.cell? ⟨Bc, 0, none⟩ = some (.string ⟨t.toArray⟩) ∧ W.frozen? ⟨Bc, 0, none⟩ = false)
    (hnext : ∀ L t W, I' L t W → t ≠ [] → I L (Lib.cut t [10]).2.1 (W.setCell ⟨Bc, 0, none⟩ (.string ⟨(Lib.cut t [10]).2.1.toArray⟩)))
    (t0 : List UInt8) (h0 : ∀ L, I L t0 ((w.alloc (.deferred (some []))).alloc (.loop L)))
    (a₁ : List UInt8 → Act)
    (hassign : ∀ (t : List UInt8) (W : World) (K : Act → World → Prop), K (a₁ t) W → assign.wpIn (Fence.wide.inRound (w.heap.size + 1)) (n - 1 - 1) Tryd.prog (Exit.then K (fun _ _ _ => False))
      { tmps := ((#[p, q] : Array Tmp).zip #[.string ⟨(Lib.cut t [10]).1.toArray⟩, .bool (Lib.cut t [10]).2.2]).foldl (fun ts (pv : Tmp × Value) => ts.setIfInBounds pv.1 pv.2) a.tmps, defers := [] } W)
    (hbody : ∀ L t W, I L t W → t ≠ [] → body.wpIn (Fence.wide.inRound (w.heap.size + 1)) (n - 1 - 1) Tryd.prog (roundEnds (I' L t) (Ix L)) (a₁ t) W)
    (hdone : ∀ L W, I L [] W → Q .normal { a with defers := { target := .collected w.heap.size, args := #[] } :: a.defers } W)
    (hstop : ∀ L W, Ix L W → Code.ret.wpIn Fence.wide n Tryd.prog Q { a with defers := { target := .collected w.heap.size, args := #[] } :: a.defers } W) :
    (Code.rangeFunc g #[p, q] assign body).wpIn Fence.wide n Tryd.prog Q a w := by
  refine wpIn_rangeFunc ?_
  intro fn hfn
  obtain ⟨rec, hrc⟩ : ∃ rec : LoopState → Option Code → Loop, rec = fun st pe => { state := st, pending := pe, fn := fn, tmps := a.tmps, params := #[p, q], assign := assign, body := body, defers := w.heap.size } := ⟨_, rfl⟩
  refine ⟨w.heap.size + 1, [{ target := .collected w.heap.size, args := #[] }], (w.alloc (.deferred (some []))).alloc (.loop (rec .ready none)), { target := .fn (.func 45) #[.pointer (some ⟨Bc, 0, none⟩)], args := #[.func (.yield (w.heap.size + 1)) #[] #[]] },
    (w.alloc (.deferred (some []))).alloc (.loop (rec .ready none)), 45, #[.func (.yield (w.heap.size + 1)) #[] #[], .pointer (some ⟨Bc, 0, none⟩)], (w.alloc (.deferred (some []))).alloc (.loop (rec .ready none)), ?_, ?_, fun _ _ => trivial, ?_, fun _ => h1, ?_⟩
  · rw [hrc]
    exact run_enterLoop_outer _ _ _ _ _
  · simp only [resolve, hg]
    simp [go_sem]
  · have eg := enters_of (P := Tryd.prog) Tryd.func45 (by kernel_rfl) rfl
    simp [invoke, go_sem, eg _ _]
  · refine (lines45 (n - 1) (w.heap.size + 1) Bc N hN (I (rec .ready none)) (I' (rec .ready none)) (fun W => Ix (rec .done (some .ret)) W) (fun t W h => hE _ t W h) (fun t W W1 h hb => hst _ t W W1 h hb) (fun t W h => hE' _ t W h) (fun t W h ht => hnext _ t W h ht) ?_ t0 _ (h0 _)).mono ?_
    · intro t W hI ht
      have hl := hrec _ _ _ hI
      have hy := run_yield (P := Tryd.prog) (args := #[.string ⟨(Lib.cut t [10]).1.toArray⟩, .bool (Lib.cut t [10]).2.2]) hl (by rw [hrc]; rfl)
      rw [hrc] at hy
      refine ⟨fn, _, assign, body, hy, roundIn_of_wpIn hfn (hassign t W _ ⟨_, run_beginRound hl (by rw [hrc]), ?_⟩)⟩
      refine wpIn_mono (hbody _ t _ (hput _ _ t W hI) ht) ?_
      intro e a3 W3 hp
      have fin : ∀ (jump : Option Code), W3.heap[w.heap.size + 1]? = some (.loop { rec .ready none with state := .busy }) → (Instr.endRound (w.heap.size + 1) jump).run Tryd.prog W3 = .ok (.bool jump.isNone) (W3.putObj (w.heap.size + 1) (.loop (rec (if jump.isNone then .ready else .done) jump))) := fun jump h => by
        have := run_endRound (P := Tryd.prog) jump h
        rw [hrc] at this ⊢
        exact this
      cases e with
      | normal => exact ⟨_, _, fin none (hrec' _ _ _ hp), .inl ⟨rfl, hput' _ _ t W3 hp⟩⟩
      | ret => exact ⟨_, _, fin (some .ret) (hrecx _ _ hp), .inr ⟨rfl, hputx _ _ W3 hp⟩⟩
      | exit id => exact hp.elim
      | goto t => exact hp.elim
      | panic ch => exact hp.elim
      | outgrown => exact hp.elim
    · rintro e W2 ⟨⟨v, rfl⟩, hI | hX⟩
      · refine ⟨none, _, ?_, hdone _ _ (hput _ { rec .ready none with state := .exhausted } [] W2 hI)⟩
        have := run_endLoop (P := Tryd.prog) (hrec _ _ _ hI) (by rw [hrc]; simp)
        rw [hrc] at this ⊢
        exact this
      · refine ⟨some .ret, _, ?_, hstop _ _ (hputx _ { rec .done (some .ret) with state := .exhausted } W2 hX)⟩
        have := run_endLoop (P := Tryd.prog) (hrecx _ _ hX) (by rw [hrc]; simp)
        rw [hrc] at this ⊢
        exact this
end Go.Proofs.YtgeclafcbgocgaaDoor

/- What the rows share: the condition on the listed variables gives the walks' Env; a wrap that keeps the world's shape and that condition; an event as an argument. -/
import Derived.Test.YtofomblpbmpbaaaDoorRows
import Derived.Test.YtofomblpbmpbaaaDoorText1
import Derived.Test.YtofomblpbmpbaaaDoorEnv
import Derived.ProofKit
import Derived.OpenShut
import Derived.LaidMore
import Derived.Lay
import Derived.Stop.Joined
import Derived.Stop.LaidErr
import Derived.HandedShaped
import Derived.Lib.LaidTab
import Derived.Lib.SmallJoins
namespace Go.Proofs.YtofomblpbmpbaaaDoor
open Go Go.Joins Go.ChangeShapes Go.WideShapes Go.RowKit Go.Deep
theorem own : ownKnob Tryd.prog.godebug = none := by kernel_rfl
theorem laidOut : laidOutB Tryd.prog = true := by kernel_rfl
def theLaid : List (String × DataW Unit) := Rows.traceTextRow.laid
theorem star : "*" ++ "errors.errorString" = "*errors.errorString" := by decide
theorem row133 (u : TypeId) (h : Tryd.prog.typeName? 3 u = some "*errors.errorString") : u = 133 :=
  typeName_ptr_named (nm := "errors.errorString") (by rw [star]; kernel_rfl) (by kernel_rfl) (by decide) u (by rw [star]; exact h)
theorem gB64 : Tryd.prog.globalNamed "math/bits.deBruijn64tab" = some 7 := by kernel_rfl
theorem env_of_laid {W : World} (h0 : laidMetH Tryd.prog theLaid W) (hsh : W.ShapedOpen Tryd.prog) : Env W := by
  rw [MakeChecks.laidMetH_plain _ _ _ (by kernel_rfl)] at h0
  have h : laidMet Tryd.prog [("math/bits.deBruijn32tab", Rows.laid_math_bits_deBruijn32tab), ("math/bits.deBruijn64tab", Rows.laid_math_bits_deBruijn64tab), ("internal/strconv.uint64pow10", Rows.laid_internal_strconv_uint64pow10), ("unicode/utf8.acceptRanges", Rows.laid_unicode_utf8_acceptRanges), ("strconv.ErrRange", Rows.laid_strconv_ErrRange), ("strconv.ErrSyntax", Rows.laid_strconv_ErrSyntax), ("unicode/utf8.first", Rows.laid_unicode_utf8_first)] W := h0
  have hp : (Rows.laid_internal_strconv_uint64pow10 : DataW Unit) = Lib.tabData .u64 Lib.pow10Tab := by kernel_rfl
  have htab : Lib.TabIs Tryd.prog W "internal/strconv.uint64pow10" .u64 Lib.pow10Tab := by
    have h2 := h.tail.tail
    rw [hp] at h2
    exact Lib.tabIs_of_head gTab (t := 127) (e := 111) (n := 20) (by kernel_rfl) Tryd.underlying127 Tryd.underlying111 (by kernel_rfl) (by kernel_rfl) h2
  have htop : 8 ≤ W.heap.size := by
    obtain ⟨ps, ⟨g0, t0, cs0, f0, p0, q0, hg0, ht0, hv0, hd0, _, e0⟩, _, _⟩ := h.tail
    obtain rfl := Option.some.inj (gB64.symm.trans hg0)
    have hv := hv0
    unfold World.var? at hv
    rw [gB64] at hv
    rcases Nat.lt_or_ge 7 W.heap.size with h' | h'
    · exact h'
    · simp [Array.getElem?_eq_none h'] at hv
  have hmax := Go.Proofs.cell_of_shapedOpen_int (zero := #[.int .i64 0]) (t := 3) (g := 0) (P := Tryd.prog) (w := W) hsh (of_decide_eq_true (by kernel_rfl)) (by kernel_rfl) rfl (by kernel_rfl) (by kernel_rfl) Tryd.underlying3
  obtain ⟨a0, s0, hr, _⟩ := laid_sentinel (ti := 60) (tp := 133) (te := 135) (ts := 9) h.tail.tail.tail.tail gRng (by kernel_rfl) Tryd.underlying60 row133 Tryd.underlying133 Tryd.underlying135 rfl rfl Tryd.underlying9 (by kernel_rfl) (by kernel_rfl)
  obtain ⟨a1, s1, hs, _⟩ := laid_sentinel (ti := 60) (tp := 133) (te := 135) (ts := 9) h.tail.tail.tail.tail.tail gSyn (by kernel_rfl) Tryd.underlying60 row133 Tryd.underlying133 Tryd.underlying135 rfl rfl Tryd.underlying9 (by kernel_rfl) (by kernel_rfl)
  exact ⟨htop, hmax, htab, ⟨_, _, hs⟩, ⟨_, _, hr⟩⟩
/-- The wrap: the contract is handed the condition and the world's shape. -/
theorem returns_laid_shaped {H : Type} {enc : TypeId × Value → H} {a : Assume} {C : Checked} {os : Os} {f : FuncId} {fn : Func} {s : ChangeSpec} {conds : List PathCond} {apart fresh handsOn again : Bool} {X : World → Array Value → Prop}
    (hX : ∀ (w w' : World) (args : Array Value), w.heap = w'.heap → X w args → X w' args)
    (own : ownKnob C.prog.godebug = none) (started : os.Started) (noInit : C.prog.inits.idxOf? f = none) (hfn : C.prog.funcs[f]? = some fn)
    (witness : ∃ (w : World) (tape : Tape) (i : Input), w.os = os ∧ (w.forCall tape i).Shaped C.prog ∧ i.vars = [] ∧ Input.okWide C.prog (w.forCall tape i) .any w.heap.size f i ∧
      ((s.pre enc C.prog fn conds apart (w.forCall tape i).memory i.args ∧ X (w.forCall tape i).memory i.args) ∧ sizedMet enc C.prog fn (OpenSpec.ofChange s) apart (w.forCall tape i).memory i.args) ∧ a.holds C.prog (lone (Frame.enter C.prog f i.args .normal) [] (w.forCall tape i)))
    (contract : ∀ (W : World) (base : Nat) (args : Array Value) (ds gs : List (DataW H)) (before : List MemPlace),
      (∀ (j : Nat) t v, fn.params[j]? = some t → args[j]? = some v → Value.okWide C.prog W .any base t v) →
      DataW.Whole enc C.prog fn.params.toList s.vars apart W args.toList ds gs before → X W args → W.ShapedOpen C.prog →
      Calls C.prog f args W fun e W' => ∃ v, e = .returned v ∧ s.post enc C.prog fn apart fresh handsOn again W args v W') :
    ReturnsInHanded a C os f .any (fun w args => (s.pre enc C.prog fn conds apart w args ∧ X w args) ∧ sizedMet enc C.prog fn (OpenSpec.ofChange s) apart w args) (s.post enc C.prog fn apart fresh handsOn again) := by
  refine returnsInHanded_of_calls own started noInit witness ?_
  intro w tape i _ hsh _ hok hpre _
  obtain ⟨_, _, _, fn', hfn', _, _, _, _, hval⟩ := hok
  obtain rfl : fn' = fn := Option.some.inj (hfn'.symm.trans hfn)
  obtain ⟨⟨⟨ds, gs, before, hw, _⟩, hx⟩, _⟩ := hpre
  refine (contract (w.forCall tape i) w.heap.size i.args ds gs before hval (DataW.Whole.of_heap (w' := w.forCall tape i) (by rfl) hw) (hX _ _ _ (by rfl) hx) hsh).mono fun e W' ⟨v, he, hp⟩ => ?_
  subst he
  exact ChangeSpec.post_blind hp
section
variable {H : Type} {enc : TypeId × Value → H} {w : World} {base : Nat} {spare : Nat → Bool} {held : Bool}
def evWf (e : Ev) : Prop := (Lit.int .i64 e.step).wf = true ∧ (Lit.int .i64 e.time).wf = true ∧ (Lit.int .i64 e.task).wf = true ∧ (Lit.int .i64 e.kind).wf = true ∧ (Lit.int .i64 e.object).wf = true ∧ (Lit.int .i64 e.scope).wf = true ∧ (Lit.int .i64 e.value).wf = true ∧ (Lit.int .i64 e.other).wf = true
def evData (H : Type) (e : Ev) : DataW H := .agg [.lit (.int .i64 e.step), .lit (.int .i64 e.time), .lit (.int .i64 e.task), .lit (.int .i64 e.kind), .lit (.int .i64 e.object), .lit (.int .i64 e.scope), .lit (.int .i64 e.value), .lit (.int .i64 e.other)]
theorem ev_hone : ∃ fs : Array Field, Tryd.prog.underlying 23 = some (.struct fs) ∧ fs.size = 8 ∧ oneCellFields Tryd.prog fs = true ∧ ∀ (j : Nat) (f : Field), fs[j]? = some f → f.type = 3 := by
  refine ⟨_, Tryd.underlying23, rfl, by kernel_rfl, ?_⟩
  intro j f h
  match j, h with
  | 0, h => cases h; rfl
  | 1, h => cases h; rfl
  | 2, h => cases h; rfl
  | 3, h => cases h; rfl
  | 4, h => cases h; rfl
  | 5, h => cases h; rfl
  | 6, h => cases h; rfl
  | 7, h => cases h; rfl
  | j + 8, h => simp at h
set_option maxRecDepth 100000 in
theorem open_event {r : Reach} {b0 : Nat} {v : Value} {d : DataW H} {p : List MemPlace} (hv : Value.okWide Tryd.prog w r b0 23 v) (h : DataW.Trod enc Tryd.prog w base spare held 23 v d p) :
    ∃ e : Ev, v = .agg (evCells e).toArray ∧ d = evData H e ∧ p = [] ∧ evWf e := by
  obtain ⟨fs, hs, hsz8, hone, hty⟩ := ev_hone
  have hC : Tryd.prog.cellsOf 23 = 8 := by kernel_rfl
  obtain ⟨cs, rfl, hsz⟩ := okWide_struct hs hv
  obtain ⟨l⟩ := cs
  match l, hsz.trans hC with
  | [c0, c1, c2, c3, c4, c5, c6, c7], _ =>
    obtain ⟨fuel, hf⟩ := h
    obtain ⟨xs, n, _, hx, _, hlen, hg⟩ := DataW.trod_struct hs hf
    match xs, hlen.trans hsz8 with
    | [x0, x1, x2, x3, x4, x5, x6, x7], _ =>
      have key : ∀ (j : Nat) (hj : j < 8) (c : Value) (x : DataW H × List MemPlace), [c0, c1, c2, c3, c4, c5, c6, c7][j]? = some c → [x0, x1, x2, x3, x4, x5, x6, x7][j]? = some x → ∃ k, c = .int .i64 k ∧ x = (.lit (.int .i64 k), []) ∧ (Lit.int .i64 k).wf = true := by
        intro j hj c x hc hx
        have hjf : fs[j]? = some (fs[j]'(by omega)) := Array.getElem?_eq_getElem (by omega)
        obtain ⟨ho, hk⟩ := hone_of hone j _ hjf
        have hgj := hg j _ hjf
        rw [ho, hk, hty j _ hjf] at hgj
        have hdt : ((Value.agg #[c0, c1, c2, c3, c4, c5, c6, c7]).cells.toList.drop j).take 1 = [c] := by
          show ([c0, c1, c2, c3, c4, c5, c6, c7].drop j).take 1 = [c]
          have hjl : j < [c0, c1, c2, c3, c4, c5, c6, c7].length := hj
          rw [List.drop_eq_getElem_cons hjl]
          rw [List.getElem?_eq_getElem hjl] at hc
          rw [Option.some.inj hc]
          rfl
        rw [hdt, hx] at hgj
        obtain ⟨k, e1, e2, e3⟩ := DataW.trod_int Tryd.underlying3 hgj
        exact ⟨k, by simpa using e1, e2, e3⟩
      obtain ⟨k0, rfl, rfl, w0⟩ := key 0 (by decide) c0 x0 rfl rfl
      obtain ⟨k1, rfl, rfl, w1⟩ := key 1 (by decide) c1 x1 rfl rfl
      obtain ⟨k2, rfl, rfl, w2⟩ := key 2 (by decide) c2 x2 rfl rfl
      obtain ⟨k3, rfl, rfl, w3⟩ := key 3 (by decide) c3 x3 rfl rfl
      obtain ⟨k4, rfl, rfl, w4⟩ := key 4 (by decide) c4 x4 rfl rfl
      obtain ⟨k5, rfl, rfl, w5⟩ := key 5 (by decide) c5 x5 rfl rfl
      obtain ⟨k6, rfl, rfl, w6⟩ := key 6 (by decide) c6 x6 rfl rfl
      obtain ⟨k7, rfl, rfl, w7⟩ := key 7 (by decide) c7 x7 rfl rfl
      simp only [Prod.mk.injEq] at hx
      exact ⟨⟨k0, k1, k2, k3, k4, k5, k6, k7⟩, rfl, by simpa [evData] using hx.1, by simpa using hx.2, w0, w1, w2, w3, w4, w5, w6, w7⟩
end
end Go.Proofs.YtofomblpbmpbaaaDoor

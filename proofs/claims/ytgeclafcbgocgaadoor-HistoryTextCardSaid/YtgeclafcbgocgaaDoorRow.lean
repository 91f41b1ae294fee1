/- What the rows share: the condition on the listed variables gives the walks' Env; a wrap that keeps the world's shape and that condition; a list of calls as an argument. -/
import Derived.Test.YtgeclafcbgocgaaDoorRows
import Derived.Test.YtgeclafcbgocgaaDoorLst
import Derived.Deep.Slices
import Derived.Deep.Fields
import Derived.Test.YtgeclafcbgocgaaDoorEnv
import Derived.ProofKit
import Derived.OpenShut
import Derived.LaidMore
import Derived.Lay
import Derived.Stop.Joined
import Derived.Stop.LaidErr
import Derived.HandedShaped
import Derived.Lib.LaidTab
import Derived.Lib.SmallJoins
namespace Go.Proofs.YtgeclafcbgocgaaDoor
open Go Go.Joins Go.ChangeShapes Go.WideShapes Go.RowKit Go.Deep
theorem own : ownKnob Tryd.prog.godebug = none := by kernel_rfl
theorem laidOut : laidOutB Tryd.prog = true := by kernel_rfl
def theLaid : List (String × DataW Unit) := Rows.historyTextRow.laid
theorem star : "*" ++ "errors.errorString" = "*errors.errorString" := by decide
theorem row142 (u : TypeId) (h : Tryd.prog.typeName? 3 u = some "*errors.errorString") : u = 142 :=
  typeName_ptr_named (nm := "errors.errorString") (by rw [star]; kernel_rfl) (by kernel_rfl) (by decide) u (by rw [star]; exact h)
theorem gAcc : Tryd.prog.globalNamed "unicode/utf8.acceptRanges" = some 7 := by kernel_rfl
theorem env_of_laid {W : World} (h0 : laidMetH Tryd.prog theLaid W) (hsh : W.ShapedOpen Tryd.prog) : Env W := by
  rw [MakeChecks.laidMetH_plain _ _ _ (by kernel_rfl)] at h0
  have h : laidMet Tryd.prog [("math/bits.deBruijn32tab", Rows.laid_math_bits_deBruijn32tab), ("math/bits.deBruijn64tab", Rows.laid_math_bits_deBruijn64tab), ("internal/strconv.uint64pow10", Rows.laid_internal_strconv_uint64pow10), ("unicode/utf8.acceptRanges", Rows.laid_unicode_utf8_acceptRanges), ("strconv.ErrRange", Rows.laid_strconv_ErrRange), ("strconv.ErrSyntax", Rows.laid_strconv_ErrSyntax), ("unicode/utf8.first", Rows.laid_unicode_utf8_first)] W := h0
  have hp : (Rows.laid_internal_strconv_uint64pow10 : DataW Unit) = Lib.tabData .u64 Lib.pow10Tab := by kernel_rfl
  have htab : Lib.TabIs Tryd.prog W "internal/strconv.uint64pow10" .u64 Lib.pow10Tab := by
    have h2 := h.tail.tail
    rw [hp] at h2
    exact Lib.tabIs_of_head gTab (t := 110) (e := 97) (n := 20) (by kernel_rfl) Tryd.underlying110 Tryd.underlying97 (by kernel_rfl) (by kernel_rfl) h2
  have htop : 8 ≤ W.heap.size := by
    obtain ⟨ps, ⟨g0, t0, cs0, f0, p0, q0, hg0, ht0, hv0, hd0, _, e0⟩, _, _⟩ := h.tail.tail.tail
    obtain rfl := Option.some.inj (gAcc.symm.trans hg0)
    have hv := hv0
    unfold World.var? at hv
    rw [gAcc] at hv
    rcases Nat.lt_or_ge 7 W.heap.size with h' | h'
    · exact h'
    · simp [Array.getElem?_eq_none h'] at hv
  have hmax := Go.Proofs.cell_of_shapedOpen_int (zero := #[.int .i64 0]) (t := 3) (g := 1) (P := Tryd.prog) (w := W) hsh (of_decide_eq_true (by kernel_rfl)) (by kernel_rfl) rfl (by kernel_rfl) (by kernel_rfl) Tryd.underlying3
  obtain ⟨a0, s0, hr, _⟩ := laid_sentinel (ti := 77) (tp := 142) (te := 144) (ts := 9) h.tail.tail.tail.tail gRng (by kernel_rfl) Tryd.underlying77 row142 Tryd.underlying142 Tryd.underlying144 rfl rfl Tryd.underlying9 (by kernel_rfl) (by kernel_rfl)
  obtain ⟨a1, s1, hs, _⟩ := laid_sentinel (ti := 77) (tp := 142) (te := 144) (ts := 9) h.tail.tail.tail.tail.tail gSyn (by kernel_rfl) Tryd.underlying77 row142 Tryd.underlying142 Tryd.underlying144 rfl rfl Tryd.underlying9 (by kernel_rfl) (by kernel_rfl)
  exact ⟨htop, hmax, htab, ⟨_, _, hs⟩, ⟨_, _, hr⟩⟩
/-- The wrap: the contract is handed the condition and the world's shape. -/
theorem returns_laid_shaped {H : Type} {enc : TypeId × Value → H} {a : Assume} {C : Checked} {os : Os} {f : FuncId} {fn : Func} {s : ChangeSpec} {conds : List PathCond} {apart fresh handsOn again : Bool} {X : World → Array Value → Prop}
    (hX : ∀ (w w' : World) (args : Array Value), w.heap = w'.heap → X w args → X w' args)
    (own : ownKnob C.prog.godebug = none) (started : os.Started) (noInit : C.prog.inits.idxOf? f = none) (hfn : C.prog.funcs[f]? = some fn)
    (witness : ∃ (w : World) (tape : Tape) (i : Input), w.os = os ∧ (w.forCall tape i).Shaped C.prog ∧ i.vars = [] ∧ Input.okWide C.prog (w.forCall tape i) .any w.heap.size f i ∧
      ((s.pre enc C.prog fn conds apart (w.forCall tape i).memory i.args ∧ X (w.forCall tape i).memory i.args) ∧ sizedMet enc C.prog fn (OpenSpec.ofChange s) apart (w.forCall tape i).memory i.args) ∧ a.holds C.prog (lone (Frame.enter C.prog f i.args .normal) [] (w.forCall tape i)))
    (contract : ∀ (W : World) (base : Nat) (args : Array Value) (ds gs : List (DataW H)) (before : List MemPlace),
      (∀ (j : Nat) t v, fn.params[j]? = some t → args[j]? = some v → Value.okWide C.prog W .any base t v) →
      DataW.Whole enc C.prog fn.params.toList s.vars apart W args.toList ds gs before → X W args → W.ShapedOpen C.prog →
      Calls C.prog f args W fun e W' => ∃ v, e = .returned v ∧ s.post enc C.prog fn apart fresh handsOn again W args v W') :
    ReturnsInHanded a C os f .any (fun w args => (s.pre enc C.prog fn conds apart w args ∧ X w args) ∧ sizedMet enc C.prog fn (OpenSpec.ofChange s) apart w args) (s.post enc C.prog fn apart fresh handsOn again) := by
  refine returnsInHanded_of_calls own started noInit witness ?_
  intro w tape i _ hsh _ hok hpre _
  obtain ⟨_, _, _, fn', hfn', _, _, _, _, hval⟩ := hok
  obtain rfl : fn' = fn := Option.some.inj (hfn'.symm.trans hfn)
  obtain ⟨⟨⟨ds, gs, before, hw, _⟩, hx⟩, _⟩ := hpre
  refine (contract (w.forCall tape i) w.heap.size i.args ds gs before hval (DataW.Whole.of_heap (w' := w.forCall tape i) (by rfl) hw) (hX _ _ _ (by rfl) hx) hsh).mono fun e W' ⟨v, he, hp⟩ => ?_
  subst he
  exact ChangeSpec.post_blind hp
instance : Inhabited Cl := ⟨zCl⟩
section
variable {H : Type} {enc : TypeId × Value → H} {w : World} {base : Nat} {spare : Nat → Bool} {held : Bool}
def clWf (e : Cl) : Prop := (Lit.int .i64 e.task).wf = true ∧ (Lit.int .i64 e.method).wf = true ∧ (Lit.int .i64 e.arg).wf = true ∧ (Lit.int .i64 e.result).wf = true ∧ (Lit.int .i64 e.begin_).wf = true ∧ (Lit.int .i64 e.end_).wf = true
def clData (H : Type) (e : Cl) : DataW H := .agg [.lit (.int .i64 e.task), .lit (.int .i64 e.method), .lit (.int .i64 e.arg), .lit (.int .i64 e.result), .lit (.int .i64 e.begin_), .lit (.int .i64 e.end_)]
theorem cl_hone : ∃ fs : Array Field, Tryd.prog.underlying 32 = some (.struct fs) ∧ fs.size = 6 ∧ oneCellFields Tryd.prog fs = true ∧ ∀ (j : Nat) (f : Field), fs[j]? = some f → f.type = 3 := by
  refine ⟨_, Tryd.underlying32, rfl, by kernel_rfl, ?_⟩
  intro j f h
  match j, h with
  | 0, h => cases h; rfl
  | 1, h => cases h; rfl
  | 2, h => cases h; rfl
  | 3, h => cases h; rfl
  | 4, h => cases h; rfl
  | 5, h => cases h; rfl
  | j + 6, h => simp at h
set_option maxRecDepth 100000 in
theorem trod_cl {fuel : Nat} {cs : List Value} {x : DataW H × List MemPlace} (h : DataW.trod enc Tryd.prog w base spare held fuel 32 cs = some x) : ∃ e : Cl, cs = clCells e ∧ x = (clData H e, []) ∧ clWf e := by
  obtain ⟨fs, hs, hsz8, hone, hty⟩ := cl_hone
  have hC : Tryd.prog.cellsOf 32 = 6 := by kernel_rfl
  obtain ⟨xs, n, _, hx, hcl, hlen, hg⟩ := DataW.trod_struct hs h
  match cs, hcl.trans hC with
  | [c0, c1, c2, c3, c4, c5], _ =>
    match xs, hlen.trans hsz8 with
    | [x0, x1, x2, x3, x4, x5], _ =>
      have key : ∀ (j : Nat) (hj : j < 6) (c : Value) (x : DataW H × List MemPlace), [c0, c1, c2, c3, c4, c5][j]? = some c → [x0, x1, x2, x3, x4, x5][j]? = some x → ∃ k, c = .int .i64 k ∧ x = (.lit (.int .i64 k), []) ∧ (Lit.int .i64 k).wf = true := by
        intro j hj c x hc hx
        have hjf : fs[j]? = some (fs[j]'(by omega)) := Array.getElem?_eq_getElem (by omega)
        obtain ⟨ho, hk⟩ := hone_of hone j _ hjf
        have hgj := hg j _ hjf
        rw [ho, hk, hty j _ hjf] at hgj
        have hdt : ([c0, c1, c2, c3, c4, c5].drop j).take 1 = [c] := by
          have hjl : j < [c0, c1, c2, c3, c4, c5].length := hj
          rw [List.drop_eq_getElem_cons hjl]
          rw [List.getElem?_eq_getElem hjl] at hc
          rw [Option.some.inj hc]
          rfl
        rw [hdt, hx] at hgj
        obtain ⟨k, e1, e2, e3⟩ := DataW.trod_int Tryd.underlying3 hgj
        exact ⟨k, by simpa using e1, e2, e3⟩
      obtain ⟨k0, rfl, rfl, w0⟩ := key 0 (by decide) c0 x0 rfl rfl
      obtain ⟨k1, rfl, rfl, w1⟩ := key 1 (by decide) c1 x1 rfl rfl
      obtain ⟨k2, rfl, rfl, w2⟩ := key 2 (by decide) c2 x2 rfl rfl
      obtain ⟨k3, rfl, rfl, w3⟩ := key 3 (by decide) c3 x3 rfl rfl
      obtain ⟨k4, rfl, rfl, w4⟩ := key 4 (by decide) c4 x4 rfl rfl
      obtain ⟨k5, rfl, rfl, w5⟩ := key 5 (by decide) c5 x5 rfl rfl
      exact ⟨⟨k0, k1, k2, k3, k4, k5⟩, rfl, by simpa [clData] using hx, w0, w1, w2, w3, w4, w5⟩
set_option maxRecDepth 100000 in
theorem open_calls {v : Value} {d : DataW H} {p : List MemPlace} {r : Reach} {b0 : Nat} (hv : Value.okWide Tryd.prog w r b0 22 v) (h : DataW.Trod enc Tryd.prog w base spare held 22 v d p) : ∃ l : List Cl, ClV w v l ∧ ∀ e ∈ l, clWf e := by
  obtain ⟨A0, len0, cap0, rfl⟩ := okWide_slice Tryd.underlying22 hv
  obtain ⟨fuel, hf⟩ := h
  rcases open_slice Tryd.underlying22 hf with ⟨hc, -⟩ | ⟨a, len, cap, m, n, D, Pl, hcs, hb, hl, hm, hmm, hx, hi⟩
  · have hc' : (Value.slice A0 len0 cap0) = .slice none 0 0 := by simpa [Value.cells] using hc
    rw [hc']
    exact ⟨[], LV.nil_ _ _ _ _, by simp⟩
  · have hc' : (Value.slice A0 len0 cap0) = .slice (some a) len cap := by simpa [Value.cells] using hcs
    rw [hc']
    have hC : Tryd.prog.cellsOf 32 = 6 := by kernel_rfl
    rw [hC] at hi
    have hlm : len ≤ m := by rw [hmm]; split <;> omega
    have hev : ∀ i, i < len → ∃ e : Cl, w.cells? base (a.add (i * 6)) 6 = some (clCells e) ∧ clWf e := by
      intro i hil
      obtain ⟨cs', h1, h2⟩ := hi i (by omega)
      obtain ⟨e, rfl, -, hw⟩ := trod_cl h2
      exact ⟨e, h1, hw⟩
    obtain ⟨f, hf2⟩ := choose_lt hev
    refine ⟨(List.range len).map f, ⟨some a, cap, by simp, by simpa using hl, fun hne => ?_⟩, ?_⟩
    · have h0 : 0 < len := by
        rcases Nat.eq_zero_or_pos len with h | h
        · subst h; exact absurd rfl hne
        · exact h
      have hcell : ∀ i, i < len → ∀ j v, (clCells (f i))[j]? = some v → w.cell? (a.add (i * 6 + j)) = some v := by
        intro i hil j v hj
        obtain ⟨_, hlen, hat⟩ := World.cells?_some (hf2 i hil).1
        have hj8 : j < 6 := by
          have := (List.getElem?_eq_some_iff.1 hj).1
          simpa [clCells] using this
        have := hat j hj8
        rw [add_add] at this
        rw [this, hj]
      have hc0 : w.cell? a = some (.int .i64 (f 0).task) := by
        have := hcell 0 h0 0 _ rfl
        simpa [Addr.add] using this
      have hsp : a.spot = none := by
        unfold World.cell? at hc0
        split at hc0
        · cases hs : a.spot with
          | none => rfl
          | some s => rw [hs] at hc0; simp at hc0
        · cases hc0
      obtain ⟨ab, ao, asp⟩ := a
      obtain rfl : asp = none := hsp
      refine ⟨ab, ao, rfl, World.block_lt_of_cell? w ⟨ab, ao, none⟩ hc0, fun k hk j v hj => ?_⟩
      have hk' : k < len := by simpa using hk
      have hfk : ((List.range len).map f)[k] = f k := by simp
      rw [hfk] at hj
      have := hcell k hk' j v hj
      rw [plain_add] at this
      rw [Nat.add_assoc]
      exact this
    · intro e he
      obtain ⟨i, hi2, rfl⟩ := List.mem_map.1 he
      exact (hf2 i (by simpa using hi2)).2
end
theorem u8_of_wf {n : Int} (h : (Lit.int .u8 n).wf = true) : ∃ m : Nat, n = (m : Int) ∧ m < 256 := by
  have h' : (decide ((0 : Int) ≤ n) && decide (n ≤ 255)) = true := h
  simp only [Bool.and_eq_true, decide_eq_true_eq] at h'
  exact ⟨n.toNat, by omega, by omega⟩
theorem i64_of_wf {n : Int} (h : (Lit.int .i64 n).wf = true) : -9223372036854775808 ≤ n ∧ n ≤ 9223372036854775807 := by
  have h' : (decide ((-9223372036854775808 : Int) ≤ n) && decide (n ≤ 9223372036854775807)) = true := h
  simpa only [Bool.and_eq_true, decide_eq_true_eq] using h'
end Go.Proofs.YtgeclafcbgocgaaDoor

/- A part of the proof. -/
import Derived.Test.YtnpljilhnnkbaaaGreatDoorRows
import Derived.Test.YtnpljilhnnkbaaaGreatDoorPbf
import Derived.Test.YtnpljilhnnkbaaaGreatDoorPbh
import Derived.Deep.Slices
import Derived.Deep.Fields
import Derived.ProofKit
import Derived.OpenShut
import Derived.LaidMore
import Derived.Lay
import Derived.Stop.Joined
import Derived.Stop.LaidErr
import Derived.HandedShaped
import Derived.Lib.LaidTab
import Derived.Lib.SmallJoins
set_option linter.all false
namespace Go.Proofs.Seat8
open Go Go.Joins Go.ChangeShapes Go.WideShapes Go.RowKit Go.Deep Go.Proofs.Seat4
open Go.Proofs.YtnpljilhnnkbaaaGreatDoor
theorem own : ownKnob Tryz.prog.godebug = none := by kernel_rfl
theorem laidOut : laidOutB Tryz.prog = true := by kernel_rfl
theorem returns_laid_shaped {H : Type} {enc : TypeId × Value → H} {a : Assume} {C : Checked} {os : Os} {f : FuncId} {fn : Func} {s : ChangeSpec} {conds : List PathCond} {apart fresh handsOn again : Bool} {X : World → Array Value → Prop}
    (hX : ∀ (w w' : World) (args : Array Value), w.heap = w'.heap → X w args → X w' args)
    (own : ownKnob C.prog.godebug = none) (started : os.Started) (noInit : C.prog.inits.idxOf? f = none) (hfn : C.prog.funcs[f]? = some fn)
    (witness : ∃ (w : World) (tape : Tape) (i : Input), w.os = os ∧ (w.forCall tape i).Shaped C.prog ∧ i.vars = [] ∧ Input.okWide C.prog (w.forCall tape i) .any w.heap.size f i ∧
      ((s.pre enc C.prog fn conds apart (w.forCall tape i).memory i.args ∧ X (w.forCall tape i).memory i.args) ∧ sizedMet enc C.prog fn (OpenSpec.ofChange s) apart (w.forCall tape i).memory i.args) ∧ a.holds C.prog (lone (Frame.enter C.prog f i.args .normal) [] (w.forCall tape i)))
    (contract : ∀ (W : World) (base : Nat) (args : Array Value) (ds gs : List (DataW H)) (before : List MemPlace),
      (∀ (j : Nat) t v, fn.params[j]? = some t → args[j]? = some v → Value.okWide C.prog W .any base t v) →
      DataW.Whole enc C.prog fn.params.toList s.vars apart W args.toList ds gs before → X W args → W.ShapedOpen C.prog →
      Calls C.prog f args W fun e W' => ∃ v, e = .returned v ∧ s.post enc C.prog fn apart fresh handsOn again W args v W') :
    ReturnsInHanded a C os f .any (fun w args => (s.pre enc C.prog fn conds apart w args ∧ X w args) ∧ sizedMet enc C.prog fn (OpenSpec.ofChange s) apart w args) (s.post enc C.prog fn apart fresh handsOn again) := by
  refine returnsInHanded_of_calls own started noInit witness ?_
  intro w tape i _ hsh _ hok hpre _
  obtain ⟨_, _, _, fn', hfn', _, _, _, _, hval⟩ := hok
  obtain rfl : fn' = fn := Option.some.inj (hfn'.symm.trans hfn)
  obtain ⟨⟨⟨ds, gs, before, hw, _⟩, hx⟩, _⟩ := hpre
  refine (contract (w.forCall tape i) w.heap.size i.args ds gs before hval (DataW.Whole.of_heap (w' := w.forCall tape i) (by rfl) hw) (hX _ _ _ (by rfl) hx) hsh).mono fun e W' ⟨v, he, hp⟩ => ?_
  subst he
  exact ChangeSpec.post_blind hp
theorem star : "*" ++ "errors.errorString" = "*errors.errorString" := by decide
theorem row226 (u : TypeId) (h : Tryz.prog.typeName? 3 u = some "*errors.errorString") : u = 226 :=
  typeName_ptr_named (nm := "errors.errorString") (by rw [star]; kernel_rfl) (by kernel_rfl) (by decide) u (by rw [star]; exact h)
theorem gBr : Tryz.prog.globalNamed "math/bits.deBruijn64tab" = some 7 := by kernel_rfl
theorem env_of_laid {W : World} (h0 : laidMetH Tryz.prog Rows.metricsTextsRow.laid W) (hsh : W.ShapedOpen Tryz.prog) : Env W := by
  rw [MakeChecks.laidMetH_plain _ _ _ (by kernel_rfl)] at h0
  have h : laidMet Tryz.prog [("internal/strconv.uint64pow10", Rows.laid_internal_strconv_uint64pow10), ("math/bits.deBruijn32tab", Rows.laid_math_bits_deBruijn32tab), ("math/bits.deBruijn64tab", Rows.laid_math_bits_deBruijn64tab), ("unicode/utf8.first", Rows.laid_unicode_utf8_first), ("unicode/utf8.acceptRanges", Rows.laid_unicode_utf8_acceptRanges), ("strconv.ErrSyntax", Rows.laid_strconv_ErrSyntax), ("strconv.ErrRange", Rows.laid_strconv_ErrRange)] W := h0
  have hp : (Rows.laid_internal_strconv_uint64pow10 : DataW Unit) = Lib.tabData .u64 Lib.pow10Tab := by kernel_rfl
  have htab : Lib.TabIs Tryz.prog W "internal/strconv.uint64pow10" .u64 Lib.pow10Tab := by
    have h2 := h
    rw [hp] at h2
    exact Lib.tabIs_of_head gTab (t := 223) (e := 170) (n := 20) (by kernel_rfl) Tryz.underlying223 Tryz.underlying170 (by kernel_rfl) (by kernel_rfl) h2
  have htop : 4 ≤ W.heap.size := by
    obtain ⟨ps, ⟨g0, t0, cs0, f0, p0, q0, hg0, ht0, hv0, hd0, _, e0⟩, _, _⟩ := h.tail.tail
    obtain rfl := Option.some.inj (gBr.symm.trans hg0)
    have hv := hv0
    unfold World.var? at hv
    rw [gBr] at hv
    rcases Nat.lt_or_ge 7 W.heap.size with h' | h'
    · omega
    · simp [Array.getElem?_eq_none h'] at hv
  have hmax := Go.Proofs.cell_of_shapedOpen_int (zero := #[.int .i64 0]) (t := 3) (g := 3) (P := Tryz.prog) (w := W) hsh (of_decide_eq_true (by kernel_rfl)) (by kernel_rfl) rfl (by kernel_rfl) (by kernel_rfl) Tryz.underlying3
  obtain ⟨a0, s0, hr, _⟩ := laid_sentinel (ti := 61) (tp := 226) (te := 228) (ts := 9) h.tail.tail.tail.tail.tail.tail gRng (by kernel_rfl) Tryz.underlying61 row226 Tryz.underlying226 Tryz.underlying228 rfl rfl Tryz.underlying9 (by kernel_rfl) (by kernel_rfl)
  obtain ⟨a1, s1, hs, _⟩ := laid_sentinel (ti := 61) (tp := 226) (te := 228) (ts := 9) h.tail.tail.tail.tail.tail gSyn (by kernel_rfl) Tryz.underlying61 row226 Tryz.underlying226 Tryz.underlying228 rfl rfl Tryz.underlying9 (by kernel_rfl) (by kernel_rfl)
  exact ⟨htop, hmax, htab, ⟨_, _, hs⟩, ⟨_, _, hr⟩⟩
section
variable {H : Type} {enc : TypeId × Value → H} {w : World} {base : Nat} {spare : Nat → Bool} {held : Bool}
def mtData (H : Type) (e : Mt) : DataW H := .agg [.lit (.string e.name), .lit (.int .i64 e.index), .lit (.int .i64 e.count), .lit (.int .i64 e.sum), .lit (.int .i64 e.mx)]
theorem mt_hone : ∃ fs : Array Field, Tryz.prog.underlying 34 = some (.struct fs) ∧ fs.size = 5 ∧ oneCellFields Tryz.prog fs = true ∧ ∀ (j : Nat) (f : Field), fs[j]? = some f → f.type = if j = 0 then 9 else 3 := by
  refine ⟨_, Tryz.underlying34, rfl, by kernel_rfl, ?_⟩
  intro j f h
  match j, h with
  | 0, h => cases h; rfl
  | 1, h => cases h; rfl
  | 2, h => cases h; rfl
  | 3, h => cases h; rfl
  | 4, h => cases h; rfl
  | j + 5, h => simp at h
set_option maxRecDepth 100000 in
theorem trod_mt {fuel : Nat} {cs : List Value} {x : DataW H × List MemPlace} (h : DataW.trod enc Tryz.prog w base spare held fuel 34 cs = some x) : ∃ e : Mt, cs = mtCells e := by
  obtain ⟨fs, hs, hsz8, hone, hty⟩ := mt_hone
  have hC : Tryz.prog.cellsOf 34 = 5 := by kernel_rfl
  obtain ⟨xs, n, _, hx, hcl, hlen, hg⟩ := DataW.trod_struct hs h
  match cs, hcl.trans hC with
  | [c0, c1, c2, c3, c4], _ =>
    match xs, hlen.trans hsz8 with
    | [x0, x1, x2, x3, x4], _ =>
      have get : ∀ (j : Nat) (hj : j < 5) (c : Value) (x : DataW H × List MemPlace), [c0, c1, c2, c3, c4][j]? = some c → [x0, x1, x2, x3, x4][j]? = some x → ∃ f', DataW.trod enc Tryz.prog w base spare held f' (if j = 0 then 9 else 3) [c] = some x := by
        intro j hj c x hc hx
        have hjf : fs[j]? = some (fs[j]'(by omega)) := Array.getElem?_eq_getElem (by omega)
        obtain ⟨ho, hk⟩ := hone_of hone j _ hjf
        have hgj := hg j _ hjf
        rw [ho, hk, hty j _ hjf] at hgj
        have hdt : ([c0, c1, c2, c3, c4].drop j).take 1 = [c] := by
          have hjl : j < [c0, c1, c2, c3, c4].length := hj
          rw [List.drop_eq_getElem_cons hjl]
          rw [List.getElem?_eq_getElem hjl] at hc
          rw [Option.some.inj hc]
          rfl
        rw [hdt, hx] at hgj
        exact ⟨_, hgj⟩
      have key : ∀ (j : Nat) (hj : j < 5) (h0 : j ≠ 0) (c : Value) (x : DataW H × List MemPlace), [c0, c1, c2, c3, c4][j]? = some c → [x0, x1, x2, x3, x4][j]? = some x → ∃ k, c = .int .i64 k := by
        intro j hj h0 c x hc hx
        obtain ⟨f', hf⟩ := get j hj c x hc hx
        rw [if_neg h0] at hf
        obtain ⟨k, e1, _, _⟩ := DataW.trod_int Tryz.underlying3 hf
        exact ⟨k, by simpa using e1⟩
      obtain ⟨f0, hf0⟩ := get 0 (by decide) c0 x0 rfl rfl
      rw [if_pos rfl] at hf0
      obtain ⟨s0, e0, _, _⟩ := DataW.trod_string Tryz.underlying9 hf0
      obtain rfl : c0 = .string s0 := by simpa using e0
      obtain ⟨k1, rfl⟩ := key 1 (by decide) (by decide) c1 x1 rfl rfl
      obtain ⟨k2, rfl⟩ := key 2 (by decide) (by decide) c2 x2 rfl rfl
      obtain ⟨k3, rfl⟩ := key 3 (by decide) (by decide) c3 x3 rfl rfl
      obtain ⟨k4, rfl⟩ := key 4 (by decide) (by decide) c4 x4 rfl rfl
      exact ⟨⟨s0.data.toList, k1, k2, k3, k4⟩, by simp [mtCells]⟩
set_option maxRecDepth 100000 in
theorem open_mts {v : Value} {d : DataW H} {p : List MemPlace} {r : Reach} {b0 : Nat} (hv : Value.okWide Tryz.prog w r b0 22 v) (h : DataW.Trod enc Tryz.prog w base spare held 22 v d p) : ∃ l : List Mt, LV ME w v l := by
  obtain ⟨A0, len0, cap0, rfl⟩ := okWide_slice Tryz.underlying22 hv
  obtain ⟨fuel, hf⟩ := h
  rcases open_slice Tryz.underlying22 hf with ⟨hc, -⟩ | ⟨a, len, cap, m, n, D, Pl, hcs, hb, hl, hm, hmm, hx, hi⟩
  · have hc' : (Value.slice A0 len0 cap0) = .slice none 0 0 := by simpa [Value.cells] using hc
    rw [hc']
    exact ⟨[], LV.nil_ _ _ _ _⟩
  · have hc' : (Value.slice A0 len0 cap0) = .slice (some a) len cap := by simpa [Value.cells] using hcs
    rw [hc']
    have hC : Tryz.prog.cellsOf 34 = 5 := by kernel_rfl
    rw [hC] at hi
    have hlm : len ≤ m := by rw [hmm]; split <;> omega
    have hev : ∀ i, i < len → ∃ e : Mt, w.cells? base (a.add (i * 5)) 5 = some (mtCells e) := by
      intro i hil
      obtain ⟨cs', h1, h2⟩ := hi i (by omega)
      obtain ⟨e, rfl⟩ := trod_mt h2
      exact ⟨e, h1⟩
    obtain ⟨f, hf2⟩ := choose_lt hev
    refine ⟨(List.range len).map f, some a, cap, by simp, by simpa using hl, fun hne => ?_⟩
    have h0 : 0 < len := by
      rcases Nat.eq_zero_or_pos len with h | h
      · subst h; exact absurd rfl hne
      · exact h
    have hcell : ∀ i, i < len → ∀ j v, (mtCells (f i))[j]? = some v → w.cell? (a.add (i * 5 + j)) = some v := by
      intro i hil j v hj
      obtain ⟨_, hlen, hat⟩ := World.cells?_some (hf2 i hil)
      have hj8 : j < 5 := by
        have := (List.getElem?_eq_some_iff.1 hj).1
        simpa [mtCells] using this
      have := hat j hj8
      rw [add_add] at this
      rw [this, hj]
    have hc0 : w.cell? a = some (.string ⟨(f 0).name.toArray⟩) := by
      have := hcell 0 h0 0 _ rfl
      simpa [Addr.add] using this
    have hsp : a.spot = none := by
      unfold World.cell? at hc0
      split at hc0
      · cases hs : a.spot with
        | none => rfl
        | some s => rw [hs] at hc0; simp at hc0
      · cases hc0
    obtain ⟨ab, ao, asp⟩ := a
    obtain rfl : asp = none := hsp
    refine ⟨ab, ao, rfl, World.block_lt_of_cell? w ⟨ab, ao, none⟩ hc0, fun k hk j v hj => ?_⟩
    have hk' : k < len := by simpa using hk
    have hfk : ((List.range len).map f)[k] = f k := by simp
    rw [hfk] at hj
    have := hcell k hk' j v hj
    rw [plain_add] at this
    show w.cell? ⟨ab, ao + k * 5 + j, none⟩ = some v
    rw [Nat.add_assoc]
    exact this
end
end Go.Proofs.Seat8

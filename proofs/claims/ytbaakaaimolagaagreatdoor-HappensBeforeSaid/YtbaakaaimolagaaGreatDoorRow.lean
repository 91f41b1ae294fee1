/- A part of the proof that nurserylaw36.HappensBefore returns true for every input. -/
import Derived.Test.YtbaakaaimolagaaGreatDoorLaw
import Derived.Test.YtbaakaaimolagaaGreatDoorRows
import Derived.Deep.SlicePairs
import Derived.Deep.Matrix
import Derived.Deep.Fields
import Derived.Clock
import Derived.ProofKit
import Derived.OpenShut
import Derived.Carry
import Derived.Test.YtbaakaaimolagaaGreatDoorFcc
namespace Go.Proofs.YtbaakaaimolagaaGreatDoor
open Go Go.ChangeShapes Go.WideShapes Go.ChangeAt Go.RowKit Go.Clock Go.Deep
open Go.Proofs.Seat4 (ClkIs law3 plain_add)
theorem own : ownKnob Tryz.prog.godebug = none := by kernel_rfl
theorem laidOut : laidOutB Tryz.prog = true := fact2
section
variable {H : Type} {enc : TypeId × Value → H} {w : World} {base : Nat}
theorem plain_of_cell {a : Addr} {v : Value} (h : w.cell? a = some v) : ∃ b o, a = ⟨b, o, none⟩ := by
  have hsp : a.spot = none := by
    unfold World.cell? at h
    split at h
    · cases hs : a.spot with
      | none => rfl
      | some s => rw [hs] at h; simp at h
    · cases h
  obtain ⟨b, o, s⟩ := a
  obtain rfl : s = none := hsp
  exact ⟨b, o, rfl⟩
theorem trodAll_four {P : Program} {spare : Nat → Bool} {held : Bool} {t t' t'' t3 : TypeId} {args : Array Value} {ds : List (DataW H)} {ps : List MemPlace} (h : DataW.TrodAll enc P w base spare held [t, t', t'', t3] args.toList ds ps) :
    ∃ v v' v'' v3 d d' d'' d3 p p' p'' p3, args = #[v, v', v'', v3] ∧ ds = [d, d', d'', d3] ∧ ps = p ++ (p' ++ (p'' ++ p3)) ∧ DataW.Trod enc P w base spare held t v d p ∧ DataW.Trod enc P w base spare held t' v' d' p' ∧ DataW.Trod enc P w base spare held t'' v'' d'' p'' ∧ DataW.Trod enc P w base spare held t3 v3 d3 p3 := by
  obtain ⟨v, vs, d, e1, p, q, hargs, rfl, rfl, hd, hrest⟩ := trodAll_cons h
  obtain ⟨v', vs', d', e2, p', q', rfl, rfl, rfl, hd', hrest'⟩ := trodAll_cons hrest
  obtain ⟨v'', vs'', d'', e3, p'', q'', rfl, rfl, rfl, hd'', hrest''⟩ := trodAll_cons hrest'
  obtain ⟨v3, vs3, d3, e4, p3, q3, rfl, rfl, rfl, h3, hrest3⟩ := trodAll_cons hrest''
  obtain ⟨rfl, rfl, rfl⟩ := trodAll_nil hrest3
  exact ⟨v, v', v'', v3, d, d', d'', d3, p, p', p'', p3, by cases args; simp_all, rfl, by simp, hd, hd', hd'', h3⟩
set_option maxRecDepth 100000 in
theorem open_clocks {v : Value} {d : DataW H} {p : List MemPlace} {r : Reach} {b0 : Nat} (hv : Value.okWide Tryz.prog w r b0 22 v) (h : DataW.Trod enc Tryz.prog w base (fun _ => true) true 22 v d p) :
    ∃ (P : Option Addr) (n cap : Nat) (A : Nat → Option Addr) (L C : Nat → Nat) (Z : Nat → Nat → Int), v = .slice P n cap ∧ (0 < n → ∃ b off, P = some ⟨b, off, none⟩ ∧ ∀ r, r < n → w.cell? ⟨b, off + r, none⟩ = some (.slice (A r) (L r) (C r))) ∧
      (∀ r, r < n → 0 < L r → ∃ b off, A r = some ⟨b, off, none⟩ ∧ ∀ c, c < L r → w.cell? ⟨b, off + c, none⟩ = some (.int .i64 (Z r c))) := by
  obtain ⟨A0, len0, cap0, rfl⟩ := okWide_slice Tryz.underlying22 hv
  obtain ⟨fuel, hf⟩ := h
  rcases open_int_rows Tryz.underlying22 Tryz.underlying26 Tryz.underlying3 (by kernel_rfl) (by kernel_rfl) hf with ⟨hc, -⟩ | ⟨a, len, cap, A, L, C, Z, hcs, hb, hl, hm, hx, hi⟩
  · have hc' : (Value.slice A0 len0 cap0) = .slice none 0 0 := by simpa [Value.cells] using hc
    rw [hc']
    exact ⟨none, 0, 0, fun _ => none, fun _ => 0, fun _ => 0, fun _ _ => 0, rfl, fun h => absurd h (by omega), fun r h => absurd h (by omega)⟩
  · have hc' : (Value.slice A0 len0 cap0) = .slice (some a) len cap := by simpa [Value.cells] using hcs
    rw [hc']
    refine ⟨some a, len, cap, A, L, C, fun r c => (Z r).getD c 0, rfl, fun h0 => ?_, fun r hr hL => ?_⟩
    · have h1 := (hi 0 (by omega)).1
      obtain ⟨b, off, e⟩ := plain_of_cell h1
      have e2 : a = ⟨b, off, none⟩ := by
        obtain ⟨ab, ao, asp⟩ := a
        simp only [Addr.add, Nat.add_zero] at e
        exact e
      subst e2
      refine ⟨b, off, rfl, fun r hr => ?_⟩
      have := (hi r (by omega)).1
      rwa [plain_add] at this
    · obtain ⟨h1, h2, h3, h4, h5, h6, h7⟩ := hi r (by omega)
      cases hA : A r with
      | none => have := h6 hA; omega
      | some a' =>
        obtain ⟨g1, g2⟩ := h7 a' hA
        obtain ⟨b, off, e⟩ := plain_of_cell (g2 0 (by omega))
        have e2 : a' = ⟨b, off, none⟩ := by
          obtain ⟨ab, ao, asp⟩ := a'
          simp only [Addr.add, Nat.add_zero] at e
          exact e
        subst e2
        refine ⟨b, off, rfl, fun c hc => ?_⟩
        have := g2 c (by omega)
        rwa [plain_add] at this
set_option maxRecDepth 100000 in
theorem open_choices {v : Value} {d : DataW H} {p : List MemPlace} {r : Reach} {b0 : Nat} (hv : Value.okWide Tryz.prog w r b0 23 v) (h : DataW.Trod enc Tryz.prog w base (fun _ => true) true 23 v d p) :
    ∃ (Q : Option Addr) (m cap : Nat) (T : Nat → Int), v = .slice Q m cap ∧ (0 < m → ∃ b off, Q = some ⟨b, off, none⟩ ∧ ∀ r, r < m → w.cell? ⟨b, off + r * 2, none⟩ = some (.int .i64 (T r))) := by
  obtain ⟨A0, len0, cap0, rfl⟩ := okWide_slice Tryz.underlying23 hv
  obtain ⟨fuel, hf⟩ := h
  obtain ⟨f0, f1, hs, ho0, ho1, ht0, ht1⟩ : ∃ f0 f1 : Field, Tryz.prog.underlying 32 = some (.struct #[f0, f1]) ∧ f0.offset = 0 ∧ f1.offset = 1 ∧ f0.type = 3 ∧ f1.type = 3 := ⟨_, _, Tryz.underlying32, rfl, rfl, rfl, rfl⟩
  rcases open_slice_pairs Tryz.underlying23 hs (by kernel_rfl) ho0 ho1 (by rw [ht0]; kernel_rfl) (by rw [ht1]; kernel_rfl) hf with ⟨hc, -⟩ | ⟨a, len, cap, m, n, V0, V1, D0, D1, P0, P1, hcs, hb, hl, hm, hmm, hx, hi⟩
  · have hc' : (Value.slice A0 len0 cap0) = .slice none 0 0 := by simpa [Value.cells] using hc
    rw [hc']
    exact ⟨none, 0, 0, fun _ => 0, rfl, fun h => absurd h (by omega)⟩
  · have hc' : (Value.slice A0 len0 cap0) = .slice (some a) len cap := by simpa [Value.cells] using hcs
    rw [hc']
    have hmm' : m = cap := by simpa using hmm
    have hint : ∀ i, i < m → ∃ k : Int, w.cell? (a.add (i * 2)) = some (.int .i64 k) := by
      intro i him
      obtain ⟨h1, h2, h3, h4⟩ := hi i him
      rw [ht0] at h3
      obtain ⟨k, e1, -, -⟩ := DataW.trod_int Tryz.underlying3 h3
      exact ⟨k, by rw [h1]; simpa using e1⟩
    obtain ⟨T, hT⟩ := choose_lt hint
    refine ⟨some a, len, cap, T, rfl, fun h0 => ?_⟩
    obtain ⟨b, off, e⟩ := plain_of_cell (hT 0 (by omega))
    have e2 : a = ⟨b, off, none⟩ := by
      obtain ⟨ab, ao, asp⟩ := a
      simp only [Addr.add, Nat.zero_mul, Nat.add_zero] at e
      exact e
    subst e2
    refine ⟨b, off, rfl, fun r hr => ?_⟩
    have := hT r (by omega)
    rwa [plain_add] at this
end
set_option maxRecDepth 100000 in
theorem happensBefore_lifted (os : Os) (started : os.Started) (H : Type) (enc : TypeId × Value → H) (F : Stop.Interp) :
    ReturnsInHanded { calm := true } Tryz.checked os 3 .any (fun w args => (Rows.happensBeforeSpec.pre enc Tryz.prog Tryz.f3 [] false w args ∧ True) ∧ sizedMet enc Tryz.prog Tryz.f3 (OpenSpec.ofChange Rows.happensBeforeSpec) false w args)
      ((OpenSpec.ofChange Rows.happensBeforeSpec).postWith enc Tryz.prog Tryz.f3 F (outsideKept [.timePasses]) false true false) := by
  refine returns_of_change (C := Tryz.checked) (X := fun _ _ => True) (fun _ _ _ _ h => h) own started (by kernel_rfl) Tryz.func3
    (witness (enc := enc) (C := Tryz.checked) ⟨#[], #[.slice none 0 0, .slice none 0 0, .int .i64 0, .int .i64 0], []⟩ 8 (by kernel_rfl) (by kernel_rfl) (by kernel_rfl) (by kernel_rfl)) ?_
  intro W base args ds gs before hval0 hW _ _ _ hsh
  have hval : ∀ (j : Nat) t v, Tryz.f3.params[j]? = some t → args[j]? = some v → Value.okWide Tryz.prog W .any base t v := hval0
  have hW' := hW
  obtain ⟨p, q, hA0, hV, rfl, _, _⟩ := hW
  have hA : DataW.TrodAll enc Tryz.prog W 0 (fun _ => true) true Tryz.f3.params.toList args.toList ds p := hA0
  rw [Tryz.params3] at hA hval
  obtain ⟨v0, v1, v2, v3, d0, d1, d2, d3, p0, p1, p2, p3, rfl, rfl, rfl, h0, h1, h2, h3⟩ := trodAll_four hA
  obtain ⟨rfl, rfl⟩ := trodVars_none hV
  obtain ⟨P, n, cap, A, L, C, Z, rfl, g1, g2⟩ := open_clocks (hval 0 22 v0 rfl rfl) h0
  obtain ⟨Q, m, cap', T, rfl, g3⟩ := open_choices (hval 1 23 v1 rfl rfl) h1
  obtain ⟨i, rfl, rfl, rfl, wi⟩ := open_int Tryz.underlying3 (hval 2 3 v2 rfl rfl) h2
  obtain ⟨j, rfl, rfl, rfl, wj⟩ := open_int Tryz.underlying3 (hval 3 3 v3 rfl rfl) h3
  clear hA0 hval0
  simp only [List.append_nil] at hW'
  refine (law3 (w := W) (P := P) (n := n) (Q := Q) (m := m) (A := A) (L := L) (C := C) (Z := Z) (T := T) ⟨g1, g2, g3⟩ cap cap' i j).mono fun e W' ⟨he, hb⟩ => ?_
  subst he
  have hs : Since W.heap.size W W' := Since.of_below hb
  exact ⟨_, rfl, ⟨_, _, _, [], p0 ++ (p1 ++ ([] ++ [])), [], hW', trodAll_mk1 (shut_bool Tryz.underlying4 _), trodAll_mk4 (Below.trod laidOut (by kernel_rfl) (of_decide_eq_true (by kernel_rfl)) h0 hs.2 (fun x hx => hW'.lt x (by simp [hx]))) (Below.trod laidOut (by kernel_rfl) (of_decide_eq_true (by kernel_rfl)) h1 hs.2 (fun x hx => hW'.lt x (by simp [hx]))) (shut_int Tryz.underlying3 wi) (shut_int Tryz.underlying3 wj), rfl, by simpa using hs.2.frame (· ∈ (p0 ++ p1 : List MemPlace)), fun h => by cases h⟩, hs.1⟩
end Go.Proofs.YtbaakaaimolagaaGreatDoor

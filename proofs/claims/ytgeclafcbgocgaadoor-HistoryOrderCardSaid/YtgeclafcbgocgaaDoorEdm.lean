/- A set of edges as a map in memory. -/
import Derived.Test.YtgeclafcbgocgaaDoorBok
import Derived.DeepKeys4
namespace Go.Proofs.YtgeclafcbgocgaaDoor
open Go.RowKit Go.Maps
set_option maxRecDepth 100000
theorem laidOut40 : laidOutB Tryd.prog = true := by kernel_rfl
theorem row40 : (40 : TypeId) < Tryd.prog.types.size := of_decide_eq_true (by kernel_rfl)
theorem wide40 : (match Tryd.prog.underlying 40 with | some (.array _ _) | some (.struct _) => true | _ => false) = true := by kernel_rfl
theorem kt40 : Tryd.prog.keyTypeAt 2 40 = true := by kernel_rfl
set_option maxRecDepth 100000 in
theorem law40 : Keyed Tryd.prog 40 := Keyed.of_law (deep_law_laid laidOut40 (m := 2) (by omega) row40 kt40 wide40)
theorem types_succ : ∃ m, Tryd.prog.types.size = m + 1 := by
  obtain ⟨n, hn⟩ : ∃ n, Tryd.prog.types.size = n := ⟨_, rfl⟩
  have h := row40
  rw [hn] at h
  exact ⟨n - 1, by rw [hn]; have : 40 < n := h; omega⟩
theorem key40 {x y : Int} (hx : (Lit.int .i64 x).wf = true) (hy : (Lit.int .i64 y).wf = true) : ∃ kl, keyOf Tryd.prog 40 (.agg #[.int .i64 x, .int .i64 y]) = some kl := by
  have hc : Tryd.prog.cellsOf 40 = 2 := by kernel_rfl
  have hc3 : Tryd.prog.cellsOf 3 = 1 := by kernel_rfl
  have hf : (Value.agg #[.int .i64 x, .int .i64 y]).formed Tryd.prog 40 = true := by simp [Value.formed, Tryd.underlying40, hc]
  have hk : Tryd.prog.keyType 40 = true := by kernel_rfl
  obtain ⟨m, hm⟩ := types_succ
  unfold keyOf
  simp only [Tryd.underlying40, hk, hf, hm, Bool.and_self, if_true]
  unfold Program.keyLits
  simp only [Tryd.underlying40]
  have hi : ∀ z : Int, (Lit.int .i64 z).wf = true → Tryd.prog.keyLits (m + 1) 3 [.int .i64 z] = some [.int .i64 z] := by
    intro z hz
    unfold Program.keyLits
    simp [Tryd.underlying3, hz]
  simp [Value.cells, hc, hc3, hi x hx, hi y hy]
def MapE (b : Nat) (E : List (Int × Int)) (W : World) : Prop := ∃ (D : DM) (n : Nat), W.ownsMap Tryd.prog 40 (plainElem Tryd.prog 4) b n D ∧ n ≤ E.length ∧ Maps.size D = E.length ∧
  ∀ x y kl, keyOf Tryd.prog 40 (.agg #[.int .i64 x, .int .i64 y]) = some kl → D.atKey kl (.lit (.bool false)) = .lit (.bool (decide ((x, y) ∈ E))) ∧ Maps.has D kl = decide ((x, y) ∈ E)
theorem mapE_made (w : World) : MapE w.heap.size [] (w.alloc (.map #[] 0)) := by
  refine ⟨.map [], 0, World.ownsMap_made _ _ _ _, Nat.le_refl _, rfl, fun x y kl _ => ⟨?_, ?_⟩⟩
  · simp [DataW.atKey]
  · simp [Maps.has]
theorem MapE.kept {b : Nat} {E : List (Int × Int)} {w w' : World} {row : Option Nat} (h : MapE b E w) (hg : w.grownBy w' row) (hne : some b ≠ row) : MapE b E w' := by
  obtain ⟨D, n, h1, h2, h3⟩ := h
  exact ⟨D, n, h1.kept hg hne, h2, h3⟩
theorem MapE.below {b : Nat} {E : List (Int × Int)} {w w' : World} (h : MapE b E w) (hb : Below w.heap.size w w') : MapE b E w' := h.kept (grownBy_below hb) (by simp)
theorem MapE.lt {b : Nat} {E : List (Int × Int)} {w : World} (h : MapE b E w) : b < w.heap.size := by
  obtain ⟨D, n, h1, -⟩ := h
  exact h1.lt
theorem zero4 (w : World) : (zeroValue 4).run Tryd.prog w = .ok (.bool false) w := by kernel_rfl
theorem pair_inj {x y x' y' : Int} {kl : Lit} (h1 : keyOf Tryd.prog 40 (.agg #[.int .i64 x, .int .i64 y]) = some kl) (h2 : keyOf Tryd.prog 40 (.agg #[.int .i64 x', .int .i64 y']) = some kl) : (x, y) = (x', y') := by
  have := law40.inj h1 h2
  injection this with h
  have h' : [Value.int IntKind.i64 x, .int .i64 y] = [.int .i64 x', .int .i64 y'] := congrArg Array.toList h
  simp only [List.cons.injEq, Value.int.injEq, true_and, and_true] at h'
  rw [h'.1, h'.2]
theorem MapE.put {b : Nat} {E : List (Int × Int)} {W : World} (h : MapE b E W) {x y : Int} (hx : (Lit.int .i64 x).wf = true) (hy : (Lit.int .i64 y).wf = true) (hn : (x, y) ∉ E) (hl : E.length < 100000) :
    ∃ w', (Instr.mapUpdate 38 (.map (some b)) (.agg #[.int .i64 x, .int .i64 y]) (.bool true)).run Tryd.prog W = .ok () w' ∧ MapE b (E ++ [(x, y)]) w' ∧ W.grownBy w' (some b) := by
  obtain ⟨D, n, h1, h2, h3, h4⟩ := h
  obtain ⟨kl, hk⟩ := key40 hx hy
  obtain ⟨w', hr, ho, hg⟩ := h1.update law40 Tryd.underlying38 (by unfold maxLen; omega) hk (plainElem_bool Tryd.underlying4 true)
  refine ⟨w', hr, ⟨_, _, ho, by simp; omega, ?_, ?_⟩, hg⟩
  · rw [Maps.size_put (h1.tidy law40), (h4 x y kl hk).2, decide_eq_false hn, h3]
    simp
  · intro x' y' kl' hk'
    by_cases e : (x', y') = (x, y)
    · obtain ⟨rfl, rfl⟩ : x' = x ∧ y' = y := by simpa using e
      rw [hk] at hk'
      obtain rfl := Option.some.inj hk'
      rw [Maps.atKey_put_same h1.isMap (law40.key hk), Maps.has_put_same h1.isMap (law40.key hk)]
      simp
    · have hne : kl' ≠ kl := fun e2 => e (pair_inj (e2 ▸ hk') hk)
      rw [Maps.atKey_put_other hne, Maps.has_put_other hne]
      obtain ⟨g1, g2⟩ := h4 x' y' kl' hk'
      rw [g1, g2]
      have : decide ((x', y') ∈ E ++ [(x, y)]) = decide ((x', y') ∈ E) := by
        rw [decide_eq_decide, List.mem_append, List.mem_singleton]
        exact ⟨fun h => h.resolve_right e, .inl⟩
      rw [this]
      exact ⟨rfl, rfl⟩
theorem MapE.look {b : Nat} {E : List (Int × Int)} {W : World} (h : MapE b E W) {x y : Int} (hx : (Lit.int .i64 x).wf = true) (hy : (Lit.int .i64 y).wf = true) :
    (Instr.lookup 38 (.map (some b)) (.agg #[.int .i64 x, .int .i64 y]) false).run Tryd.prog W = .ok (.bool (decide ((x, y) ∈ E))) W := by
  obtain ⟨D, n, h1, h2, h3, h4⟩ := h
  obtain ⟨kl, hk⟩ := key40 hx hy
  obtain ⟨v, ps, hr, hv⟩ := h1.lookup law40 Tryd.underlying38 (zero4 W) (plainElem_bool Tryd.underlying4 false) hk
  rw [(h4 x y kl hk).1] at hv
  rw [hr]
  have : v = .bool (decide ((x, y) ∈ E)) := by
    unfold plainElem at hv
    rw [Tryd.underlying4] at hv
    cases v <;> simp at hv
    rw [hv.1]
  rw [this]
theorem MapE.len {b : Nat} {E : List (Int × Int)} {W : World} (h : MapE b E W) : (Builtin.len_ #[38] 3 #[.map (some b)]).run Tryd.prog W = .ok (.int .i64 E.length) W := by
  obtain ⟨D, n, h1, h2, h3, h4⟩ := h
  rw [h1.len Tryd.underlying38, h3]
end Go.Proofs.YtgeclafcbgocgaaDoor

/- A part of the proof that nurserylaw36.HappensBefore returns true for every input. -/
import Derived.Test.YtbaakaaimolagaaGreatDoorProg
import Derived.WalkKit
import Derived.WalkSpells
import Derived.WalkLawsBesides
namespace Go.Proofs.Seat4
open Go.RowKit
theorem bcell {W w1 : World} (hb : Below W.heap.size W w1) : (∀ b o, b < W.heap.size → w1.cell? ⟨b, o, none⟩ = W.cell? ⟨b, o, none⟩) ∧ (∀ b o, b < W.heap.size → w1.frozen? ⟨b, o, none⟩ = W.frozen? ⟨b, o, none⟩) :=
  ⟨fun b o h => hb.cell (p := ⟨b, o, none⟩) h, fun b o h => hb.frozen (p := ⟨b, o, none⟩) h⟩
/-- From a place on, the cells hold these values. -/
def Row (w : World) (b off : Nat) (cs : List Value) : Prop := ∀ j v, cs[j]? = some v → w.cell? ⟨b, off + j, none⟩ = some v
theorem plain_add (b off n : Nat) : (⟨b, off, none⟩ : Addr).add n = ⟨b, off + n, none⟩ := by unfold Addr.add; split <;> simp_all
theorem Row.below {w w' : World} {b off : Nat} {cs : List Value} {B : Nat} (h : Row w b off cs) (hb : Below B w w') (ha : b < B) : Row w' b off cs :=
  fun j v hj => (hb.cell (p := ⟨b, off + j, none⟩) ha).trans (h j v hj)
theorem Row.alloc {w : World} {b off : Nat} {cs : List Value} (h : Row w b off cs) (ha : b < w.heap.size) (o : Obj) : Row (w.alloc o) b off cs :=
  h.below ((Below.refl w.heap.size w).alloc (Nat.le_refl _) o) ha
theorem Row.lt {w : World} {b off : Nat} {cs : List Value} (h : Row w b off cs) (hne : cs ≠ []) : b < w.heap.size := by
  obtain ⟨c, r, rfl⟩ := List.exists_cons_of_ne_nil hne
  exact World.block_lt_of_cell? w ⟨b, off + 0, none⟩ (h 0 c rfl)
theorem Row.drop {w : World} {b off : Nat} {cs : List Value} (h : Row w b off cs) (n : Nat) : Row w b (off + n) (cs.drop n) := by
  intro j v hj
  rw [Nat.add_assoc]
  exact h (n + j) v (by simpa using hj)
theorem Row.take {w : World} {b off : Nat} {cs : List Value} (h : Row w b off cs) (n : Nat) : Row w b off (cs.take n) := by
  intro j v hj
  rw [List.getElem?_take] at hj
  split at hj
  · exact h j v hj
  · cases hj
theorem Row.append {w : World} {b off : Nat} {cs ds : List Value} (h : Row w b off (cs ++ ds)) : Row w b off cs ∧ Row w b (off + cs.length) ds := by
  refine ⟨?_, ?_⟩
  · have := h.take cs.length; simpa using this
  · have := h.drop cs.length; simpa using this
section
variable {P : Program}
theorem run_loadVar_agg (w : World) (b off : Nat) (ty : TypeId) (cs : List Value) (d : TypeDesc) (hc : Row w b off cs)
    (hu : P.underlying ty = some d) (hd : (match d with | .struct _ | .array _ _ => true | _ => false) = true) (hi : (P.info? ty).map (·.size) = some cs.length) :
    (loadVar ty ⟨b, off, none⟩).run P w = .ok (.agg cs.toArray) w := by
  have hl : (loadCells ⟨b, off, none⟩ cs.length).run P w = .ok cs.toArray w := run_loadCells_list (P := P) w ⟨b, off, none⟩ cs (fun j v hj => by rw [plain_add]; exact hc j v hj)
  cases hq : P.info? ty with
  | none => simp [hq] at hi
  | some i =>
    have hs : i.size = cs.length := by simpa [hq] using hi
    have hagg : (isAgg ty).run P w = .ok true w := by
      unfold isAgg
      rw [Sem.run_bind, run_underlying hu w]
      cases d <;> simp_all
    simp [loadVar, Sem.run_bind, hagg, sizeOf, typeInfo, hq, hs, hl]
theorem wpList_load_agg {ops : Array Oper} {rest : List Oper} {o : Oper} {a : Act} {w : World} {Q : Exit → Act → World → Prop} (hgd : o.guard = none) (ty : TypeId) (x : Operand) (ho : o.op = .load ty x)
    (b off : Nat) (hx : a.eval x = .pointer (some ⟨b, off, none⟩)) (cs : List Value) (hc : Row w b off cs) (d : TypeDesc)
    (hu : P.underlying ty = some d) (hd : (match d with | .struct _ | .array _ _ => true | _ => false) = true) (hi : (P.info? ty).map (·.size) = some cs.length)
    (h : wpList P ops Q rest (a.put o.dst (.agg cs.toArray)) w) : wpList P ops Q (o :: rest) a w :=
  wpList_plain hgd fun K hK => by
    unfold Oper.wp execOp
    simp only [ho, hx, Instr.loadAt, Instr.sureAddr, Sem.run_bind, Sem.run_pure, Result.andThen_ok, run_loadVar_agg w b off ty cs d hc hu hd hi]
    exact hK _ _ h
theorem wpList_load_one {ops : Array Oper} {rest : List Oper} {o : Oper} {a : Act} {w : World} {Q : Exit → Act → World → Prop} (hgd : o.guard = none) (ty : TypeId) (x : Operand) (ho : o.op = .load ty x)
    (ad : Addr) (hx : a.eval x = .pointer (some ad)) (v : Value) (hc : w.cell? ad = some v) (d : TypeDesc)
    (hu : P.underlying ty = some d) (hd : (match d with | .struct _ | .array _ _ => true | _ => false) = false)
    (h : wpList P ops Q rest (a.put o.dst v) w) : wpList P ops Q (o :: rest) a w :=
  wpList_plain hgd fun K hK => by
    have hagg : (isAgg ty).run P w = .ok false w := by
      unfold isAgg
      rw [Sem.run_bind, run_underlying hu w]
      cases d <;> simp_all
    have hrun : (loadVar ty ad).run P w = .ok v w := by
      unfold loadVar
      rw [Sem.run_bind, hagg]
      simp [load, Sem.run, hc]
    unfold Oper.wp execOp
    simp only [ho, hx, Instr.loadAt, Instr.sureAddr, Sem.run_bind, Sem.run_pure, Result.andThen_ok, hrun]
    exact hK _ _ h
/-- What append asks of a slice's type and of its elements' type. -/
structure ElemT (P : Program) (t e size bytes : Nat) : Prop where
  ht : P.underlying t = some (.slice e)
  hi : ∃ i z, P.info? e = some i ∧ i.zero = some z ∧ i.size = size ∧ i.bytes = bytes ∧ z.cells.size = size
  hsz : 0 < size
theorem ElemT.mk' {t e size bytes : Nat} {z : Value} (ht : P.underlying t = some (.slice e)) (h : (P.info? e).map (fun i => (i.zero, i.size, i.bytes)) = some (some z, size, bytes)) (hz : z.cells.size = size) (hs : 0 < size) : ElemT P t e size bytes := by
  obtain ⟨i, hi, h0, h1, h2⟩ := info_parts h
  exact ⟨ht, ⟨i, z, hi, h0, h1, h2, hz⟩, hs⟩
/-- 'append(s, x)' where s is the call's own and x lies alone in a new block. -/
theorem wpList_app {ops : Array Oper} {rest : List Oper} {o : Oper} {a : Act} {w : World} {Q : Exit → Act → World → Prop} (hgd : o.guard = none) (s x : Operand) (t : TypeId)
    (ho : o.op = .call { callee := .builtin .append, args := #[s, x], argTypes := #[t, t] })
    (base : Nat) (e : TypeId) (size bytes : Nat) (T : ElemT P t e size bytes) (v : Value) (n : Nat) (xs : List Value) (hs : a.eval s = v) (hown : w.ownsRow base e size v n xs)
    (g : Nat) (news : List Value) (hx : a.eval x = .slice (some ⟨g, 0, none⟩) 1 1) (hl : news.length = size) (hnews : Row w g 0 news) (h1 : ∀ u ∈ news, u.oneCell' = true)
    (hm : n + 1 ≤ 1048576) (hbytes : bytes ≤ 1048576) (hbase : base ≤ w.heap.size)
    (h : ∀ v' w', w'.ownsRow base e size v' (n + 1) (xs ++ news) → w.grownBy w' v.ownBlock → wpList P ops Q rest (a.put o.dst v') w') : wpList P ops Q (o :: rest) a w := by
  obtain ⟨ht, ⟨i, z, hi, hz, hsize, hby, hzs⟩, hsz⟩ := T
  refine wpList_append_own w hgd s x t ho base e i z size bytes ht hi hz hsize hby hzs hsz v n xs hs hown ⟨g, 0, none⟩ 1 1 news hx (by omega) (fun j u hj => by rw [plain_add]; exact hnews j u hj) h1 (by unfold maxLen; omega) ?_ hbase (fun v' w' h2 h3 _ => h v' w' h2 h3)
  calc (n + 1) * bytes ≤ 1048576 * 1048576 := Nat.mul_le_mul hm hbytes
    _ ≤ _ := by omega
end
theorem Row.new (w : World) (cs : Array Value) (t : TypeId) (n : Nat) (hn : n = w.heap.size) : Row (w.alloc (.cells cs t)) n 0 cs.toList := by
  subst hn
  intro j v hj
  have := cell_of_row (w.alloc (.cells cs t)) w.heap.size (0 + j) cs t (0, 0) (heap_alloc_new w _)
  rw [this]
  simpa using hj
/-- A slice that is the call's own: what it holds, and where. -/
theorem ownsRow_row {w : World} {base e size n : Nat} {v : Value} {xs : List Value} (h : w.ownsRow base e size v n xs) :
    (v = .slice none 0 0 ∧ n = 0 ∧ xs = []) ∨ ∃ g cap, v = .slice (some ⟨g, 0, none⟩) n cap ∧ base ≤ g ∧ g < w.heap.size ∧ n ≤ cap ∧ Row w g 0 xs := by
  rcases h.2 with ⟨rfl, rfl⟩ | ⟨g, cap, cur, rfl, hb, hg, hn, hm, hs, ht⟩
  · exact .inl ⟨rfl, rfl, List.eq_nil_of_length_eq_zero (by simpa using h.1)⟩
  · refine .inr ⟨g, cap, rfl, hb, (Array.getElem?_eq_some_iff.1 hg).1, hn, fun j u hj => ?_⟩
    have := h.cells (g := g) rfl j u hj
    rwa [plain_add] at this
end Go.Proofs.Seat4

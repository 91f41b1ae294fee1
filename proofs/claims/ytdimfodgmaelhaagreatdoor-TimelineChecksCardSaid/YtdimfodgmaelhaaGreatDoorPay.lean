/- A part of the proof. -/
import Derived.Tactics2
import Derived.Maps.RangeWalk
import Derived.Test.YtdimfodgmaelhaaGreatDoorProg
import Derived.WalkKit
import Derived.WalkSpells
import Derived.WalkLawsBesides
import Derived.Lib.ItoaLen
import Derived.Lib.Hide
import Derived.Orders
set_option linter.all false
section
namespace Go.Proofs.Seat9
open Go.RowKit
section
variable {P : Program}
variable {ops : Array Oper} {rest : List Oper} {o : Oper} {a : Act} {w : World} {Q : Exit → Act → World → Prop}
theorem run_getObj_any {w : World} {m : Nat} {ob : Obj} (h : w.heap[m]? = some ob) (hc : ∀ c t g, ob ≠ .cells c t g) : (getObj m).run P w = .ok ob w := by
 cases ob <;> first | exact absurd rfl (hc _ _ _) | simp [getObj, Sem.run, h]
theorem run_setObj_any {w : World} {m : Nat} {ob o' : Obj} (h : w.heap[m]? = some ob) (hc : ∀ c t g, ob ≠ .cells c t g) : (setObj m o').run P w = .ok () { w with heap := w.heap.setIfInBounds m o' } := by
 cases ob <;> first | exact absurd rfl (hc _ _ _) | simp [setObj, Sem.run, h]
theorem choose_next (w : World) (n : Nat) (hn : 1 ≤ n) : ∃ c w', c < n ∧ (choose (.mapNext n)).run P w = .ok c w' ∧ w'.heap = w.heap ∧ w'.os = w.os ∧ w'.tape = w.tape ∧ w'.output = w.output := by
 by_cases h : n ≤ 1
 ·refine ⟨0, w, by omega, ?_, rfl, rfl, rfl, rfl⟩
  simp [choose, Sem.run, Question.forced, h]
 ·refine ⟨_, { w with drawn := w.drawn + 1 }, Nat.mod_lt (w.tape w.drawn (.mapNext n)) (by omega), ?_, rfl, rfl, rfl, rfl⟩
  simp [choose, Sem.run, Question.forced, h, Question.cut]
theorem run_next_del {r b clock : Nat} {es : List MapEntry} {seen : Array Nat} (hM : w.heap[b]? = some (.map es.toArray clock)) (hlt : ∀ e ∈ es, e.born < clock) (hI : w.heap[r]? = some (.mapIter (some b) clock seen clock)) (ty : TypeId) :
 (∃ w', (Instr.next (.pointer (some ⟨r, 0, none⟩)) false ty).run P w = .ok (.tuple #[.bool false]) w' ∧ (∀ e ∈ es, e.born ∈ seen) ∧ (∀ i : Nat, w'.heap[i]? = w.heap[i]?) ∧ Below w.heap.size w w') ∨
 (∃ e w', e ∈ es ∧ e.born ∉ seen ∧ (Instr.next (.pointer (some ⟨r, 0, none⟩)) false ty).run P w = .ok (.tuple #[.bool true, e.key, e.val]) w' ∧ w'.heap[r]? = some (.mapIter (some b) clock (seen.push e.born) clock) ∧ Below r w w' ∧ w'.heap.size = w.heap.size ∧ (∀ i : Nat, i ≠ r → w'.heap[i]? = w.heap[i]?)) := by
 have hgo : (getObj r).run P w = .ok (.mapIter (some b) clock seen clock) w := run_getObj_any hI (fun _ _ _ => by intro e; cases e)
 have hall : es.toArray.all (·.born ≥ clock) = true → es = [] := by
  intro h
  cases es with
  | nil => rfl
  | cons e r =>
    have := hlt e (by simp)
    simp at h
    omega
 have hno : ((!seen.isEmpty && !es.toArray.isEmpty && es.toArray.all (·.born ≥ clock)) = true) = False := by
  simp only [eq_iff_iff, iff_false, Bool.and_eq_true, not_and]
  rintro ⟨_, h2⟩ h3
  rw [hall h3] at h2
  simp at h2
 have hold : ∀ f : MapEntry → Bool, ((es.toArray.filter f).filter (·.born < clock)) = es.toArray.filter f := by
  intro f
  rw [Array.filter_eq_self]
  intro x hx
  have := hlt x (by simpa using (Array.mem_filter.1 hx).1)
  simpa using this
 have hnew : ∀ f : MapEntry → Bool, ((es.toArray.filter f).filter (·.born ≥ clock)) = #[] := by
  intro f
  rw [Array.filter_eq_empty_iff]
  intro x hx
  have := hlt x (by simpa using (Array.mem_filter.1 hx).1)
  simp
  omega
 unfold Instr.next
 simp only [Sem.run_bind, hgo, Result.andThen_ok, run_getObj_any hM (fun _ _ _ => by intro e; cases e), hno, if_false, hold, hnew, Sem.run_pure, Array.append_empty]
 generalize hL : es.toArray.filter (fun e => !seen.contains e.born) = L
 have hLm : ∀ x, x ∈ L ↔ x ∈ es ∧ x.born ∉ seen := by
  intro x
  rw [← hL]
  simp
 by_cases hLe : L = #[]
 ·subst hLe
  obtain ⟨c, w', hc, hrun, h1, h2, h3, h4⟩ := choose_next (P := P) w 1 (by omega)
  have hc0 : c = 0 := by omega
  subst hc0
  refine .inl ⟨w', ?_, fun e he => ?_, fun i => by rw [h1], ⟨h2, h3, h4, by rw [h1]; exact Nat.le_refl _, fun k _ => by rw [h1]⟩⟩
  ·simp only [Array.isEmpty_empty, if_true, List.map_toArray, List.map_nil, Array.append_empty]
   rw [show (#[none] : Array (Option MapEntry)).size = 1 from rfl, hrun]
   rfl
  ·apply Classical.byContradiction
   intro hns
   have := (hLm e).2 ⟨he, hns⟩
   simp at this
 ·have hpos : 1 ≤ L.size := by
   rcases Nat.eq_zero_or_pos L.size with h | h
   ·exact absurd (Array.eq_empty_of_size_eq_zero h) hLe
   ·exact h
  have hie : L.isEmpty = false := by simpa using hLe
  obtain ⟨c, w', hc, hrun, h1, h2, h3, h4⟩ := choose_next (P := P) w L.size hpos
  have hmem := (hLm L[c]).1 (Array.getElem_mem hc)
  have hIw : w'.heap[r]? = some (.mapIter (some b) clock seen clock) := by rw [h1]; exact hI
  have hltr : r < w.heap.size := (Array.getElem?_eq_some_iff.1 hI).1
  refine .inr ⟨L[c], { w' with heap := w'.heap.setIfInBounds r (.mapIter (some b) clock (seen.push L[c].born) clock) }, hmem.1, hmem.2, ?_, ?_, ?_, ?_, ?_⟩
  ·simp only [hie, Bool.false_eq_true, if_false, Array.empty_append, Array.size_map]
   rw [hrun]
   simp only [Result.andThen_ok, Array.getElem?_map, Array.getElem?_eq_getElem hc, Option.map_some, Sem.run_bind, run_setObj_any hIw (fun _ _ _ => by intro e; cases e), Sem.run_pure]
  ·rw [Array.getElem?_setIfInBounds, if_pos rfl, if_pos (by rw [h1]; exact hltr)]
  ·exact ⟨h2, h3, h4, by simp [h1], fun k hk => by simp [show ¬ r = k from by omega, h1]⟩
  ·simp [h1]
  ·intro i hi
   simp [show ¬ r = i from fun e => hi e.symm, h1]
theorem run_entry_del {r b clock : Nat} {es : List MapEntry} {seen : Array Nat} {e : MapEntry} (hM : w.heap[b]? = some (.map es.toArray clock)) (he : e ∈ es) (hu : ∀ x ∈ es, x.born = e.born → x = e) (hI : w.heap[r]? = some (.mapIter (some b) clock (seen.push e.born) clock)) :
 (Instr.entry (.pointer (some ⟨r, 0, none⟩))).run P w = .ok (.tuple #[e.key, e.val]) w := by
 have hgo : (getObj r).run P w = .ok (.mapIter (some b) clock (seen.push e.born) clock) w := run_getObj_any hI (fun _ _ _ => by intro e; cases e)
 have hfind : es.toArray.find? (fun x => x.born == e.born) = some e := by
  rw [List.find?_toArray]
  cases hf : es.find? (fun x => x.born == e.born) with
  | none =>
    have := List.find?_eq_none.1 hf e he
    simp at this
  | some x =>
    have h1 := List.find?_some hf
    have h2 := List.mem_of_find?_eq_some hf
    rw [hu x h2 (by simpa using h1)]
 unfold Instr.entry
 simp only [Sem.run_bind, hgo, Result.andThen_ok, Array.back?_push, run_getObj_any hM (fun _ _ _ => by intro e; cases e), hfind, Sem.run_pure, bne_self_eq_false, Bool.false_eq_true, if_false]
end
end Go.Proofs.Seat9
end
section
namespace Go.Proofs.Seat4
open Go.RowKit
def Row (w : World) (b off : Nat) (cs : List Value) : Prop := ∀ j v, cs[j]? = some v → w.cell? ⟨b, off + j, none⟩ = some v
theorem plain_add (b off n : Nat) : (⟨b, off, none⟩ : Addr).add n = ⟨b, off + n, none⟩ := by unfold Addr.add; split <;> simp_all
theorem Row.below {w w' : World} {b off : Nat} {cs : List Value} {B : Nat} (h : Row w b off cs) (hb : Below B w w') (ha : b < B) : Row w' b off cs :=
 fun j v hj => (hb.cell (p := ⟨b, off + j, none⟩) ha).trans (h j v hj)
theorem Row.alloc {w : World} {b off : Nat} {cs : List Value} (h : Row w b off cs) (ha : b < w.heap.size) (o : Obj) : Row (w.alloc o) b off cs :=
 h.below ((Below.refl w.heap.size w).alloc (Nat.le_refl _) o) ha
theorem Row.lt {w : World} {b off : Nat} {cs : List Value} (h : Row w b off cs) (hne : cs ≠ []) : b < w.heap.size := by
 obtain ⟨c, r, rfl⟩ := List.exists_cons_of_ne_nil hne
 exact World.block_lt_of_cell? w ⟨b, off + 0, none⟩ (h 0 c rfl)
theorem Row.drop {w : World} {b off : Nat} {cs : List Value} (h : Row w b off cs) (n : Nat) : Row w b (off + n) (cs.drop n) := by
 intro j v hj
 rw [Nat.add_assoc]
 exact h (n + j) v (by simpa using hj)
theorem Row.take {w : World} {b off : Nat} {cs : List Value} (h : Row w b off cs) (n : Nat) : Row w b off (cs.take n) := by
 intro j v hj
 rw [List.getElem?_take] at hj
 split at hj
 ·exact h j v hj
 ·cases hj
theorem Row.append {w : World} {b off : Nat} {cs ds : List Value} (h : Row w b off (cs ++ ds)) : Row w b off cs ∧ Row w b (off + cs.length) ds := by
 refine ⟨?_, ?_⟩
 ·have := h.take cs.length; simpa using this
 ·have := h.drop cs.length; simpa using this
section
variable {P : Program}
theorem run_loadVar_agg (w : World) (b off : Nat) (ty : TypeId) (cs : List Value) (d : TypeDesc) (hc : Row w b off cs)
 (hu : P.underlying ty = some d) (hd : (match d with | .struct _ | .array _ _ => true | _ => false) = true) (hi : (P.info? ty).map (·.size) = some cs.length) :
 (loadVar ty ⟨b, off, none⟩).run P w = .ok (.agg cs.toArray) w := by
 have hl : (loadCells ⟨b, off, none⟩ cs.length).run P w = .ok cs.toArray w := run_loadCells_list (P := P) w ⟨b, off, none⟩ cs (fun j v hj => by rw [plain_add]; exact hc j v hj)
 cases hq : P.info? ty with
 | none => simp [hq] at hi
 | some i =>
   have hs : i.size = cs.length := by simpa [hq] using hi
   have hagg : (isAgg ty).run P w = .ok true w := by
    unfold isAgg
    rw [Sem.run_bind, run_underlying hu w]
    cases d <;> simp_all
   simp [loadVar, Sem.run_bind, hagg, sizeOf, typeInfo, hq, hs, hl]
theorem wpList_load_agg {ops : Array Oper} {rest : List Oper} {o : Oper} {a : Act} {w : World} {Q : Exit → Act → World → Prop} (hgd : o.guard = none) (ty : TypeId) (x : Operand) (ho : o.op = .load ty x)
 (b off : Nat) (hx : a.eval x = .pointer (some ⟨b, off, none⟩)) (cs : List Value) (hc : Row w b off cs) (d : TypeDesc)
 (hu : P.underlying ty = some d) (hd : (match d with | .struct _ | .array _ _ => true | _ => false) = true) (hi : (P.info? ty).map (·.size) = some cs.length)
 (h : wpList P ops Q rest (a.put o.dst (.agg cs.toArray)) w) : wpList P ops Q (o :: rest) a w :=
 wpList_plain hgd fun K hK => by
  unfold Oper.wp execOp
  simp only [ho, hx, Instr.loadAt, Instr.sureAddr, Sem.run_bind, Sem.run_pure, Result.andThen_ok, run_loadVar_agg w b off ty cs d hc hu hd hi]
  exact hK _ _ h
structure ElemT (P : Program) (t e size bytes : Nat) : Prop where
 ht : P.underlying t = some (.slice e)
 hi : ∃ i z, P.info? e = some i ∧ i.zero = some z ∧ i.size = size ∧ i.bytes = bytes ∧ z.cells.size = size
 hsz : 0 < size
theorem ElemT.mk' {t e size bytes : Nat} {z : Value} (ht : P.underlying t = some (.slice e)) (h : (P.info? e).map (fun i => (i.zero, i.size, i.bytes)) = some (some z, size, bytes)) (hz : z.cells.size = size) (hs : 0 < size) : ElemT P t e size bytes := by
 obtain ⟨i, hi, h0, h1, h2⟩ := info_parts h
 exact ⟨ht, ⟨i, z, hi, h0, h1, h2, hz⟩, hs⟩
theorem wpList_app {ops : Array Oper} {rest : List Oper} {o : Oper} {a : Act} {w : World} {Q : Exit → Act → World → Prop} (hgd : o.guard = none) (s x : Operand) (t : TypeId)
 (ho : o.op = .call { callee := .builtin .append, args := #[s, x], argTypes := #[t, t] })
 (base : Nat) (e : TypeId) (size bytes : Nat) (T : ElemT P t e size bytes) (v : Value) (n : Nat) (xs : List Value) (hs : a.eval s = v) (hown : w.ownsRow base e size v n xs)
 (g : Nat) (news : List Value) (hx : a.eval x = .slice (some ⟨g, 0, none⟩) 1 1) (hl : news.length = size) (hnews : Row w g 0 news) (h1 : ∀ u ∈ news, u.oneCell' = true)
 (hm : n + 1 ≤ 1048576) (hbytes : bytes ≤ 1048576) (hbase : base ≤ w.heap.size)
 (h : ∀ v' w', w'.ownsRow base e size v' (n + 1) (xs ++ news) → w.grownBy w' v.ownBlock → wpList P ops Q rest (a.put o.dst v') w') : wpList P ops Q (o :: rest) a w := by
 obtain ⟨ht, ⟨i, z, hi, hz, hsize, hby, hzs⟩, hsz⟩ := T
 refine wpList_append_own w hgd s x t ho base e i z size bytes ht hi hz hsize hby hzs hsz v n xs hs hown ⟨g, 0, none⟩ 1 1 news hx (by omega) (fun j u hj => by rw [plain_add]; exact hnews j u hj) h1 (by unfold maxLen; omega) ?_ hbase (fun v' w' h2 h3 _ => h v' w' h2 h3)
 calc (n + 1) * bytes ≤ 1048576 * 1048576 := Nat.mul_le_mul hm hbytes
  _ ≤ _ := by omega
end
theorem Row.new (w : World) (cs : Array Value) (t : TypeId) (n : Nat) (hn : n = w.heap.size) : Row (w.alloc (.cells cs t)) n 0 cs.toList := by
 subst hn
 intro j v hj
 have := cell_of_row (w.alloc (.cells cs t)) w.heap.size (0 + j) cs t (0, 0) (heap_alloc_new w _)
 rw [this]
 simpa using hj
theorem ownsRow_row {w : World} {base e size n : Nat} {v : Value} {xs : List Value} (h : w.ownsRow base e size v n xs) :
 (v = .slice none 0 0 ∧ n = 0 ∧ xs = []) ∨ ∃ g cap, v = .slice (some ⟨g, 0, none⟩) n cap ∧ base ≤ g ∧ g < w.heap.size ∧ n ≤ cap ∧ Row w g 0 xs := by
 rcases h.2 with ⟨rfl, rfl⟩ | ⟨g, cap, cur, rfl, hb, hg, hn, hm, hs, ht⟩
 ·exact .inl ⟨rfl, rfl, List.eq_nil_of_length_eq_zero (by simpa using h.1)⟩
 ·refine .inr ⟨g, cap, rfl, hb, (Array.getElem?_eq_some_iff.1 hg).1, hn, fun j u hj => ?_⟩
  have := h.cells (g := g) rfl j u hj
  rwa [plain_add] at this
end Go.Proofs.Seat4
end
section
namespace Go.Proofs.Seat9
open Go.RowKit Go.Proofs.Seat4
section
variable {α : Type}
structure Enc (α : Type) where
 cells : α → List Value
 size : Nat
 len : ∀ x, (cells x).length = size
 one : ∀ x, ∀ u ∈ cells x, u.oneCell' = true
variable {α : Type}
def Enc.all (E : Enc α) (l : List α) : List Value := l.flatMap E.cells
theorem Enc.all_len (E : Enc α) (l : List α) : (E.all l).length = l.length * E.size := by
 induction l with
 | nil => simp [Enc.all]
 | cons e l ih =>
   show (E.cells e ++ E.all l).length = _
   rw [List.length_append, ih, E.len, List.length_cons, Nat.succ_mul, Nat.add_comm]
def LAt (E : Enc α) (w : World) (b off : Nat) (l : List α) : Prop := ∀ k (h : k < l.length), Row w b (off + k * E.size) (E.cells l[k])
theorem LAt.below {E : Enc α} {w w' : World} {b off B : Nat} {l : List α} (h : LAt E w b off l) (hb : Below B w w') (hB : b < B) : LAt E w' b off l := fun k hk => (h k hk).below hb hB
theorem lAt_of_row {E : Enc α} {w : World} {b : Nat} : ∀ {l : List α} {off : Nat}, Row w b off (E.all l) → LAt E w b off l
 | [], _, _ => fun k h => absurd h (Nat.not_lt_zero _)
 | e :: l, off, h => fun k hk => by
   have h' : Row w b off (E.cells e ++ E.all l) := h
   obtain ⟨h1, h2⟩ := h'.append
   cases k with
   | zero => simpa using h1
   | succ k =>
     have := lAt_of_row h2 k (by simpa using hk)
     rw [E.len] at this
     rw [show off + (k + 1) * E.size = off + E.size + k * E.size from by rw [Nat.succ_mul]; omega]
     exact this
def LV (E : Enc α) (w : World) (v : Value) (l : List α) : Prop := ∃ A c, v = .slice A l.length c ∧ l.length ≤ c ∧ (l ≠ [] → ∃ b off, A = some ⟨b, off, none⟩ ∧ b < w.heap.size ∧ LAt E w b off l)
theorem LV.split {E : Enc α} {w : World} {v : Value} {l : List α} (h : LV E w v l) : (∃ A c, v = .slice A 0 c ∧ l = []) ∨ ∃ b off cap, v = .slice (some ⟨b, off, none⟩) l.length cap ∧ l.length ≤ cap ∧ b < w.heap.size ∧ LAt E w b off l := by
 obtain ⟨A, c, rfl, hc, hr⟩ := h
 cases l with
 | nil => exact .inl ⟨A, c, rfl, rfl⟩
 | cons e l =>
   obtain ⟨b, off, rfl, hb, hrow⟩ := hr (by simp)
   exact .inr ⟨b, off, c, rfl, hc, hb, hrow⟩
theorem LV.mk_ {E : Enc α} {w : World} {l : List α} {b off cap : Nat} (hc : l.length ≤ cap) (hb : b < w.heap.size) (h : LAt E w b off l) : LV E w (.slice (some ⟨b, off, none⟩) l.length cap) l := ⟨_, _, rfl, hc, fun _ => ⟨b, off, rfl, hb, h⟩⟩
theorem LV.nil_ (E : Enc α) (w : World) (A : Option Addr) (c : Nat) : LV E w (.slice A 0 c) [] := ⟨A, c, rfl, Nat.zero_le _, fun h => absurd rfl h⟩
theorem LV.below {E : Enc α} {w w' : World} {v : Value} {l : List α} (h : LV E w v l) (hb : Below w.heap.size w w') : LV E w' v l := by
 obtain ⟨A, c, h1, h2, hr⟩ := h
 refine ⟨A, c, h1, h2, fun hl => ?_⟩
 obtain ⟨b, off, h3, h4, h5⟩ := hr hl
 exact ⟨b, off, h3, Nat.lt_of_lt_of_le h4 hb.size, h5.below hb h4⟩
theorem lv_own {E : Enc α} {w : World} {base e size : Nat} {v : Value} {l : List α} (h : w.ownsRow base e size v l.length (E.all l)) : LV E w v l := by
 rcases ownsRow_row h with ⟨rfl, h0, -⟩ | ⟨g, cap, rfl, -, hg, hcap, hrow⟩
 ·rw [List.eq_nil_of_length_eq_zero h0]
  exact LV.nil_ _ _ _ _
 ·exact LV.mk_ hcap hg (lAt_of_row hrow)
theorem cell_heap {w : World} {b : Nat} {cs : Array Value} {t : TypeId} {fr : Nat × Nat} (h : w.heap[b]? = some (.cells cs t fr)) (j : Nat) : w.cell? ⟨b, j, none⟩ = cs[j]? := by simp [World.cell?, h]
end
end Go.Proofs.Seat9
end
section
namespace Go.Proofs.Seat9
structure Sp where
 kind : Int
 task : Int
 index : Int
 from_ : Int
 to_ : Int
 start : Int
 end_ : Int
 deriving Inhabited, DecidableEq
def wi (n a b : Int) : Bool := decide (a ≤ n ∧ n ≤ b)
def loI (k : Int) : Int := if k = 2 then 1 else 0
def hiI (k : Int) : Int := if k = 2 then 5 else if k = 4 then 15 else 31
def rootS (x : Sp) : Bool := decide (x.kind = 3 ∧ x.index = 0)
def endsS (x : Sp) : Bool := if x.to_ = -1 ∨ x.end_ = -1 then decide (x.to_ = x.end_) else wi x.to_ (x.from_ + 1) 2000 && wi x.end_ x.start 1099511627776
def validS (x : Sp) : Bool :=
 wi x.kind 1 4 && wi x.index (loI x.kind) (hiI x.kind) && (rootS x == decide (x.task = -1)) && (rootS x || wi x.task 0 15) && wi x.from_ 0 2000 && wi x.start 0 1099511627776 && endsS x
def contS (x : Sp) (s : Int) : Bool := decide (x.from_ ≤ s) && (decide (x.to_ = -1) || decide (s < x.to_))
def sameK (y x : Sp) : Bool := decide (y.kind = x.kind ∧ y.task = x.task ∧ y.index = x.index)
def confP (y x : Sp) : Bool := sameK y x && (contS y x.from_ || contS x y.from_)
def overS (a b : Sp) : Bool := (decide (b.to_ = -1) || decide (a.from_ < b.to_)) && (decide (a.to_ = -1) || decide (b.from_ < a.to_))
def confQ (y x : Sp) : Bool := sameK y x && overS y x
def lessS (a b : Sp) : Bool := decide (a.kind < b.kind ∨ (a.kind = b.kind ∧ (a.from_ < b.from_ ∨ (a.from_ = b.from_ ∧ (a.task < b.task ∨ (a.task = b.task ∧ a.index < b.index))))))
def chk1 (cf : Sp → Sp → Bool) (l : List Sp) (i : Nat) (x : Sp) : Int :=
 if validS x = false then 1 else if 0 < i ∧ lessS (l.getD (i - 1) default) x = false then 9 else if (l.take i).any (fun y => cf y x) = true then 16 else 0
def chkR (cf : Sp → Sp → Bool) (l : List Sp) : List Sp → Nat → Int
 | [], _ => 0
 | m :: r, i => if chk1 cf l i m = 0 then chkR cf l r (i + 1) else chk1 cf l i m
theorem chkR_at (cf : Sp → Sp → Bool) (l : List Sp) (k : Nat) (h : k < l.length) : chkR cf l (l.drop k) k = if chk1 cf l k l[k] = 0 then chkR cf l (l.drop (k + 1)) (k + 1) else chk1 cf l k l[k] := by
 rw [List.drop_eq_getElem_cons h]; rfl
theorem conf_same {y x : Sp} (hy : validS y = true) (hx : validS x = true) : confP y x = confQ y x := by
 have ex : ∀ z : Sp, validS z = true → z.to_ = -1 ∨ z.from_ + 1 ≤ z.to_ := by
  intro z hz
  unfold validS at hz
  simp only [Bool.and_eq_true] at hz
  have h := hz.2
  unfold endsS at h
  split at h
  ·rename_i h1
   rcases h1 with h1 | h1
   ·exact .inl h1
   ·have := of_decide_eq_true h
    exact .inl (by omega)
  ·simp only [wi, Bool.and_eq_true, decide_eq_true_eq] at h
   exact .inr h.1.1
 have h1 := ex y hy
 have h2 := ex x hx
 unfold confP confQ overS contS
 congr 1
 rw [Bool.eq_iff_iff]
 simp only [Bool.or_eq_true, Bool.and_eq_true, decide_eq_true_eq]
 omega
theorem chkR_same (l : List Sp) : ∀ (r : List Sp) (i : Nat), r = l.drop i → (∀ y ∈ l.take i, validS y = true) → chkR confP l r i = chkR confQ l r i
 | [], _, _, _ => rfl
 | x :: r, i, hr, hv => by
   have hi : i < l.length := by
    rcases Nat.lt_or_ge i l.length with h | h
    ·exact h
    ·rw [List.drop_eq_nil_of_le h] at hr; cases hr
   have hx : x = l[i] ∧ r = l.drop (i + 1) := by
    rw [List.drop_eq_getElem_cons hi] at hr
    cases hr
    exact ⟨rfl, rfl⟩
   have h1 : chk1 confP l i x = chk1 confQ l i x := by
    unfold chk1
    cases hxv : validS x with
    | false => rfl
    | true =>
      have : (l.take i).any (fun y => confP y x) = (l.take i).any (fun y => confQ y x) := by
       rw [Bool.eq_iff_iff, List.any_eq_true, List.any_eq_true]
       constructor
       ·rintro ⟨y, hy, h⟩; exact ⟨y, hy, by rw [← conf_same (hv y hy) hxv]; exact h⟩
       ·rintro ⟨y, hy, h⟩; exact ⟨y, hy, by rw [conf_same (hv y hy) hxv]; exact h⟩
      rw [this]
   show (if chk1 confP l i x = 0 then chkR confP l r (i + 1) else chk1 confP l i x) = (if chk1 confQ l i x = 0 then chkR confQ l r (i + 1) else chk1 confQ l i x)
   rw [h1]
   split
   ·rename_i h0
    have hxv : validS x = true := by
     cases h : validS x with
     | true => rfl
     | false => unfold chk1 at h0; rw [if_pos h] at h0; cases h0
    refine chkR_same l r (i + 1) hx.2 fun y hy => ?_
    rw [List.take_succ_eq_append_getElem hi, List.mem_append, List.mem_singleton] at hy
    rcases hy with hy | hy
    ·exact hv y hy
    ·rw [hy, ← hx.1]; exact hxv
   ·rfl
def chk (l : List Sp) : Int := chkR confP l l 0
theorem chk_same (l : List Sp) : chkR confQ l l 0 = chk l := (chkR_same l l 0 rfl (fun y hy => by simp at hy)).symm
theorem chk_valid (cf : Sp → Sp → Bool) (l : List Sp) : ∀ (r : List Sp) (i : Nat), chkR cf l r i = 0 → ∀ x ∈ r, validS x = true
 | [], _, _ => fun x hx => by cases hx
 | x :: r, i, h => by
   have h : (if chk1 cf l i x = 0 then chkR cf l r (i + 1) else chk1 cf l i x) = 0 := h
   split at h
   ·rename_i h0
    intro y hy
    rcases List.mem_cons.1 hy with rfl | hy
    ·cases hv : validS y with
     | true => rfl
     | false => unfold chk1 at h0; rw [if_pos hv] at h0; cases h0
    ·exact chk_valid cf l r (i + 1) h y hy
   ·rename_i h0; exact absurd h h0
/-! ### those of a kind that contain a step -/
def actR (kind step : Int) : List Sp → Nat → List Int
 | [], _ => []
 | x :: r, i => if x.kind = kind ∧ contS x step = true then (i : Int) :: actR kind step r (i + 1) else actR kind step r (i + 1)
theorem actR_append (kind step : Int) (x : Sp) : ∀ (l : List Sp) (i : Nat), actR kind step (l ++ [x]) i = actR kind step l i ++ (if x.kind = kind ∧ contS x step = true then [((i + l.length : Nat) : Int)] else [])
 | [], i => by simp [actR]
 | y :: l, i => by
   simp only [List.cons_append, actR]
   rw [actR_append kind step x l (i + 1)]
   have : i + 1 + l.length = i + (y :: l).length := by simp; omega
   rw [this]
   split <;> simp
theorem actR_len (kind step : Int) : ∀ (l : List Sp) (i : Nat), (actR kind step l i).length ≤ l.length
 | [], _ => by simp [actR]
 | x :: l, i => by
   have := actR_len kind step l (i + 1)
   simp only [actR]
   split <;> simp <;> omega
theorem actR_take (kind step : Int) (l : List Sp) (k : Nat) (h : k < l.length) : actR kind step (l.take (k + 1)) 0 = actR kind step (l.take k) 0 ++ (if l[k].kind = kind ∧ contS l[k] step = true then [(k : Int)] else []) := by
 rw [List.take_succ_eq_append_getElem h, actR_append]
 simp [show min k l.length = k from by omega]
/-! ### the chart -/
def mine (kind : Int) (l : List Sp) : List Sp := l.filter fun x => decide (x.kind = kind)
def lastF (n : Int) (x : Sp) : Int := max (max n x.from_) x.to_
def lastS (l : List Sp) : Int := l.foldl lastF 0
def cellS (x : Sp) (k : Nat) : UInt8 := if contS x k = true then 35 else 46
def cellsS (x : Sp) (n : Nat) : List UInt8 := (List.range n).map (cellS x)
def lineS (n : Nat) (x : Sp) : List UInt8 := Lib.itoa x.task ++ [32] ++ Lib.itoa x.index ++ [32] ++ cellsS x n ++ [10]
def textS (n : Nat) (l : List Sp) : List UInt8 := l.flatMap (lineS n)
theorem cellsS_succ (x : Sp) (n : Nat) : cellsS x (n + 1) = cellsS x n ++ [cellS x n] := by simp [cellsS, List.range_succ]
theorem cellsS_len (x : Sp) (n : Nat) : (cellsS x n).length = n := by simp [cellsS]
theorem lastF_ge (n : Int) (x : Sp) : n ≤ lastF n x := by unfold lastF; omega
theorem last_ge : ∀ (l : List Sp) (n : Int), n ≤ l.foldl lastF n
 | [], n => Int.le_refl _
 | x :: l, n => Int.le_trans (lastF_ge n x) (last_ge l _)
theorem lastS_take (l : List Sp) (k : Nat) (h : k < l.length) : lastS (l.take (k + 1)) = lastF (lastS (l.take k)) l[k] := by
 unfold lastS
 rw [List.take_succ_eq_append_getElem h, List.foldl_append]
 rfl
theorem textS_take (n : Nat) (l : List Sp) (k : Nat) (h : k < l.length) : textS n (l.take (k + 1)) = textS n (l.take k) ++ lineS n l[k] := by
 unfold textS
 rw [List.take_succ_eq_append_getElem h, List.flatMap_append]
 simp
theorem textS_le (n : Nat) (l : List Sp) (k : Nat) : (textS n (l.take k)).length ≤ (textS n l).length := by
 unfold textS
 conv => rhs; rw [← List.take_append_drop k l, List.flatMap_append, List.length_append]
 omega
theorem mine_len (kind : Int) (l : List Sp) : (mine kind l).length ≤ l.length := List.length_filter_le _ _
theorem mine_take (kind : Int) (l : List Sp) (k : Nat) (h : k < l.length) : mine kind (l.take (k + 1)) = mine kind (l.take k) ++ (if l[k].kind = kind then [l[k]] else []) := by
 unfold mine
 rw [List.take_succ_eq_append_getElem h, List.filter_append]
 congr 1
 rw [List.filter_cons]
 by_cases hk : l[k].kind = kind <;> simp [hk]
def chartE (l : List Sp) (kind : Int) : Int := if chk l ≠ 0 then 1 else if wi kind 1 4 = false then 8 else if 200 < lastS (mine kind l) then 4 else 0
def chartT (l : List Sp) (kind : Int) : List UInt8 := if chartE l kind = 0 then textS ((lastS (mine kind l)).toNat + 1) (mine kind l) else []
theorem lineS_len (n : Nat) (x : Sp) (h1 : (Lib.itoa x.task).length ≤ 21) (h2 : (Lib.itoa x.index).length ≤ 21) : (lineS n x).length ≤ 45 + n := by
 unfold lineS
 simp only [List.length_append, cellsS_len, List.length_singleton]
 omega
theorem textS_len (n : Nat) (l : List Sp) (h : ∀ x ∈ l, (Lib.itoa x.task).length ≤ 21 ∧ (Lib.itoa x.index).length ≤ 21) : (textS n l).length ≤ l.length * (45 + n) := by
 induction l with
 | nil => simp [textS]
 | cons x l ih =>
   have h1 := ih fun y hy => h y (by simp [hy])
   have h2 := h x (by simp)
   have h3 := lineS_len n x h2.1 h2.2
   have : textS n (x :: l) = lineS n x ++ textS n l := by simp [textS]
   rw [this, List.length_append, List.length_cons, Nat.succ_mul]
   omega
end Go.Proofs.Seat9
end
section
namespace Go.Proofs.Seat9
open Go.RowKit Go.Proofs.Seat4
def spCells (x : Sp) : List Value := [.int .i64 x.kind, .int .i64 x.task, .int .i64 x.index, .int .i64 x.from_, .int .i64 x.to_, .int .i64 x.start, .int .i64 x.end_]
theorem spCells_one (x : Sp) : ∀ u ∈ spCells x, u.oneCell' = true := by
 intro u hu
 simp only [spCells, List.mem_cons, List.not_mem_nil, or_false] at hu
 rcases hu with rfl | rfl | rfl | rfl | rfl | rfl | rfl <;> rfl
def SE : Enc Sp := ⟨spCells, 7, fun _ => rfl, spCells_one⟩
abbrev SpV (w : World) (v : Value) (l : List Sp) : Prop := LV SE w v l
theorem below_mono {B B' : Nat} {w w' : World} (h : RowKit.Below B' w w') (hB : B ≤ B') : RowKit.Below B w w' := ⟨h.os, h.tape, h.output, h.size, fun k hk => h.block k (by omega)⟩
set_option maxHeartbeats 1000000 in
theorem within16 (n a b : Int) (w : World) : Calls Tryz.prog 16 #[.int .i64 n, .int .i64 a, .int .i64 b] w fun e w' => e = .returned (.bool (wi n a b)) ∧ w = w' := by
 by_cases h1 : a ≤ n
 ·by_cases h2 : n ≤ b
  ·have hc : wi n a b = true := by simp [wi, h1, h2]
   rw [hc]
   clear hc
   go_enter Tryz.func16, Tryz.ntmps16
   go_wp2
   go_ret
   exact ⟨rfl, rfl⟩
  ·have hc : wi n a b = false := by simp [wi, h2]
   rw [hc]
   clear hc
   go_enter Tryz.func16, Tryz.ntmps16
   go_wp2
   go_ret
   exact ⟨rfl, rfl⟩
 ·have hc : wi n a b = false := by simp [wi, h1]
  rw [hc]
  clear hc
  go_enter Tryz.func16, Tryz.ntmps16
  go_wp2
  go_ret
  exact ⟨rfl, rfl⟩
set_option maxHeartbeats 1000000 in
theorem within44 (n a b : Int) (w : World) : Calls Tryz.prog 44 #[.int .i64 n, .int .i64 a, .int .i64 b] w fun e w' => e = .returned (.bool (wi n a b)) ∧ w = w' := by
 by_cases h1 : a ≤ n
 ·by_cases h2 : n ≤ b
  ·have hc : wi n a b = true := by simp [wi, h1, h2]
   rw [hc]
   clear hc
   go_enter Tryz.func44, Tryz.ntmps44
   go_wp2
   go_ret
   exact ⟨rfl, rfl⟩
  ·have hc : wi n a b = false := by simp [wi, h2]
   rw [hc]
   clear hc
   go_enter Tryz.func44, Tryz.ntmps44
   go_wp2
   go_ret
   exact ⟨rfl, rfl⟩
 ·have hc : wi n a b = false := by simp [wi, h1]
  rw [hc]
  clear hc
  go_enter Tryz.func44, Tryz.ntmps44
  go_wp2
  go_ret
  exact ⟨rfl, rfl⟩
theorem contS_split (x : Sp) (s : Int) : (x.from_ ≤ s ∧ x.to_ = -1 ∧ contS x s = true) ∨ (x.from_ ≤ s ∧ (x.to_ == -1) = false ∧ s < x.to_ ∧ contS x s = true) ∨ (x.from_ ≤ s ∧ (x.to_ == -1) = false ∧ ¬ s < x.to_ ∧ contS x s = false) ∨ (¬ x.from_ ≤ s ∧ contS x s = false) := by
 unfold contS
 by_cases h1 : x.from_ ≤ s <;> by_cases h2 : x.to_ = -1 <;> by_cases h3 : s < x.to_ <;> simp_all
set_option maxRecDepth 100000 in
set_option maxHeartbeats 1000000 in
theorem contains22 (x : Sp) (s : Int) (W : World) : Calls Tryz.prog 22 #[.agg #[.int .i64 x.kind, .int .i64 x.task, .int .i64 x.index, .int .i64 x.from_, .int .i64 x.to_, .int .i64 x.start, .int .i64 x.end_], .int .i64 s] W fun e w' => e = .returned (.bool (contS x s)) ∧ Below W.heap.size W w' := by
 rcases contS_split x s with ⟨h1, h2, hc⟩ | ⟨h1, h2, h3, hc⟩ | ⟨h1, h2, h3, hc⟩ | ⟨h1, hc⟩
 all_goals
  rw [hc]
  clear hc
  go_enter Tryz.func22, Tryz.ntmps22
  go_wp2
  go_ret
  exact ⟨rfl, (Below.refl _ _).alloc (Nat.le_refl _) _⟩
set_option maxRecDepth 100000 in
set_option maxHeartbeats 1000000 in
theorem contains26 (x : Sp) (s : Int) (W : World) : Calls Tryz.prog 26 #[.agg #[.int .i64 x.kind, .int .i64 x.task, .int .i64 x.index, .int .i64 x.from_, .int .i64 x.to_, .int .i64 x.start, .int .i64 x.end_], .int .i64 s] W fun e w' => e = .returned (.bool (contS x s)) ∧ Below W.heap.size W w' := by
 rcases contS_split x s with ⟨h1, h2, hc⟩ | ⟨h1, h2, h3, hc⟩ | ⟨h1, h2, h3, hc⟩ | ⟨h1, hc⟩
 all_goals
  rw [hc]
  clear hc
  go_enter Tryz.func26, Tryz.ntmps26
  go_wp2
  go_ret
  exact ⟨rfl, (Below.refl _ _).alloc (Nat.le_refl _) _⟩
def cfI (x y : Int) : Int := if x < y then -1 else if y < x then 1 else 0
set_option maxRecDepth 100000 in
set_option maxHeartbeats 1000000 in
theorem cmp43 (x y : Int) (w : World) : Calls Tryz.prog 43 #[.int .i64 x, .int .i64 y] w fun e w' => e = .returned (.int .i64 (cfI x y)) ∧ w = w' := by
 by_cases h1 : x < y
 ·have hc : cfI x y = -1 := if_pos h1
  rw [hc]
  clear hc
  go_enter Tryz.func43, Tryz.ntmps43
  go_wp2
  go_ret
  exact ⟨rfl, rfl⟩
 ·by_cases h2 : y < x
  ·have hc : cfI x y = 1 := by unfold cfI; rw [if_neg h1, if_pos h2]
   rw [hc]
   clear hc
   go_enter Tryz.func43, Tryz.ntmps43
   go_wp2
   go_ret
   exact ⟨rfl, rfl⟩
  ·have hc : cfI x y = 0 := by unfold cfI; rw [if_neg h1, if_neg h2]
   rw [hc]
   clear hc
   go_enter Tryz.func43, Tryz.ntmps43
   go_wp2
   go_ret
   exact ⟨rfl, rfl⟩
set_option maxRecDepth 100000 in
set_option maxHeartbeats 2000000 in
theorem less30 (x y : Sp) (W : World) : Calls Tryz.prog 30 #[.agg #[.int .i64 x.kind, .int .i64 x.task, .int .i64 x.index, .int .i64 x.from_, .int .i64 x.to_, .int .i64 x.start, .int .i64 x.end_], .agg #[.int .i64 y.kind, .int .i64 y.task, .int .i64 y.index, .int .i64 y.from_, .int .i64 y.to_, .int .i64 y.start, .int .i64 y.end_]] W fun e w' => e = .returned (.bool (lessS x y)) ∧ Below W.heap.size W w' := by
 go_enter Tryz.func30, Tryz.ntmps30
 go_wp2
 all_goals
  go_ret
  refine ⟨?_, ((Below.refl _ _).alloc (Nat.le_refl _) _).alloc (by simp) _⟩
  unfold lessS
  congr 2
  simp_all
  try omega
end Go.Proofs.Seat9
end
section
namespace Go.Proofs.Seat4
open Go.RowKit
def DetPost (S : World → Prop) (o : Oper) (a : Act) (v : Value) : Exit → Act → World → Prop := fun e a' w' => e = .normal ∧ a' = a.put o.dst v ∧ S w'
def DetOp (P : Program) (ops : Array Oper) (S : World → Prop) (o : Oper) (a : Act) (v : Value) : Prop := ∀ w, S w → wpList P ops (DetPost S o a v) [o] a w
def wpDet (P : Program) (ops : Array Oper) (S : World → Prop) (Q : Exit → Act → World → Prop) : List Oper → Act → Prop
 | [], a => ∀ w, S w → Q .normal a w
 | o :: rest, a => ∃ v, DetOp P ops S o a v ∧ wpDet P ops S Q rest (a.put o.dst v)
def writesTo (ops : Array Oper) (j t : Nat) : Bool := ((ops[j]?).bind (·.dst)) == some t
def noSelect (o : Oper) : Bool := match o.op with | .select .. => false | _ => true
def detOkT (ops : Array Oper) (m : Nat) : Bool :=
 (List.range ops.size).all fun i => match ops[i]? with
   | none => true
   | some o => noSelect o && o.after.all (fun e => !Region.binds .any e || decide (e.on < i)) &&
      (decide (m ≤ i) || (o.looksAt ops).all (fun t => (List.range m).all fun j => !writesTo ops j t || o.after.any fun e => Region.binds .any e && e.on == j)) &&
      (match o.dst with | none => true | some d => (List.range ops.size).all fun j => j == i || !writesTo ops j d)
abbrev detOk (ops : Array Oper) : Bool := detOkT ops ops.size
section
variable {P : Program} {ops : Array Oper} {S : World → Prop} {Q : Exit → Act → World → Prop}
structure DetAt (ops : Array Oper) (m i : Nat) (o : Oper) : Prop where
 sel : ∀ cs b, o.op ≠ .select cs b
 early : ∀ e ∈ o.after, Region.binds .any e = true → e.on < i
 deps : i < m → ∀ t ∈ o.looksAt ops, ∀ j, j < m → writesTo ops j t = true → ∃ e ∈ o.after, Region.binds .any e = true ∧ e.on = j
 alone : ∀ d, o.dst = some d → ∀ j, j < ops.size → writesTo ops j d = true → j = i
theorem detOk_at {m : Nat} (h : detOkT ops m = true) {i : Nat} {o : Oper} (hi : ops[i]? = some o) : DetAt ops m i o := by
 have hlt : i < ops.size := (Array.getElem?_eq_some_iff.1 hi).1
 have := List.all_eq_true.1 h i (List.mem_range.2 hlt)
 rw [hi] at this
 simp only [Bool.and_eq_true] at this
 obtain ⟨⟨⟨h1, h2⟩, h3⟩, h4⟩ := this
 refine ⟨fun cs b e => ?_, fun e he hb => ?_, fun him t ht j hj hw => ?_, fun d hd j hj hw => ?_⟩
 ·unfold noSelect at h1
  rw [e] at h1
  cases h1
 ·have := Array.all_eq_true'.1 h2 e he
  rw [hb] at this
  simpa using this
 ·rw [show decide (m ≤ i) = false from by simpa using him, Bool.false_or] at h3
  have := List.all_eq_true.1 (List.all_eq_true.1 h3 t ht) j (List.mem_range.2 hj)
  rw [hw] at this
  simp only [Bool.not_true, Bool.false_or] at this
  obtain ⟨e, he, hb⟩ := Array.any_eq_true'.1 this
  simp only [Bool.and_eq_true, beq_iff_eq] at hb
  exact ⟨e, he, hb.1, hb.2⟩
 ·rw [hd] at h4
  have := List.all_eq_true.1 h4 j (List.mem_range.2 hj)
  rw [hw] at this
  simpa using this
structure DetInv (ops : Array Oper) (a0 : Act) (v : Nat → Value) (D : Nat → Bool) (a : Act) : Prop where
 defers : a.defers = a0.defers
 size : a.tmps.size = a0.tmps.size
 done : ∀ t, t < a0.tmps.size → ∀ j, j < ops.size → writesTo ops j t = true → D j = true → a.tmps[t]? = some (v j)
 rest : ∀ t, (∀ j, j < ops.size → writesTo ops j t = true → D j = false) → a.tmps[t]? = a0.tmps[t]?
theorem put_size (a : Act) (d : Option Tmp) (v : Value) : (a.put d v).tmps.size = a.tmps.size := by cases d <;> simp [Act.put]
theorem put_defers (a : Act) (d : Option Tmp) (v : Value) : (a.put d v).defers = a.defers := by cases d <;> simp [Act.put]
theorem put_get (a : Act) (d : Tmp) (v : Value) (t : Nat) : (a.put (some d) v).tmps[t]? = if t = d then (if t < a.tmps.size then some v else none) else a.tmps[t]? := by
 simp only [Act.put, Array.getElem?_setIfInBounds]
 by_cases h : d = t
 ·subst h; simp
 ·rw [if_neg h, if_neg (fun e => h e.symm)]
theorem DetInv.put {m : Nat} (hok : detOkT ops m = true) {a0 a : Act} {v : Nat → Value} {D : Nat → Bool} (h : DetInv ops a0 v D a) {i : Nat} {o : Oper} (hi : ops[i]? = some o) (hn : D i = false) :
 DetInv ops a0 v (fun j => D j || j == i) (a.put o.dst (v i)) := by
 have A := detOk_at hok hi
 have hlt : i < ops.size := (Array.getElem?_eq_some_iff.1 hi).1
 refine ⟨(put_defers _ _ _).trans h.defers, (put_size _ _ _).trans h.size, fun t ht j hj hw hD => ?_, fun t ht => ?_⟩
 ·cases hd : o.dst with
  | none =>
    have hne : j ≠ i := by
     rintro rfl
     unfold writesTo at hw
     rw [hi] at hw
     simp [hd] at hw
    have hDj : D j = true := by simpa [hne] using hD
    exact h.done t ht j hj hw hDj
  | some d =>
    rw [put_get]
    by_cases e : t = d
    ·subst e
     have : j = i := A.alone t hd j hj hw
     subst this
     rw [if_pos rfl, if_pos (by rw [h.size]; exact ht)]
    ·rw [if_neg e]
     have hne : j ≠ i := by
      rintro rfl
      unfold writesTo at hw
      rw [hi] at hw
      simp [hd] at hw
      exact e hw.symm
     have hDj : D j = true := by simpa [hne] using hD
     exact h.done t ht j hj hw hDj
 ·cases hd : o.dst with
  | none =>
    refine h.rest t fun j hj hw => ?_
    have := ht j hj hw
    simp only [Bool.or_eq_false_iff] at this
    exact this.1
  | some d =>
    rw [put_get]
    have hne : t ≠ d := by
     rintro rfl
     have := ht i hlt (by unfold writesTo; rw [hi]; simp [hd])
     simp at this
    rw [if_neg hne]
    refine h.rest t fun j hj hw => ?_
    have := ht j hj hw
    simp only [Bool.or_eq_false_iff] at this
    exact this.1
theorem put_eq_of {a c : Act} (hs : a.tmps.size = c.tmps.size) {d : Option Tmp} {u v : Value} (h : c.put d u = c.put d v) : a.put d u = a.put d v := by
 cases d with
 | none => rfl
 | some d =>
   by_cases hd : d < c.tmps.size
   ·have h1 : (c.put (some d) u).tmps[d]? = (c.put (some d) v).tmps[d]? := by rw [h]
    rw [put_get, put_get, if_pos rfl, if_pos rfl, if_pos hd, if_pos hd] at h1
    rw [Option.some.inj h1]
   ·have hd' : ¬ d < a.tmps.size := by rw [hs]; exact hd
    simp only [Act.put, Array.setIfInBounds, dif_neg hd']
theorem wanted_agree (o : Oper) {a c : Act} (hg : ∀ t ∈ o.looksAt ops, a.tmps[t]? = c.tmps[t]?) : Region.wanted o (yielded ops a.tmps) = Region.wanted o (yielded ops c.tmps) := by
 unfold Region.wanted
 cases hgd : o.guard with
 | none => rfl
 | some gw =>
   obtain ⟨g, want⟩ := gw
   have : yielded ops a.tmps g = yielded ops c.tmps g := by
    unfold yielded
    cases ht : (ops[g]?).bind (·.dst) with
    | none => rfl
    | some t =>
      have := hg t (by unfold Oper.looksAt; rw [hgd]; simp [ht])
      simp [this]
   simp only [this]
theorem det_transfer {o : Oper} {a c : Act} {v : Value} {w : World} {i : Nat} (hi : ops[i]? = some o) (hsel : ∀ cs b, o.op ≠ .select cs b) (hs : a.tmps.size = c.tmps.size)
 (hg : ∀ t ∈ o.looksAt ops, a.tmps[t]? = c.tmps[t]?) (h : wpList P ops (DetPost S o c v) [o] c w) : wpOp P ops Q i (fun a' w' => a' = a.put o.dst v ∧ S w') a w := by
 have he : execOp a.eval o = execOp c.eval o := execOp_congr o hsel fun x hx => by
  cases x with
  | tmp t =>
    have := hg t (List.mem_append_left _ (List.mem_filterMap.2 ⟨.tmp t, by simpa using hx, rfl⟩))
    simp [Act.eval, Array.getD_eq_getD_getElem?, this]
  | _ => rfl
 unfold wpOp
 simp only [hi]
 unfold wpList at h
 rw [wanted_agree o hg]
 split
 ·rename_i hw
  rw [if_pos hw] at h
  rcases h with h | ⟨_, a1, w1, h⟩
  ·refine .inl ?_
   unfold Oper.wp at *
   rw [he]
   generalize (execOp c.eval o).run P w = r at *
   cases r with
   | ok n w' =>
     cases n <;> simp only [Oper.upon, wpList, DetPost, true_and] at h ⊢
     case value u => exact ⟨put_eq_of hs h.1, h.2⟩
     case skip => exact ⟨put_eq_of hs h.1, h.2⟩
     case defer d =>
      have h1 : ({ c with defers := d :: c.defers } : Act).defers = c.defers := by
       have := congrArg Act.defers h.1
       rwa [put_defers, put_defers] at this
      have := congrArg List.length h1
      simp at this
     case enter f args =>
      refine Calls.mono h fun e w'' he => ?_
      cases e with
      | returned u => exact ⟨put_eq_of hs he.1, he.2⟩
      | panicked ch => exact absurd he.1 (by simp)
      | outgrown => obtain ⟨a2, w2, h2, _⟩ := he; cases h2
     case row row args => exact Rows.mono h fun u w'' he => ⟨put_eq_of hs he.1, he.2⟩
   | halt x w' =>
     cases x <;> simp only [Oper.upon, DetPost] at h
     case panic u => exact absurd h.1 (by simp)
  ·exact absurd h.1 (by simp)
 ·rename_i hw
  rw [if_neg hw] at h
  simp only [wpList, DetPost, true_and] at h
  exact ⟨put_eq_of hs h.1, h.2⟩
def canon (ops : Array Oper) (a0 : Act) (v : Nat → Value) : Nat → Act
 | 0 => a0
 | k + 1 => match ops[k]? with
   | some o => (canon ops a0 v k).put o.dst (v k)
   | none => canon ops a0 v k
theorem canon_inv {m : Nat} (hok : detOkT ops m = true) (a0 : Act) (v : Nat → Value) : ∀ k, k ≤ ops.size → DetInv ops a0 v (fun j => decide (j < k)) (canon ops a0 v k)
 | 0, _ => ⟨rfl, rfl, fun t _ j _ _ hD => by simp at hD, fun t _ => rfl⟩
 | k + 1, hk => by
   have ih := canon_inv hok a0 v k (by omega)
   have hget : ops[k]? = some ops[k] := Array.getElem?_eq_getElem (by omega)
   have := ih.put hok hget (by simp)
   have hc : canon ops a0 v (k + 1) = (canon ops a0 v k).put ops[k].dst (v k) := by
    show (match ops[k]? with | some o => (canon ops a0 v k).put o.dst (v k) | none => canon ops a0 v k) = _
    rw [hget]
   rw [hc]
   have hf : (fun j => decide (j < k) || j == k) = fun j => decide (j < k + 1) := by
    funext j
    by_cases h1 : j < k
    ·simp [h1, show j < k + 1 from by omega]
    ·by_cases h2 : j = k
     ·simp [h2]
     ·simp [h1, h2, show ¬ j < k + 1 from by omega]
   rwa [hf] at this
theorem det_canon (a0 : Act) : ∀ (l : List Oper) (k : Nat) (a : Act) (v : Nat → Value), (∀ j, l[j]? = ops[k + j]?) → canon ops a0 v k = a → wpDet P ops S Q l a →
 ∃ v' : Nat → Value, (∀ j, j < k → v' j = v j) ∧ (∀ j o, k ≤ j → ops[j]? = some o → DetOp P ops S o (canon ops a0 v' j) (v' j)) ∧ (∀ w, S w → Q .normal (canon ops a0 v' (k + l.length)) w) := by
 intro l
 induction l with
 | nil =>
   intro k a v hl ha h
   refine ⟨v, fun _ _ => rfl, fun j o hj ho => ?_, fun w hw => by simpa [ha] using h w hw⟩
   have hnone : ops[j]? = none := by
    have := hl (j - k)
    rw [show k + (j - k) = j from by omega] at this
    simpa using this.symm
   rw [hnone] at ho
   cases ho
 | cons o rest ih =>
   intro k a v hl ha h
   obtain ⟨u, hu, hrest⟩ := h
   have hk : ops[k]? = some o := by simpa using (hl 0).symm
   have same : ∀ (v1 v2 : Nat → Value) (m : Nat), (∀ j, j < m → v1 j = v2 j) → canon ops a0 v1 m = canon ops a0 v2 m := by
    intro v1 v2 m hm
    induction m with
    | zero => rfl
    | succ m ihm =>
      simp only [canon]
      rw [ihm fun j hj => hm j (by omega)]
      cases ops[m]? with
      | none => rfl
      | some o' => simp only [hm m (by omega)]
   let v2 : Nat → Value := fun j => if j = k then u else v j
   have hv2 : ∀ j, j < k → v2 j = v j := fun j hj => if_neg (by omega)
   have hck : canon ops a0 v2 k = a := (same v2 v k hv2).trans ha
   have hck1 : canon ops a0 v2 (k + 1) = a.put o.dst u := by
    show (match ops[k]? with | some o => (canon ops a0 v2 k).put o.dst (v2 k) | none => canon ops a0 v2 k) = _
    rw [hk, hck]
    simp [v2]
   obtain ⟨v', h1, h2, h3⟩ := ih (k + 1) _ v2 (fun j => by have := hl (j + 1); simpa [Nat.add_assoc, Nat.add_comm 1 j] using this) hck1 hrest
   refine ⟨v', fun j hj => (h1 j (by omega)).trans (hv2 j hj), fun j o' hj ho => ?_, fun w hw => by have := h3 w hw; rwa [show k + 1 + rest.length = k + (o :: rest).length from by simp; omega] at this⟩
   by_cases e : j = k
   ·subst e
    rw [hk] at ho
    cases ho
    rw [same v' v2 j fun m hm => h1 m (by omega), hck, h1 j (by omega)]
    simp only [v2, if_true]
    exact hu
   ·exact h2 j o' (by omega) ho
theorem det_any (hok : detOk ops = true) (a0 : Act) (v : Nat → Value) (hop : ∀ j o, ops[j]? = some o → DetOp P ops S o (canon ops a0 v j) (v j)) (hend : ∀ w, S w → Q .normal (canon ops a0 v ops.size) w) :
 ∀ (fuel : Nat) (listed : Array Bool) (a : Act) (w : World), listed.size = ops.size → ((List.range ops.size).filter fun i => !listed.getD i true).length ≤ fuel → DetInv ops a0 v (fun j => listed.getD j true) a → S w →
  wpAny P .any ops Q fuel listed a w := by
 have hall : ∀ (listed : Array Bool) (a : Act) (w : World), listed.size = ops.size → DetInv ops a0 v (fun j => listed.getD j true) a → S w → (∀ i, i < ops.size → listed.getD i true = true) → Q .normal a w := by
  intro listed a w hsz hinv hS hl
  have hc := canon_inv hok a0 v ops.size (Nat.le_refl _)
  have : a = canon ops a0 v ops.size := by
   have ht : a.tmps = (canon ops a0 v ops.size).tmps := by
    apply Array.ext_getElem?
    intro t
    by_cases hex : ∃ j, j < ops.size ∧ writesTo ops j t = true
    ·obtain ⟨j, hj, hw⟩ := hex
     by_cases htl : t < a0.tmps.size
     ·rw [hinv.done t htl j hj hw (hl j hj), hc.done t htl j hj hw (by simpa using hj)]
     ·rw [Array.getElem?_eq_none (by rw [hinv.size]; omega), Array.getElem?_eq_none (by rw [hc.size]; omega)]
    ·rw [hinv.rest t fun j hj hw => absurd ⟨j, hj, hw⟩ hex, hc.rest t fun j hj hw => absurd ⟨j, hj, hw⟩ hex]
   have hd : a.defers = (canon ops a0 v ops.size).defers := hinv.defers.trans hc.defers.symm
   cases a
   cases hcn : canon ops a0 v ops.size
   rw [hcn] at ht hd
   simp only at ht hd
   rw [ht, hd]
  rw [this]
  exact hend w hS
 have hready : ∀ (listed : Array Bool), Region.ready .any ops listed = [] → ∀ i, i < ops.size → listed.getD i true = true := by
  intro listed hr i
  induction i using Nat.strongRecOn with
  | ind i ih =>
    intro hi
    apply Classical.byContradiction
    intro hn
    have hn' : listed.getD i true = false := by simpa using hn
    have : i ∈ Region.ready .any ops listed := by
     unfold Region.ready
     rw [List.mem_filter]
     refine ⟨List.mem_range.2 hi, ?_⟩
     have hget : ops[i]? = some ops[i] := Array.getElem?_eq_getElem hi
     rw [hn', hget]
     simp only [Bool.not_false, Bool.true_and, Option.map_some, Option.getD_some]
     rw [Array.all_eq_true']
     intro e he
     cases hb : Region.binds .any e with
     | false => rfl
     | true =>
       have hlt := (detOk_at hok hget).early e he hb
       have := ih e.on hlt (by omega)
       have hlt' : e.on < listed.size ∨ ¬ e.on < listed.size := by omega
       rcases hlt' with h | h
       ·simp only [Array.getD, h, dif_pos] at this ⊢
        exact this
       ·exfalso
        have h1 : i < listed.size ∨ ¬ i < listed.size := by omega
        rcases h1 with h1 | h1
        ·omega
        ·simp [Array.getD, h1] at hn'
    rw [hr] at this
    cases this
 intro fuel
 induction fuel with
 | zero =>
   intro listed a w hsz hcount hinv hS
   have hl : ∀ i, i < ops.size → listed.getD i true = true := by
    intro i hi
    have := List.eq_nil_of_length_eq_zero (Nat.le_zero.1 hcount)
    have hmem : i ∉ (List.range ops.size).filter fun i => !listed.getD i true := by rw [this]; simp
    rw [List.mem_filter] at hmem
    simp only [List.mem_range, hi, true_and] at hmem
    simpa using hmem
   refine ⟨?_, hall listed a w hsz hinv hS hl⟩
   unfold Region.ready
   rw [List.filter_eq_nil_iff]
   intro i hi
   rw [hl i (List.mem_range.1 hi)]
   simp
 | succ fuel ih =>
   intro listed a w hsz hcount hinv hS
   refine ⟨fun hr => hall listed a w hsz hinv hS (hready listed hr), fun i hi => ?_⟩
   unfold Region.ready at hi
   rw [List.mem_filter] at hi
   obtain ⟨hir, hc⟩ := hi
   have hil : i < ops.size := List.mem_range.1 hir
   have hget : ops[i]? = some ops[i] := Array.getElem?_eq_getElem hil
   rw [hget] at hc
   simp only [Bool.and_eq_true, Option.map_some, Option.getD_some] at hc
   obtain ⟨hn, hafter⟩ := hc
   have hn' : listed.getD i true = false := by simpa using hn
   have A := detOk_at hok hget
   have hcan := canon_inv hok a0 v i (by omega)
   have hagree : ∀ t ∈ ops[i].looksAt ops, a.tmps[t]? = (canon ops a0 v i).tmps[t]? := by
    intro t ht
    by_cases hex : ∃ j, j < ops.size ∧ writesTo ops j t = true
    ·obtain ⟨j, hj, hw⟩ := hex
     obtain ⟨e, he, hb, hon⟩ := A.deps hil t ht j hj hw
     have hlt := A.early e he hb
     have hlist := Array.all_eq_true'.1 hafter e he
     rw [hb] at hlist
     simp only [Bool.not_true, Bool.false_or] at hlist
     have hDj : listed.getD j true = true := by
      rw [hon] at hlist
      simp only [Array.getD] at hlist ⊢
      split at hlist
      ·rename_i h; rw [dif_pos h]; exact hlist
      ·cases hlist
     by_cases htl : t < a0.tmps.size
     ·rw [hinv.done t htl j hj hw hDj, hcan.done t htl j hj hw (by simp; omega)]
     ·rw [Array.getElem?_eq_none (by rw [hinv.size]; exact Nat.le_of_not_lt htl), Array.getElem?_eq_none (by rw [hcan.size]; exact Nat.le_of_not_lt htl)]
    ·rw [hinv.rest t fun j hj hw => absurd ⟨j, hj, hw⟩ hex, hcan.rest t fun j hj hw => absurd ⟨j, hj, hw⟩ hex]
   refine wpOp_mono ?_ (det_transfer (Q := Q) (v := v i) hget A.sel (hinv.size.trans hcan.size.symm) hagree (hop i ops[i] hget w hS))
   rintro a' w' ⟨rfl, hS'⟩
   have hsz' : (listed.setIfInBounds i true).size = ops.size := by simpa using hsz
   refine ih _ _ _ hsz' ?_ ?_ hS'
   ·have hlt : ((List.range ops.size).filter fun k => !(listed.setIfInBounds i true).getD k true).length < ((List.range ops.size).filter fun k => !listed.getD k true).length := by
     have hsub : ((List.range ops.size).filter fun k => !(listed.setIfInBounds i true).getD k true) = ((List.range ops.size).filter fun k => !listed.getD k true).filter (fun k => k != i) := by
      rw [List.filter_filter]
      apply List.filter_congr
      intro k hk
      have hkl : k < listed.size := by rw [hsz]; exact List.mem_range.1 hk
      by_cases e : k = i
      ·subst e; simp [Array.getD, hkl]
      ·have : ¬ i = k := fun x => e x.symm
       simp [Array.getD, hkl, Array.getElem_setIfInBounds, e, this]
     rw [hsub]
     have hmem : i ∈ (List.range ops.size).filter fun k => !listed.getD k true := List.mem_filter.2 ⟨hir, hn⟩
     exact List.length_filter_lt_length_iff_exists.2 ⟨i, hmem, by simp⟩
    omega
   ·have := hinv.put hok hget hn'
    have hf : (fun j => listed.getD j true || j == i) = fun j => (listed.setIfInBounds i true).getD j true := by
     funext j
     by_cases hjl : j < listed.size
     ·by_cases e : j = i
      ·subst e; simp [Array.getD, hjl]
      ·have : ¬ i = j := fun x => e x.symm
       simp [Array.getD, hjl, Array.getElem_setIfInBounds, e, this]
     ·simp [Array.getD, hjl]
    rwa [hf] at this
theorem wp_region_det {id : Nat} {a : Act} {w : World} (hm : P.follows .mixedOrders = true) (hok : detOk ops = true) (S : World → Prop) (hS : S w.drew) (h : wpDet P ops S Q ops.toList a) : (Code.region id ops true).wp P Q a w := by
 obtain ⟨v, _, h2, h3⟩ := det_canon (P := P) (S := S) (Q := Q) a ops.toList 0 a (fun _ => undef) (fun j => by simp) rfl h
 refine wp_region_any hm (det_any (S := S) hok a v (fun j o ho => h2 j o (Nat.zero_le _) ho) (by simpa using h3) ops.size _ a _ (by simp) ?_ ?_ hS)
 ·exact Nat.le_trans (List.length_filter_le _ _) (by simp)
 ·have hf : (fun j => (Array.replicate ops.size false).getD j true) = fun j => !decide (j < ops.size) := by
   funext j
   by_cases h : j < ops.size <;> simp [Array.getD, h]
  rw [hf]
  exact ⟨rfl, rfl, fun t _ j hj _ hD => by simp [hj] at hD, fun t _ => rfl⟩
theorem wpDet_cons {o : Oper} {rest : List Oper} {a : Act} {v : Value} (h1 : DetOp P ops S o a v) (h2 : wpDet P ops S Q rest (a.put o.dst v)) : wpDet P ops S Q (o :: rest) a := ⟨v, h1, h2⟩
end
end Go.Proofs.Seat4
end

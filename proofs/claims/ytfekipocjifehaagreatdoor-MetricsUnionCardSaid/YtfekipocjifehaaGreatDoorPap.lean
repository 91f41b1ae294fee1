/- A part of the proof. -/
import Derived.Test.YtfekipocjifehaaGreatDoorProg
import Derived.WalkKit
import Derived.WalkSpells
import Derived.WalkLawsBesides
import Derived.Shelf.Strings.Builder1
import Derived.Shelf.Small.Bits
import Derived.Shelf.Strings.BuilderF
import Derived.Shelf.Strings.BuilderK
import Derived.Shelf.Strconv.Itoa0
import Derived.Shelf.Strconv.Itoa1
import Derived.Shelf.LaysM
import Derived.Shelf.Strconv.Itoa2
import Derived.Shelf.Strconv.Itoa3
import Derived.Shelf.Slices.Turned
import Derived.Shelf.SlSortCmp.SmallK
import Derived.Ground.SlsfProg
import Derived.Ground.NamesProg
import Derived.Lib.Hide
import Derived.Sort.Walk0
import Derived.Sort.LotA
import Derived.Orders
set_option linter.all false
section
namespace Go.Proofs.Seat4
open Go.RowKit
theorem bcell {W w1 : World} (hb : Below W.heap.size W w1) : (∀ b o, b < W.heap.size → w1.cell? ⟨b, o, none⟩ = W.cell? ⟨b, o, none⟩) ∧ (∀ b o, b < W.heap.size → w1.frozen? ⟨b, o, none⟩ = W.frozen? ⟨b, o, none⟩) :=
  ⟨fun b o h => hb.cell (p := ⟨b, o, none⟩) h, fun b o h => hb.frozen (p := ⟨b, o, none⟩) h⟩
def Row (w : World) (b off : Nat) (cs : List Value) : Prop := ∀ j v, cs[j]? = some v → w.cell? ⟨b, off + j, none⟩ = some v
theorem plain_add (b off n : Nat) : (⟨b, off, none⟩ : Addr).add n = ⟨b, off + n, none⟩ := by unfold Addr.add; split <;> simp_all
theorem Row.below {w w' : World} {b off : Nat} {cs : List Value} {B : Nat} (h : Row w b off cs) (hb : Below B w w') (ha : b < B) : Row w' b off cs :=
  fun j v hj => (hb.cell (p := ⟨b, off + j, none⟩) ha).trans (h j v hj)
theorem Row.alloc {w : World} {b off : Nat} {cs : List Value} (h : Row w b off cs) (ha : b < w.heap.size) (o : Obj) : Row (w.alloc o) b off cs :=
  h.below ((Below.refl w.heap.size w).alloc (Nat.le_refl _) o) ha
theorem Row.lt {w : World} {b off : Nat} {cs : List Value} (h : Row w b off cs) (hne : cs ≠ []) : b < w.heap.size := by
  obtain ⟨c, r, rfl⟩ := List.exists_cons_of_ne_nil hne
  exact World.block_lt_of_cell? w ⟨b, off + 0, none⟩ (h 0 c rfl)
theorem Row.drop {w : World} {b off : Nat} {cs : List Value} (h : Row w b off cs) (n : Nat) : Row w b (off + n) (cs.drop n) := by
  intro j v hj
  rw [Nat.add_assoc]
  exact h (n + j) v (by simpa using hj)
theorem Row.take {w : World} {b off : Nat} {cs : List Value} (h : Row w b off cs) (n : Nat) : Row w b off (cs.take n) := by
  intro j v hj
  rw [List.getElem?_take] at hj
  split at hj
  · exact h j v hj
  · cases hj
theorem Row.append {w : World} {b off : Nat} {cs ds : List Value} (h : Row w b off (cs ++ ds)) : Row w b off cs ∧ Row w b (off + cs.length) ds := by
  refine ⟨?_, ?_⟩
  · have := h.take cs.length; simpa using this
  · have := h.drop cs.length; simpa using this
section
variable {P : Program}
theorem run_loadVar_agg (w : World) (b off : Nat) (ty : TypeId) (cs : List Value) (d : TypeDesc) (hc : Row w b off cs)
    (hu : P.underlying ty = some d) (hd : (match d with | .struct _ | .array _ _ => true | _ => false) = true) (hi : (P.info? ty).map (·.size) = some cs.length) :
    (loadVar ty ⟨b, off, none⟩).run P w = .ok (.agg cs.toArray) w := by
  have hl : (loadCells ⟨b, off, none⟩ cs.length).run P w = .ok cs.toArray w := run_loadCells_list (P := P) w ⟨b, off, none⟩ cs (fun j v hj => by rw [plain_add]; exact hc j v hj)
  cases hq : P.info? ty with
  | none => simp [hq] at hi
  | some i =>
    have hs : i.size = cs.length := by simpa [hq] using hi
    have hagg : (isAgg ty).run P w = .ok true w := by
      unfold isAgg
      rw [Sem.run_bind, run_underlying hu w]
      cases d <;> simp_all
    simp [loadVar, Sem.run_bind, hagg, sizeOf, typeInfo, hq, hs, hl]
theorem wpList_load_agg {ops : Array Oper} {rest : List Oper} {o : Oper} {a : Act} {w : World} {Q : Exit → Act → World → Prop} (hgd : o.guard = none) (ty : TypeId) (x : Operand) (ho : o.op = .load ty x)
    (b off : Nat) (hx : a.eval x = .pointer (some ⟨b, off, none⟩)) (cs : List Value) (hc : Row w b off cs) (d : TypeDesc)
    (hu : P.underlying ty = some d) (hd : (match d with | .struct _ | .array _ _ => true | _ => false) = true) (hi : (P.info? ty).map (·.size) = some cs.length)
    (h : wpList P ops Q rest (a.put o.dst (.agg cs.toArray)) w) : wpList P ops Q (o :: rest) a w :=
  wpList_plain hgd fun K hK => by
    unfold Oper.wp execOp
    simp only [ho, hx, Instr.loadAt, Instr.sureAddr, Sem.run_bind, Sem.run_pure, Result.andThen_ok, run_loadVar_agg w b off ty cs d hc hu hd hi]
    exact hK _ _ h
theorem wpList_load_one {ops : Array Oper} {rest : List Oper} {o : Oper} {a : Act} {w : World} {Q : Exit → Act → World → Prop} (hgd : o.guard = none) (ty : TypeId) (x : Operand) (ho : o.op = .load ty x)
    (ad : Addr) (hx : a.eval x = .pointer (some ad)) (v : Value) (hc : w.cell? ad = some v) (d : TypeDesc)
    (hu : P.underlying ty = some d) (hd : (match d with | .struct _ | .array _ _ => true | _ => false) = false)
    (h : wpList P ops Q rest (a.put o.dst v) w) : wpList P ops Q (o :: rest) a w :=
  wpList_plain hgd fun K hK => by
    have hagg : (isAgg ty).run P w = .ok false w := by
      unfold isAgg
      rw [Sem.run_bind, run_underlying hu w]
      cases d <;> simp_all
    have hrun : (loadVar ty ad).run P w = .ok v w := by
      unfold loadVar
      rw [Sem.run_bind, hagg]
      simp [load, Sem.run, hc]
    unfold Oper.wp execOp
    simp only [ho, hx, Instr.loadAt, Instr.sureAddr, Sem.run_bind, Sem.run_pure, Result.andThen_ok, hrun]
    exact hK _ _ h
structure ElemT (P : Program) (t e size bytes : Nat) : Prop where
  ht : P.underlying t = some (.slice e)
  hi : ∃ i z, P.info? e = some i ∧ i.zero = some z ∧ i.size = size ∧ i.bytes = bytes ∧ z.cells.size = size
  hsz : 0 < size
theorem ElemT.mk' {t e size bytes : Nat} {z : Value} (ht : P.underlying t = some (.slice e)) (h : (P.info? e).map (fun i => (i.zero, i.size, i.bytes)) = some (some z, size, bytes)) (hz : z.cells.size = size) (hs : 0 < size) : ElemT P t e size bytes := by
  obtain ⟨i, hi, h0, h1, h2⟩ := info_parts h
  exact ⟨ht, ⟨i, z, hi, h0, h1, h2, hz⟩, hs⟩
theorem wpList_app {ops : Array Oper} {rest : List Oper} {o : Oper} {a : Act} {w : World} {Q : Exit → Act → World → Prop} (hgd : o.guard = none) (s x : Operand) (t : TypeId)
    (ho : o.op = .call { callee := .builtin .append, args := #[s, x], argTypes := #[t, t] })
    (base : Nat) (e : TypeId) (size bytes : Nat) (T : ElemT P t e size bytes) (v : Value) (n : Nat) (xs : List Value) (hs : a.eval s = v) (hown : w.ownsRow base e size v n xs)
    (g : Nat) (news : List Value) (hx : a.eval x = .slice (some ⟨g, 0, none⟩) 1 1) (hl : news.length = size) (hnews : Row w g 0 news) (h1 : ∀ u ∈ news, u.oneCell' = true)
    (hm : n + 1 ≤ 1048576) (hbytes : bytes ≤ 1048576) (hbase : base ≤ w.heap.size)
    (h : ∀ v' w', w'.ownsRow base e size v' (n + 1) (xs ++ news) → w.grownBy w' v.ownBlock → wpList P ops Q rest (a.put o.dst v') w') : wpList P ops Q (o :: rest) a w := by
  obtain ⟨ht, ⟨i, z, hi, hz, hsize, hby, hzs⟩, hsz⟩ := T
  refine wpList_append_own w hgd s x t ho base e i z size bytes ht hi hz hsize hby hzs hsz v n xs hs hown ⟨g, 0, none⟩ 1 1 news hx (by omega) (fun j u hj => by rw [plain_add]; exact hnews j u hj) h1 (by unfold maxLen; omega) ?_ hbase (fun v' w' h2 h3 _ => h v' w' h2 h3)
  calc (n + 1) * bytes ≤ 1048576 * 1048576 := Nat.mul_le_mul hm hbytes
    _ ≤ _ := by omega
end
theorem Row.new (w : World) (cs : Array Value) (t : TypeId) (n : Nat) (hn : n = w.heap.size) : Row (w.alloc (.cells cs t)) n 0 cs.toList := by
  subst hn
  intro j v hj
  have := cell_of_row (w.alloc (.cells cs t)) w.heap.size (0 + j) cs t (0, 0) (heap_alloc_new w _)
  rw [this]
  simpa using hj
theorem ownsRow_row {w : World} {base e size n : Nat} {v : Value} {xs : List Value} (h : w.ownsRow base e size v n xs) :
    (v = .slice none 0 0 ∧ n = 0 ∧ xs = []) ∨ ∃ g cap, v = .slice (some ⟨g, 0, none⟩) n cap ∧ base ≤ g ∧ g < w.heap.size ∧ n ≤ cap ∧ Row w g 0 xs := by
  rcases h.2 with ⟨rfl, rfl⟩ | ⟨g, cap, cur, rfl, hb, hg, hn, hm, hs, ht⟩
  · exact .inl ⟨rfl, rfl, List.eq_nil_of_length_eq_zero (by simpa using h.1)⟩
  · refine .inr ⟨g, cap, rfl, hb, (Array.getElem?_eq_some_iff.1 hg).1, hn, fun j u hj => ?_⟩
    have := h.cells (g := g) rfl j u hj
    rwa [plain_add] at this
end Go.Proofs.Seat4
end
section
namespace Go.Proofs
open Go.Shelf
def Tryz.sortMt_ren : Go.Shelf.Ren := ⟨fun | 6 => 35 | 15 => 56 | 14 => 55 | 28 => 78 | 29 => 79 | 20 => 70 | 21 => 71 | 22 => 72 | 23 => 73 | 24 => 74 | 25 => 75 | 26 => 76 | 27 => 77 | 46 => 100 | 47 => 101 | 48 => 102 | 49 => 103 | 50 => 104 | 57 => 180 | n => n, fun | 22 => 22 | 24 => 32 | 25 => 66 | 3 => 3 | 39 => 118 | 0 => 0 | 53 => 159 | 55 => 161 | 4 => 4 | 46 => 152 | 45 => 151 | 50 => 156 | 5 => 5 | 9 => 9 | 66 => 194 | 70 => 198 | 76 => 240 | 77 => 200 | n => n, fun | n => n⟩
theorem Tryz.sortMt : Go.Proofs.SlLaysF0.n6 Tryz.prog Tryz.sortMt_ren := {
  mixed := by kernel_rfl
  f6 := ⟨Tryz.f35.name, by decide, Tryz.func35.trans (congrArg some (by kernel_rfl))⟩
  f14 := ⟨Tryz.f55.name, by decide, Tryz.func55.trans (congrArg some (by kernel_rfl))⟩
  f15 := Tryz.func56.trans (congrArg some (by kernel_rfl))
  f20 := ⟨Tryz.f70.name, by decide, Tryz.func70.trans (congrArg some (by kernel_rfl))⟩
  f21 := ⟨Tryz.f71.name, by decide, Tryz.func71.trans (congrArg some (by kernel_rfl))⟩
  f22 := ⟨Tryz.f72.name, by decide, Tryz.func72.trans (congrArg some (by kernel_rfl))⟩
  f23 := ⟨Tryz.f73.name, by decide, Tryz.func73.trans (congrArg some (by kernel_rfl))⟩
  f24 := ⟨Tryz.f74.name, by decide, Tryz.func74.trans (congrArg some (by kernel_rfl))⟩
  f25 := ⟨Tryz.f75.name, by decide, Tryz.func75.trans (congrArg some (by kernel_rfl))⟩
  f26 := ⟨Tryz.f76.name, by decide, Tryz.func76.trans (congrArg some (by kernel_rfl))⟩
  f27 := ⟨Tryz.f77.name, by decide, Tryz.func77.trans (congrArg some (by kernel_rfl))⟩
  f28 := Tryz.func78.trans (congrArg some (by kernel_rfl))
  f29 := Tryz.func79.trans (congrArg some (by kernel_rfl))
  f46 := ⟨Tryz.f100.name, by decide, Tryz.func100.trans (congrArg some (by kernel_rfl))⟩
  f47 := Tryz.func101.trans (congrArg some (by kernel_rfl))
  f48 := Tryz.func102.trans (congrArg some (by kernel_rfl))
  f49 := ⟨Tryz.f103.name, by decide, Tryz.func103.trans (congrArg some (by kernel_rfl))⟩
  f50 := ⟨Tryz.f104.name, by decide, Tryz.func104.trans (congrArg some (by kernel_rfl))⟩
  f57 := ⟨Tryz.f180.name, by decide, Tryz.func180.trans (congrArg some (by kernel_rfl))⟩
  t0 := Tryz.underlying0
  a0 := Tryz.isAgg0
  z0 := Tryz.sizeOf0
  v0 := Tryz.zeroValue0
  t3 := Tryz.underlying3
  a3 := Tryz.isAgg3
  z3 := Tryz.sizeOf3
  v3 := Tryz.zeroValue3
  t4 := Tryz.underlying4
  a4 := Tryz.isAgg4
  z4 := Tryz.sizeOf4
  v4 := Tryz.zeroValue4
  t5 := Tryz.underlying5
  a5 := Tryz.isAgg5
  z5 := Tryz.sizeOf5
  v5 := Tryz.zeroValue5
  t9 := Tryz.underlying9
  a9 := Tryz.isAgg9
  z9 := Tryz.sizeOf9
  v9 := Tryz.zeroValue9
  t22 := Tryz.underlying22
  a22 := Tryz.isAgg22
  z22 := Tryz.sizeOf22
  v22 := Tryz.zeroValue22
  t25 := Tryz.underlying66
  a25 := Tryz.isAgg66
  z25 := Tryz.sizeOf66
  v25 := Tryz.zeroValue66
  t39 := Tryz.underlying118
  a39 := Tryz.isAgg118
  z39 := Tryz.sizeOf118
  v39 := Tryz.zeroValue118
  t45 := Tryz.underlying151
  a45 := Tryz.isAgg151
  z45 := Tryz.sizeOf151
  v45 := Tryz.zeroValue151
  t46 := Tryz.underlying152
  a46 := Tryz.isAgg152
  z46 := Tryz.sizeOf152
  v46 := Tryz.zeroValue152
  t50 := Tryz.underlying156
  a50 := Tryz.isAgg156
  z50 := Tryz.sizeOf156
  v50 := Tryz.zeroValue156
  t53 := Tryz.underlying159
  a53 := Tryz.isAgg159
  z53 := Tryz.sizeOf159
  v53 := Tryz.zeroValue159
  t55 := Tryz.underlying161
  a55 := Tryz.isAgg161
  z55 := Tryz.sizeOf161
  v55 := Tryz.zeroValue161
  t66 := Tryz.underlying194
  a66 := Tryz.isAgg194
  z66 := Tryz.sizeOf194
  v66 := Tryz.zeroValue194
  t70 := Tryz.underlying198
  a70 := Tryz.isAgg198
  z70 := Tryz.sizeOf198
  v70 := Tryz.zeroValue198
  t76 := Tryz.underlying240
  a76 := Tryz.isAgg240
  z76 := Tryz.sizeOf240
  v76 := Tryz.zeroValue240
  t77 := Tryz.underlying200
  a77 := Tryz.isAgg200
  z77 := Tryz.sizeOf200
  v77 := Tryz.zeroValue200 }
def Tryz.bitsLen_ren : Go.Shelf.Ren := ⟨fun | 125 => 56 | 128 => 78 | 129 => 79 | n => n, fun | 46 => 118 | 3 => 3 | 51 => 159 | 53 => 161 | 4 => 4 | 5 => 5 | 9 => 9 | n => n, fun | n => n⟩
theorem Tryz.bitsLen : Go.Proofs.Lays.n125 Tryz.prog Tryz.bitsLen_ren := {
  mixed := by kernel_rfl
  f125 := Tryz.func56.trans (congrArg some (by kernel_rfl))
  f128 := Tryz.func78.trans (congrArg some (by kernel_rfl))
  f129 := Tryz.func79.trans (congrArg some (by kernel_rfl))
  t3 := Tryz.underlying3
  a3 := Tryz.isAgg3
  z3 := Tryz.sizeOf3
  v3 := Tryz.zeroValue3
  t4 := Tryz.underlying4
  a4 := Tryz.isAgg4
  z4 := Tryz.sizeOf4
  v4 := Tryz.zeroValue4
  t5 := Tryz.underlying5
  a5 := Tryz.isAgg5
  z5 := Tryz.sizeOf5
  v5 := Tryz.zeroValue5
  t9 := Tryz.underlying9
  a9 := Tryz.isAgg9
  z9 := Tryz.sizeOf9
  v9 := Tryz.zeroValue9
  t46 := Tryz.underlying118
  a46 := Tryz.isAgg118
  z46 := Tryz.sizeOf118
  v46 := Tryz.zeroValue118
  t51 := Tryz.underlying159
  a51 := Tryz.isAgg159
  z51 := Tryz.sizeOf159
  v51 := Tryz.zeroValue159
  t53 := Tryz.underlying161
  a53 := Tryz.isAgg161
  z53 := Tryz.sizeOf161
  v53 := Tryz.zeroValue161 }
def Tryz.lays169_ren : Go.Shelf.Ren := ⟨fun | 169 => 33 | n => n, fun | 70 => 85 | 9 => 9 | 0 => 0 | 72 => 88 | 37 => 86 | 127 => 115 | 3 => 3 | 5 => 5 | n => n, fun | n => n⟩
theorem Tryz.lays169 : Go.Proofs.Lays.n169 Tryz.prog Tryz.lays169_ren := {
  mixed := by kernel_rfl
  f169 := Tryz.func33.trans (congrArg some (by kernel_rfl))
  t0 := Tryz.underlying0
  a0 := Tryz.isAgg0
  z0 := Tryz.sizeOf0
  v0 := Tryz.zeroValue0
  t3 := Tryz.underlying3
  a3 := Tryz.isAgg3
  z3 := Tryz.sizeOf3
  v3 := Tryz.zeroValue3
  t9 := Tryz.underlying9
  a9 := Tryz.isAgg9
  z9 := Tryz.sizeOf9
  v9 := Tryz.zeroValue9
  t37 := Tryz.underlying86
  a37 := Tryz.isAgg86
  z37 := Tryz.sizeOf86
  v37 := Tryz.zeroValue86
  t70 := Tryz.underlying85
  a70 := Tryz.isAgg85
  z70 := Tryz.sizeOf85
  v70 := Tryz.zeroValue85
  t72 := Tryz.underlying88
  a72 := Tryz.isAgg88
  z72 := Tryz.sizeOf88
  v72 := Tryz.zeroValue88
  t127 := Tryz.underlying115
  a127 := Tryz.isAgg115
  z127 := Tryz.sizeOf115
  v127 := Tryz.zeroValue115 }
theorem Tryz.Builder_Extra_169 : Builder.Extra Tryz.prog Tryz.lays169_ren := {
  sizeBuilder := by kernel_rfl
  liesBuilder := by kernel_rfl
  t5 := Tryz.underlying5
  a5 := Tryz.isAgg5
  z5 := Tryz.sizeOf5
  v5 := Tryz.zeroValue5
  infoByte := by kernel_rfl
  cellsByte := by kernel_rfl
  sizeByte := by kernel_rfl
  neB5 := by decide }
open Go.RowKit in
theorem Tryz.Builder_String_any (B b : Nat) (l : List UInt8) (w : World) (h : Lib.IsBuilder 88 5 B b (Lib.byteCells l) w) (hBw : B ≤ w.heap.size) :
    Calls Tryz.prog 33 #[.pointer (some ⟨b, 0, none⟩)] w fun e w' => e = .returned (.string ⟨l.toArray⟩) ∧ Below B w w' := Any.Builder_String_any Tryz.lays169 Tryz.Builder_Extra_169 B b l w h hBw
def Tryz.laysM171_ren : Go.Shelf.Ren := ⟨fun | 171 => 31 | 243 => 54 | 246 => 69 | 283 => 96 | 284 => 97 | 285 => 98 | 286 => 99 | 129 => 79 | 317 => 176 | 318 => 177 | 319 => 178 | 320 => 179 | 337 => 297 | 338 => 298 | n => n, fun | 3 => 3 | 9 => 9 | 2 => 2 | 4 => 4 | 171 => 190 | 0 => 0 | 53 => 161 | 37 => 86 | 5 => 5 | 173 => 192 | 212 => 238 | 51 => 159 | 20 => 20 | 213 => 239 | 46 => 118 | 232 => 466 | 233 => 467 | n => n, fun | 17 => 0 | 18 => 1 | 19 => 2 | n => n⟩
theorem Tryz.laysM171 : Go.Proofs.LaysM.n171 Tryz.prog Tryz.laysM171_ren := {
  mixed := by kernel_rfl
  f129 := Tryz.func79.trans (congrArg some (by kernel_rfl))
  f171 := Tryz.func31.trans (congrArg some (by kernel_rfl))
  f243 := Tryz.func54.trans (congrArg some (by kernel_rfl))
  f246 := Tryz.func69.trans (congrArg some (by kernel_rfl))
  f283 := Tryz.func96.trans (congrArg some (by kernel_rfl))
  f284 := Tryz.func97.trans (congrArg some (by kernel_rfl))
  f285 := Tryz.func98.trans (congrArg some (by kernel_rfl))
  f286 := Tryz.func99.trans (congrArg some (by kernel_rfl))
  f317 := Tryz.func176.trans (congrArg some (by kernel_rfl))
  f318 := Tryz.func177.trans (congrArg some (by kernel_rfl))
  f319 := Tryz.func178.trans (congrArg some (by kernel_rfl))
  f320 := Tryz.func179.trans (congrArg some (by kernel_rfl))
  f337 := Tryz.func297.trans (congrArg some (by kernel_rfl))
  f338 := Tryz.func298.trans (congrArg some (by kernel_rfl))
  t0 := Tryz.underlying0
  a0 := Tryz.isAgg0
  z0 := Tryz.sizeOf0
  v0 := Tryz.zeroValue0
  t2 := Tryz.underlying2
  a2 := Tryz.isAgg2
  z2 := Tryz.sizeOf2
  v2 := Tryz.zeroValue2
  t3 := Tryz.underlying3
  a3 := Tryz.isAgg3
  z3 := Tryz.sizeOf3
  v3 := Tryz.zeroValue3
  t4 := Tryz.underlying4
  a4 := Tryz.isAgg4
  z4 := Tryz.sizeOf4
  v4 := Tryz.zeroValue4
  t5 := Tryz.underlying5
  a5 := Tryz.isAgg5
  z5 := Tryz.sizeOf5
  v5 := Tryz.zeroValue5
  t9 := Tryz.underlying9
  a9 := Tryz.isAgg9
  z9 := Tryz.sizeOf9
  v9 := Tryz.zeroValue9
  t20 := Tryz.underlying20
  a20 := Tryz.isAgg20
  z20 := Tryz.sizeOf20
  v20 := Tryz.zeroValue20
  t37 := Tryz.underlying86
  a37 := Tryz.isAgg86
  z37 := Tryz.sizeOf86
  v37 := Tryz.zeroValue86
  t46 := Tryz.underlying118
  a46 := Tryz.isAgg118
  z46 := Tryz.sizeOf118
  v46 := Tryz.zeroValue118
  t51 := Tryz.underlying159
  a51 := Tryz.isAgg159
  z51 := Tryz.sizeOf159
  v51 := Tryz.zeroValue159
  t53 := Tryz.underlying161
  a53 := Tryz.isAgg161
  z53 := Tryz.sizeOf161
  v53 := Tryz.zeroValue161
  t171 := Tryz.underlying190
  a171 := Tryz.isAgg190
  z171 := Tryz.sizeOf190
  v171 := Tryz.zeroValue190
  t173 := Tryz.underlying192
  a173 := Tryz.isAgg192
  z173 := Tryz.sizeOf192
  v173 := Tryz.zeroValue192
  t212 := Tryz.underlying238
  a212 := Tryz.isAgg238
  z212 := Tryz.sizeOf238
  v212 := Tryz.zeroValue238
  t213 := Tryz.underlying239
  a213 := Tryz.isAgg239
  z213 := Tryz.sizeOf239
  t232 := Tryz.underlying466
  a232 := Tryz.isAgg466
  z232 := Tryz.sizeOf466
  v232 := Tryz.zeroValue466
  t233 := Tryz.underlying467
  a233 := Tryz.isAgg467
  z233 := Tryz.sizeOf467
  v233 := Tryz.zeroValue467
  g17 := by kernel_rfl
  g18 := by kernel_rfl
  g19 := by kernel_rfl
  i0 := by kernel_rfl
  i2 := by kernel_rfl
  i3 := by kernel_rfl
  i4 := by kernel_rfl
  i5 := by kernel_rfl
  i9 := by kernel_rfl
  i20 := by kernel_rfl
  i37 := by kernel_rfl
  i46 := by kernel_rfl
  i51 := by kernel_rfl
  i53 := by kernel_rfl
  i171 := by kernel_rfl
  i173 := by kernel_rfl
  i212 := by kernel_rfl
  i232 := by kernel_rfl
  i233 := by kernel_rfl
  m17 := by kernel_rfl
  m18 := by kernel_rfl
  m19 := by kernel_rfl }
open Go.RowKit Go.Sort Go.Lib in
theorem Tryz.strconv_Itoa (n : Int) (h0 : -9223372036854775808 ≤ n) (h1 : n ≤ 9223372036854775807) (w : World) (htab : Lib.TabIs Tryz.prog w "internal/strconv.uint64pow10" .u64 Lib.pow10Tab) :
    Calls Tryz.prog 31 #[.int .i64 n] w fun e w' => e = .returned (.string ⟨(Lib.itoa n).toArray⟩) ∧ ∃ k os, w' = grow (w.drewN k) os := Any.strconv_Itoa Tryz.laysM171 n h0 h1 w htab
def Tryz.lays171_ren : Go.Shelf.Ren := ⟨fun | 171 => 31 | 243 => 54 | 246 => 69 | 283 => 96 | 284 => 97 | 285 => 98 | 286 => 99 | 129 => 79 | 317 => 176 | 318 => 177 | 319 => 178 | 320 => 179 | 337 => 297 | 338 => 298 | n => n, fun | 3 => 3 | 9 => 9 | 2 => 2 | 4 => 4 | 171 => 190 | 0 => 0 | 53 => 161 | 37 => 86 | 5 => 5 | 173 => 192 | 212 => 238 | 51 => 159 | 20 => 20 | 213 => 239 | 46 => 118 | 232 => 466 | 233 => 467 | n => n, fun | 17 => 0 | 18 => 1 | 19 => 2 | n => n⟩
theorem Tryz.lays171 : Go.Proofs.Lays.n171 Tryz.prog Tryz.lays171_ren := {
  mixed := by kernel_rfl
  f129 := Tryz.func79.trans (congrArg some (by kernel_rfl))
  f171 := Tryz.func31.trans (congrArg some (by kernel_rfl))
  f243 := Tryz.func54.trans (congrArg some (by kernel_rfl))
  f246 := Tryz.func69.trans (congrArg some (by kernel_rfl))
  f283 := Tryz.func96.trans (congrArg some (by kernel_rfl))
  f284 := Tryz.func97.trans (congrArg some (by kernel_rfl))
  f285 := Tryz.func98.trans (congrArg some (by kernel_rfl))
  f286 := Tryz.func99.trans (congrArg some (by kernel_rfl))
  f317 := Tryz.func176.trans (congrArg some (by kernel_rfl))
  f318 := Tryz.func177.trans (congrArg some (by kernel_rfl))
  f319 := Tryz.func178.trans (congrArg some (by kernel_rfl))
  f320 := Tryz.func179.trans (congrArg some (by kernel_rfl))
  f337 := Tryz.func297.trans (congrArg some (by kernel_rfl))
  f338 := Tryz.func298.trans (congrArg some (by kernel_rfl))
  t0 := Tryz.underlying0
  a0 := Tryz.isAgg0
  z0 := Tryz.sizeOf0
  v0 := Tryz.zeroValue0
  t2 := Tryz.underlying2
  a2 := Tryz.isAgg2
  z2 := Tryz.sizeOf2
  v2 := Tryz.zeroValue2
  t3 := Tryz.underlying3
  a3 := Tryz.isAgg3
  z3 := Tryz.sizeOf3
  v3 := Tryz.zeroValue3
  t4 := Tryz.underlying4
  a4 := Tryz.isAgg4
  z4 := Tryz.sizeOf4
  v4 := Tryz.zeroValue4
  t5 := Tryz.underlying5
  a5 := Tryz.isAgg5
  z5 := Tryz.sizeOf5
  v5 := Tryz.zeroValue5
  t9 := Tryz.underlying9
  a9 := Tryz.isAgg9
  z9 := Tryz.sizeOf9
  v9 := Tryz.zeroValue9
  t20 := Tryz.underlying20
  a20 := Tryz.isAgg20
  z20 := Tryz.sizeOf20
  v20 := Tryz.zeroValue20
  t37 := Tryz.underlying86
  a37 := Tryz.isAgg86
  z37 := Tryz.sizeOf86
  v37 := Tryz.zeroValue86
  t46 := Tryz.underlying118
  a46 := Tryz.isAgg118
  z46 := Tryz.sizeOf118
  v46 := Tryz.zeroValue118
  t51 := Tryz.underlying159
  a51 := Tryz.isAgg159
  z51 := Tryz.sizeOf159
  v51 := Tryz.zeroValue159
  t53 := Tryz.underlying161
  a53 := Tryz.isAgg161
  z53 := Tryz.sizeOf161
  v53 := Tryz.zeroValue161
  t171 := Tryz.underlying190
  a171 := Tryz.isAgg190
  z171 := Tryz.sizeOf190
  v171 := Tryz.zeroValue190
  t173 := Tryz.underlying192
  a173 := Tryz.isAgg192
  z173 := Tryz.sizeOf192
  v173 := Tryz.zeroValue192
  t212 := Tryz.underlying238
  a212 := Tryz.isAgg238
  z212 := Tryz.sizeOf238
  v212 := Tryz.zeroValue238
  t213 := Tryz.underlying239
  a213 := Tryz.isAgg239
  z213 := Tryz.sizeOf239
  t232 := Tryz.underlying466
  a232 := Tryz.isAgg466
  z232 := Tryz.sizeOf466
  v232 := Tryz.zeroValue466
  t233 := Tryz.underlying467
  a233 := Tryz.isAgg467
  z233 := Tryz.sizeOf467
  v233 := Tryz.zeroValue467
  g17 := by kernel_rfl
  g18 := by kernel_rfl
  g19 := by kernel_rfl }
open Go.RowKit Go.Sort Go.Lib in
theorem Tryz.strconv_Itoa_small (i : Nat) (hi : i < 100) (w : World) :
    Calls Tryz.prog 31 #[.int .i64 i] w fun e w' => e = .returned (.string ⟨(Lib.decDigits i).toArray⟩) ∧ w' = w := Any.strconv_Itoa_small Tryz.lays171 i hi w
def Tryz.lays110_ren : Go.Shelf.Ren := ⟨fun | 110 => 22 | 109 => 36 | n => n, fun | 31 => 64 | 9 => 9 | 4 => 4 | 3 => 3 | 0 => 0 | n => n, fun | n => n⟩
theorem Tryz.lays110 : Go.Proofs.Lays.n110 Tryz.prog Tryz.lays110_ren := {
  mixed := by kernel_rfl
  f109 := Tryz.func36.trans (congrArg some (by kernel_rfl))
  f110 := Tryz.func22.trans (congrArg some (by kernel_rfl))
  t0 := Tryz.underlying0
  a0 := Tryz.isAgg0
  z0 := Tryz.sizeOf0
  v0 := Tryz.zeroValue0
  t3 := Tryz.underlying3
  a3 := Tryz.isAgg3
  z3 := Tryz.sizeOf3
  v3 := Tryz.zeroValue3
  t4 := Tryz.underlying4
  a4 := Tryz.isAgg4
  z4 := Tryz.sizeOf4
  v4 := Tryz.zeroValue4
  t9 := Tryz.underlying9
  a9 := Tryz.isAgg9
  z9 := Tryz.sizeOf9
  v9 := Tryz.zeroValue9
  t31 := Tryz.underlying64
  a31 := Tryz.isAgg64
  z31 := Tryz.sizeOf64
  v31 := Tryz.zeroValue64 }
open Go.Lib in
theorem Tryz.slices_Contains_string (b off n c : Nat) (zs : List ByteArray) (x : ByteArray) (w : World) (hz : n ≤ zs.length) (hbig : n ≤ 9223372036854775807) (hc : ∀ j, j < zs.length → w.cell? ⟨b, off + j, none⟩ = some (.string (zs.getD j ByteArray.empty))) :
    Calls Tryz.prog 22 #[.slice (some ⟨b, off, none⟩) n c, .string x] w fun e w' => e = .returned (.bool (Lib.containsS (zs.take n) x)) ∧ w' = w := Any.slices_Contains_string Tryz.lays110 b off n c zs x w hz hbig hc
end Go.Proofs
end
section
namespace Go.Proofs.Seat7
open Go.RowKit Go.Proofs.Seat4
theorem bl_irr (l : List UInt8) : Op.bytesLess l l = false := by rw [bytesLess_eq]; exact Go.Sort.swo_ltStr.irrefl l
theorem bl_trans {a b c : List UInt8} (h1 : Op.bytesLess a b = true) (h2 : Op.bytesLess b c = true) : Op.bytesLess a c = true := by
  rw [bytesLess_eq] at *; exact Go.Sort.swo_ltStr.trans a b c h1 h2
theorem bl_eq {l m : List UInt8} (h1 : Op.bytesLess l m = false) (h2 : Op.bytesLess m l = false) : l = m := by
  rw [bytesLess_eq] at *
  simp only [decide_eq_false_iff_not, List.not_lt] at h1 h2
  exact List.le_antisymm h2 h1
theorem bl_asym {a b : List UInt8} (h : Op.bytesLess a b = true) : Op.bytesLess b a = false := by
  rcases Bool.eq_false_or_eq_true (Op.bytesLess b a) with e | e
  · have := bl_trans h e
    rw [bl_irr] at this; cases this
  · exact e
def cfS (l m : List UInt8) : Int := if Op.bytesLess l m = true then -1 else if Op.bytesLess m l = true then 1 else 0
set_option maxRecDepth 100000 in
set_option maxHeartbeats 1000000 in
theorem cmp38 (l m : List UInt8) (w : World) : Calls Tryz.prog 38 #[.string ⟨l.toArray⟩, .string ⟨m.toArray⟩] w fun e w' => e = .returned (.int .i64 (cfS l m)) ∧ w' = w := by
  by_cases h1 : Op.bytesLess l m = true
  · have hc : cfS l m = -1 := if_pos h1
    rw [hc]
    clear hc
    go_enter Tryz.func38, Tryz.ntmps38
    go_wp2
    go_ret
    exact ⟨rfl, rfl⟩
  · by_cases h2 : Op.bytesLess m l = true
    · have hc : cfS l m = 1 := by unfold cfS; rw [if_neg h1, if_pos h2]
      rw [hc]
      have h3 : Op.bytesLess l m = false := by simpa using h1
      have h4 : (l == m) = false := by
        rcases Bool.eq_false_or_eq_true (l == m) with e | e
        · have e2 : l = m := by simpa using e
          subst e2
          rw [bl_irr] at h2; cases h2
        · exact e
      clear hc h1
      go_enter Tryz.func38, Tryz.ntmps38
      go_wp2
      go_ret
      exact ⟨rfl, rfl⟩
    · have hc : cfS l m = 0 := by unfold cfS; rw [if_neg h1, if_neg h2]
      rw [hc]
      have h3 : Op.bytesLess l m = false := by simpa using h1
      have h4 : Op.bytesLess m l = false := by simpa using h2
      obtain rfl := bl_eq h3 h4
      clear hc h1 h2 h4
      go_enter Tryz.func38, Tryz.ntmps38
      go_wp2
      go_ret
      exact ⟨rfl, rfl⟩
def cfI (x y : Int) : Int := if x < y then -1 else if y < x then 1 else 0
set_option maxRecDepth 100000 in
set_option maxHeartbeats 1000000 in
theorem cmp39 (x y : Int) (w : World) : Calls Tryz.prog 39 #[.int .i64 x, .int .i64 y] w fun e w' => e = .returned (.int .i64 (cfI x y)) ∧ w' = w := by
  by_cases h1 : x < y
  · have hc : cfI x y = -1 := if_pos h1
    rw [hc]; clear hc
    go_enter Tryz.func39, Tryz.ntmps39
    go_wp2
    go_ret
    exact ⟨rfl, rfl⟩
  · by_cases h2 : y < x
    · have hc : cfI x y = 1 := by unfold cfI; rw [if_neg h1, if_pos h2]
      rw [hc]; clear hc
      go_enter Tryz.func39, Tryz.ntmps39
      go_wp2
      go_ret
      exact ⟨rfl, rfl⟩
    · have hc : cfI x y = 0 := by unfold cfI; rw [if_neg h1, if_neg h2]
      rw [hc]; clear hc
      go_enter Tryz.func39, Tryz.ntmps39
      go_wp2
      go_ret
      exact ⟨rfl, rfl⟩
def orI (x y : Int) : Int := if x = 0 then y else x
set_option maxRecDepth 100000 in
set_option maxHeartbeats 1000000 in
theorem or37 (x y : Int) (b : Nat) (cap : Nat) (w : World) (h1 : w.cell? ⟨b, 0, none⟩ = some (.int .i64 x)) (h2 : w.cell? ⟨b, 1, none⟩ = some (.int .i64 y)) :
    Calls Tryz.prog 37 #[.slice (some ⟨b, 0, none⟩) 2 cap] w fun e w' => e = .returned (.int .i64 (orI x y)) ∧ ∃ q os', w' = Go.Sort.grow (w.drewN q) os' := by
  have hw : w = Go.Sort.grow (w.drewN 0) #[] := by rw [Go.Sort.grow_empty]; rfl
  have Hw := Lib.hid hw
  clear hw
  by_cases h : x = 0
  · subst h
    have hc : orI 0 y = y := if_pos rfl
    rw [hc]
    by_cases h0 : y = 0
    · subst h0
      clear hc
      go_enter Tryz.func37, Tryz.ntmps37
      go_wp2
      refine wp_loop_rounds 3 ?_
      rw [rounds_succ]
      go_wp2
      rw [rounds_succ]
      go_wp2
      rw [rounds_succ]
      go_wp2
      go_ret
      exact ⟨rfl, 0, #[], Hw.out⟩
    · have hb : (y != 0) = true := by simpa using h0
      clear hc
      go_enter Tryz.func37, Tryz.ntmps37
      go_wp2
      refine wp_loop_rounds 3 ?_
      rw [rounds_succ]
      go_wp2
      rw [rounds_succ]
      go_wp2
      go_ret
      exact ⟨rfl, 0, #[], Hw.out⟩
  · have hc : orI x y = x := if_neg h
    rw [hc]
    have hb : (x != 0) = true := by simpa using h
    clear hc
    go_enter Tryz.func37, Tryz.ntmps37
    go_wp2
    refine wp_loop_rounds 3 ?_
    rw [rounds_succ]
    go_wp2
    go_ret
    exact ⟨rfl, 0, #[], Hw.out⟩
end Go.Proofs.Seat7
end
section
namespace Go.Proofs.Seat4
open Go.RowKit
def DetPost (S : World → Prop) (o : Oper) (a : Act) (v : Value) : Exit → Act → World → Prop := fun e a' w' => e = .normal ∧ a' = a.put o.dst v ∧ S w'
def DetOp (P : Program) (ops : Array Oper) (S : World → Prop) (o : Oper) (a : Act) (v : Value) : Prop := ∀ w, S w → wpList P ops (DetPost S o a v) [o] a w
def wpDet (P : Program) (ops : Array Oper) (S : World → Prop) (Q : Exit → Act → World → Prop) : List Oper → Act → Prop
  | [], a => ∀ w, S w → Q .normal a w
  | o :: rest, a => ∃ v, DetOp P ops S o a v ∧ wpDet P ops S Q rest (a.put o.dst v)
def writesTo (ops : Array Oper) (j t : Nat) : Bool := ((ops[j]?).bind (·.dst)) == some t
def noSelect (o : Oper) : Bool := match o.op with | .select .. => false | _ => true
def detOk (ops : Array Oper) : Bool :=
  (List.range ops.size).all fun i => match ops[i]? with
    | none => true
    | some o => noSelect o && o.after.all (fun e => !Region.binds .any e || decide (e.on < i)) &&
        (o.looksAt ops).all (fun t => (List.range ops.size).all fun j => !writesTo ops j t || o.after.any fun e => Region.binds .any e && e.on == j) &&
        (match o.dst with | none => true | some d => (List.range ops.size).all fun j => j == i || !writesTo ops j d)
section
variable {P : Program} {ops : Array Oper} {S : World → Prop} {Q : Exit → Act → World → Prop}
structure DetAt (ops : Array Oper) (i : Nat) (o : Oper) : Prop where
  sel : ∀ cs b, o.op ≠ .select cs b
  early : ∀ e ∈ o.after, Region.binds .any e = true → e.on < i
  deps : ∀ t ∈ o.looksAt ops, ∀ j, j < ops.size → writesTo ops j t = true → ∃ e ∈ o.after, Region.binds .any e = true ∧ e.on = j
  alone : ∀ d, o.dst = some d → ∀ j, j < ops.size → writesTo ops j d = true → j = i
theorem detOk_at (h : detOk ops = true) {i : Nat} {o : Oper} (hi : ops[i]? = some o) : DetAt ops i o := by
  have hlt : i < ops.size := (Array.getElem?_eq_some_iff.1 hi).1
  have := List.all_eq_true.1 h i (List.mem_range.2 hlt)
  rw [hi] at this
  simp only [Bool.and_eq_true] at this
  obtain ⟨⟨⟨h1, h2⟩, h3⟩, h4⟩ := this
  refine ⟨fun cs b e => ?_, fun e he hb => ?_, fun t ht j hj hw => ?_, fun d hd j hj hw => ?_⟩
  · unfold noSelect at h1
    rw [e] at h1
    cases h1
  · have := Array.all_eq_true'.1 h2 e he
    rw [hb] at this
    simpa using this
  · have := List.all_eq_true.1 (List.all_eq_true.1 h3 t ht) j (List.mem_range.2 hj)
    rw [hw] at this
    simp only [Bool.not_true, Bool.false_or] at this
    obtain ⟨e, he, hb⟩ := Array.any_eq_true'.1 this
    simp only [Bool.and_eq_true, beq_iff_eq] at hb
    exact ⟨e, he, hb.1, hb.2⟩
  · rw [hd] at h4
    have := List.all_eq_true.1 h4 j (List.mem_range.2 hj)
    rw [hw] at this
    simpa using this
structure DetInv (ops : Array Oper) (a0 : Act) (v : Nat → Value) (D : Nat → Bool) (a : Act) : Prop where
  defers : a.defers = a0.defers
  size : a.tmps.size = a0.tmps.size
  done : ∀ t, t < a0.tmps.size → ∀ j, j < ops.size → writesTo ops j t = true → D j = true → a.tmps[t]? = some (v j)
  rest : ∀ t, (∀ j, j < ops.size → writesTo ops j t = true → D j = false) → a.tmps[t]? = a0.tmps[t]?
theorem put_size (a : Act) (d : Option Tmp) (v : Value) : (a.put d v).tmps.size = a.tmps.size := by cases d <;> simp [Act.put]
theorem put_defers (a : Act) (d : Option Tmp) (v : Value) : (a.put d v).defers = a.defers := by cases d <;> simp [Act.put]
theorem put_get (a : Act) (d : Tmp) (v : Value) (t : Nat) : (a.put (some d) v).tmps[t]? = if t = d then (if t < a.tmps.size then some v else none) else a.tmps[t]? := by
  simp only [Act.put, Array.getElem?_setIfInBounds]
  by_cases h : d = t
  · subst h; simp
  · rw [if_neg h, if_neg (fun e => h e.symm)]
theorem DetInv.put (hok : detOk ops = true) {a0 a : Act} {v : Nat → Value} {D : Nat → Bool} (h : DetInv ops a0 v D a) {i : Nat} {o : Oper} (hi : ops[i]? = some o) (hn : D i = false) :
    DetInv ops a0 v (fun j => D j || j == i) (a.put o.dst (v i)) := by
  have A := detOk_at hok hi
  have hlt : i < ops.size := (Array.getElem?_eq_some_iff.1 hi).1
  refine ⟨(put_defers _ _ _).trans h.defers, (put_size _ _ _).trans h.size, fun t ht j hj hw hD => ?_, fun t ht => ?_⟩
  · cases hd : o.dst with
    | none =>
      have hne : j ≠ i := by
        rintro rfl
        unfold writesTo at hw
        rw [hi] at hw
        simp [hd] at hw
      have hDj : D j = true := by simpa [hne] using hD
      exact h.done t ht j hj hw hDj
    | some d =>
      rw [put_get]
      by_cases e : t = d
      · subst e
        have : j = i := A.alone t hd j hj hw
        subst this
        rw [if_pos rfl, if_pos (by rw [h.size]; exact ht)]
      · rw [if_neg e]
        have hne : j ≠ i := by
          rintro rfl
          unfold writesTo at hw
          rw [hi] at hw
          simp [hd] at hw
          exact e hw.symm
        have hDj : D j = true := by simpa [hne] using hD
        exact h.done t ht j hj hw hDj
  · cases hd : o.dst with
    | none =>
      refine h.rest t fun j hj hw => ?_
      have := ht j hj hw
      simp only [Bool.or_eq_false_iff] at this
      exact this.1
    | some d =>
      rw [put_get]
      have hne : t ≠ d := by
        rintro rfl
        have := ht i hlt (by unfold writesTo; rw [hi]; simp [hd])
        simp at this
      rw [if_neg hne]
      refine h.rest t fun j hj hw => ?_
      have := ht j hj hw
      simp only [Bool.or_eq_false_iff] at this
      exact this.1
theorem put_eq_of {a c : Act} (hs : a.tmps.size = c.tmps.size) {d : Option Tmp} {u v : Value} (h : c.put d u = c.put d v) : a.put d u = a.put d v := by
  cases d with
  | none => rfl
  | some d =>
    by_cases hd : d < c.tmps.size
    · have h1 : (c.put (some d) u).tmps[d]? = (c.put (some d) v).tmps[d]? := by rw [h]
      rw [put_get, put_get, if_pos rfl, if_pos rfl, if_pos hd, if_pos hd] at h1
      rw [Option.some.inj h1]
    · have hd' : ¬ d < a.tmps.size := by rw [hs]; exact hd
      simp only [Act.put, Array.setIfInBounds, dif_neg hd']
theorem wanted_agree (o : Oper) {a c : Act} (hg : ∀ t ∈ o.looksAt ops, a.tmps[t]? = c.tmps[t]?) : Region.wanted o (yielded ops a.tmps) = Region.wanted o (yielded ops c.tmps) := by
  unfold Region.wanted
  cases hgd : o.guard with
  | none => rfl
  | some gw =>
    obtain ⟨g, want⟩ := gw
    have : yielded ops a.tmps g = yielded ops c.tmps g := by
      unfold yielded
      cases ht : (ops[g]?).bind (·.dst) with
      | none => rfl
      | some t =>
        have := hg t (by unfold Oper.looksAt; rw [hgd]; simp [ht])
        simp [this]
    simp only [this]
theorem det_transfer {o : Oper} {a c : Act} {v : Value} {w : World} {i : Nat} (hi : ops[i]? = some o) (hsel : ∀ cs b, o.op ≠ .select cs b) (hs : a.tmps.size = c.tmps.size)
    (hg : ∀ t ∈ o.looksAt ops, a.tmps[t]? = c.tmps[t]?) (h : wpList P ops (DetPost S o c v) [o] c w) : wpOp P ops Q i (fun a' w' => a' = a.put o.dst v ∧ S w') a w := by
  have he : execOp a.eval o = execOp c.eval o := execOp_congr o hsel fun x hx => by
    cases x with
    | tmp t =>
      have := hg t (List.mem_append_left _ (List.mem_filterMap.2 ⟨.tmp t, by simpa using hx, rfl⟩))
      simp [Act.eval, Array.getD_eq_getD_getElem?, this]
    | _ => rfl
  unfold wpOp
  simp only [hi]
  unfold wpList at h
  rw [wanted_agree o hg]
  split
  · rename_i hw
    rw [if_pos hw] at h
    rcases h with h | ⟨_, a1, w1, h⟩
    · refine .inl ?_
      unfold Oper.wp at *
      rw [he]
      generalize (execOp c.eval o).run P w = r at *
      cases r with
      | ok n w' =>
        cases n <;> simp only [Oper.upon, wpList, DetPost, true_and] at h ⊢
        case value u => exact ⟨put_eq_of hs h.1, h.2⟩
        case skip => exact ⟨put_eq_of hs h.1, h.2⟩
        case defer d =>
          have h1 : ({ c with defers := d :: c.defers } : Act).defers = c.defers := by
            have := congrArg Act.defers h.1
            rwa [put_defers, put_defers] at this
          have := congrArg List.length h1
          simp at this
        case enter f args =>
          refine Calls.mono h fun e w'' he => ?_
          cases e with
          | returned u => exact ⟨put_eq_of hs he.1, he.2⟩
          | panicked ch => exact absurd he.1 (by simp)
          | outgrown => obtain ⟨a2, w2, h2, _⟩ := he; cases h2
        case row row args => exact Rows.mono h fun u w'' he => ⟨put_eq_of hs he.1, he.2⟩
      | halt x w' =>
        cases x <;> simp only [Oper.upon, DetPost] at h
        case panic u => exact absurd h.1 (by simp)
    · exact absurd h.1 (by simp)
  · rename_i hw
    rw [if_neg hw] at h
    simp only [wpList, DetPost, true_and] at h
    exact ⟨put_eq_of hs h.1, h.2⟩
def canon (ops : Array Oper) (a0 : Act) (v : Nat → Value) : Nat → Act
  | 0 => a0
  | k + 1 => match ops[k]? with
    | some o => (canon ops a0 v k).put o.dst (v k)
    | none => canon ops a0 v k
theorem canon_inv (hok : detOk ops = true) (a0 : Act) (v : Nat → Value) : ∀ k, k ≤ ops.size → DetInv ops a0 v (fun j => decide (j < k)) (canon ops a0 v k)
  | 0, _ => ⟨rfl, rfl, fun t _ j _ _ hD => by simp at hD, fun t _ => rfl⟩
  | k + 1, hk => by
    have ih := canon_inv hok a0 v k (by omega)
    have hget : ops[k]? = some ops[k] := Array.getElem?_eq_getElem (by omega)
    have := ih.put hok hget (by simp)
    have hc : canon ops a0 v (k + 1) = (canon ops a0 v k).put ops[k].dst (v k) := by
      show (match ops[k]? with | some o => (canon ops a0 v k).put o.dst (v k) | none => canon ops a0 v k) = _
      rw [hget]
    rw [hc]
    have hf : (fun j => decide (j < k) || j == k) = fun j => decide (j < k + 1) := by
      funext j
      by_cases h1 : j < k
      · simp [h1, show j < k + 1 from by omega]
      · by_cases h2 : j = k
        · simp [h2]
        · simp [h1, h2, show ¬ j < k + 1 from by omega]
    rwa [hf] at this
theorem det_canon (a0 : Act) : ∀ (l : List Oper) (k : Nat) (a : Act) (v : Nat → Value), (∀ j, l[j]? = ops[k + j]?) → canon ops a0 v k = a → wpDet P ops S Q l a →
    ∃ v' : Nat → Value, (∀ j, j < k → v' j = v j) ∧ (∀ j o, k ≤ j → ops[j]? = some o → DetOp P ops S o (canon ops a0 v' j) (v' j)) ∧ (∀ w, S w → Q .normal (canon ops a0 v' (k + l.length)) w) := by
  intro l
  induction l with
  | nil =>
    intro k a v hl ha h
    refine ⟨v, fun _ _ => rfl, fun j o hj ho => ?_, fun w hw => by simpa [ha] using h w hw⟩
    have hnone : ops[j]? = none := by
      have := hl (j - k)
      rw [show k + (j - k) = j from by omega] at this
      simpa using this.symm
    rw [hnone] at ho
    cases ho
  | cons o rest ih =>
    intro k a v hl ha h
    obtain ⟨u, hu, hrest⟩ := h
    have hk : ops[k]? = some o := by simpa using (hl 0).symm
    have same : ∀ (v1 v2 : Nat → Value) (m : Nat), (∀ j, j < m → v1 j = v2 j) → canon ops a0 v1 m = canon ops a0 v2 m := by
      intro v1 v2 m hm
      induction m with
      | zero => rfl
      | succ m ihm =>
        simp only [canon]
        rw [ihm fun j hj => hm j (by omega)]
        cases ops[m]? with
        | none => rfl
        | some o' => simp only [hm m (by omega)]
    let v2 : Nat → Value := fun j => if j = k then u else v j
    have hv2 : ∀ j, j < k → v2 j = v j := fun j hj => if_neg (by omega)
    have hck : canon ops a0 v2 k = a := (same v2 v k hv2).trans ha
    have hck1 : canon ops a0 v2 (k + 1) = a.put o.dst u := by
      show (match ops[k]? with | some o => (canon ops a0 v2 k).put o.dst (v2 k) | none => canon ops a0 v2 k) = _
      rw [hk, hck]
      simp [v2]
    obtain ⟨v', h1, h2, h3⟩ := ih (k + 1) _ v2 (fun j => by have := hl (j + 1); simpa [Nat.add_assoc, Nat.add_comm 1 j] using this) hck1 hrest
    refine ⟨v', fun j hj => (h1 j (by omega)).trans (hv2 j hj), fun j o' hj ho => ?_, fun w hw => by have := h3 w hw; rwa [show k + 1 + rest.length = k + (o :: rest).length from by simp; omega] at this⟩
    by_cases e : j = k
    · subst e
      rw [hk] at ho
      cases ho
      rw [same v' v2 j fun m hm => h1 m (by omega), hck, h1 j (by omega)]
      simp only [v2, if_true]
      exact hu
    · exact h2 j o' (by omega) ho
theorem det_any (hok : detOk ops = true) (a0 : Act) (v : Nat → Value) (hop : ∀ j o, ops[j]? = some o → DetOp P ops S o (canon ops a0 v j) (v j)) (hend : ∀ w, S w → Q .normal (canon ops a0 v ops.size) w) :
    ∀ (fuel : Nat) (listed : Array Bool) (a : Act) (w : World), listed.size = ops.size → ((List.range ops.size).filter fun i => !listed.getD i true).length ≤ fuel → DetInv ops a0 v (fun j => listed.getD j true) a → S w →
      wpAny P .any ops Q fuel listed a w := by
  have hall : ∀ (listed : Array Bool) (a : Act) (w : World), listed.size = ops.size → DetInv ops a0 v (fun j => listed.getD j true) a → S w → (∀ i, i < ops.size → listed.getD i true = true) → Q .normal a w := by
    intro listed a w hsz hinv hS hl
    have hc := canon_inv hok a0 v ops.size (Nat.le_refl _)
    have : a = canon ops a0 v ops.size := by
      have ht : a.tmps = (canon ops a0 v ops.size).tmps := by
        apply Array.ext_getElem?
        intro t
        by_cases hex : ∃ j, j < ops.size ∧ writesTo ops j t = true
        · obtain ⟨j, hj, hw⟩ := hex
          by_cases htl : t < a0.tmps.size
          · rw [hinv.done t htl j hj hw (hl j hj), hc.done t htl j hj hw (by simpa using hj)]
          · rw [Array.getElem?_eq_none (by rw [hinv.size]; omega), Array.getElem?_eq_none (by rw [hc.size]; omega)]
        · rw [hinv.rest t fun j hj hw => absurd ⟨j, hj, hw⟩ hex, hc.rest t fun j hj hw => absurd ⟨j, hj, hw⟩ hex]
      have hd : a.defers = (canon ops a0 v ops.size).defers := hinv.defers.trans hc.defers.symm
      cases a
      cases hcn : canon ops a0 v ops.size
      rw [hcn] at ht hd
      simp only at ht hd
      rw [ht, hd]
    rw [this]
    exact hend w hS
  have hready : ∀ (listed : Array Bool), Region.ready .any ops listed = [] → ∀ i, i < ops.size → listed.getD i true = true := by
    intro listed hr i
    induction i using Nat.strongRecOn with
    | ind i ih =>
      intro hi
      apply Classical.byContradiction
      intro hn
      have hn' : listed.getD i true = false := by simpa using hn
      have : i ∈ Region.ready .any ops listed := by
        unfold Region.ready
        rw [List.mem_filter]
        refine ⟨List.mem_range.2 hi, ?_⟩
        have hget : ops[i]? = some ops[i] := Array.getElem?_eq_getElem hi
        rw [hn', hget]
        simp only [Bool.not_false, Bool.true_and, Option.map_some, Option.getD_some]
        rw [Array.all_eq_true']
        intro e he
        cases hb : Region.binds .any e with
        | false => rfl
        | true =>
          have hlt := (detOk_at hok hget).early e he hb
          have := ih e.on hlt (by omega)
          have hlt' : e.on < listed.size ∨ ¬ e.on < listed.size := by omega
          rcases hlt' with h | h
          · simp only [Array.getD, h, dif_pos] at this ⊢
            exact this
          · exfalso
            have h1 : i < listed.size ∨ ¬ i < listed.size := by omega
            rcases h1 with h1 | h1
            · omega
            · simp [Array.getD, h1] at hn'
      rw [hr] at this
      cases this
  intro fuel
  induction fuel with
  | zero =>
    intro listed a w hsz hcount hinv hS
    have hl : ∀ i, i < ops.size → listed.getD i true = true := by
      intro i hi
      have := List.eq_nil_of_length_eq_zero (Nat.le_zero.1 hcount)
      have hmem : i ∉ (List.range ops.size).filter fun i => !listed.getD i true := by rw [this]; simp
      rw [List.mem_filter] at hmem
      simp only [List.mem_range, hi, true_and] at hmem
      simpa using hmem
    refine ⟨?_, hall listed a w hsz hinv hS hl⟩
    unfold Region.ready
    rw [List.filter_eq_nil_iff]
    intro i hi
    rw [hl i (List.mem_range.1 hi)]
    simp
  | succ fuel ih =>
    intro listed a w hsz hcount hinv hS
    refine ⟨fun hr => hall listed a w hsz hinv hS (hready listed hr), fun i hi => ?_⟩
    unfold Region.ready at hi
    rw [List.mem_filter] at hi
    obtain ⟨hir, hc⟩ := hi
    have hil : i < ops.size := List.mem_range.1 hir
    have hget : ops[i]? = some ops[i] := Array.getElem?_eq_getElem hil
    rw [hget] at hc
    simp only [Bool.and_eq_true, Option.map_some, Option.getD_some] at hc
    obtain ⟨hn, hafter⟩ := hc
    have hn' : listed.getD i true = false := by simpa using hn
    have A := detOk_at hok hget
    have hcan := canon_inv hok a0 v i (by omega)
    have hagree : ∀ t ∈ ops[i].looksAt ops, a.tmps[t]? = (canon ops a0 v i).tmps[t]? := by
      intro t ht
      by_cases hex : ∃ j, j < ops.size ∧ writesTo ops j t = true
      · obtain ⟨j, hj, hw⟩ := hex
        obtain ⟨e, he, hb, hon⟩ := A.deps t ht j hj hw
        have hlt := A.early e he hb
        have hlist := Array.all_eq_true'.1 hafter e he
        rw [hb] at hlist
        simp only [Bool.not_true, Bool.false_or] at hlist
        have hDj : listed.getD j true = true := by
          rw [hon] at hlist
          simp only [Array.getD] at hlist ⊢
          split at hlist
          · rename_i h; rw [dif_pos h]; exact hlist
          · cases hlist
        by_cases htl : t < a0.tmps.size
        · rw [hinv.done t htl j hj hw hDj, hcan.done t htl j hj hw (by simp; omega)]
        · rw [Array.getElem?_eq_none (by rw [hinv.size]; exact Nat.le_of_not_lt htl), Array.getElem?_eq_none (by rw [hcan.size]; exact Nat.le_of_not_lt htl)]
      · rw [hinv.rest t fun j hj hw => absurd ⟨j, hj, hw⟩ hex, hcan.rest t fun j hj hw => absurd ⟨j, hj, hw⟩ hex]
    refine wpOp_mono ?_ (det_transfer (Q := Q) (v := v i) hget A.sel (hinv.size.trans hcan.size.symm) hagree (hop i ops[i] hget w hS))
    rintro a' w' ⟨rfl, hS'⟩
    have hsz' : (listed.setIfInBounds i true).size = ops.size := by simpa using hsz
    refine ih _ _ _ hsz' ?_ ?_ hS'
    · have hlt : ((List.range ops.size).filter fun k => !(listed.setIfInBounds i true).getD k true).length < ((List.range ops.size).filter fun k => !listed.getD k true).length := by
        have hsub : ((List.range ops.size).filter fun k => !(listed.setIfInBounds i true).getD k true) = ((List.range ops.size).filter fun k => !listed.getD k true).filter (fun k => k != i) := by
          rw [List.filter_filter]
          apply List.filter_congr
          intro k hk
          have hkl : k < listed.size := by rw [hsz]; exact List.mem_range.1 hk
          by_cases e : k = i
          · subst e; simp [Array.getD, hkl]
          · have : ¬ i = k := fun x => e x.symm
            simp [Array.getD, hkl, Array.getElem_setIfInBounds, e, this]
        rw [hsub]
        have hmem : i ∈ (List.range ops.size).filter fun k => !listed.getD k true := List.mem_filter.2 ⟨hir, hn⟩
        exact List.length_filter_lt_length_iff_exists.2 ⟨i, hmem, by simp⟩
      omega
    · have := hinv.put hok hget hn'
      have hf : (fun j => listed.getD j true || j == i) = fun j => (listed.setIfInBounds i true).getD j true := by
        funext j
        by_cases hjl : j < listed.size
        · by_cases e : j = i
          · subst e; simp [Array.getD, hjl]
          · have : ¬ i = j := fun x => e x.symm
            simp [Array.getD, hjl, Array.getElem_setIfInBounds, e, this]
        · simp [Array.getD, hjl]
      rwa [hf] at this
theorem wp_region_det {id : Nat} {a : Act} {w : World} (hm : P.follows .mixedOrders = true) (hok : detOk ops = true) (S : World → Prop) (hS : S w.drew) (h : wpDet P ops S Q ops.toList a) : (Code.region id ops true).wp P Q a w := by
  obtain ⟨v, _, h2, h3⟩ := det_canon (P := P) (S := S) (Q := Q) a ops.toList 0 a (fun _ => undef) (fun j => by simp) rfl h
  refine wp_region_any hm (det_any (S := S) hok a v (fun j o ho => h2 j o (Nat.zero_le _) ho) (by simpa using h3) ops.size _ a _ (by simp) ?_ ?_ hS)
  · exact Nat.le_trans (List.length_filter_le _ _) (by simp)
  · have hf : (fun j => (Array.replicate ops.size false).getD j true) = fun j => !decide (j < ops.size) := by
      funext j
      by_cases h : j < ops.size <;> simp [Array.getD, h]
    rw [hf]
    exact ⟨rfl, rfl, fun t _ j hj _ hD => by simp [hj] at hD, fun t _ => rfl⟩
theorem wpDet_cons {o : Oper} {rest : List Oper} {a : Act} {v : Value} (h1 : DetOp P ops S o a v) (h2 : wpDet P ops S Q rest (a.put o.dst v)) : wpDet P ops S Q (o :: rest) a := ⟨v, h1, h2⟩
end
end Go.Proofs.Seat4
end
section
namespace Go.Proofs.Seat4
open Go.RowKit
def wpDetT (P : Program) (ops : Array Oper) (S : World → Prop) (Q : Exit → Act → World → Prop) : Nat → List Oper → Act → Prop
  | 0, l, a => ∀ w, S w → wpList P ops Q l a w
  | _ + 1, [], a => ∀ w, S w → Q .normal a w
  | m + 1, o :: rest, a => ∃ v, DetOp P ops S o a v ∧ wpDetT P ops S Q m rest (a.put o.dst v)
def reaches (ops : Array Oper) : Nat → Nat → Nat → Bool
  | 0, _, _ => false
  | f + 1, k, j => match ops[k]? with
    | none => false
    | some o => o.after.any fun e => Region.binds .any e && (e.on == j || reaches ops f e.on j)
def tailOk (ops : Array Oper) (m : Nat) : Bool := (List.range ops.size).all fun k => decide (k < m) || (List.range k).all fun j => reaches ops ops.size k j
section
variable {P : Program} {ops : Array Oper} {S : World → Prop} {Q : Exit → Act → World → Prop}
theorem wpDetT_cons {m : Nat} {o : Oper} {rest : List Oper} {a : Act} {v : Value} (h1 : DetOp P ops S o a v) (h2 : wpDetT P ops S Q m rest (a.put o.dst v)) : wpDetT P ops S Q (m + 1) (o :: rest) a := ⟨v, h1, h2⟩
def lst (listed : Array Bool) (j : Nat) : Bool := listed.getD j true
structure Closed (ops : Array Oper) (listed : Array Bool) : Prop where
  size : listed.size = ops.size
  down : ∀ i o, ops[i]? = some o → lst listed i = true → ∀ e ∈ o.after, Region.binds .any e = true → lst listed e.on = true
theorem reaches_listed {listed : Array Bool} (hc : Closed ops listed) : ∀ (f k j : Nat) (o : Oper), ops[k]? = some o → (∀ e ∈ o.after, Region.binds .any e = true → lst listed e.on = true) → reaches ops f k j = true → lst listed j = true
  | 0, _, _, _, _, _, h => by cases h
  | f + 1, k, j, o, hk, hd, h => by
    unfold reaches at h
    rw [hk] at h
    obtain ⟨e, he, hb⟩ := Array.any_eq_true'.1 h
    simp only [Bool.and_eq_true, Bool.or_eq_true, beq_iff_eq] at hb
    have hl := hd e he hb.1
    rcases hb.2 with h1 | h1
    · rw [← h1]; exact hl
    · cases hon : ops[e.on]? with
      | none =>
        cases f with
        | zero => cases h1
        | succ f => unfold reaches at h1; rw [hon] at h1; cases h1
      | some o' => exact reaches_listed hc f e.on j o' hon (fun e' he' hb' => hc.down e.on o' hon hl e' he' hb') h1
theorem tail_listed {m : Nat} (ht : tailOk ops m = true) {listed : Array Bool} (hc : Closed ops listed) {k : Nat} {o : Oper} (hk : ops[k]? = some o) (hm : m ≤ k) (hd : ∀ e ∈ o.after, Region.binds .any e = true → lst listed e.on = true) : ∀ j, j < k → lst listed j = true := by
  intro j hj
  have hlt : k < ops.size := (Array.getElem?_eq_some_iff.1 hk).1
  have := List.all_eq_true.1 ht k (List.mem_range.2 hlt)
  rw [show decide (k < m) = false from by simpa using hm, Bool.false_or] at this
  exact reaches_listed hc ops.size k j o hk hd (List.all_eq_true.1 this j (List.mem_range.2 hj))
theorem ready_spec {listed : Array Bool} {i : Nat} (h : i ∈ Region.ready .any ops listed) : ∃ o, ops[i]? = some o ∧ lst listed i = false ∧ ∀ e ∈ o.after, Region.binds .any e = true → lst listed e.on = true ∧ e.on < listed.size := by
  unfold Region.ready at h
  rw [List.mem_filter] at h
  obtain ⟨hir, hc⟩ := h
  have hlt0 : i < ops.size := List.mem_range.1 hir
  have hget : ops[i]? = some ops[i] := Array.getElem?_eq_getElem hlt0
  rw [hget] at hc
  simp only [Bool.and_eq_true, Option.map_some, Option.getD_some] at hc
  refine ⟨_, hget, by simpa [lst] using hc.1, fun e he hb => ?_⟩
  have := Array.all_eq_true'.1 hc.2 e he
  rw [hb] at this
  simp only [Bool.not_true, Bool.false_or] at this
  simp only [lst, Array.getD] at this ⊢
  split at this
  · rename_i hlt; rw [dif_pos hlt]; exact ⟨this, hlt⟩
  · cases this
theorem lst_set {listed : Array Bool} {i : Nat} (hi : i < listed.size) (j : Nat) : lst (listed.setIfInBounds i true) j = (lst listed j || j == i) := by
  unfold lst
  by_cases hjl : j < listed.size
  · by_cases e : j = i
    · subst e; simp [Array.getD, hjl]
    · have : ¬ i = j := fun x => e x.symm
      simp [Array.getD, hjl, Array.getElem_setIfInBounds, e, this]
  · simp [Array.getD, hjl]
theorem Closed.set {listed : Array Bool} (hc : Closed ops listed) {i : Nat} {o : Oper} (hi : ops[i]? = some o) (hd : ∀ e ∈ o.after, Region.binds .any e = true → lst listed e.on = true) : Closed ops (listed.setIfInBounds i true) := by
  have hlt : i < listed.size := by rw [hc.size]; exact (Array.getElem?_eq_some_iff.1 hi).1
  refine ⟨by simpa using hc.size, fun k o' hk hl e he hb => ?_⟩
  rw [lst_set hlt] at hl ⊢
  by_cases e1 : k = i
  · subst e1
    rw [hi] at hk
    cases hk
    simp [hd e he hb]
  · have : lst listed k = true := by simpa [e1] using hl
    simp [hc.down k o' hk this e he hb]
theorem tail_any {m : Nat} (ht : tailOk ops m = true) (hearly : detOk ops = true) : ∀ (fuel c : Nat) (listed : Array Bool) (a : Act) (w : World), m ≤ c → c ≤ ops.size → ops.size - c ≤ fuel → Closed ops listed → (∀ j, j < ops.size → lst listed j = decide (j < c)) → wpList P ops Q (ops.toList.drop c) a w →
    wpAny P .any ops Q fuel listed a w := by
  have hnone : ∀ (c : Nat) (listed : Array Bool), c = ops.size → (∀ j, j < ops.size → lst listed j = decide (j < c)) → Region.ready .any ops listed = [] := by
    intro c listed hcs hl
    rw [List.eq_nil_iff_forall_not_mem]
    intro i hi
    obtain ⟨o, ho, hn, _⟩ := ready_spec hi
    have hlt := (Array.getElem?_eq_some_iff.1 ho).1
    rw [hl i hlt, hcs] at hn
    simp [hlt] at hn
  intro fuel
  induction fuel with
  | zero =>
    intro c listed a w hmc hcn hf hc hl h
    have hcs : c = ops.size := by omega
    rw [hcs, List.drop_of_length_le (by simp)] at h
    exact ⟨hnone c listed hcs hl, h⟩
  | succ fuel ih =>
    intro c listed a w hmc hcn hf hc hl h
    by_cases hcs : c = ops.size
    · have hno := hnone c listed hcs hl
      rw [hcs, List.drop_of_length_le (by simp)] at h
      refine ⟨fun _ => h, fun i hi => ?_⟩
      rw [hno] at hi
      cases hi
    · have hclt : c < ops.size := by omega
      have hget : ops[c]? = some ops[c] := Array.getElem?_eq_getElem hclt
      have hdrop : ops.toList.drop c = ops[c] :: ops.toList.drop (c + 1) := by
        rw [List.drop_eq_getElem_cons (by simpa using hclt)]
        simp
      rw [hdrop] at h
      have hdeps : ∀ e ∈ ops[c].after, Region.binds .any e = true → lst listed e.on = true := fun e he hb => by
        have := (detOk_at hearly hget).early e he hb
        rw [hl e.on (by omega)]
        simpa using this
      refine ⟨fun hr => ?_, fun i hi => ?_⟩
      · exfalso
        have : c ∈ Region.ready .any ops listed := by
          unfold Region.ready
          rw [List.mem_filter]
          refine ⟨List.mem_range.2 hclt, ?_⟩
          have hn := hl c hclt
          rw [hget]
          simp only [Option.map_some, Option.getD_some, Bool.and_eq_true]
          refine ⟨by unfold lst at hn; rw [hn]; simp, ?_⟩
          rw [Array.all_eq_true']
          intro e he
          cases hb : Region.binds .any e with
          | false => rfl
          | true =>
            have h1 := (detOk_at hearly hget).early e he hb
            have h2 := hdeps e he hb
            simp only [lst, Array.getD] at h2 ⊢
            have h3 : e.on < listed.size := by rw [hc.size]; omega
            rw [dif_pos h3] at h2 ⊢
            simpa using h2
        rw [hr] at this
        cases this
      · obtain ⟨o, ho, hn, hd⟩ := ready_spec hi
        have hilt := (Array.getElem?_eq_some_iff.1 ho).1
        have hci : c ≤ i := by
          rw [hl i hilt] at hn
          simpa using hn
        have hic : i = c := by
          rcases Nat.lt_or_ge c i with hlt | hge
          · have := tail_listed ht hc ho (by omega) (fun e he hb => (hd e he hb).1) c hlt
            rw [hl c hclt] at this
            simp at this
          · omega
        subst hic
        rw [hget] at ho
        cases ho
        unfold wpList at h
        unfold wpOp
        simp only [hget]
        have hnext : ∀ a' w', wpList P ops Q (ops.toList.drop (i + 1)) a' w' → wpAny P .any ops Q fuel (listed.setIfInBounds i true) a' w' := fun a' w' h' => by
          refine ih (i + 1) _ a' w' (by omega) (by omega) (by omega) (hc.set hget hdeps) (fun j hj => ?_) h'
          rw [lst_set (by rw [hc.size]; exact hclt), hl j hj]
          by_cases h1 : j < i
          · simp [h1, show j < i + 1 from by omega]
          · by_cases h2 : j = i
            · simp [h2]
            · simp [h1, h2, show ¬ j < i + 1 from by omega]
        split
        · rename_i hw
          rw [if_pos hw] at h
          exact h.imp (Oper.wp_mono hnext) id
        · rename_i hw
          rw [if_neg hw] at h
          exact hnext _ _ h
theorem detT_canon (a0 : Act) : ∀ (m : Nat) (l : List Oper) (k : Nat) (a : Act) (v : Nat → Value), (∀ j, l[j]? = ops[k + j]?) → m ≤ l.length → canon ops a0 v k = a → wpDetT P ops S Q m l a →
    ∃ v' : Nat → Value, (∀ j, j < k → v' j = v j) ∧ (∀ j o, k ≤ j → j < k + m → ops[j]? = some o → DetOp P ops S o (canon ops a0 v' j) (v' j)) ∧ (∀ w, S w → wpList P ops Q (l.drop m) (canon ops a0 v' (k + m)) w) := by
  intro m
  induction m with
  | zero =>
    intro l k a v hl _ ha h
    exact ⟨v, fun _ _ => rfl, fun j o h1 h2 => by omega, fun w hw => by simpa [ha] using h w hw⟩
  | succ m ih =>
    intro l k a v hl hm ha h
    cases l with
    | nil => simp at hm
    | cons o rest =>
      obtain ⟨u, hu, hrest⟩ := h
      have hk : ops[k]? = some o := by simpa using (hl 0).symm
      have same : ∀ (v1 v2 : Nat → Value) (m : Nat), (∀ j, j < m → v1 j = v2 j) → canon ops a0 v1 m = canon ops a0 v2 m := by
        intro v1 v2 m hm
        induction m with
        | zero => rfl
        | succ m ihm =>
          simp only [canon]
          rw [ihm fun j hj => hm j (by omega)]
          cases ops[m]? with
          | none => rfl
          | some o' => simp only [hm m (by omega)]
      let v2 : Nat → Value := fun j => if j = k then u else v j
      have hv2 : ∀ j, j < k → v2 j = v j := fun j hj => if_neg (by omega)
      have hck : canon ops a0 v2 k = a := (same v2 v k hv2).trans ha
      have hck1 : canon ops a0 v2 (k + 1) = a.put o.dst u := by
        show (match ops[k]? with | some o => (canon ops a0 v2 k).put o.dst (v2 k) | none => canon ops a0 v2 k) = _
        rw [hk, hck]
        simp [v2]
      obtain ⟨v', h1, h2, h3⟩ := ih rest (k + 1) _ v2 (fun j => by have := hl (j + 1); simpa [Nat.add_assoc, Nat.add_comm 1 j] using this) (by simpa using hm) hck1 hrest
      refine ⟨v', fun j hj => (h1 j (by omega)).trans (hv2 j hj), fun j o' hj hj2 ho => ?_, fun w hw => by have := h3 w hw; rwa [show k + 1 + m = k + (m + 1) from by omega] at this⟩
      by_cases e : j = k
      · subst e
        rw [hk] at ho
        cases ho
        rw [same v' v2 j fun m hm => h1 m (by omega), hck, h1 j (by omega)]
        simp only [v2, if_true]
        exact hu
      · exact h2 j o' (by omega) (by omega) ho
theorem detT_any {m : Nat} (hok : detOk ops = true) (ht : tailOk ops m = true) (hm : m ≤ ops.size) (a0 : Act) (v : Nat → Value) (hop : ∀ j o, j < m → ops[j]? = some o → DetOp P ops S o (canon ops a0 v j) (v j)) (hend : ∀ w, S w → wpList P ops Q (ops.toList.drop m) (canon ops a0 v m) w) :
    ∀ (fuel : Nat) (listed : Array Bool) (a : Act) (w : World), Closed ops listed → (∀ k, m ≤ k → k < ops.size → lst listed k = false) → ((List.range m).filter fun i => !lst listed i).length + (ops.size - m) ≤ fuel → DetInv ops a0 v (fun j => lst listed j) a → S w →
      wpAny P .any ops Q fuel listed a w := by
  have hdone : ∀ (fuel : Nat) (listed : Array Bool) (a : Act) (w : World), Closed ops listed → (∀ k, m ≤ k → k < ops.size → lst listed k = false) → (ops.size - m) ≤ fuel → DetInv ops a0 v (fun j => lst listed j) a → S w → (∀ j, j < m → lst listed j = true) → wpAny P .any ops Q fuel listed a w := by
    intro fuel listed a w hc hlate hf hinv hS hall
    have hcn := canon_inv hok a0 v m hm
    have hlst : ∀ j, j < ops.size → lst listed j = decide (j < m) := by
      intro j hj
      by_cases h : j < m
      · simp [h, hall j h]
      · simp [h, hlate j (by omega) hj]
    have heq : a = canon ops a0 v m := by
      have htm : a.tmps = (canon ops a0 v m).tmps := by
        apply Array.ext_getElem?
        intro t
        by_cases hex : ∃ j, j < ops.size ∧ writesTo ops j t = true ∧ j < m
        · obtain ⟨j, hj, hw, hjm⟩ := hex
          by_cases htl : t < a0.tmps.size
          · rw [hinv.done t htl j hj hw (hall j hjm), hcn.done t htl j hj hw (by simpa using hjm)]
          · rw [Array.getElem?_eq_none (by rw [hinv.size]; exact Nat.le_of_not_lt htl), Array.getElem?_eq_none (by rw [hcn.size]; exact Nat.le_of_not_lt htl)]
        · have hno : ∀ j, j < ops.size → writesTo ops j t = true → ¬ j < m := fun j hj hw hjm => hex ⟨j, hj, hw, hjm⟩
          rw [hinv.rest t fun j hj hw => by rw [hlst j hj]; simpa using hno j hj hw, hcn.rest t fun j hj hw => by simpa using hno j hj hw]
      have hd : a.defers = (canon ops a0 v m).defers := hinv.defers.trans hcn.defers.symm
      cases a
      cases hc2 : canon ops a0 v m
      rw [hc2] at htm hd
      simp only at htm hd
      rw [htm, hd]
    rw [heq]
    exact tail_any ht hok fuel m listed _ w (Nat.le_refl _) hm hf hc hlst (hend w hS)
  intro fuel
  induction fuel with
  | zero =>
    intro listed a w hc hlate hcount hinv hS
    refine hdone 0 listed a w hc hlate (by omega) hinv hS fun j hj => ?_
    have h0 : ((List.range m).filter fun i => !lst listed i) = [] := List.eq_nil_of_length_eq_zero (by omega)
    have hmem : j ∉ (List.range m).filter fun i => !lst listed i := by rw [h0]; simp
    rw [List.mem_filter] at hmem
    simp only [List.mem_range, hj, true_and] at hmem
    simpa using hmem
  | succ fuel ih =>
    intro listed a w hc hlate hcount hinv hS
    by_cases hall : ∀ j, j < m → lst listed j = true
    · have : ((List.range m).filter fun i => !lst listed i) = [] := by
        rw [List.filter_eq_nil_iff]
        intro i hi
        rw [hall i (List.mem_range.1 hi)]
        simp
      rw [this] at hcount
      exact hdone (fuel + 1) listed a w hc hlate (by simpa using hcount) hinv hS hall
    · obtain ⟨j0, hj0⟩ : ∃ j, j < m ∧ lst listed j = false := by
        apply Classical.byContradiction
        intro hno
        refine hall fun j hj => ?_
        apply Classical.byContradiction
        intro hne
        exact hno ⟨j, hj, by simpa using hne⟩
      refine ⟨fun hr => ?_, fun i hi => ?_⟩
      · exfalso
        have hmin : ∀ i, i < ops.size → lst listed i = true := by
          intro i
          induction i using Nat.strongRecOn with
          | ind i ihi =>
            intro hilt
            apply Classical.byContradiction
            intro hn
            have hn' : lst listed i = false := by simpa using hn
            have hget : ops[i]? = some ops[i] := Array.getElem?_eq_getElem hilt
            have : i ∈ Region.ready .any ops listed := by
              unfold Region.ready
              rw [List.mem_filter]
              refine ⟨List.mem_range.2 hilt, ?_⟩
              rw [hget]
              simp only [Option.map_some, Option.getD_some, Bool.and_eq_true]
              refine ⟨by unfold lst at hn'; rw [hn']; simp, ?_⟩
              rw [Array.all_eq_true']
              intro e he
              cases hb : Region.binds .any e with
              | false => rfl
              | true =>
                have h1 := (detOk_at hok hget).early e he hb
                have h2 := ihi e.on h1 (by omega)
                have h3 : e.on < listed.size := by rw [hc.size]; omega
                simp only [lst, Array.getD] at h2 ⊢
                rw [dif_pos h3] at h2 ⊢
                simpa using h2
            rw [hr] at this
            cases this
        have := hmin j0 (by omega)
        rw [hj0.2] at this
        cases this
      · obtain ⟨o, ho, hn, hd⟩ := ready_spec hi
        have hilt := (Array.getElem?_eq_some_iff.1 ho).1
        have him : i < m := by
          rcases Nat.lt_or_ge i m with h | h
          · exact h
          · have := tail_listed ht hc ho h (fun e he hb => (hd e he hb).1) j0 (by omega)
            rw [hj0.2] at this
            cases this
        have A := detOk_at hok ho
        have hcan := canon_inv hok a0 v i (by omega)
        have hagree : ∀ t ∈ o.looksAt ops, a.tmps[t]? = (canon ops a0 v i).tmps[t]? := by
          intro t htl
          by_cases hex : ∃ j, j < ops.size ∧ writesTo ops j t = true
          · obtain ⟨j, hj, hw⟩ := hex
            obtain ⟨e, he, hb, hon⟩ := A.deps t htl j hj hw
            have hlt := A.early e he hb
            have hDj : lst listed j = true := by rw [← hon]; exact (hd e he hb).1
            by_cases hsz : t < a0.tmps.size
            · rw [hinv.done t hsz j hj hw hDj, hcan.done t hsz j hj hw (by simp; omega)]
            · rw [Array.getElem?_eq_none (by rw [hinv.size]; exact Nat.le_of_not_lt hsz), Array.getElem?_eq_none (by rw [hcan.size]; exact Nat.le_of_not_lt hsz)]
          · rw [hinv.rest t fun j hj hw => absurd ⟨j, hj, hw⟩ hex, hcan.rest t fun j hj hw => absurd ⟨j, hj, hw⟩ hex]
        refine wpOp_mono ?_ (det_transfer (Q := Q) (v := v i) ho A.sel (hinv.size.trans hcan.size.symm) hagree (hop i o him ho w hS))
        rintro a' w' ⟨rfl, hS'⟩
        have hil : i < listed.size := by rw [hc.size]; exact hilt
        refine ih _ _ _ (hc.set ho fun e he hb => (hd e he hb).1) (fun k hk hk2 => ?_) ?_ ?_ hS'
        · rw [lst_set hil, hlate k hk hk2]
          simp
          omega
        · have hsub : ((List.range m).filter fun k => !lst (listed.setIfInBounds i true) k) = ((List.range m).filter fun k => !lst listed k).filter (fun k => k != i) := by
            rw [List.filter_filter]
            apply List.filter_congr
            intro k _
            rw [lst_set hil]
            by_cases e : k = i
            · subst e; simp
            · have e1 : (k == i) = false := by simpa using e
              have e2 : (k != i) = true := by simpa using e
              rw [e1, e2]
              simp
          rw [hsub]
          have hmem : i ∈ (List.range m).filter fun k => !lst listed k := List.mem_filter.2 ⟨List.mem_range.2 him, by simp [hn]⟩
          have : (((List.range m).filter fun k => !lst listed k).filter (fun k => k != i)).length < ((List.range m).filter fun k => !lst listed k).length :=
            List.length_filter_lt_length_iff_exists.2 ⟨i, hmem, by simp⟩
          omega
        · have := hinv.put hok ho hn
          have hf : (fun j => lst listed j || j == i) = fun j => lst (listed.setIfInBounds i true) j := by
            funext j
            rw [lst_set hil]
          rwa [hf] at this
theorem wp_region_tail {id : Nat} {a : Act} {w : World} (m : Nat) (hm : P.follows .mixedOrders = true) (hok : (detOk ops && tailOk ops m && decide (m ≤ ops.size)) = true) (S : World → Prop) (hS : S w.drew) (h : wpDetT P ops S Q m ops.toList a) : (Code.region id ops true).wp P Q a w := by
  simp only [Bool.and_eq_true, decide_eq_true_eq] at hok
  obtain ⟨⟨h1, h2⟩, h3⟩ := hok
  obtain ⟨v, _, hv, hend⟩ := detT_canon (P := P) (S := S) (Q := Q) a m ops.toList 0 a (fun _ => undef) (fun j => by simp) (by simpa using h3) rfl h
  have hfalse : ∀ j, lst (Array.replicate ops.size false) j = !decide (j < ops.size) := by
    intro j
    unfold lst
    by_cases h : j < ops.size <;> simp [Array.getD, h]
  refine wp_region_any hm (detT_any (S := S) h1 h2 h3 a v (fun j o hj ho => hv j o (Nat.zero_le _) (by omega) ho) (by simpa using hend) ops.size _ a _ ⟨by simp, fun i o hi hl => ?_⟩ (fun k _ hk => by rw [hfalse]; simp [hk]) ?_ ?_ hS)
  · rw [hfalse] at hl
    have := (Array.getElem?_eq_some_iff.1 hi).1
    simp [this] at hl
  · have := List.length_filter_le (fun i => !lst (Array.replicate ops.size false) i) (List.range m)
    simp only [List.length_range] at this
    omega
  · exact ⟨rfl, rfl, fun t _ j hj _ hD => by rw [hfalse] at hD; simp [hj] at hD, fun t _ => rfl⟩
end
end Go.Proofs.Seat4
end

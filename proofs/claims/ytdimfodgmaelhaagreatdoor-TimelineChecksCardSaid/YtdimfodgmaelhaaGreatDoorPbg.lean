/- A part of the proof. -/
import Derived.Test.YtdimfodgmaelhaaGreatDoorPbb
import Derived.Test.YtdimfodgmaelhaaGreatDoorPay
import Derived.Test.YtdimfodgmaelhaaGreatDoorPaz
import Derived.Test.YtdimfodgmaelhaaGreatDoorPad
import Derived.Lib.Hide
import Derived.Test.YtdimfodgmaelhaaGreatDoorPag
import Derived.Lib.ItoaLen
import Derived.Test.YtdimfodgmaelhaaGreatDoorPbd
import Derived.Lib.BitFns
import Derived.Deep.Cut
import GoSem.ClaimSeven
set_option linter.all false
section
namespace Go.Proofs.Seat4
open Go.RowKit Av
noncomputable def smI (n : Int) : Bool := band (ile (-1000000) n) (ile n 1000000)
theorem smI_iff {n : Int} (h : smI n = true) : -1000000 ≤ n ∧ n ≤ 1000000 := by
 obtain ⟨h1, h2⟩ := and_of h
 rw [ile_iff] at h1 h2
 exact ⟨of_decide_eq_true h1, of_decide_eq_true h2⟩
structure Ac where
 k : Int
 i : Int
 wr : Bool
 hk : smI k = true
 hi : smI i = true
noncomputable instance : Inhabited Ac := ⟨⟨0, 0, false, rfl, rfl⟩⟩
def acKV (a : Ac) : Value × Value := (.agg #[.int .i64 a.k, .int .i64 a.i], .bool a.wr)
def acCells (a : Ac) : List Value := [.int .i64 a.k, .int .i64 a.i, .bool a.wr]
theorem acCells_one (a : Ac) : ∀ u ∈ acCells a, u.oneCell' = true := by
 intro u hu
 simp [acCells] at hu
 rcases hu with rfl | rfl | rfl <;> rfl
def cfA (x y : Ac) : Int := if x.k = y.k then x.i - y.i else x.k - y.k
theorem cf_neg (x y : Ac) : cfA x y < 0 ↔ x.k < y.k ∨ (x.k = y.k ∧ x.i < y.i) := by
 unfold cfA
 by_cases h : x.k = y.k
 ·rw [if_pos h]; omega
 ·rw [if_neg h]; omega
theorem ltOf_iff (x y : Ac) : ltOf cfA x y = true ↔ x.k < y.k ∨ (x.k = y.k ∧ x.i < y.i) := by
 show decide (cfA x y < 0) = true ↔ _
 rw [decide_eq_true_eq, cf_neg]
theorem ltOf_not (x y : Ac) : ltOf cfA x y = false ↔ ¬ (x.k < y.k ∨ (x.k = y.k ∧ x.i < y.i)) := by
 rw [← ltOf_iff, Bool.not_eq_true]
theorem swoA : Sort.SWO (ltOf cfA) := by
 refine ⟨fun x => ?_, fun x y z h1 h2 => ?_, fun x y z h1 h2 => ?_⟩
 ·rw [ltOf_not]; omega
 ·rw [ltOf_iff] at *; omega
 ·rw [ltOf_not] at *; omega
def acAV (a : Ac) : List AV := [.int a.k, .int a.i, .bool a.wr]
noncomputable def insK (a b : Int) (w : Bool) : List AV → List AV
 | .int c :: .int d :: .bool x :: r => Bool.rec (.int c :: .int d :: .bool x :: insK a b w r) (.int a :: .int b :: .bool w :: .int c :: .int d :: .bool x :: r) (Bool.rec (ile a c) (ile b d) (ieq a c))
 | _ => [.int a, .int b, .bool w]
noncomputable def sortK : List ME → List AV
 | [] => []
 | ⟨.agg [.int a, .int b], .bool w, _⟩ :: r => insK a b w (sortK r)
 | _ :: r => sortK r
noncomputable def testK : List ME → Nat → Bool
 | [], _ => true
 | ⟨.agg [.int a, .int b], .bool _, n⟩ :: r, i => band (Nat.beq n i) (band (smI a) (band (smI b) (testK r (i + 1))))
 | _ :: _, _ => false
noncomputable def ascK : List AV → Bool
 | .int a :: .int b :: .bool x :: .int c :: .int d :: r => band (Bool.rec (ile (a + 1) c) (ile (b + 1) d) (ieq a c)) (ascK (.int c :: .int d :: r))
 | _ => true
noncomputable def insA (a : Ac) : List Ac → List Ac
 | [] => [a]
 | c :: r => Bool.rec (c :: insA a r) (a :: c :: r) (Bool.rec (ile a.k c.k) (ile a.i c.i) (ieq a.k c.k))
noncomputable def sortA : List Ac → List Ac
 | [] => []
 | a :: r => insA a (sortA r)
theorem insA_perm (a : Ac) : ∀ l, (insA a l).Perm (a :: l)
 | [] => List.Perm.refl _
 | c :: r => by
   unfold insA
   cases (Bool.rec (ile a.k c.k) (ile a.i c.i) (ieq a.k c.k) : Bool) with
   | true => exact List.Perm.refl _
   | false => exact ((insA_perm a r).cons c).trans (List.Perm.swap a c r)
theorem sortA_perm : ∀ l, (sortA l).Perm l
 | [] => List.Perm.refl _
 | a :: r => (insA_perm a (sortA r)).trans ((sortA_perm r).cons a)
theorem insK_eq (a : Ac) : ∀ l : List Ac, insK a.k a.i a.wr (l.flatMap acAV) = (insA a l).flatMap acAV
 | [] => by simp [insK, insA, acAV]
 | c :: r => by
   have ih := insK_eq a r
   simp only [List.flatMap_cons, acAV, List.cons_append, List.nil_append, insK, insA]
   generalize (Bool.rec (ile a.k c.k) (ile a.i c.i) (ieq a.k c.k) : Bool) = q
   cases q with
   | true => simp [acAV]
   | false => simp only [List.flatMap_cons, acAV, List.cons_append, List.nil_append]; rw [ih]
theorem testK_ok (m : M) : ∀ (es : List ME) (n : Nat), testK es n = true → ∃ d : List Ac, es.map (meC m) = mkEs (d.map acKV) n ∧ sortK es = (sortA d).flatMap acAV ∧ d.length = es.length
 | [], n, _ => ⟨[], rfl, rfl, rfl⟩
 | e :: r, n, h => by
   unfold testK at h
   split at h
   ·rename_i h0; cases h0
   ·rename_i nn a b w bn r' he
    cases he
    obtain ⟨h1, h⟩ := and_of h
    obtain ⟨h2, h⟩ := and_of h
    obtain ⟨h3, h⟩ := and_of h
    obtain ⟨d, g1, g2, g3⟩ := testK_ok m r _ h
    have e1 := Nat.eq_of_beq_eq_true h1
    subst e1
    refine ⟨⟨a, b, w, h2, h3⟩ :: d, ?_, ?_, by simp [g3]⟩
    ·simp only [List.map_cons, mkEs, g1]
     simp [meC, conc, concL, acKV]
    ·show insK a b w (sortK r) = _
     rw [g2]
     exact insK_eq ⟨a, b, w, h2, h3⟩ _
   ·cases h
theorem ascK_ok : ∀ l : List Ac, ascK (l.flatMap acAV) = true → l.Pairwise (fun x y => ltOf cfA x y = true)
 | [], _ => List.Pairwise.nil
 | [a], _ => List.pairwise_singleton _ _
 | a :: c :: r, h => by
   simp only [List.flatMap_cons, acAV, List.cons_append, List.nil_append, ascK] at h
   obtain ⟨h1, h2⟩ := and_of h
   have ih := ascK_ok (c :: r) (by simpa only [List.flatMap_cons, acAV, List.cons_append, List.nil_append] using h2)
   have hac : ltOf cfA a c = true := by
    rw [ltOf_iff]
    rw [ieq_iff] at h1
    by_cases e : a.k = c.k
    ·rw [show (a.k == c.k) = true from by simpa using e] at h1
     simp only [ile_iff, decide_eq_true_eq] at h1
     omega
    ·rw [show (a.k == c.k) = false from by simpa using e] at h1
     simp only [ile_iff, decide_eq_true_eq] at h1
     omega
   refine List.Pairwise.cons (fun y hy => ?_) ih
   rcases List.mem_cons.1 hy with rfl | hy
   ·exact hac
   ·exact swoA.trans _ _ _ hac ((List.pairwise_cons.1 ih).1 y hy)
theorem sorted_is (d : List Ac) (D D' : Array Ac) (hD : D.toList.Perm d) (ha : ascK ((sortA d).flatMap acAV) = true) (hp : Sort.PermIn 0 D.size D D') (hs : Sort.SortedIn (ltOf cfA) 0 D.size D') : D'.toList = sortA d := by
 have hasc := ascK_ok _ ha
 have hsz := hp.1
 have hperm : D'.toList.Perm (sortA d) := by
  have h1 := hp.2.2
  rw [show D'.extract 0 D.size = D' from by rw [← hsz]; simp, show D.extract 0 D.size = D from by simp] at h1
  exact (h1.trans hD).trans (sortA_perm d).symm
 refine List.Perm.eq_of_pairwise (le := fun x y => ltOf cfA y x = false) (fun a b h1 h2 h3 h4 => ?_) ?_ ?_ hperm
 ·have m1 := hperm.mem_iff.1 h1
  obtain ⟨i, hi, rfl⟩ := List.getElem_of_mem m1
  obtain ⟨j, hj, rfl⟩ := List.getElem_of_mem h2
  rcases Nat.lt_trichotomy i j with h | h | h
  ·have := List.pairwise_iff_getElem.1 hasc i j hi hj h
   rw [this] at h4; cases h4
  ·subst h; rfl
  ·have := List.pairwise_iff_getElem.1 hasc j i hj hi h
   rw [this] at h3; cases h3
 ·refine List.pairwise_iff_getElem.2 fun i j hi hj hij => ?_
  have := hs i j (Nat.zero_le _) hij (by rw [← hsz]; simpa using hj)
  rwa [getElem!_pos D' j (by simpa using hj), getElem!_pos D' i (by simpa using hi)] at this
 ·refine hasc.imp fun {x y} h => ?_
  rcases Bool.eq_false_or_eq_true (ltOf cfA y x) with e | e
  ·have := swoA.trans _ _ _ h e
   rw [swoA.irrefl] at this; cases this
  ·exact e
theorem flat3 {α β : Type} (f : α → List β) (hf : ∀ a, (f a).length = 3) : ∀ (l : List α) (t : Nat), (l.flatMap f)[t]? = (l[t / 3]?).bind fun a => (f a)[t % 3]?
 | [], t => by simp
 | a :: r, t => by
   rw [List.flatMap_cons]
   by_cases h : t < 3
   ·rw [List.getElem?_append_left (by rw [hf]; exact h), show t / 3 = 0 from by omega, show t % 3 = t from by omega]; rfl
   ·rw [List.getElem?_append_right (by rw [hf]; omega), hf, flat3 f hf r (t - 3), show t / 3 = (t - 3) / 3 + 1 from by omega, show t % 3 = (t - 3) % 3 from by omega]; rfl
theorem flat3_len {α β : Type} (f : α → List β) (hf : ∀ a, (f a).length = 3) : ∀ (l : List α), (l.flatMap f).length = 3 * l.length
 | [] => rfl
 | a :: r => by rw [List.flatMap_cons, List.length_append, hf, flat3_len f hf r, List.length_cons]; omega
theorem flatK_list (D : Array Ac) (t : Nat) (ht : t < D.size * 3) : (D.toList.flatMap acCells)[t]? = some ((Sort.flatK acCells 3 D)[t]!) := by
 rw [flat3 acCells (fun _ => rfl), Sort.get_flatK _ _ _ _ ht]
 have h1 : t / 3 < D.size := by omega
 rw [show D.toList[t / 3]? = some D[t / 3]! from by rw [getElem!_pos D (t / 3) h1]; simp [h1]]
 have h2 : t % 3 < (acCells D[t / 3]!).length := Nat.mod_lt _ (by omega)
 simp only [Option.bind_some]
 rw [List.getElem?_eq_getElem h2, getElem!_pos (acCells D[t / 3]!) (t % 3) h2]
theorem sorted_block (w : World) (blk n : Nat) (D' : Array Ac) (os : Array Obj) (cur : Array Value) (e : TypeId) (h : w.heap[blk]? = some (.cells cur e (0, 0))) (hc : D'.size * 3 ≤ cur.size) :
 ∃ cur', (sortWorldK acCells 3 w blk 0 n D' os).heap[blk]? = some (.cells cur' e (0, 0)) ∧ cur'.size = cur.size ∧ (∀ t, t < D'.size * 3 → cur'[t]? = (D'.toList.flatMap acCells)[t]?) ∧
  (∀ k, k < w.heap.size → k ≠ blk → (sortWorldK acCells 3 w blk 0 n D' os).heap[k]? = w.heap[k]?) ∧ w.heap.size ≤ (sortWorldK acCells 3 w blk 0 n D' os).heap.size := by
 have hlt : blk < w.heap.size := (Array.getElem?_eq_some_iff.1 h).1
 have hm : ∀ k, (sortWorldK acCells 3 w blk 0 n D' os).heap[k]? = if k < w.heap.size then (if blk = k then (w.heap[k]?).map (Sort.onCells (Sort.putCells id 0 (Sort.flatK acCells 3 D'))) else w.heap[k]?) else os[k - w.heap.size]? := by
  intro k
  show ((w.heap.modify blk _) ++ os)[k]? = _
  rw [Array.getElem?_append]
  simp only [Array.size_modify, Array.getElem?_modify]
 refine ⟨Sort.putCells id 0 (Sort.flatK acCells 3 D') cur, ?_, by simp [Sort.putCells], fun t ht => ?_, fun k hk hne => ?_, ?_⟩
 ·rw [hm, if_pos hlt, if_pos rfl, h]; rfl
 ·rw [flatK_list D' t ht]
  have h1 : t < cur.size := by omega
  simp [Sort.putCells, h1]
  intro h2
  omega
 ·rw [hm, if_pos hk, if_neg (fun e => hne e.symm)]
 ·show w.heap.size ≤ ((w.heap.modify blk _) ++ os).size
  simp
end Go.Proofs.Seat4
end
section
namespace Go.Proofs.Seat4
open Go.RowKit Go.Sort
set_option maxHeartbeats 1000000 in
theorem cmp531 (x y : Ac) (W : World) : Calls Tryz.prog 531 #[.agg #[.int .i64 x.k, .int .i64 x.i, .bool x.wr], .agg #[.int .i64 y.k, .int .i64 y.i, .bool y.wr]] W fun e w' => e = .returned (.int .i64 (cfA x y)) ∧ ∃ q os', w' = grow (W.drewN q) os' := by
 obtain ⟨a1, a2⟩ := smI_iff x.hk
 obtain ⟨a3, a4⟩ := smI_iff x.hi
 obtain ⟨a5, a6⟩ := smI_iff y.hk
 obtain ⟨a7, a8⟩ := smI_iff y.hi
 have e1 : wrap64 (x.k - y.k) = x.k - y.k := by unfold wrap64; omega
 have e2 : wrap64 (x.i - y.i) = x.i - y.i := by unfold wrap64; omega
 by_cases h : x.k = y.k
 ·have hc : cfA x y = x.i - y.i := if_pos h
  rw [hc]
  have hb : (x.k == y.k) = true := by simpa using h
  have Hc := Lib.hid hc
  clear hc h
  go_enter Tryz.func531, Tryz.ntmps531
  go_wp2
  go_ret
  exact ⟨rfl, 0, _, by rw [alloc_eq_grow, alloc_eq_grow, grow_grow]; rfl⟩
 ·have hc : cfA x y = x.k - y.k := if_neg h
  rw [hc]
  have hb : (x.k == y.k) = false := by simpa using h
  have Hc := Lib.hid hc
  clear hc h
  go_enter Tryz.func531, Tryz.ntmps531
  go_wp2
  go_ret
  exact ⟨rfl, 0, _, by rw [alloc_eq_grow, alloc_eq_grow, grow_grow]; rfl⟩
theorem cmpL (blk off size : Nat) (w : World) : CmpLays Tryz.prog 531 #[] acCells 3 cfA blk off size w :=
 fun _ _ _ _ x y => cmp531 x y _
theorem len61 (n : Nat) (W : World) (h : n ≤ 12) : Calls Tryz.prog 61 #[.int .u64 n] W fun e w' => (∃ l : Int, e = .returned (.int .i64 l)) ∧ w' = W :=
 (Any.bits_Len Tryz.bitsLen n W (by omega) (by omega)).mono fun _ _ ⟨he, hw⟩ => ⟨⟨_, he⟩, hw⟩
theorem sort530 (blk cap : Nat) (d : Array Ac) (w : World) (hH : HoldsK acCells 3 w blk 0 d) (hblk : blk < w.heap.size) (h12 : d.size ≤ 12) :
 Calls Tryz.prog 530 #[.slice (some ⟨blk, 0, none⟩) d.size cap, .func (.func 531) #[] #[]] w fun e w' => e = .returned (.tuple #[]) ∧ ∃ d' n os, PermIn 0 d.size d d' ∧ SortedIn (ltOf cfA) 0 d.size d' ∧ w' = sortWorldK acCells 3 w blk 0 n d' os := by
 have eg : ∀ args w, (callFunc 531 args).run Tryz.prog w = .ok (.enter 531 args) w := enters_of Tryz.func531 (by kernel_rfl) rfl
 exact AnyQ.slices_SortFunc_small_sorted Tryz.sortAc 3 Tryz.isAgg144 Tryz.sizeOf144 acCells (fun _ => rfl) acCells_one cfA 531 #[] swoA blk 0 cap d w eg (cmpL _ _ _ _) hH hblk h12 len61
end Go.Proofs.Seat4
end
section
namespace Go.Proofs.Seat4
open Go.RowKit Go.Sort
theorem TA : ElemT Tryz.prog 298 144 3 24 := ElemT.mk' Tryz.underlying298 (z := .agg #[.int .i64 0, .int .i64 0, .bool false]) (by kernel_rfl) rfl (by omega)
noncomputable def seenAc (d : List Ac) (seen : Array Nat) : List Ac := seen.toList.map fun j => d.getD j default
noncomputable def seenCells (d : List Ac) (seen : Array Nat) : List Value := (seenAc d seen).flatMap acCells
structure KL (w0 w : World) (m r : Nat) (d : List Ac) (seen : Array Nat) (v : Value) : Prop where
 map : MapIs w m (d.map acKV)
 iter : IterIs w r m d.length seen
 own : w.ownsRow (r + 1) 144 3 v seen.size (seenCells d seen)
 nd : seen.toList.Nodup
 lt : ∀ j ∈ seen, j < d.length
 below : RowKit.Below w0.heap.size w0 w
 m0 : m < w0.heap.size
 mr : w0.heap.size ≤ r
theorem own_same {w w' : World} {r e size n : Nat} {v : Value} {xs : List Value} (hs : ∀ i : Nat, i ≠ r → w'.heap[i]? = w.heap[i]?) (h : w.ownsRow (r + 1) e size v n xs) : w'.ownsRow (r + 1) e size v n xs :=
 ⟨h.1, h.2.imp id fun ⟨g, cap, cur, e1, e2, e3, rest⟩ => ⟨g, cap, cur, e1, e2, by rw [hs g (by omega)]; exact e3, rest⟩⟩
theorem nodup_le : ∀ (n : Nat) (l : List Nat), l.Nodup → (∀ j ∈ l, j < n) → l.length ≤ n
 | 0, l, _, h => by
   cases l with
   | nil => simp
   | cons x r => exact absurd (h x (by simp)) (by omega)
 | n + 1, l, hd, h => by
   by_cases hm : n ∈ l
   ·have h1 := nodup_le n (l.erase n) (hd.erase n) (fun j hj => by
     have h2 := (hd.mem_erase_iff).1 hj
     have := h j h2.2
     omega)
    rw [List.length_erase_of_mem hm] at h1
    omega
   ·have := nodup_le n l hd (fun j hj => by
     have h2 := h j hj
     have h3 : j ≠ n := fun e => hm (e ▸ hj)
     omega)
    omega
theorem seen_le {d : List Ac} {seen : Array Nat} (h1 : seen.toList.Nodup) (h2 : ∀ j ∈ seen, j < d.length) : seen.size ≤ d.length := by
 simpa using nodup_le d.length seen.toList h1 (fun j hj => h2 j (by simpa using hj))
theorem seen_perm {d : List Ac} {seen : Array Nat} (h1 : seen.toList.Nodup) (h2 : ∀ j ∈ seen, j < d.length) (h3 : ∀ j, j < d.length → j ∈ seen) : seen.size = d.length ∧ (seenAc d seen).Perm d := by
 have hp : seen.toList.Perm (List.range d.length) := (List.perm_ext_iff_of_nodup h1 List.nodup_range).2 fun a => by
  rw [List.mem_range]
  exact ⟨fun h => h2 a (by simpa using h), fun h => by simpa using h3 a h⟩
 refine ⟨by simpa using hp.length_eq, ?_⟩
 have h4 : (List.range d.length).map (fun j => d.getD j default) = d := by
  refine List.ext_getElem (by simp) fun i g1 g2 => ?_
  simp [List.getD_eq_getElem?_getD, g2]
 have := hp.map (fun j => d.getD j default)
 rwa [h4] at this
theorem seenCells_push (d : List Ac) (seen : Array Nat) (j : Nat) (A : Ac) (h : d.getD j default = A) : seenCells d (seen.push j) = seenCells d seen ++ acCells A := by
 subst h
 simp [seenCells, seenAc]
theorem holds_own {w : World} {g : Nat} {cur : Array Value} {e : TypeId} {D : Array Ac} (hg : w.heap[g]? = some (.cells cur e (0, 0))) (ht : cur.toList.take (D.size * 3) = D.toList.flatMap acCells) : HoldsK acCells 3 w g 0 D := by
 intro j hj
 rw [size_flatK] at hj
 have h1 : cur[j]? = some ((flatK acCells 3 D)[j]!) := by
  rw [← flatK_list D j hj, ← ht, List.getElem?_take, if_pos hj]
  simp
 constructor
 ·simp [World.cell?, hg, h1]
 ·simp [World.frozen?, hg]
theorem below_mono {B B' : Nat} {w w' : World} (h : RowKit.Below B' w w') (hB : B ≤ B') : RowKit.Below B w w' := ⟨h.os, h.tape, h.output, h.size, fun k hk => h.block k (by omega)⟩
theorem below_same {B B' : Nat} {w0 w w' : World} (h : RowKit.Below B w0 w) (hb : RowKit.Below B' w w') (hs : ∀ i : Nat, w'.heap[i]? = w.heap[i]?) : RowKit.Below B w0 w' :=
 ⟨hb.os.trans h.os, hb.tape.trans h.tape, hb.output.trans h.output, Nat.le_trans h.size hb.size, fun k hk => (hs k).trans (h.block k hk)⟩
def ListPost (d : List Ac) (w : World) (e : Ending) (w' : World) : Prop :=
 ∃ g cap cur, e = .returned (.slice (some ⟨g, 0, none⟩) d.length cap) ∧ w'.heap[g]? = some (.cells cur 144 (0, 0)) ∧ w.heap.size ≤ g ∧ d.length ≤ cap ∧ cur.size = cap * 3 ∧
  (∀ t, t < d.length * 3 → cur[t]? = ((sortA d).flatMap acCells)[t]?) ∧ RowKit.Below w.heap.size w w'
theorem list_end {d : List Ac} {w w1 : World} {g cap n : Nat} {cur : Array Value} {D D' : Array Ac} {os : Array Obj} (hb : RowKit.Below w.heap.size w w1) (hg : w1.heap[g]? = some (.cells cur 144 (0, 0))) (hgw : w.heap.size ≤ g) (hcap : d.length ≤ cap) (hcur : cur.size = cap * 3)
 (hD : D.toList.Perm d) (hs : D.size = d.length) (ha : ascK ((sortA d).flatMap acAV) = true) (hp : PermIn 0 D.size D D') (ho : SortedIn (ltOf cfA) 0 D.size D') :
 ListPost d w (.returned (.slice (some ⟨g, 0, none⟩) d.length cap)) (sortWorldK acCells 3 w1 g 0 n D' os) := by
 have h1 := sorted_is d D D' hD ha hp ho
 have h2 : D'.size = d.length := hp.1.trans hs
 obtain ⟨cur', c1, c2, c3, c4, c5⟩ := sorted_block w1 g n D' os cur 144 hg (by rw [h2, hcur]; omega)
 refine ⟨g, cap, cur', rfl, c1, hgw, hcap, c2.trans hcur, fun t ht => ?_, ?_⟩
 ·rw [c3 t (by omega), h1]
 ·refine ⟨?_, ?_, ?_, Nat.le_trans hb.size c5, fun k hk => ?_⟩
  ·exact hb.os
  ·exact hb.tape
  ·exact hb.output
  ·rw [c4 k (Nat.lt_of_lt_of_le hk hb.size) (by omega)]
   exact hb.block k hk
theorem done530 {d : List Ac} {w wr w' : World} {m r : Nat} {seen : Array Nat} {v : Value} (ks : KL w wr m r d seen v) (ha : ascK ((sortA d).flatMap acAV) = true) (hd : d.length ≤ 12) (h0 : 0 < d.length)
 (hall : ∀ j, j < d.length → j ∈ seen) (hsame : ∀ i : Nat, w'.heap[i]? = wr.heap[i]?) (hb : RowKit.Below wr.heap.size wr w') :
 ∃ g cap, v = .slice (some ⟨g, 0, none⟩) seen.size cap ∧ Calls Tryz.prog 530 #[.slice (some ⟨g, 0, none⟩) seen.size cap, .func (.func 531) #[] #[]] w' fun e w2 => e = .returned (.tuple #[]) ∧ ListPost d w (.returned (.slice (some ⟨g, 0, none⟩) seen.size cap)) w2 := by
 obtain ⟨hsz, hperm⟩ := seen_perm ks.nd ks.lt hall
 have hbw := below_same ks.below hb hsame
 rcases ks.own.2 with ⟨rfl, h9⟩ | ⟨g, cap, cur, rfl, g1, g2, g3, g4, g5, g6⟩
 ·exact absurd h9 (by omega)
 ·have hg' := (hsame g).trans g2
  have hDs : (seenAc d seen).toArray.size = seen.size := by simp [seenAc]
  have h6 : cur.toList.take ((seenAc d seen).toArray.size * 3) = (seenAc d seen).toArray.toList.flatMap acCells := by rw [hDs]; exact g6
  have hcon := sort530 g cap (seenAc d seen).toArray w' (holds_own hg' h6) (Array.getElem?_eq_some_iff.1 hg').1 (by rw [hDs, hsz]; exact hd)
  refine ⟨g, cap, rfl, ?_⟩
  have hend : ∀ (D' : Array Ac) (n : Nat) (os : Array Obj), PermIn 0 (seenAc d seen).toArray.size (seenAc d seen).toArray D' → SortedIn (ltOf cfA) 0 (seenAc d seen).toArray.size D' → ListPost d w (.returned (.slice (some ⟨g, 0, none⟩) seen.size cap)) (sortWorldK acCells 3 w' g 0 n D' os) := fun D' n os p1 p2 => by
   rw [hsz]
   exact list_end hbw hg' (by have := ks.mr; omega) (by omega) g5 (by simpa using hperm) (by rw [hDs, hsz]) ha p1 p2
  rw [← hDs]
  rw [← hDs] at hend
  exact hcon.mono fun e w2 ⟨h1, D', n, os, p1, p2, h2⟩ => ⟨h1, by rw [h2]; exact hend D' n os p1 p2⟩
set_option maxRecDepth 100000 in
set_option maxHeartbeats 1000000 in
theorem list405 (d : List Ac) (m : Nat) (w : World) (hm : MapIs w m (d.map acKV)) (hd : d.length ≤ 12) (h0 : 0 < d.length) (ha : ascK ((sortA d).flatMap acAV) = true) :
 Calls Tryz.prog 405 #[.map (some m)] w (ListPost d w) := by
 have Ha := Lib.hid ha
 clear ha
 go_enter Tryz.func405, Tryz.ntmps405
 have hlt := hm.lt
 go_wp2_with ((with_reducible refine wpList_range_mk (o := ⟨some 7, .range 476 (.tmp 6), _, _, _, none⟩) rfl 476 545 4 (.tmp 6) rfl Tryz.underlying476 m ?_ (d.map acKV) hm ?_); (focus rfl); intro hI)
 have ks : KL w (w.alloc (.mapIter (some m) (d.map acKV).length #[] (d.map acKV).length)) m w.heap.size d #[] (.slice none 0 0) :=
  ⟨hm.below ((RowKit.Below.refl _ _).alloc (Nat.le_refl _) _) hlt, by simpa using hI, World.ownsRow_nil _ _ _ _, by simp, by simp, (RowKit.Below.refl _ _).alloc (Nat.le_refl _) _, hlt, Nat.le_refl _⟩
 have Ks := Lib.hid ks
 have Hm := Lib.hid hm
 clear ks hI hm
 generalize hr : w.heap.size = r at *
 have hr' : w.heap.size ≤ r := by omega
 have Hr := Lib.hid hr
 clear hr
 go_frame
 go_loopw [3] (fun v wr => ∃ seen, KL w wr m r d seen v) (fun _ w => leftOf w r d.length)
 case atStart => exact ⟨_, Ks.out⟩
 case round =>
  obtain ⟨seen, ks⟩ := hrel
  clear Ks Hm
  have hM := ks.map
  have hI := ks.iter
  have hlen : (d.map acKV).length = d.length := by simp
  rw [← hlen] at hI
  have Ks := Lib.hid ks
  have HI := Lib.hid hI
  have Hlen := Lib.hid hlen
  clear ks hlen
  go_wp2_with (first | ((with_reducible refine wpList_next_mk (o := ⟨some 8, .next (.tmp 7) false, _, _, _, none⟩) rfl (.tmp 7) rfl r m ?_ (d.map acKV) hM seen hI ?_ ?_); (focus rfl); (focus (intro w' hall hsame hb'; clear hM hI; ((obtain ⟨g, cap, rfl, hcon⟩ := done530 Ks.out Ha.out hd h0 (fun j hj => hall j (by simpa using hj)) hsame hb')); have Hcon := Lib.hid hcon; clear hall hsame hb' hcon; ((go_wp2_with (go_at_call 530; refine Hcon.out.mono ?_; rintro e w2 ⟨rfl, hpost⟩))); go_ret; exact hpost)); intro j hj w' hnew hI' hb' hs' hsame; have hM' := hM.below hb' (Nat.lt_of_lt_of_le Ks.out.m0 Ks.out.mr); clear hM hI; have Hs := Lib.hid hsame; have Hsz := Lib.hid hs'; have Hn := Lib.hid hnew; have Hb := Lib.hid hb'; clear hsame hs' hnew hb'; rw [show (d.map acKV)[j] = acKV (d[j]'(by simpa using hj)) from by simp]; generalize hA : (d[j]'(by simpa using hj)) = A; have HA := Lib.hid hA; clear hA) | ((with_reducible refine wpList_entry_mk (o := ⟨some 10, .entry (.tmp 7), _, _, _, none⟩) rfl (.tmp 7) rfl r m ?_ (d.map acKV) hM' seen j hj hI' ?_); (focus rfl); rw [show (d.map acKV)[j] = acKV (d[j]'(by simpa using hj)) from by simp, HA.out]; have HM' := Lib.hid hM'; clear hM'; have HI' := Lib.hid hI'; clear hI'; simp only [acKV]) | (at_builtin; ((have hown := own_same Hs.out Ks.out.own)); ((have hsz1 : r < w'.heap.size := by (have := Ks.out.iter; have h9 := (Array.getElem?_eq_some_iff.1 this).1; have := Hsz.out; omega))); ((have hle9 := seen_le Ks.out.nd Ks.out.lt)); ((refine wpList_app rfl _ _ 298 rfl (r + 1) 144 3 24 TA _ _ _ rfl ((hown.alloc _).alloc _) (w'.heap.size + 1) (acCells A) rfl rfl (Row.new _ _ _ _ ?_) (acCells_one _) ?_ ?_ ?_ ?_); (focus simp); (focus omega); (focus omega); (focus (simp; omega)); intro v' w1 hown1 hgr1)))
  have hb1 : RowKit.Below (r + 1) w' w1 := (((RowKit.Below.refl (r + 1) w').alloc (by omega) _).alloc (by simp; omega) _).grown hgr1 (by simp; omega) (fun j hj => (hown.lt j hj).1)
  have hI1 : IterIs w1 r m d.length (seen.push j) := by
   have h1 := HI'.out
   rw [Hlen.out] at h1
   exact (hb1.block r (by omega)).trans h1
  have hjd : j < d.length := by have h1 := hj; rwa [Hlen.out] at h1
  go_roundw
  case rel =>
   refine ⟨seen.push j, HM'.out.below hb1 (by omega), hI1, ?_, ?_, ?_, ?_, Ks.out.m0, Ks.out.mr⟩
   ·rw [Array.size_push, seenCells_push d seen j A (by rw [← HA.out]; simp [List.getD_eq_getElem?_getD, hjd])]
    exact hown1
   ·rw [Array.toList_push, List.nodup_append]
    refine ⟨Ks.out.nd, by simp, fun x hx y hy e => ?_⟩
    subst e
    rw [List.mem_singleton] at hy
    subst hy
    exact Hn.out (by simpa using hx)
   ·intro x hx
    rcases Array.mem_push.1 hx with hx | rfl
    ·exact Ks.out.lt x hx
    ·exact hjd
   ·exact (Ks.out.below.trans (below_mono Hb.out Ks.out.mr)).trans (below_mono hb1 (by have := Ks.out.mr; omega))
  case measure => exact leftOf_push (by have h1 := HI.out; rwa [Hlen.out] at h1) hI1 hjd Hn.out
end Go.Proofs.Seat4
end
section
namespace AvT
open Go Go.Proofs Av
open Go.Proofs.Seat4 (sortK testK ascK)
section
variable {ri : Nat → Option RInfo} {m : M} {N : Pos → Prop} {lim B : Nat} {H : AH} {w w' : World}
theorem rel_newAt (h : Rel ri m N N lim B H w) {o : AObj} {g c : Nat} (hb : o.birth = H.cnt) (hr : ∀ l ty root ab g birth, o = .cells l ty root ab g birth → root = H.nx)
 (hw : RowKit.Below w.heap.size w w') (hg : w.heap.size ≤ g) (ho : LObj ri (m.set H.nx g 0 c) (more N H.nx) H.nx w' o) :
 Rel ri (m.set H.nx g 0 c) (more N H.nx) (more N H.nx) lim B (H.fresh o) w' := by
 have hnx := h.nx
 have ha : Agree N m (m.set H.nx g 0 c) := Agree.set hnx m _ _ _
 have hne : ∀ b, N b → b ≠ H.nx := fun b hb e => hnx (e ▸ hb)
 have hold : ∀ b x, N b → PT.get b (H.fresh o).bl = some x → PT.get b H.bl = some x := fun b x hb hx => by rwa [fresh_bl, if_neg (hne b hb)] at hx
 have hlt : ∀ b x, N b → PT.get b H.bl = some x → m.ad b < w.heap.size := fun b x hb hx => (h.obj b x hb hx).lt
 refine ⟨fun b hb => ?_, fun b hb => hb, fun b x hb hx => ?_, fun b x hb hx hl => ?_, fun b b' x x' hb hb' hx hx' hne' had => ?_, h.wf.fresh hb hr, ?_⟩
 ·rw [fresh_nx, Pos.num_succ]
  rcases hb with hb | rfl
  ·have := h.lt b hb; omega
  ·omega
 ·rcases hb with hb | rfl
  ·have hx' := hold b x hb hx
   exact (h.obj b x hb hx').keep hb ha (fun _ y => .inl y) (hw.block _ (hlt b x hb hx'))
  ·rw [fresh_bl, if_pos rfl] at hx
   cases hx
   exact ho
 ·rcases hb with hb | rfl
  ·rw [ha.ad b hb]
   exact h.perm b x hb (hold b x hb hx) hl
  ·rw [M.set_ad]; exact Nat.le_trans h.base hg
 ·rcases hb with hb | rfl
  ·rcases hb' with hb' | rfl
   ·rw [ha.ad b hb, ha.ad b' hb'] at had
    obtain ⟨l, ty, root, ab, g, birth, l', ty', ab', g', birth', f1, f2, f6⟩ := h.apart b b' x x' hb hb' (hold b x hb hx) (hold b' x' hb' hx') hne' had
    refine ⟨l, ty, root, ab, g, birth, l', ty', ab', g', birth', ?_, ?_, ?_⟩
    ·rw [fresh_bl, if_neg (hne b hb)]; exact f1
    ·rw [fresh_bl, if_neg (hne b' hb')]; exact f2
    ·rw [ha.off b hb, ha.off b' hb']; exact f6
   ·rw [ha.ad b hb, M.set_ad] at had
    have := hlt b x hb (hold b x hb hx)
    omega
  ·rcases hb' with hb' | rfl
   ·rw [ha.ad b' hb', M.set_ad] at had
    have := hlt b' x' hb' (hold b' x' hb' hx')
    omega
   ·exact absurd rfl hne'
 ·exact Nat.le_trans h.base hw.size
theorem step_newAt (h : Rel ri m N N lim B H w) {l : List AV} {ty gz g c : Nat} {cs : Array Value} {fz : Nat × Nat} (hw : RowKit.Below w.heap.size w w') (hg : w.heap.size ≤ g) (ho : w'.heap[g]? = some (.cells cs ty fz))
 (hcs : ∀ (i : Nat) (x : AV), l[i]? = some x → cs[i]? = some (conc m x)) (hl : ∀ x ∈ l, sc x = true ∧ okV m N x)
 (hfz : ∀ i, i < cs.size → ¬ (fz.1 ≤ i ∧ i < fz.2)) (hgz : gz ≠ 0 → c * gz ≤ cs.size ∧ l.length ≤ c * gz) :
 Step ri m N lim B H w (m.set H.nx g 0 c) (more N H.nx) (newCells H l ty gz) w' := by
 have ha : Agree N m (m.set H.nx g 0 c) := Agree.set h.nx m _ _ _
 rw [newCells_eq]
 have hrel := rel_newAt (g := g) (c := c) h (o := .cells l ty H.nx 0 gz H.cnt) rfl (fun _ _ _ _ _ _ e => by cases e; rfl) hw hg ⟨cs, fz, by rw [M.set_ad]; exact ho, fun i x hx => by rw [M.set_off, Nat.zero_add, hcs i x hx, conc_agree ha x (hl x (List.mem_of_getElem? hx)).2],
  fun x hx => ⟨(hl x hx).1, okV_agree ha (fun _ y => .inl y) x (hl x hx).2⟩, hfz, fun hg' => by rw [M.set_off, M.set_cap, Nat.zero_add]; exact hgz hg'⟩
 refine ⟨hrel, ha, fun x hx => .inl hx, fun x hx => ?_, ⟨hw.os, hw.tape, hw.output, hw.size, fun k hk => hw.block k (Nat.lt_of_lt_of_le hk h.base)⟩, Keep.fresh h.wf _ lim, ?_, ?_, fun x h1 h2 => ?_, Ext.fresh H rfl⟩
 ·rcases hx with hx | rfl
  ·exact .inl hx
  ·exact .inr ⟨Nat.le_refl _, by rw [M.set_ad]; exact Nat.le_trans h.base hg⟩
 ·rw [fresh_nx, Pos.num_succ]; omega
 ·rw [fresh_cnt]; omega
 ·rw [fresh_nx, Pos.num_succ] at h2
  exact .inr (Pos.num_inj (by omega))
end
noncomputable def hkL : Hook := fun _ xs h => List.rec (motive := fun _ => R CO) (.er [207]) (fun x r _ => List.rec (motive := fun _ => R CO) (x.unMap (.er [204]) (fun b => h.mapOf b (fun es clock _ =>
 Bool.rec (motive := fun _ => R CO) (.er [206]) (.ok (.ret (.su h.nx 0 es.length 0) (newCells h (sortK es) 144 3)))
  (band (Nat.beq clock es.length) (band (Nat.ble 1 es.length) (band (Nat.ble es.length 12) (band (testK es 0) (ascK (sortK es))))))) (.er [203])) (.er [204])) (fun _ _ _ => .er [208]) r) xs
theorem hkL_ok : HkOK Tryz.prog ri 405 hkL := by
 intro m N lim B H w xs co hR hx hk
 match xs, hx, hk with
 | [], _, hk => cases hk
 | _ :: _ :: _, _, hk => cases hk
 | [x], hx, hk =>
   change x.unMap _ _ _ = _ at hk
   rcases AV.unMap_ok hk with ⟨_, h⟩ | ⟨b, rfl, h⟩ | h
   ·cases h
   ·obtain ⟨es, clock, birth, hb, h⟩ := mapOf_ok h
    cases ht : band (Nat.beq clock es.length) (band (Nat.ble 1 es.length) (band (Nat.ble es.length 12) (band (testK es 0) (ascK (sortK es))))) with
    | false => rw [ht] at h; cases h
    | true =>
      rw [ht] at h
      cases h
      obtain ⟨h1, ht⟩ := and_of ht
      obtain ⟨h2, ht⟩ := and_of ht
      obtain ⟨h3, ht⟩ := and_of ht
      obtain ⟨h4, h5⟩ := and_of ht
      have e1 := Nat.eq_of_beq_eq_true h1
      have e2 := Nat.le_of_ble_eq_true h2
      have e3 := Nat.le_of_ble_eq_true h3
      obtain ⟨d, g1, g2, g3⟩ := Go.Proofs.Seat4.testK_ok m es 0 h4
      rw [g2] at h5
      have hN : N b := hx.1
      have hobj := (hR.obj b _ hN hb).1
      rw [g1, e1] at hobj
      have hM : Go.Proofs.Seat4.MapIs w (m.ad b) (d.map Go.Proofs.Seat4.acKV) := by
       show _ = some _
       rw [hobj, List.length_map, g3]
      have hc := Go.Proofs.Seat4.list405 d (m.ad b) w hM (by omega) (by omega) h5
      refine ⟨enters_of Tryz.func405 (by kernel_rfl) rfl _ _, callsIn_wide.2 (hc.mono fun e w' hp => ?_)⟩
      obtain ⟨g, cap, cur, rfl, p1, p2, p3, p4, p5, p6⟩ := hp
      have hlen : (sortK es).length = 3 * d.length := by
       rw [g2, Go.Proofs.Seat4.flat3_len _ (fun _ => rfl), (Go.Proofs.Seat4.sortA_perm d).length_eq]
      have hmap : (Go.Proofs.Seat4.sortA d).flatMap Go.Proofs.Seat4.acCells = (sortK es).map (conc m) := by
       rw [g2, List.map_flatMap]
       rfl
      have hst := step_newAt hR (l := sortK es) (ty := 144) (gz := 3) (c := cap) p6 p2 p1 (fun i x hi => ?_) (fun x hi => ?_) (fun i _ => by simp) (fun _ => ⟨by omega, by omega⟩)
      ·refine ⟨_, _, hst, ⟨.inr rfl, ?_⟩, ?_⟩
       ·rw [M.set_cap]; omega
       ·simp only [conc, M.set_ad, M.set_off, M.set_cap, g3, Nat.sub_zero]
      ·have hi' : i < 3 * d.length := by rw [← hlen]; exact (List.getElem?_eq_some_iff.1 hi).1
       rw [p5 i (by omega), hmap, List.getElem?_map, hi]
       rfl
      ·rw [g2] at hi
       obtain ⟨a, _, ha⟩ := List.mem_flatMap.1 hi
       simp only [Go.Proofs.Seat4.acAV, List.mem_cons, List.not_mem_nil, or_false] at ha
       rcases ha with rfl | rfl | rfl <;> exact ⟨rfl, trivial⟩
   ·cases h
end AvT
end
section
namespace Go.Proofs.Seat9
open Av
def spAV (x : Sp) : List AV := [.int x.kind, .int x.task, .int x.index, .int x.from_, .int x.to_, .int x.start, .int x.end_]
noncomputable def spsOf : List AV → Option (List Sp)
 | [] => some []
 | .int a :: .int b :: .int c :: .int d :: .int e :: .int f :: .int g :: r => Option.rec (motive := fun _ => Option (List Sp)) none (fun t => some (⟨a, b, c, d, e, f, g⟩ :: t)) (spsOf r)
 | _ => none
theorem spsOf_ok : ∀ (l : List AV) (ms : List Sp), spsOf l = some ms → l = ms.flatMap spAV
 | l, ms, h => by
   unfold spsOf at h
   split at h
   ·cases h; rfl
   ·rename_i a b c d e f g r
    cases ht : spsOf r with
    | none => rw [ht] at h; cases h
    | some t =>
      rw [ht] at h
      cases h
      have := spsOf_ok r t ht
      rw [List.flatMap_cons, ← this]
      rfl
   ·cases h
 termination_by l => l.length
noncomputable def smN : Int → Bool
 | .ofNat n => Nat.ble n 99
 | .negSucc _ => false
noncomputable def it2 (n : Nat) : List UInt8 := Bool.rec [UInt8.ofNat (48 + n / 10), UInt8.ofNat (48 + n % 10)] [UInt8.ofNat (48 + n)] (Nat.ble n 9)
noncomputable def numK : Int → List UInt8
 | .ofNat n => it2 n
 | .negSucc _ => []
theorem smN_nat {n : Int} (h : smN n = true) : ∃ k : Nat, n = k ∧ k < 100 := by
 cases n with
 | ofNat k => exact ⟨k, rfl, by have := Nat.le_of_ble_eq_true h; omega⟩
 | negSucc k => cases h
theorem it2_eq {n : Nat} (h : n < 100) : it2 n = Lib.decDigits n := by
 unfold it2
 by_cases h1 : n < 10
 ·rw [Lib.decDigits_one h1, Nat.ble_eq_true_of_le (show n ≤ 9 by omega)]
 ·rw [Lib.decDigits_two h1 h, show Nat.ble n 9 = false from by
   cases hb : Nat.ble n 9 with
   | false => rfl
   | true => have := Nat.le_of_ble_eq_true hb; omega]
theorem numK_eq {n : Int} (h : smN n = true) : numK n = Lib.itoa n := by
 obtain ⟨k, rfl, hk⟩ := smN_nat h
 show it2 k = Lib.itoa (k : Int)
 rw [it2_eq hk, Lib.itoa, if_neg (by omega)]
 rfl
noncomputable def goodT : List Sp → Bool
 | [] => true
 | x :: r => band (smN x.task) (band (smN x.index) (goodT r))
theorem and_of' {a b : Bool} (h : band a b = true) : a = true ∧ b = true := by
 cases a <;> cases b <;> first | exact ⟨rfl, rfl⟩ | cases h
theorem goodT_ok : ∀ {l : List Sp}, goodT l = true → ∀ x ∈ l, smN x.task = true ∧ smN x.index = true
 | [], _ => by simp
 | m :: r, h => by
   unfold goodT at h
   obtain ⟨h1, h⟩ := and_of' h
   obtain ⟨h2, h⟩ := and_of' h
   intro x hx
   rcases List.mem_cons.1 hx with rfl | hx
   ·exact ⟨h1, h2⟩
   ·exact goodT_ok h x hx
noncomputable def textK (n : Nat) : List Sp → List UInt8
 | [] => []
 | x :: r => numK x.task ++ (32 :: (numK x.index ++ (32 :: (cellsS x n ++ (10 :: textK n r)))))
theorem textK_eq (n : Nat) : ∀ {l : List Sp}, goodT l = true → textK n l = textS n l
 | [], _ => rfl
 | x :: r, h => by
   obtain ⟨h1, h2⟩ := goodT_ok h x (by simp)
   have h3 : goodT r = true := by
    unfold goodT at h
    exact (and_of' (and_of' h).2).2
   have : textS n (x :: r) = lineS n x ++ textS n r := by simp [textS]
   rw [this]
   unfold textK lineS
   rw [textK_eq n h3, numK_eq h1, numK_eq h2]
   simp
end Go.Proofs.Seat9
end
section
set_option linter.all false
namespace AvT
open Go Go.Proofs Av Go.Proofs.Seat9
section
variable {ri : Nat → Option RInfo} {m : M} {N : Pos → Prop} {lim B : Nat} {H : AH} {w w' : World}
theorem step_below (h : Rel ri m N N lim B H w) (hb : RowKit.Below w.heap.size w w') : Step ri m N lim B H w m N H w' :=
 ⟨h.world (fun b o hb' ho => hb.block _ ((h.obj b o hb' ho).lt)) (Nat.le_trans h.base hb.size), Agree.refl _ _, fun _ x => x, fun _ x => .inl x, ⟨hb.os, hb.tape, hb.output, hb.size, fun k hk => hb.block k (Nat.lt_of_lt_of_le hk h.base)⟩, fun _ _ x _ => x, Nat.le_refl _, Nat.le_refl _, fun x h1 h2 => absurd h2 (Nat.not_lt.2 h1), Ext.refl _⟩
end
noncomputable def hkB : Hook := fun _ xs h => List.rec (motive := fun _ => R CO) (.er [220]) (fun x r _ => List.rec (motive := fun _ => R CO)
 (x.unIk (fun k n => Int.rec (motive := fun _ => R CO) (fun a => Bool.rec (motive := fun _ => R CO) (.er [220]) (.ok (.ret (.int (.ofNat (Go.Lib.bitLen a))) h)) (band (Nat.beq (knd k) 7) (Nat.ble a 18446744073709551615))) (fun _ => .er [221]) n) (.er [222])) (fun _ _ _ => .er [223]) r) xs
theorem hkB_ok {ri : Nat → Option RInfo} : HkOK Tryz.prog ri 61 hkB := by
 intro m N lim B H w xs co hR hx hk
 match xs, hx, hk with
 | [], _, hk => cases hk
 | _ :: _ :: _, _, hk => cases hk
 | [x], hx, hk =>
   rcases AV.unIk_ok (v := x) hk with ⟨k, n, rfl, hk⟩ | ⟨_, hk⟩
   ·cases n with
    | negSucc a => cases hk
    | ofNat a =>
      rcases bool_ok hk with ⟨h1, hk⟩ | ⟨_, hk⟩
      ·cases hk
       rw [band_eq, Bool.and_eq_true] at h1
       have e1 := beq_of h1.1
       have e2 := ble_of h1.2
       have ek : k = .u64 := by cases k <;> first | rfl | (exact absurd e1 (by decide))
       subst ek
       refine ⟨enters_of Tryz.func61 (by kernel_rfl) rfl _ _, callsIn_wide.2 ((Any.bits_Len Tryz.bitsLen (a : Int) w (by omega) (by omega)).mono fun e w' hp => ?_)⟩
       obtain ⟨rfl, rfl⟩ := hp
       exact ⟨m, N, Step.refl hR, trivial, rfl⟩
      ·cases hk
   ·cases hk
noncomputable def goC (h : AH) (b : Pos) (o n : Nat) (q : Bool) (k : Int) : R CO := h.read b o (n * 7) fun l => Option.rec (motive := fun _ => R CO) (.er [215]) (fun ms => Bool.rec (motive := fun _ => R CO) (.er [216]) (.ok (.ret (.tup [.str (textK ((lastS (mine k ms)).toNat + 1) (mine k ms)), .int (.ofNat 0)]) h))
 (band q (band (Nat.beq ms.length n) (band (Nat.ble n 40) (band (goodT (mine k ms)) (decide (chartE ms k = 0))))))) (spsOf l)
noncomputable def hkC : Hook := fun _ xs h => List.rec (motive := fun _ => R CO) (.er [213]) (fun x r _ => List.rec (motive := fun _ => R CO) (.er [213]) (fun y r2 _ => List.rec (motive := fun _ => R CO)
 (y.unInt (fun k => x.unSl (.er [214]) (fun b o n c => goC h b o n (Nat.ble n c) k) (fun b o n _ => goC h b o n true k) (.er [214])) (.er [213])) (fun _ _ _ => .er [213]) r2) r) xs
theorem itoa_small_at {l : List Sp} (h : goodT l = true) (w : World) : ItoaAt w l := fun x hx n hn W hW => by
 have hs : smN n = true := by
  obtain ⟨h1, h2⟩ := goodT_ok h x hx
  rcases hn with rfl | rfl
  ·exact h1
  ·exact h2
 obtain ⟨i, rfl, hi⟩ := smN_nat hs
 refine (Tryz.strconv_Itoa_small i hi W).mono fun e w' hp => ?_
 obtain ⟨rfl, rfl⟩ := hp
 have : Lib.itoa (i : Int) = Lib.decDigits i := by
  rw [Lib.itoa, if_neg (by omega)]
  rfl
 exact ⟨by rw [this], RowKit.Below.refl _ _⟩
theorem goC_ok {ri : Nat → Option RInfo} {m : M} {N : Pos → Prop} {lim B : Nat} {H : AH} {w : World} {b : Pos} {o n c : Nat} {q : Bool} {k : Int} {co : CO} (hR : Rel ri m N N lim B H w) (hN : N b) (hq : q = true → n ≤ c) (h : goC H b o n q k = .ok co) :
 CallsIn Fence.wide 0 Tryz.prog 5 #[.slice (some ⟨m.ad b, m.off b + o, none⟩) n c, .int .i64 k] w (CoR ri m N lim B H w co) := by
 obtain ⟨l, ty, root, ab, g, birth, h1, h2, h3, h4⟩ := read_ok h
 have hob := hR.obj b _ hN h1
 cases hsp : spsOf ((l.drop o).take (n * 7)) with
 | none => rw [hsp] at h3; cases h3
 | some ms =>
   rw [hsp] at h3
   rcases bool_ok h3 with ⟨g1, g2⟩ | ⟨_, g2⟩
   ·cases g2
    simp only [band_eq, Bool.and_eq_true, decide_eq_true_eq] at g1
    obtain ⟨g1, g2, g3, g4, g5⟩ := g1
    have e1 := beq_of g2
    have e2 := ble_of g3
    subst e1
    have hl := spsOf_ok _ _ hsp
    have hrow : Go.Proofs.Seat4.Row w (m.ad b) (m.off b + o) (SE.all ms) := fun j v hj => by
     have e : SE.all ms = (ms.flatMap spAV).map (conc m) := by rw [List.map_flatMap]; rfl
     rw [e, ← hl, List.getElem?_map] at hj
     obtain ⟨a, ha, rfl⟩ := Option.map_eq_some_iff.1 hj
     rw [List.getElem?_take] at ha
     split at ha
     ·rw [List.getElem?_drop] at ha
      rw [show m.off b + o + j = m.off b + (o + j) by omega]
      exact cell_of hob ha
     ·cases ha
    have hlt : m.ad b < w.heap.size := hob.lt
    have hv : SpV w (.slice (some ⟨m.ad b, m.off b + o, none⟩) ms.length c) ms := LV.mk_ (hq g1) hlt (lAt_of_row hrow)
    refine callsIn_wide.2 ((chart5 ms _ k w hv e2 (itoa_small_at g4 w)).mono fun e w' hp => ?_)
    obtain ⟨rfl, hb⟩ := hp
    refine ⟨m, N, step_below hR hb, ⟨trivial, trivial, trivial⟩, ?_⟩
    rw [g5, textK_eq _ g4]
    unfold chartT
    rw [if_pos g5]
    rfl
   ·cases g2
theorem hkC_ok {ri : Nat → Option RInfo} : HkOK Tryz.prog ri 5 hkC := by
 intro m N lim B H w xs co hR hx hk
 match xs, hx, hk with
 | [], _, hk => cases hk
 | [_], _, hk => cases hk
 | _ :: _ :: _ :: _, _, hk => cases hk
 | [x, y], hx, hk =>
   rcases AV.unInt_ok (v := y) hk with ⟨k, rfl, hk⟩ | ⟨_, hk⟩
   ·rcases AV.unSl_ok (v := x) hk with ⟨_, hk⟩ | ⟨b, o, n, c, rfl, hk⟩ | ⟨b, o, n, c, rfl, hk⟩ | hk
    ·cases hk
    ·exact ⟨enters_of Tryz.func5 (by kernel_rfl) rfl _ _, goC_ok hR hx.1 (fun h => ble_of h) hk⟩
    ·exact ⟨enters_of Tryz.func5 (by kernel_rfl) rfl _ _, goC_ok hR hx.1.1 (fun _ => by have := hx.1.2; omega) hk⟩
    ·cases hk
   ·cases hk
theorem hks_ok58 : ∀ x ∈ [(405, hkL), (61, hkB), (5, hkC)], HkOK Tryz.prog ri x.1 x.2 := fun x hx => by
 rcases List.mem_cons.1 hx with rfl | hx
 ·exact hkL_ok
 ·rcases List.mem_cons.1 hx with rfl | hx
  ·exact hkB_ok
  ·cases List.mem_singleton.1 hx
   exact hkC_ok
end AvT
end
section
namespace Go.Proofs.Seat4
open Go.RowKit
def Clo (ops : Array Oper) (D : Nat → Bool) : Prop := ∀ j o, ops[j]? = some o → D j = true → ∀ e ∈ o.after, Region.binds .any e = true → D e.on = true
def DetOpG (P : Program) (ops : Array Oper) (S : (Nat → Bool) → World → Prop) (i : Nat) (o : Oper) (a : Act) (v : Value) : Prop :=
 ∀ D w, D i = false → Clo ops D → (∀ e ∈ o.after, Region.binds .any e = true → D e.on = true) → S D w → wpList P ops (DetPost (S (fun j => D j || j == i)) o a v) [o] a w
def wpDetG (P : Program) (ops : Array Oper) (S : (Nat → Bool) → World → Prop) (Q : Exit → Act → World → Prop) : Nat → List Oper → Act → Prop
 | _, [], a => ∀ D w, (∀ j, j < ops.size → D j = true) → S D w → Q .normal a w
 | i, o :: rest, a => ∃ v, DetOpG P ops S i o a v ∧ wpDetG P ops S Q (i + 1) rest (a.put o.dst v)
section
variable {P : Program} {ops : Array Oper} {S : (Nat → Bool) → World → Prop} {Q : Exit → Act → World → Prop}
theorem wpDetG_cons {i : Nat} {o : Oper} {rest : List Oper} {a : Act} {v : Value} (h1 : DetOpG P ops S i o a v) (h2 : wpDetG P ops S Q (i + 1) rest (a.put o.dst v)) : wpDetG P ops S Q i (o :: rest) a := ⟨v, h1, h2⟩
theorem det_canonG (a0 : Act) : ∀ (l : List Oper) (k : Nat) (a : Act) (v : Nat → Value), (∀ j, l[j]? = ops[k + j]?) → canon ops a0 v k = a → wpDetG P ops S Q k l a →
 ∃ v' : Nat → Value, (∀ j, j < k → v' j = v j) ∧ (∀ j o, k ≤ j → ops[j]? = some o → DetOpG P ops S j o (canon ops a0 v' j) (v' j)) ∧ (∀ D w, (∀ j, j < ops.size → D j = true) → S D w → Q .normal (canon ops a0 v' (k + l.length)) w) := by
 intro l
 induction l with
 | nil =>
   intro k a v hl ha h
   refine ⟨v, fun _ _ => rfl, fun j o hj ho => ?_, fun D w hD hw => by simpa [ha] using h D w hD hw⟩
   have hnone : ops[j]? = none := by
    have := hl (j - k)
    rw [show k + (j - k) = j from by omega] at this
    simpa using this.symm
   rw [hnone] at ho
   cases ho
 | cons o rest ih =>
   intro k a v hl ha h
   obtain ⟨u, hu, hrest⟩ := h
   have hk : ops[k]? = some o := by simpa using (hl 0).symm
   have same : ∀ (v1 v2 : Nat → Value) (m : Nat), (∀ j, j < m → v1 j = v2 j) → canon ops a0 v1 m = canon ops a0 v2 m := by
    intro v1 v2 m hm
    induction m with
    | zero => rfl
    | succ m ihm =>
      simp only [canon]
      rw [ihm fun j hj => hm j (by omega)]
      cases ops[m]? with
      | none => rfl
      | some o' => simp only [hm m (by omega)]
   let v2 : Nat → Value := fun j => if j = k then u else v j
   have hv2 : ∀ j, j < k → v2 j = v j := fun j hj => if_neg (by omega)
   have hck : canon ops a0 v2 k = a := (same v2 v k hv2).trans ha
   have hck1 : canon ops a0 v2 (k + 1) = a.put o.dst u := by
    show (match ops[k]? with | some o => (canon ops a0 v2 k).put o.dst (v2 k) | none => canon ops a0 v2 k) = _
    rw [hk, hck]
    simp [v2]
   obtain ⟨v', h1, h2, h3⟩ := ih (k + 1) _ v2 (fun j => by have := hl (j + 1); simpa [Nat.add_assoc, Nat.add_comm 1 j] using this) hck1 hrest
   refine ⟨v', fun j hj => (h1 j (by omega)).trans (hv2 j hj), fun j o' hj ho => ?_, fun D w hD hw => by have := h3 D w hD hw; rwa [show k + 1 + rest.length = k + (o :: rest).length from by simp; omega] at this⟩
   by_cases e : j = k
   ·subst e
    rw [hk] at ho
    cases ho
    rw [same v' v2 j fun m hm => h1 m (by omega), hck, h1 j (by omega)]
    simp only [v2, if_true]
    exact hu
   ·exact h2 j o' (by omega) ho
theorem det_anyG (hok : detOk ops = true) (a0 : Act) (v : Nat → Value) (hop : ∀ j o, ops[j]? = some o → DetOpG P ops S j o (canon ops a0 v j) (v j)) (hend : ∀ D w, (∀ j, j < ops.size → D j = true) → S D w → Q .normal (canon ops a0 v ops.size) w) :
 ∀ (fuel : Nat) (listed : Array Bool) (a : Act) (w : World), listed.size = ops.size → ((List.range ops.size).filter fun i => !listed.getD i true).length ≤ fuel → DetInv ops a0 v (fun j => listed.getD j true) a → Closed ops listed → S (fun j => listed.getD j true) w →
  wpAny P .any ops Q fuel listed a w := by
 have hall : ∀ (listed : Array Bool) (a : Act) (w : World), listed.size = ops.size → DetInv ops a0 v (fun j => listed.getD j true) a → Closed ops listed → S (fun j => listed.getD j true) w → (∀ i, i < ops.size → listed.getD i true = true) → Q .normal a w := by
  intro listed a w hsz hinv hC hS hl
  have hc := canon_inv hok a0 v ops.size (Nat.le_refl _)
  have : a = canon ops a0 v ops.size := by
   have ht : a.tmps = (canon ops a0 v ops.size).tmps := by
    apply Array.ext_getElem?
    intro t
    by_cases hex : ∃ j, j < ops.size ∧ writesTo ops j t = true
    ·obtain ⟨j, hj, hw⟩ := hex
     by_cases htl : t < a0.tmps.size
     ·rw [hinv.done t htl j hj hw (hl j hj), hc.done t htl j hj hw (by simpa using hj)]
     ·rw [Array.getElem?_eq_none (by rw [hinv.size]; omega), Array.getElem?_eq_none (by rw [hc.size]; omega)]
    ·rw [hinv.rest t fun j hj hw => absurd ⟨j, hj, hw⟩ hex, hc.rest t fun j hj hw => absurd ⟨j, hj, hw⟩ hex]
   have hd : a.defers = (canon ops a0 v ops.size).defers := hinv.defers.trans hc.defers.symm
   cases a
   cases hcn : canon ops a0 v ops.size
   rw [hcn] at ht hd
   simp only at ht hd
   rw [ht, hd]
  rw [this]
  exact hend _ w hl hS
 have hready : ∀ (listed : Array Bool), Region.ready .any ops listed = [] → ∀ i, i < ops.size → listed.getD i true = true := by
  intro listed hr i
  induction i using Nat.strongRecOn with
  | ind i ih =>
    intro hi
    apply Classical.byContradiction
    intro hn
    have hn' : listed.getD i true = false := by simpa using hn
    have : i ∈ Region.ready .any ops listed := by
     unfold Region.ready
     rw [List.mem_filter]
     refine ⟨List.mem_range.2 hi, ?_⟩
     have hget : ops[i]? = some ops[i] := Array.getElem?_eq_getElem hi
     rw [hn', hget]
     simp only [Bool.not_false, Bool.true_and, Option.map_some, Option.getD_some]
     rw [Array.all_eq_true']
     intro e he
     cases hb : Region.binds .any e with
     | false => rfl
     | true =>
       have hlt := (detOk_at hok hget).early e he hb
       have := ih e.on hlt (by omega)
       have hlt' : e.on < listed.size ∨ ¬ e.on < listed.size := by omega
       rcases hlt' with h | h
       ·simp only [Array.getD, h, dif_pos] at this ⊢
        exact this
       ·exfalso
        have h1 : i < listed.size ∨ ¬ i < listed.size := by omega
        rcases h1 with h1 | h1
        ·omega
        ·simp [Array.getD, h1] at hn'
    rw [hr] at this
    cases this
 intro fuel
 induction fuel with
 | zero =>
   intro listed a w hsz hcount hinv hC hS
   have hl : ∀ i, i < ops.size → listed.getD i true = true := by
    intro i hi
    have := List.eq_nil_of_length_eq_zero (Nat.le_zero.1 hcount)
    have hmem : i ∉ (List.range ops.size).filter fun i => !listed.getD i true := by rw [this]; simp
    rw [List.mem_filter] at hmem
    simp only [List.mem_range, hi, true_and] at hmem
    simpa using hmem
   refine ⟨?_, hall listed a w hsz hinv hC hS hl⟩
   unfold Region.ready
   rw [List.filter_eq_nil_iff]
   intro i hi
   rw [hl i (List.mem_range.1 hi)]
   simp
 | succ fuel ih =>
   intro listed a w hsz hcount hinv hC hS
   refine ⟨fun hr => hall listed a w hsz hinv hC hS (hready listed hr), fun i hi => ?_⟩
   unfold Region.ready at hi
   rw [List.mem_filter] at hi
   obtain ⟨hir, hc⟩ := hi
   have hil : i < ops.size := List.mem_range.1 hir
   have hget : ops[i]? = some ops[i] := Array.getElem?_eq_getElem hil
   rw [hget] at hc
   simp only [Bool.and_eq_true, Option.map_some, Option.getD_some] at hc
   obtain ⟨hn, hafter⟩ := hc
   have hn' : listed.getD i true = false := by simpa using hn
   have A := detOk_at hok hget
   have hcan := canon_inv hok a0 v i (by omega)
   have hagree : ∀ t ∈ ops[i].looksAt ops, a.tmps[t]? = (canon ops a0 v i).tmps[t]? := by
    intro t ht
    by_cases hex : ∃ j, j < ops.size ∧ writesTo ops j t = true
    ·obtain ⟨j, hj, hw⟩ := hex
     obtain ⟨e, he, hb, hon⟩ := A.deps hil t ht j hj hw
     have hlt := A.early e he hb
     have hlist := Array.all_eq_true'.1 hafter e he
     rw [hb] at hlist
     simp only [Bool.not_true, Bool.false_or] at hlist
     have hDj : listed.getD j true = true := by
      rw [hon] at hlist
      simp only [Array.getD] at hlist ⊢
      split at hlist
      ·rename_i h; rw [dif_pos h]; exact hlist
      ·cases hlist
     by_cases htl : t < a0.tmps.size
     ·rw [hinv.done t htl j hj hw hDj, hcan.done t htl j hj hw (by simp; omega)]
     ·rw [Array.getElem?_eq_none (by rw [hinv.size]; exact Nat.le_of_not_lt htl), Array.getElem?_eq_none (by rw [hcan.size]; exact Nat.le_of_not_lt htl)]
    ·rw [hinv.rest t fun j hj hw => absurd ⟨j, hj, hw⟩ hex, hcan.rest t fun j hj hw => absurd ⟨j, hj, hw⟩ hex]
   have hdep : ∀ e ∈ ops[i].after, Region.binds .any e = true → listed.getD e.on true = true := by
    intro e he hb
    have hlist := Array.all_eq_true'.1 hafter e he
    rw [hb] at hlist
    simp only [Bool.not_true, Bool.false_or] at hlist
    simp only [Array.getD] at hlist ⊢
    split at hlist
    ·rename_i h; rw [dif_pos h]; exact hlist
    ·cases hlist
   refine wpOp_mono ?_ (det_transfer (Q := Q) (v := v i) hget A.sel (hinv.size.trans hcan.size.symm) hagree (hop i ops[i] hget (fun j => listed.getD j true) w hn' (fun j o ho hj => hC.down j o ho hj) hdep hS))
   rintro a' w' ⟨rfl, hS'⟩
   have hsz' : (listed.setIfInBounds i true).size = ops.size := by simpa using hsz
   have hf : (fun j => listed.getD j true || j == i) = fun j => (listed.setIfInBounds i true).getD j true := by
    funext j
    by_cases hjl : j < listed.size
    ·by_cases e : j = i
     ·subst e; simp [Array.getD, hjl]
     ·have : ¬ i = j := fun x => e x.symm
      simp [Array.getD, hjl, Array.getElem_setIfInBounds, e, this]
    ·simp [Array.getD, hjl]
   rw [hf] at hS'
   refine ih _ _ _ hsz' ?_ ?_ (hC.set hget hdep) hS'
   ·have hlt : ((List.range ops.size).filter fun k => !(listed.setIfInBounds i true).getD k true).length < ((List.range ops.size).filter fun k => !listed.getD k true).length := by
     have hsub : ((List.range ops.size).filter fun k => !(listed.setIfInBounds i true).getD k true) = ((List.range ops.size).filter fun k => !listed.getD k true).filter (fun k => k != i) := by
      rw [List.filter_filter]
      apply List.filter_congr
      intro k hk
      have hkl : k < listed.size := by rw [hsz]; exact List.mem_range.1 hk
      by_cases e : k = i
      ·subst e; simp [Array.getD, hkl]
      ·have : ¬ i = k := fun x => e x.symm
       simp [Array.getD, hkl, Array.getElem_setIfInBounds, e, this]
     rw [hsub]
     have hmem : i ∈ (List.range ops.size).filter fun k => !listed.getD k true := List.mem_filter.2 ⟨hir, hn⟩
     exact List.length_filter_lt_length_iff_exists.2 ⟨i, hmem, by simp⟩
    omega
   ·have := hinv.put hok hget hn'
    rwa [hf] at this
theorem wp_region_detG {id : Nat} {a : Act} {w : World} (hm : P.follows .mixedOrders = true) (hok : detOk ops = true) (S : (Nat → Bool) → World → Prop) (hS : S (fun j => !decide (j < ops.size)) w.drew) (h : wpDetG P ops S Q 0 ops.toList a) : (Code.region id ops true).wp P Q a w := by
 obtain ⟨v, _, h2, h3⟩ := det_canonG (P := P) (S := S) (Q := Q) a ops.toList 0 a (fun _ => undef) (fun j => by simp) rfl h
 have hf : (fun j => (Array.replicate ops.size false).getD j true) = fun j => !decide (j < ops.size) := by
  funext j
  by_cases h : j < ops.size <;> simp [Array.getD, h]
 refine wp_region_any hm (det_anyG (S := S) hok a v (fun j o ho => h2 j o (Nat.zero_le _) ho) (by simpa using h3) ops.size _ a _ (by simp) ?_ ?_ ?_ (by rw [hf]; exact hS))
 ·exact Nat.le_trans (List.length_filter_le _ _) (by simp)
 ·rw [hf]
  exact ⟨rfl, rfl, fun t _ j hj _ hD => by simp [hj] at hD, fun t _ => rfl⟩
 ·refine ⟨by simp, fun i o hi hl => ?_⟩
  have hlt : i < ops.size := (Array.getElem?_eq_some_iff.1 hi).1
  simp [lst, Array.getD, hlt] at hl
end
end Go.Proofs.Seat4
end
section
set_option linter.all false
namespace Go.Proofs.Seat9
open Go.RowKit Go.Proofs.Seat4
theorem T29 : ElemT Tryz.prog 29 3 1 8 := ElemT.mk' Tryz.underlying29 (z := .int .i64 0) (by kernel_rfl) rfl (by decide)
def ints (l : List Int) : List Value := l.map fun n => .int .i64 n
def ActP (l : List Sp) (kind step : Int) (w : World) (e : Ending) (w' : World) : Prop := ∃ v, e = .returned v ∧ w'.ownsRow w.heap.size 3 1 v (actR kind step l 0).length (ints (actR kind step l 0)) ∧ Below w.heap.size w w'
set_option maxRecDepth 100000 in
set_option maxHeartbeats 2000000 in
theorem act10 (l : List Sp) (v : Value) (kind step : Int) (w : World) (hv : SpV w v l) (hl : l.length ≤ 1000) : Calls Tryz.prog 10 #[v, .int .i64 kind, .int .i64 step] w (ActP l kind step w) := by
 obtain ⟨A, cap, rfl, hcap, hlie⟩ := hv
 have Hlie := Lib.hid (show ∃ P : Prop, P = (l ≠ [] → ∃ b off, A = some ⟨b, off, none⟩ ∧ b < w.heap.size ∧ LAt SE w b off l) ∧ P from ⟨_, rfl, hlie⟩)
 clear hlie
 go_enter Tryz.func10, Tryz.ntmps10
 go_wp2
 go_loopw [7, 12] (fun vv iv wr => ∃ k : Nat, k ≤ l.length ∧ iv = .int .i64 k ∧ wr.ownsRow w.heap.size 3 1 vv (actR kind step (l.take k) 0).length (ints (actR kind step (l.take k) 0)) ∧ Below w.heap.size w wr) (fun _ iv _ => l.length - (intOf iv).toNat)
 case atStart => exact ⟨0, Nat.zero_le _, rfl, World.ownsRow_nil _ _ _ _, Below.refl _ _⟩
 case round =>
  obtain ⟨k, hk, rfl, hown, hbw⟩ := hrel
  by_cases hlt : k < l.length
  ·obtain ⟨P, rfl, hP⟩ := Hlie.out
   obtain ⟨b, off, rfl, hb, hrow⟩ := hP (by intro e; subst e; simp at hlt)
   have hr' : Row wr b (off + k * 7) (spCells l[k]) := (hrow k hlt).below hbw hb
   have hT := actR_take kind step l k hlt
   have hle := actR_len kind step (l.take k) 0
   have hle2 : (l.take k).length ≤ 1000 := by rw [List.length_take]; omega
   generalize hM : l[k] = M at *
   generalize hX : actR kind step (l.take k) 0 = X at *
   have Hown := Lib.hid hown
   have Hbw := Lib.hid hbw
   have hsz := hbw.size
   have HT := Lib.hid hT
   have rM : Row (wr.alloc (.cells #[.int .i64 M.kind, .int .i64 M.task, .int .i64 M.index, .int .i64 M.from_, .int .i64 M.to_, .int .i64 M.start, .int .i64 M.end_] 46)) wr.heap.size 0 (spCells M) := Row.new wr _ _ _ rfl
   clear hM hX hown hbw hT hP hrow Hlie
   by_cases hk1 : M.kind = kind
   ·subst hk1
    have hcall := contains22 M step (wr.alloc (.cells #[.int .i64 M.kind, .int .i64 M.task, .int .i64 M.index, .int .i64 M.from_, .int .i64 M.to_, .int .i64 M.start, .int .i64 M.end_] 46))
    rcases Bool.eq_false_or_eq_true (contS M step) with hq | hq
    ·rw [hq] at hcall
     have Hq := Lib.hid hq
     have Hcall := Lib.hid hcall
     clear hq hcall
     go_wp2_with (first
      | ((with_reducible refine wpList_load_agg (o := ⟨some 16, .load 46 (.tmp 15), _, _, _, none⟩) rfl 46 _ rfl b (off + k * 7) ?_ _ hr' _ Tryz.underlying46 rfl ?_ ?_); (focus rfl); (focus kernel_rfl); simp only [spCells])
      | ((with_reducible refine wpList_load_aggW (o := ⟨some 22, .load 46 (.tmp 9), _, _, _, some (4, true)⟩) ?_ 46 _ rfl wr.heap.size 0 ?_ _ rM _ Tryz.underlying46 rfl ?_ ?_); (focus rfl); (focus rfl); (focus kernel_rfl); simp only [spCells]))
     refine Hcall.out.mono ?_
     rintro e w5 ⟨rfl, hb5⟩
     have hb6 : Below wr.heap.size wr w5 := ((Below.refl _ _).alloc (Nat.le_refl _) _).trans (below_mono hb5 (by simp))
     have hown5 := Hown.out.kept (row := none) (w' := w5) ⟨hb6.os, hb6.tape, hb6.output, hb6.size, fun j hj _ => hb6.block j hj⟩ (by cases (Value.ownBlock _) <;> simp)
     have hs5 : w.heap.size ≤ w5.heap.size := Nat.le_trans hsz hb6.size
     have Hown5 := Lib.hid hown5
     have Hb6 := Lib.hid hb6
     clear hown5 hb6 hb5
     go_wp2_with (at_builtin; refine wpList_app rfl _ _ 29 rfl w.heap.size 3 1 8 T29 _ _ _ rfl (Hown5.out.alloc _) w5.heap.size [.int .i64 k] rfl rfl (Row.new _ _ _ _ rfl) (by intro u hu; simp at hu; subst hu; rfl) (by omega) (by decide) (by simp; omega) ?_; intro v' w6 hown6 hgr)
     refine ⟨⟨k + 1, hlt, by simp, ?_, ?_⟩, by simp [intOf]; omega⟩
     ·rw [HT.out, if_pos (by simp [Hq.out])]
      simpa [ints] using hown6
     ·exact ((Hbw.out.trans (below_mono Hb6.out hsz)).alloc hs5 _).grown hgr (by simp; omega) (fun j hj => (Hown5.out.lt j hj).1)
    ·rw [hq] at hcall
     have Hq := Lib.hid hq
     have Hcall := Lib.hid hcall
     clear hq hcall
     go_wp2_with (first
      | ((with_reducible refine wpList_load_agg (o := ⟨some 16, .load 46 (.tmp 15), _, _, _, none⟩) rfl 46 _ rfl b (off + k * 7) ?_ _ hr' _ Tryz.underlying46 rfl ?_ ?_); (focus rfl); (focus kernel_rfl); simp only [spCells])
      | ((with_reducible refine wpList_load_aggW (o := ⟨some 22, .load 46 (.tmp 9), _, _, _, some (4, true)⟩) ?_ 46 _ rfl wr.heap.size 0 ?_ _ rM _ Tryz.underlying46 rfl ?_ ?_); (focus rfl); (focus rfl); (focus kernel_rfl); simp only [spCells]))
     refine Hcall.out.mono ?_
     rintro e w5 ⟨rfl, hb5⟩
     have hb6 : Below wr.heap.size wr w5 := ((Below.refl _ _).alloc (Nat.le_refl _) _).trans (below_mono hb5 (by simp))
     have hown5 := Hown.out.kept (row := none) (w' := w5) ⟨hb6.os, hb6.tape, hb6.output, hb6.size, fun j hj _ => hb6.block j hj⟩ (by cases (Value.ownBlock _) <;> simp)
     have Hown5 := Lib.hid hown5
     have Hb6 := Lib.hid hb6
     clear hown5 hb6 hb5
     go_wp2
     refine ⟨⟨k + 1, hlt, by simp, ?_, Hbw.out.trans (below_mono Hb6.out hsz)⟩, by simp [intOf]; omega⟩
     rw [HT.out, if_neg (by simp [Hq.out]), List.append_nil]
     exact Hown5.out
   ·have hne : (M.kind == kind) = false := by simpa using hk1
    have Hk1 := Lib.hid hk1
    clear hk1
    have hown5 := Hown.out.kept (row := none) (w' := wr.alloc (.cells #[.int .i64 M.kind, .int .i64 M.task, .int .i64 M.index, .int .i64 M.from_, .int .i64 M.to_, .int .i64 M.start, .int .i64 M.end_] 46)) ⟨rfl, rfl, rfl, by simp, fun j hj _ => ((Below.refl wr.heap.size wr).alloc (Nat.le_refl _) _).block j hj⟩ (by cases (Value.ownBlock _) <;> simp)
    have Hown5 := Lib.hid hown5
    clear hown5
    go_wp2_with ((with_reducible refine wpList_load_agg (o := ⟨some 16, .load 46 (.tmp 15), _, _, _, none⟩) rfl 46 _ rfl b (off + k * 7) ?_ _ hr' _ Tryz.underlying46 rfl ?_ ?_); (focus rfl); (focus kernel_rfl); simp only [spCells])
    refine ⟨⟨k + 1, hlt, by simp, ?_, Hbw.out.alloc hsz _⟩, by simp [intOf]; omega⟩
    rw [HT.out, if_neg (fun h => Hk1.out h.1), List.append_nil]
    exact Hown5.out
  ·obtain rfl : k = l.length := by omega
   rw [List.take_length] at hown
   have Hown := Lib.hid hown
   have Hbw := Lib.hid hbw
   clear hown hbw
   go_wp2
   go_ret
   exact ⟨_, rfl, Hown.out, Hbw.out⟩
end Go.Proofs.Seat9
end
section
set_option linter.all false
namespace Go.Proofs.Seat9
open Go.RowKit Go.Proofs.Seat4
set_option maxRecDepth 100000 in
set_option maxHeartbeats 2000000 in
theorem act11 (l : List Sp) (v : Value) (kind step : Int) (w : World) (hv : SpV w v l) (hl : l.length ≤ 1000) : Calls Tryz.prog 11 #[v, .int .i64 kind, .int .i64 step] w (ActP l kind step w) := by
 obtain ⟨A, cap, rfl, hcap, hlie⟩ := hv
 have Hlie := Lib.hid (show ∃ P : Prop, P = (l ≠ [] → ∃ b off, A = some ⟨b, off, none⟩ ∧ b < w.heap.size ∧ LAt SE w b off l) ∧ P from ⟨_, rfl, hlie⟩)
 clear hlie
 go_enter Tryz.func11, Tryz.ntmps11
 go_wp2
 go_loopw [7, 8] (fun vv iv wr => ∃ k : Nat, k ≤ l.length ∧ iv = .int .i64 k ∧ wr.ownsRow w.heap.size 3 1 vv (actR kind step (l.take k) 0).length (ints (actR kind step (l.take k) 0)) ∧ Below w.heap.size w wr) (fun _ iv _ => l.length - (intOf iv).toNat)
 case atStart => exact ⟨0, Nat.zero_le _, rfl, ⟨rfl, .inr ⟨w.heap.size, 0, #[], rfl, Nat.le_refl _, heap_alloc_new w _, Nat.le_refl _, Nat.zero_le _, rfl, rfl⟩⟩, (Below.refl _ _).alloc (Nat.le_refl _) _⟩
 case round =>
  obtain ⟨k, hk, rfl, hown, hbw⟩ := hrel
  by_cases hlt : k < l.length
  ·obtain ⟨P, rfl, hP⟩ := Hlie.out
   obtain ⟨b, off, rfl, hb, hrow⟩ := hP (by intro e; subst e; simp at hlt)
   have hr' : Row wr b (off + k * 7) (spCells l[k]) := (hrow k hlt).below hbw hb
   have hT := actR_take kind step l k hlt
   have hle := actR_len kind step (l.take k) 0
   have hle2 : (l.take k).length ≤ 1000 := by rw [List.length_take]; omega
   generalize hM : l[k] = M at *
   generalize hX : actR kind step (l.take k) 0 = X at *
   have Hown := Lib.hid hown
   have Hbw := Lib.hid hbw
   have hsz := hbw.size
   have HT := Lib.hid hT
   have c0 : wr.cell? ⟨b, off + k * 7, none⟩ = some (.int .i64 M.kind) := by have := hr' 0 _ rfl; simpa using this
   clear hM hX hown hbw hT hP hrow Hlie
   by_cases hk1 : M.kind = kind
   ·subst hk1
    have hcall := contains26 M step wr
    rcases Bool.eq_false_or_eq_true (contS M step) with hq | hq
    ·rw [hq] at hcall
     have Hq := Lib.hid hq
     have Hcall := Lib.hid hcall
     clear hq hcall
     go_wp2_with ((with_reducible refine wpList_load_aggW (o := ⟨some 27, .load 46 (.tmp 26), _, _, _, some (7, true)⟩) ?_ 46 _ rfl b (off + k * 7) ?_ _ hr' _ Tryz.underlying46 rfl ?_ ?_); (focus rfl); (focus rfl); (focus kernel_rfl); simp only [spCells])
     refine Hcall.out.mono ?_
     rintro e w5 ⟨rfl, hb5⟩
     have hb6 : Below wr.heap.size wr w5 := hb5
     have hown5 := Hown.out.kept (row := none) (w' := w5) ⟨hb6.os, hb6.tape, hb6.output, hb6.size, fun j hj _ => hb6.block j hj⟩ (by cases (Value.ownBlock _) <;> simp)
     have hs5 : w.heap.size ≤ w5.heap.size := Nat.le_trans hsz hb6.size
     have Hown5 := Lib.hid hown5
     have Hb6 := Lib.hid hb6
     clear hown5 hb6 hb5
     go_wp2_with (at_builtin; refine wpList_app rfl _ _ 29 rfl w.heap.size 3 1 8 T29 _ _ _ rfl (Hown5.out.alloc _) w5.heap.size [.int .i64 k] rfl rfl (Row.new _ _ _ _ rfl) (by intro u hu; simp at hu; subst hu; rfl) (by omega) (by decide) (by simp; omega) ?_; intro v' w6 hown6 hgr)
     refine ⟨⟨k + 1, hlt, by simp, ?_, ?_⟩, by simp [intOf]; omega⟩
     ·rw [HT.out, if_pos (by simp [Hq.out])]
      simpa [ints] using hown6
     ·exact ((Hbw.out.trans (below_mono Hb6.out hsz)).alloc hs5 _).grown hgr (by simp; omega) (fun j hj => (Hown5.out.lt j hj).1)
    ·rw [hq] at hcall
     have Hq := Lib.hid hq
     have Hcall := Lib.hid hcall
     clear hq hcall
     go_wp2_with ((with_reducible refine wpList_load_aggW (o := ⟨some 27, .load 46 (.tmp 26), _, _, _, some (7, true)⟩) ?_ 46 _ rfl b (off + k * 7) ?_ _ hr' _ Tryz.underlying46 rfl ?_ ?_); (focus rfl); (focus rfl); (focus kernel_rfl); simp only [spCells])
     refine Hcall.out.mono ?_
     rintro e w5 ⟨rfl, hb5⟩
     have hb6 : Below wr.heap.size wr w5 := hb5
     have hown5 := Hown.out.kept (row := none) (w' := w5) ⟨hb6.os, hb6.tape, hb6.output, hb6.size, fun j hj _ => hb6.block j hj⟩ (by cases (Value.ownBlock _) <;> simp)
     have Hown5 := Lib.hid hown5
     have Hb6 := Lib.hid hb6
     clear hown5 hb6 hb5
     go_wp2
     refine ⟨⟨k + 1, hlt, by simp, ?_, Hbw.out.trans (below_mono Hb6.out hsz)⟩, by simp [intOf]; omega⟩
     rw [HT.out, if_neg (by simp [Hq.out]), List.append_nil]
     exact Hown5.out
   ·have hne : (M.kind == kind) = false := by simpa using hk1
    have Hk1 := Lib.hid hk1
    clear hk1
    go_wp2
    refine ⟨⟨k + 1, hlt, by simp, ?_, Hbw.out⟩, by simp [intOf]; omega⟩
    rw [HT.out, if_neg (fun h => Hk1.out h.1), List.append_nil]
    exact Hown.out
  ·obtain rfl : k = l.length := by omega
   rw [List.take_length] at hown
   have Hown := Lib.hid hown
   have Hbw := Lib.hid hbw
   clear hown hbw
   go_wp2
   go_ret
   exact ⟨_, rfl, Hown.out, Hbw.out⟩
end Go.Proofs.Seat9
end
section
set_option linter.all false
namespace Go.Proofs.Seat9
open Go.RowKit Go.Proofs.Seat4
def IE : Enc Int := ⟨fun n => [.int .i64 n], 1, fun _ => rfl, fun _ u hu => by simp at hu; subst hu; rfl⟩
theorem ie_all (l : List Int) : IE.all l = ints l := by
 induction l with
 | nil => rfl
 | cons a l ih => show [Value.int .i64 a] ++ IE.all l = _; rw [ih]; rfl
theorem lv_ints {w : World} {base : Nat} {v : Value} {l : List Int} (h : w.ownsRow base 3 1 v l.length (ints l)) : LV IE w v l := lv_own (by rw [ie_all]; exact h)
set_option maxRecDepth 100000 in
set_option maxHeartbeats 2000000 in
theorem eq9 (l : List Int) (va vb : Value) (w : World) (ha : LV IE w va l) (hb : LV IE w vb l) (hl : l.length ≤ 1000) : Calls Tryz.prog 9 #[va, vb] w fun e w' => e = .returned (.bool true) ∧ Below w.heap.size w w' := by
 obtain ⟨A, ca, rfl, hca, hA⟩ := ha
 obtain ⟨B, cb, rfl, hcb, hB⟩ := hb
 have HA := Lib.hid (show ∃ P : Prop, P = (l ≠ [] → ∃ b off, A = some ⟨b, off, none⟩ ∧ b < w.heap.size ∧ LAt IE w b off l) ∧ P from ⟨_, rfl, hA⟩)
 have HB := Lib.hid (show ∃ P : Prop, P = (l ≠ [] → ∃ b off, B = some ⟨b, off, none⟩ ∧ b < w.heap.size ∧ LAt IE w b off l) ∧ P from ⟨_, rfl, hB⟩)
 clear hA hB
 go_enter Tryz.func9, Tryz.ntmps9
 go_wp2
 go_loopw [13] (fun iv wr => ∃ k : Nat, k ≤ l.length ∧ iv = .int .i64 k ∧ Below w.heap.size w wr) (fun iv _ => l.length - (intOf iv).toNat)
 case atStart => exact ⟨0, Nat.zero_le _, rfl, Below.refl _ _⟩
 case round =>
  obtain ⟨k, hk, rfl, hbw⟩ := hrel
  by_cases hlt : k < l.length
  ·obtain ⟨P, rfl, hP⟩ := HA.out
   obtain ⟨b1, o1, rfl, hb1, hr1⟩ := hP (by intro e; subst e; simp at hlt)
   obtain ⟨Q, rfl, hQ⟩ := HB.out
   obtain ⟨b2, o2, rfl, hb2, hr2⟩ := hQ (by intro e; subst e; simp at hlt)
   have c1 : wr.cell? ⟨b1, o1 + k, none⟩ = some (.int .i64 l[k]) := by
    have := ((hr1 k hlt).below hbw hb1) 0 _ rfl
    simpa [IE] using this
   have c2 : wr.cell? ⟨b2, o2 + k, none⟩ = some (.int .i64 l[k]) := by
    have := ((hr2 k hlt).below hbw hb2) 0 _ rfl
    simpa [IE] using this
   generalize l[k] = M at *
   have Hbw := Lib.hid hbw
   have C1 := Lib.hid c1
   have C2 := Lib.hid c2
   clear hP hQ hr1 hr2 hbw HA HB c1 c2
   go_upto_region 6 with fail
   refine wp_region_tail 9 (by kernel_rfl) (by kernel_rfl) (fun W => Below wr.heap.size wr W) ((Below.refl _ _).drew) ?_
   iterate 9
    apply wpDetT_cons
    ·intro wx hx
     have d1 : wx.cell? ⟨b1, o1 + k, none⟩ = some (.int .i64 M) := (hx.cell (p := ⟨b1, o1 + k, none⟩) (by have := Hbw.out.size; show b1 < _; omega)).trans C1.out
     have d2 : wx.cell? ⟨b2, o2 + k, none⟩ = some (.int .i64 M) := (hx.cell (p := ⟨b2, o2 + k, none⟩) (by have := Hbw.out.size; show b2 < _; omega)).trans C2.out
     have Hx := Lib.hid hx
     clear hx
     go_wp2
     exact ⟨rfl, rfl, Hx.out⟩
    go_frame
   intro wx hx
   have Hx := Lib.hid hx
   clear hx
   go_wp2
   refine ⟨⟨k + 1, hlt, by simp, Hbw.out.trans (below_mono Hx.out Hbw.out.size)⟩, by simp [intOf]; omega⟩
  ·have hbw' := hbw
   go_wp2
   go_ret
   exact ⟨rfl, hbw⟩
end Go.Proofs.Seat9
end
section
namespace Go.Proofs.Seat9
open Go
theorem goes_none {P : Program} (h : P.funcs.any Func.goes = false) (f : FuncId) : P.goes f = false := by
 unfold Program.goes
 rw [h, Bool.and_false, Bool.or_false, List.any_eq_false]
 intro g _ hg
 cases hf : P.funcs[g]? with
 | none => rw [hf] at hg; cases hg
 | some fn =>
   rw [hf] at hg
   have h1 : P.funcs.any Func.goes = true := Array.any_eq_true'.2 ⟨fn, Array.mem_of_getElem? hf, hg⟩
   rw [h] at h1
   cases h1
theorem goesBy_none {P : Program} (c : OpenClaim) (h : P.funcs.any Func.goes = false) : false = c.goesBy P := by
 have hg : P.goes = fun _ => false := funext (goes_none h)
 unfold OpenClaim.goesBy Program.goesAt Program.goesFrom
 rw [hg]
 cases P.funcNamed c.func <;> cases c.start <;> simp
end Go.Proofs.Seat9
end

/- A part of the proof that nurserylaw36.HappensBefore returns true for every input. -/
import Derived.Test.YtbaakaaimolagaaGreatDoorMpg
import Derived.Test.YtbaakaaimolagaaGreatDoorGen
import Derived.Test.YtbaakaaimolagaaGreatDoorShl
import Derived.Test.YtbaakaaimolagaaGreatDoorAvd
import Derived.Lib.Hide
namespace Go.Proofs.Seat4
open Go.RowKit Av
noncomputable def smI (n : Int) : Bool := band (ile (-1000000) n) (ile n 1000000)
theorem smI_iff {n : Int} (h : smI n = true) : -1000000 ≤ n ∧ n ≤ 1000000 := by
  obtain ⟨h1, h2⟩ := and_of h
  rw [ile_iff] at h1 h2
  exact ⟨of_decide_eq_true h1, of_decide_eq_true h2⟩
structure Ac where
  k : Int
  i : Int
  wr : Bool
  hk : smI k = true
  hi : smI i = true
noncomputable instance : Inhabited Ac := ⟨⟨0, 0, false, rfl, rfl⟩⟩
def acKV (a : Ac) : Value × Value := (.agg #[.int .i64 a.k, .int .i64 a.i], .bool a.wr)
def acCells (a : Ac) : List Value := [.int .i64 a.k, .int .i64 a.i, .bool a.wr]
theorem acCells_one (a : Ac) : ∀ u ∈ acCells a, u.oneCell' = true := by
  intro u hu
  simp [acCells] at hu
  rcases hu with rfl | rfl | rfl <;> rfl
def cfA (x y : Ac) : Int := if x.k = y.k then x.i - y.i else x.k - y.k
theorem cf_neg (x y : Ac) : cfA x y < 0 ↔ x.k < y.k ∨ (x.k = y.k ∧ x.i < y.i) := by
  unfold cfA
  by_cases h : x.k = y.k
  · rw [if_pos h]; omega
  · rw [if_neg h]; omega
theorem ltOf_iff (x y : Ac) : ltOf cfA x y = true ↔ x.k < y.k ∨ (x.k = y.k ∧ x.i < y.i) := by
  show decide (cfA x y < 0) = true ↔ _
  rw [decide_eq_true_eq, cf_neg]
theorem ltOf_not (x y : Ac) : ltOf cfA x y = false ↔ ¬ (x.k < y.k ∨ (x.k = y.k ∧ x.i < y.i)) := by
  rw [← ltOf_iff, Bool.not_eq_true]
theorem swoA : Sort.SWO (ltOf cfA) := by
  refine ⟨fun x => ?_, fun x y z h1 h2 => ?_, fun x y z h1 h2 => ?_⟩
  · rw [ltOf_not]; omega
  · rw [ltOf_iff] at *; omega
  · rw [ltOf_not] at *; omega
/-- the lists that are told: cells -/
def acAV (a : Ac) : List AV := [.int a.k, .int a.i, .bool a.wr]
noncomputable def insK (a b : Int) (w : Bool) : List AV → List AV
  | .int c :: .int d :: .bool x :: r => Bool.rec (.int c :: .int d :: .bool x :: insK a b w r) (.int a :: .int b :: .bool w :: .int c :: .int d :: .bool x :: r) (Bool.rec (ile a c) (ile b d) (ieq a c))
  | _ => [.int a, .int b, .bool w]
noncomputable def sortK : List ME → List AV
  | [] => []
  | ⟨.agg [.int a, .int b], .bool w, _⟩ :: r => insK a b w (sortK r)
  | _ :: r => sortK r
/-- entries that are numbered one after the other, of small numbers -/
noncomputable def testK : List ME → Nat → Bool
  | [], _ => true
  | ⟨.agg [.int a, .int b], .bool _, n⟩ :: r, i => band (Nat.beq n i) (band (smI a) (band (smI b) (testK r (i + 1))))
  | _ :: _, _ => false
/-- strictly ascending -/
noncomputable def ascK : List AV → Bool
  | .int a :: .int b :: .bool x :: .int c :: .int d :: r => band (Bool.rec (ile (a + 1) c) (ile (b + 1) d) (ieq a c)) (ascK (.int c :: .int d :: r))
  | _ => true
noncomputable def insA (a : Ac) : List Ac → List Ac
  | [] => [a]
  | c :: r => Bool.rec (c :: insA a r) (a :: c :: r) (Bool.rec (ile a.k c.k) (ile a.i c.i) (ieq a.k c.k))
noncomputable def sortA : List Ac → List Ac
  | [] => []
  | a :: r => insA a (sortA r)
theorem insA_perm (a : Ac) : ∀ l, (insA a l).Perm (a :: l)
  | [] => List.Perm.refl _
  | c :: r => by
    unfold insA
    cases (Bool.rec (ile a.k c.k) (ile a.i c.i) (ieq a.k c.k) : Bool) with
    | true => exact List.Perm.refl _
    | false => exact ((insA_perm a r).cons c).trans (List.Perm.swap a c r)
theorem sortA_perm : ∀ l, (sortA l).Perm l
  | [] => List.Perm.refl _
  | a :: r => (insA_perm a (sortA r)).trans ((sortA_perm r).cons a)
theorem insK_eq (a : Ac) : ∀ l : List Ac, insK a.k a.i a.wr (l.flatMap acAV) = (insA a l).flatMap acAV
  | [] => by simp [insK, insA, acAV]
  | c :: r => by
    have ih := insK_eq a r
    simp only [List.flatMap_cons, acAV, List.cons_append, List.nil_append, insK, insA]
    generalize (Bool.rec (ile a.k c.k) (ile a.i c.i) (ieq a.k c.k) : Bool) = q
    cases q with
    | true => simp [acAV]
    | false => simp only [List.flatMap_cons, acAV, List.cons_append, List.nil_append]; rw [ih]
theorem testK_ok (m : M) : ∀ (es : List ME) (n : Nat), testK es n = true → ∃ d : List Ac, es.map (meC m) = mkEs (d.map acKV) n ∧ sortK es = (sortA d).flatMap acAV ∧ d.length = es.length
  | [], n, _ => ⟨[], rfl, rfl, rfl⟩
  | e :: r, n, h => by
    unfold testK at h
    split at h
    · rename_i h0; cases h0
    · rename_i nn a b w bn r' he
      cases he
      obtain ⟨h1, h⟩ := and_of h
      obtain ⟨h2, h⟩ := and_of h
      obtain ⟨h3, h⟩ := and_of h
      obtain ⟨d, g1, g2, g3⟩ := testK_ok m r _ h
      have e1 := Nat.eq_of_beq_eq_true h1
      subst e1
      refine ⟨⟨a, b, w, h2, h3⟩ :: d, ?_, ?_, by simp [g3]⟩
      · simp only [List.map_cons, mkEs, g1]
        simp [meC, conc, concL, acKV]
      · show insK a b w (sortK r) = _
        rw [g2]
        exact insK_eq ⟨a, b, w, h2, h3⟩ _
    · cases h
theorem ascK_ok : ∀ l : List Ac, ascK (l.flatMap acAV) = true → l.Pairwise (fun x y => ltOf cfA x y = true)
  | [], _ => List.Pairwise.nil
  | [a], _ => List.pairwise_singleton _ _
  | a :: c :: r, h => by
    simp only [List.flatMap_cons, acAV, List.cons_append, List.nil_append, ascK] at h
    obtain ⟨h1, h2⟩ := and_of h
    have ih := ascK_ok (c :: r) (by simpa only [List.flatMap_cons, acAV, List.cons_append, List.nil_append] using h2)
    have hac : ltOf cfA a c = true := by
      rw [ltOf_iff]
      rw [ieq_iff] at h1
      by_cases e : a.k = c.k
      · rw [show (a.k == c.k) = true from by simpa using e] at h1
        simp only [ile_iff, decide_eq_true_eq] at h1
        omega
      · rw [show (a.k == c.k) = false from by simpa using e] at h1
        simp only [ile_iff, decide_eq_true_eq] at h1
        omega
    refine List.Pairwise.cons (fun y hy => ?_) ih
    rcases List.mem_cons.1 hy with rfl | hy
    · exact hac
    · exact swoA.trans _ _ _ hac ((List.pairwise_cons.1 ih).1 y hy)
/-- A row that was sorted holds what is told. -/
theorem sorted_is (d : List Ac) (D D' : Array Ac) (hD : D.toList.Perm d) (ha : ascK ((sortA d).flatMap acAV) = true) (hp : Sort.PermIn 0 D.size D D') (hs : Sort.SortedIn (ltOf cfA) 0 D.size D') : D'.toList = sortA d := by
  have hasc := ascK_ok _ ha
  have hsz := hp.1
  have hperm : D'.toList.Perm (sortA d) := by
    have h1 := hp.2.2
    rw [show D'.extract 0 D.size = D' from by rw [← hsz]; simp, show D.extract 0 D.size = D from by simp] at h1
    exact (h1.trans hD).trans (sortA_perm d).symm
  refine List.Perm.eq_of_pairwise (le := fun x y => ltOf cfA y x = false) (fun a b h1 h2 h3 h4 => ?_) ?_ ?_ hperm
  · have m1 := hperm.mem_iff.1 h1
    obtain ⟨i, hi, rfl⟩ := List.getElem_of_mem m1
    obtain ⟨j, hj, rfl⟩ := List.getElem_of_mem h2
    rcases Nat.lt_trichotomy i j with h | h | h
    · have := List.pairwise_iff_getElem.1 hasc i j hi hj h
      rw [this] at h4; cases h4
    · subst h; rfl
    · have := List.pairwise_iff_getElem.1 hasc j i hj hi h
      rw [this] at h3; cases h3
  · refine List.pairwise_iff_getElem.2 fun i j hi hj hij => ?_
    have := hs i j (Nat.zero_le _) hij (by rw [← hsz]; simpa using hj)
    rwa [getElem!_pos D' j (by simpa using hj), getElem!_pos D' i (by simpa using hi)] at this
  · refine hasc.imp fun {x y} h => ?_
    rcases Bool.eq_false_or_eq_true (ltOf cfA y x) with e | e
    · have := swoA.trans _ _ _ h e
      rw [swoA.irrefl] at this; cases this
    · exact e
/-- lists of three cells each -/
theorem flat3 {α β : Type} (f : α → List β) (hf : ∀ a, (f a).length = 3) : ∀ (l : List α) (t : Nat), (l.flatMap f)[t]? = (l[t / 3]?).bind fun a => (f a)[t % 3]?
  | [], t => by simp
  | a :: r, t => by
    rw [List.flatMap_cons]
    by_cases h : t < 3
    · rw [List.getElem?_append_left (by rw [hf]; exact h), show t / 3 = 0 from by omega, show t % 3 = t from by omega]; rfl
    · rw [List.getElem?_append_right (by rw [hf]; omega), hf, flat3 f hf r (t - 3), show t / 3 = (t - 3) / 3 + 1 from by omega, show t % 3 = (t - 3) % 3 from by omega]; rfl
theorem flat3_len {α β : Type} (f : α → List β) (hf : ∀ a, (f a).length = 3) : ∀ (l : List α), (l.flatMap f).length = 3 * l.length
  | [] => rfl
  | a :: r => by rw [List.flatMap_cons, List.length_append, hf, flat3_len f hf r, List.length_cons]; omega
theorem flatK_list (D : Array Ac) (t : Nat) (ht : t < D.size * 3) : (D.toList.flatMap acCells)[t]? = some ((Sort.flatK acCells 3 D)[t]!) := by
  rw [flat3 acCells (fun _ => rfl), Sort.get_flatK _ _ _ _ ht]
  have h1 : t / 3 < D.size := by omega
  rw [show D.toList[t / 3]? = some D[t / 3]! from by rw [getElem!_pos D (t / 3) h1]; simp [h1]]
  have h2 : t % 3 < (acCells D[t / 3]!).length := Nat.mod_lt _ (by omega)
  simp only [Option.bind_some]
  rw [List.getElem?_eq_getElem h2, getElem!_pos (acCells D[t / 3]!) (t % 3) h2]
/-- The block behind a sort. -/
theorem sorted_block (w : World) (blk n : Nat) (D' : Array Ac) (os : Array Obj) (cur : Array Value) (e : TypeId) (h : w.heap[blk]? = some (.cells cur e (0, 0))) (hc : D'.size * 3 ≤ cur.size) :
    ∃ cur', (sortWorldK acCells 3 w blk 0 n D' os).heap[blk]? = some (.cells cur' e (0, 0)) ∧ cur'.size = cur.size ∧ (∀ t, t < D'.size * 3 → cur'[t]? = (D'.toList.flatMap acCells)[t]?) ∧
      (∀ k, k < w.heap.size → k ≠ blk → (sortWorldK acCells 3 w blk 0 n D' os).heap[k]? = w.heap[k]?) ∧ w.heap.size ≤ (sortWorldK acCells 3 w blk 0 n D' os).heap.size := by
  have hlt : blk < w.heap.size := (Array.getElem?_eq_some_iff.1 h).1
  have hm : ∀ k, (sortWorldK acCells 3 w blk 0 n D' os).heap[k]? = if k < w.heap.size then (if blk = k then (w.heap[k]?).map (Sort.onCells (Sort.putCells id 0 (Sort.flatK acCells 3 D'))) else w.heap[k]?) else os[k - w.heap.size]? := by
    intro k
    show ((w.heap.modify blk _) ++ os)[k]? = _
    rw [Array.getElem?_append]
    simp only [Array.size_modify, Array.getElem?_modify]
  refine ⟨Sort.putCells id 0 (Sort.flatK acCells 3 D') cur, ?_, by simp [Sort.putCells], fun t ht => ?_, fun k hk hne => ?_, ?_⟩
  · rw [hm, if_pos hlt, if_pos rfl, h]; rfl
  · rw [flatK_list D' t ht]
    have h1 : t < cur.size := by omega
    simp [Sort.putCells, h1]
    intro h2
    omega
  · rw [hm, if_pos hk, if_neg (fun e => hne e.symm)]
  · show w.heap.size ≤ ((w.heap.modify blk _) ++ os).size
    simp
end Go.Proofs.Seat4

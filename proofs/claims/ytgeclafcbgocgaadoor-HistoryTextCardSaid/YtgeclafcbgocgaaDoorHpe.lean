/- Histories: their marks are read back into them, and what is read is one. Plain laws. -/
import Derived.Test.YtgeclafcbgocgaaDoorLns
namespace Go.Proofs.YtgeclafcbgocgaaDoor
/-- The lines of one call at position n. -/
def lineOf (x : Cl) (n : Int) : List UInt8 := (if x.begin_ = n then mkText ⟨x.task, x.method, x.arg, false⟩ ++ [10] else []) ++ (if x.end_ = n then mkText ⟨x.task, 0, x.result, true⟩ ++ [10] else [])
def lineAt (l : List Cl) (n : Int) : List UInt8 := l.flatMap (fun x => lineOf x n)
def textN (l : List Cl) : Nat → List UInt8
  | 0 => []
  | n + 1 => textN l n ++ lineAt l (n : Int)
theorem lineOf_none {x : Cl} {n : Int} (h : n ∉ marksOf x) (hn : 0 ≤ n) : lineOf x n = [] := by
  unfold lineOf
  unfold marksOf at h
  by_cases he : x.end_ = -1
  · rw [if_pos he] at h
    rw [if_neg (fun e => h (by simp [e])), if_neg (by omega)]
    rfl
  · rw [if_neg he] at h
    rw [if_neg (fun e => h (by simp [e])), if_neg (fun e => h (by simp [e]))]
    rfl
theorem lineAt_none : ∀ {l : List Cl} {n : Int}, n ∉ marks l → 0 ≤ n → lineAt l n = []
  | [], _, _, _ => rfl
  | x :: l, n, h, hn => by
    have e : marks (x :: l) = marksOf x ++ marks l := by simp [marks]
    rw [e] at h
    have h1 : n ∉ marksOf x := fun hx => h (by simp [hx])
    have h2 : n ∉ marks l := fun hx => h (by simp [hx])
    show lineOf x n ++ lineAt l n = []
    rw [lineOf_none h1 hn, lineAt_none h2 hn]
    rfl
theorem lineAt_app (A B : List Cl) (n : Int) : lineAt (A ++ B) n = lineAt A n ++ lineAt B n := by simp [lineAt]
theorem textN_same {l c : List Cl} : ∀ {n : Nat}, (∀ v : Nat, v < n → lineAt l v = lineAt c v) → textN l n = textN c n
  | 0, _ => rfl
  | n + 1, h => by
    show textN l n ++ lineAt l n = textN c n ++ lineAt c n
    rw [textN_same fun v hv => h v (by omega), h n (by omega)]
theorem textN_more {l : List Cl} {n : Nat} (h : ∀ v ∈ marks l, v < (n : Int)) : ∀ {m : Nat}, n ≤ m → textN l m = textN l n
  | 0, hm => by obtain rfl : n = 0 := by omega
                rfl
  | m + 1, hm => by
    rcases Nat.lt_or_ge n (m + 1) with h1 | h1
    · show textN l m ++ lineAt l m = _
      rw [textN_more h (by omega), lineAt_none (fun hx => by have := h _ hx; omega) (by omega)]
      simp
    · obtain rfl : n = m + 1 := by omega
      rfl
theorem marks_app (A B : List Cl) : marks (A ++ B) = marks A ++ marks B := by simp [marks]
theorem marks_one (x : Cl) : marks [x] = marksOf x := by simp [marks]
theorem hist_nil : Hist [] := ⟨⟨by simp, by simp, by simp, fun i _ h => absurd h (Nat.not_lt_zero _)⟩, by simp, fun v h => absurd h (Nat.not_lt_zero _), fun i k _ h => absurd h (Nat.not_lt_zero _)⟩
theorem Hist.bound {l : List Cl} (h : Hist l) : ∀ k ∈ marks l, 0 ≤ k ∧ k < (marks l).length := (count_le_of h.toCalls0 h.cnt).1
theorem Hist.one {l : List Cl} (h : Hist l) : ∀ v : Int, (marks l).count v ≤ 1 := (count_le_of h.toCalls0 h.cnt).2
theorem getD_mem {l : List Cl} {k : Nat} (h : k < l.length) : l.getD k zCl ∈ l := by rw [getD_lt l k h]; exact List.getElem_mem h
theorem Hist.uni {l : List Cl} (h : Hist l) : Uni l := by
  intro i j hi hj ht h1 h2
  rcases Nat.lt_trichotomy i j with h3 | h3 | h3
  · have := (h.st i j h3 hj ht).1
    have := (h.tim _ (getD_mem hi)).2.1
    omega
  · exact h3
  · have := (h.st j i h3 hi ht.symm).1
    have := (h.tim _ (getD_mem hj)).2.1
    omega
theorem set_app (A B : List Cl) (x y : Cl) : (A ++ x :: B).set A.length y = A ++ y :: B := by simp
theorem getD_app (A B : List Cl) (x : Cl) : (A ++ x :: B).getD A.length zCl = x := by simp [List.getD_eq_getElem?_getD]
theorem split_getD {c : List Cl} {i : Nat} (h : i < c.length) : ∃ A B, c = A ++ c.getD i zCl :: B ∧ A.length = i := by
  refine ⟨c.take i, c.drop (i + 1), ?_, by simp; omega⟩
  rw [getD_lt c i h]
  exact split_at c i h
theorem rangeOk_mk {x : Cl} : rangeOk x = true ↔ (0 ≤ x.task ∧ x.task ≤ 15) ∧ (0 ≤ x.method ∧ x.method ≤ 99) ∧ (-1099511627776 ≤ x.arg ∧ x.arg ≤ 1099511627776) ∧ (-1099511627776 ≤ x.result ∧ x.result ≤ 1099511627776) := by
  simp only [rangeOk, inB, Bool.and_eq_true, decide_eq_true_eq]
  constructor
  · rintro ⟨⟨⟨a, b⟩, c⟩, d⟩; exact ⟨a, b, c, d⟩
  · rintro ⟨a, b, c, d⟩; exact ⟨⟨⟨a, b⟩, c⟩, d⟩
/-- A mark more, and the calls are a history again. -/
theorem book_hist {c c' : List Cl} {p : Nat} {m : Mk} (h : Hist c) (hp : (marks c).length = p) (hm : mkOk m) (hb : bookStep c p m = (c', 0)) :
    Hist c' ∧ (marks c').length = p + 1 ∧ textN c' (p + 1) = textN c p ++ (mkText m ++ [10]) := by
  obtain ⟨m1, m2, m3, m4, m5, m6, m7⟩ := hm
  have hbd := h.bound
  have hone := h.one
  unfold bookStep at hb
  split at hb
  · exact absurd (congrArg Prod.snd hb) (by simp)
  · exact absurd (congrArg Prod.snd hb) (by simp)
  · rename_i i he hq
    obtain ⟨hi, ht, hneg⟩ := openIx_spec hq
    obtain ⟨A, B, hc, hA⟩ := split_getD hi
    obtain ⟨x, hx⟩ : ∃ x, c.getD i zCl = x := ⟨_, rfl⟩
    rw [hx] at hc ht hneg hb
    have hxm : x ∈ c := by rw [hc]; simp
    have hx1 : x.end_ = -1 := by have := (h.tim x hxm).2.1; omega
    obtain ⟨y, hy⟩ : ∃ y : Cl, y = { x with end_ := (p : Int), result := m.value } := ⟨_, rfl⟩
    have hc' : c' = A ++ y :: B := by
      have h1 := congrArg Prod.fst hb
      simp only at h1
      rw [← h1, hc, ← hA, hy]
      exact set_app A B x _
    have hset : c' = c.set i y := by rw [hc', hc, ← hA, set_app]
    have mx : marksOf x = [x.begin_] := by unfold marksOf; rw [if_pos hx1]
    have my : marksOf y = [x.begin_, (p : Int)] := by
      unfold marksOf
      rw [hy]
      rw [if_neg (by show ¬ (p : Int) = -1; omega)]
    have e1 : marks c = marks A ++ (x.begin_ :: marks B) := by rw [hc, marks_split, mx]; rfl
    have e2 : marks c' = marks A ++ (x.begin_ :: (p : Int) :: marks B) := by rw [hc', marks_split, my]; rfl
    have hlen : (marks c').length = p + 1 := by rw [e2, ← hp, e1]; simp; omega
    have hcnt : ∀ v : Int, (marks c').count v = (marks c).count v + if v = (p : Int) then 1 else 0 := by
      intro v
      rw [e1, e2]
      simp only [List.count_append, List.count_cons, beq_iff_eq]
      by_cases e : v = (p : Int)
      · subst e; simp; omega
      · have : ¬ (p : Int) = v := fun a => e a.symm
        simp [e, this]
    have hp0 : (marks c).count (p : Int) = 0 := List.count_eq_zero.2 fun hk => by have := (hbd _ hk).2; omega
    have hxb := hbd x.begin_ (by rw [e1]; simp)
    have hge : ∀ k, (c'.getD k zCl).task = (c.getD k zCl).task ∧ (c'.getD k zCl).begin_ = (c.getD k zCl).begin_ := by
      intro k
      by_cases e : i = k
      · subst e
        rw [hset, getD_set_eq c y hi, hx, hy]
        exact ⟨rfl, rfl⟩
      · rw [hset, getD_set_ne c y e]
        exact ⟨rfl, rfl⟩
    have hl : c'.length = c.length := by rw [hset, List.length_set]
    have hmem : ∀ z ∈ c', z = y ∨ z ∈ c := by
      intro z hz
      rw [hset] at hz
      rcases List.mem_or_eq_of_mem_set hz with h | h
      · exact .inr h
      · exact .inl h
    have hrx := rangeOk_mk.1 (h.rng x hxm)
    have htx := h.tim x hxm
    have he' : m.isEnd = true := he
    refine ⟨⟨⟨?_, ?_, ?_, ?_⟩, by rw [hl]; exact h.len, ?_, ?_⟩, hlen, ?_⟩
    · intro z hz
      rcases hmem z hz with rfl | hz
      · rw [hy]; exact rangeOk_mk.2 ⟨hrx.1, hrx.2.1, hrx.2.2.1, m5, m6⟩
      · exact h.rng z hz
    · intro z hz
      rcases hmem z hz with rfl | hz
      · rw [hy]
        exact ⟨htx.1, by show (-1 : Int) ≤ (p : Int); omega, fun e => by exact absurd e (show ¬ (p : Int) = -1 by omega)⟩
      · exact h.tim z hz
    · intro z hz hez
      rcases hmem z hz with rfl | hz
      · rw [hy]
        show x.begin_ < (p : Int)
        omega
      · exact h.be z hz hez
    · intro k h0 hk
      rw [(hge _).2, (hge k).2]
      exact h.up k h0 (by rw [← hl]; exact hk)
    · intro v hv
      rw [hlen] at hv
      rw [hcnt]
      rcases Nat.lt_succ_iff_lt_or_eq.1 hv with h1 | rfl
      · rw [h.cnt v (by omega), if_neg (by omega)]
      · rw [hp0, if_pos rfl]
    · intro a b hab hbl hta
      rw [(hge a).1, (hge b).1] at hta
      rw [(hge b).2]
      rw [hl] at hbl
      have hs := h.st a b hab hbl hta
      by_cases e : i = a
      · subst e
        rw [hx] at hs
        exact absurd hx1 hs.1
      · rw [hset, getD_set_ne c y e]
        exact hs
    · show textN c' p ++ lineAt c' p = _
      have k1 : ∀ v : Nat, lineAt c' v = lineAt A v ++ ((lineOf y v) ++ lineAt B v) := fun v => by rw [hc', lineAt_app]; rfl
      have k2 : ∀ v : Nat, lineAt c v = lineAt A v ++ ((lineOf x v) ++ lineAt B v) := fun v => by rw [hc, lineAt_app]; rfl
      have k3 : ∀ v : Nat, v < p → lineOf y v = lineOf x v := by
        intro v hv
        unfold lineOf
        rw [hy]
        have : ¬ (p : Int) = (v : Int) := by omega
        have h' : ¬ x.end_ = (v : Int) := by omega
        simp only [if_neg this, if_neg h']
      rw [textN_same (l := c') (c := c) fun v hv => by rw [k1, k2, k3 v hv], k1 p]
      have hnA : lineAt A p = [] := lineAt_none (fun hx => by have := (hbd (p : Int) (by rw [e1]; simp [hx])).2; omega) (by omega)
      have hnB : lineAt B p = [] := lineAt_none (fun hx => by have := (hbd (p : Int) (by rw [e1]; simp [hx])).2; omega) (by omega)
      rw [hnA, hnB]
      have : lineOf y p = mkText m ++ [10] := by
        unfold lineOf
        rw [hy]
        have h' : ¬ x.begin_ = (p : Int) := by omega
        simp only [if_neg h', if_true, List.nil_append]
        obtain ⟨t, me, va, ie⟩ := m
        simp only at he' m7 ht ⊢
        subst he'
        rw [m7 rfl, ht]
      rw [this]
      simp
  · rename_i he hq
    split at hb
    · exact absurd (congrArg Prod.snd hb) (by simp)
    · rename_i hlen
      have hc' : c' = c ++ [⟨m.task, m.method, m.value, 0, p, -1⟩] := (congrArg Prod.fst hb).symm
      obtain ⟨y, hy⟩ : ∃ y : Cl, y = ⟨m.task, m.method, m.value, 0, p, -1⟩ := ⟨_, rfl⟩
      rw [← hy] at hc'
      have my : marksOf y = [(p : Int)] := by rw [hy]; rfl
      have e2 : marks c' = marks c ++ [(p : Int)] := by rw [hc', marks_app, marks_one, my]
      have hml : (marks c').length = p + 1 := by rw [e2, List.length_append, hp]; rfl
      have hp0 : (marks c).count (p : Int) = 0 := List.count_eq_zero.2 fun hk => by have := (hbd _ hk).2; omega
      have hlc : c'.length = c.length + 1 := by rw [hc']; simp
      have he' : m.isEnd = false := he
      refine ⟨⟨⟨?_, ?_, ?_, ?_⟩, ?_, ?_, ?_⟩, hml, ?_⟩
      · intro z hz
        rw [hc'] at hz
        rcases List.mem_append.1 hz with hz | hz
        · exact h.rng z hz
        · obtain rfl := List.mem_singleton.1 hz
          rw [hy]
          exact rangeOk_mk.2 ⟨⟨m1, m2⟩, ⟨m3, m4⟩, ⟨m5, m6⟩, show (-1099511627776 : Int) ≤ 0 by decide, show (0 : Int) ≤ 1099511627776 by decide⟩
      · intro z hz
        rw [hc'] at hz
        rcases List.mem_append.1 hz with hz | hz
        · exact h.tim z hz
        · obtain rfl := List.mem_singleton.1 hz
          rw [hy]
          exact ⟨by show (0 : Int) ≤ (p : Int); omega, show (-1 : Int) ≤ -1 by decide, fun _ => rfl⟩
      · intro z hz hez
        rw [hc'] at hz
        rcases List.mem_append.1 hz with hz | hz
        · exact h.be z hz hez
        · obtain rfl := List.mem_singleton.1 hz
          rw [hy] at hez
          exact absurd rfl hez
      · intro k h0 hk
        rw [hlc] at hk
        rw [hc']
        rcases Nat.lt_succ_iff_lt_or_eq.1 hk with h1 | rfl
        · rw [getD_snoc_lt c y h1, getD_snoc_lt c y (by omega)]
          exact h.up k h0 h1
        · rw [getD_snoc, getD_snoc_lt c y (by omega)]
          have hmm : (c.getD (c.length - 1) zCl).begin_ ∈ marks c := mem_marks.2 ⟨_, getD_mem (by omega), .inl rfl⟩
          have := (hbd _ hmm).2
          rw [hy]
          show _ < (p : Int)
          omega
      · rw [hlc]
        have := h.len
        omega
      · intro v hv
        rw [hml] at hv
        rw [e2, List.count_append]
        rcases Nat.lt_succ_iff_lt_or_eq.1 hv with h1 | rfl
        · rw [h.cnt v (by omega), List.count_eq_zero.2]
          simp; omega
        · rw [hp0]; simp
      · intro a b hab hbl hta
        rw [hlc] at hbl
        rw [hc'] at hta ⊢
        rcases Nat.lt_succ_iff_lt_or_eq.1 hbl with h1 | rfl
        · rw [getD_snoc_lt c y h1, getD_snoc_lt c y (show a < c.length by omega)] at hta ⊢
          exact h.st a b hab h1 hta
        · rw [getD_snoc, getD_snoc_lt c y hab] at hta ⊢
          have h2 := openIx_none hq a hab (by rw [hta, hy])
          have h3 : (c.getD a zCl).end_ ≠ -1 := by omega
          have hmm : (c.getD a zCl).end_ ∈ marks c := mem_marks.2 ⟨_, getD_mem hab, .inr ⟨h3, rfl⟩⟩
          have := (hbd _ hmm).2
          refine ⟨h3, ?_⟩
          rw [hy]
          show _ ≤ (p : Int)
          omega
      · show textN c' p ++ lineAt c' p = _
        have k1 : ∀ v : Nat, lineAt c' v = lineAt c v ++ lineOf y v := fun v => by
          rw [hc', lineAt_app]
          show lineAt c v ++ (lineOf y v ++ []) = _
          rw [List.append_nil]
        have k3 : ∀ v : Nat, v < p → lineOf y v = [] := by
          intro v hv
          refine lineOf_none ?_ (by omega)
          rw [my]
          simp; omega
        rw [textN_same (l := c') (c := c) fun v hv => by rw [k1, k3 v hv, List.append_nil], k1 p]
        have hnA : lineAt c p = [] := lineAt_none (fun hx => by have := (hbd (p : Int) hx).2; omega) (by omega)
        rw [hnA]
        have : lineOf y p = mkText m ++ [10] := by
          unfold lineOf
          rw [hy]
          have h' : ¬ (-1 : Int) = (p : Int) := by omega
          simp only [if_neg h', if_true, List.append_nil]
          obtain ⟨t, me, va, ie⟩ := m
          simp only at he'
          subst he'
          rfl
        rw [this]
        rfl
theorem count_one_mem {l : List Cl} (h : Hist l) {p : Nat} (hp : (marks l).length = p + 1) : ∃ i, i < l.length ∧ ((l.getD i zCl).begin_ = (p : Int) ∨ ((l.getD i zCl).end_ ≠ -1 ∧ (l.getD i zCl).end_ = (p : Int))) := by
  have h1 := h.cnt p (by omega)
  have h2 : (p : Int) ∈ marks l := List.count_pos_iff.1 (by omega)
  obtain ⟨x, hx, hk⟩ := mem_marks.1 h2
  obtain ⟨i, hi, rfl⟩ := List.getElem_of_mem hx
  refine ⟨i, hi, ?_⟩
  rw [getD_lt l i hi]
  rcases hk with hk | ⟨h3, h4⟩
  · exact .inl hk.symm
  · exact .inr ⟨h3, h4.symm⟩
/-- A history that is not empty has a last mark; without it, it is a history. -/
theorem book_back {l : List Cl} {p : Nat} (h : Hist l) (hp : (marks l).length = p + 1) : ∃ c m, Hist c ∧ (marks c).length = p ∧ mkOk m ∧ bookStep c p m = (l, 0) := by
  have hbd := h.bound
  have hone := h.one
  obtain ⟨i, hi, hk⟩ := count_one_mem h hp
  obtain ⟨A, B, hc, hA⟩ := split_getD hi
  obtain ⟨x, hx⟩ : ∃ x, l.getD i zCl = x := ⟨_, rfl⟩
  rw [hx] at hc hk
  have hxm : x ∈ l := by rw [hc]; simp
  have hrx := rangeOk_mk.1 (h.rng x hxm)
  have htx := h.tim x hxm
  rcases hk with hbp | ⟨hne, hep⟩
  · have hB : B = [] := by
      rcases Nat.lt_or_ge (i + 1) l.length with h1 | h1
      · have h2 := begins_lt h.up (show i < i + 1 by omega) h1
        rw [hx, hbp] at h2
        have h3 := (hbd _ (mem_marks.2 ⟨_, getD_mem h1, .inl rfl⟩)).2
        omega
      · rw [hc] at h1
        simp at h1
        exact List.eq_nil_of_length_eq_zero (by omega)
    subst hB
    have he : x.end_ = -1 := by
      by_cases he : x.end_ = -1
      · exact he
      · have h2 := h.be x hxm he
        have h3 := (hbd _ (mem_marks.2 ⟨x, hxm, .inr ⟨he, rfl⟩⟩)).2
        omega
    have hr := htx.2.2 he
    have mx : marksOf x = [(p : Int)] := by unfold marksOf; rw [if_pos he, hbp]
    have e1 : marks l = marks A ++ [(p : Int)] := by rw [hc, marks_split, mx]; simp [marks]
    have hmA : (marks A).length = p := by rw [e1] at hp; simpa using hp
    have hlen : l.length = A.length + 1 := by rw [hc]; simp
    have hg : ∀ k, k < A.length → l.getD k zCl = A.getD k zCl := fun k hk => by rw [hc]; exact getD_snoc_lt A x hk
    have hcx : ∀ v : Int, (marks l).count v = (marks A).count v + if v = (p : Int) then 1 else 0 := by
      intro v
      rw [e1, List.count_append]
      by_cases e : v = (p : Int)
      · subst e; simp
      · have : ¬ (p : Int) = v := fun a => e a.symm
        simp [e, List.count_cons, this]
    have HA : Hist A := by
      refine ⟨⟨fun z hz => h.rng z (by rw [hc]; simp [hz]), fun z hz => h.tim z (by rw [hc]; simp [hz]), fun z hz => h.be z (by rw [hc]; simp [hz]), ?_⟩, by have := h.len; omega, ?_, ?_⟩
      · intro k h0 hk
        have := h.up k h0 (by omega)
        rwa [hg _ (by omega), hg k hk] at this
      · intro v hv
        have := h.cnt v (by omega)
        rw [hcx, if_neg (by omega)] at this
        omega
      · intro a b hab hb ht
        have := h.st a b hab (by omega)
        rw [hg a (by omega), hg b hb] at this
        exact this ht
    refine ⟨A, ⟨x.task, x.method, x.arg, false⟩, HA, hmA, ⟨hrx.1.1, hrx.1.2, hrx.2.1.1, hrx.2.1.2, hrx.2.2.1.1, hrx.2.2.1.2, fun h => by cases h⟩, ?_⟩
    have hq : openIx A x.task = none := by
      refine openIx_none_of fun k hk ht he2 => ?_
      have hs := (h.st k A.length hk (by omega) (by rw [hg k hk, ht, hc, getD_app])).1
      rw [hg k hk] at hs
      have := (HA.tim _ (getD_mem hk)).2.1
      omega
    have hl0 := h.len
    unfold bookStep
    simp only [hq]
    rw [if_neg (by omega), hc]
    obtain ⟨x1, x2, x3, x4, x5, x6⟩ := x
    simp only at he hr hbp
    rw [he, hr, hbp]
  · obtain ⟨y, hy⟩ : ∃ y : Cl, y = { x with end_ := -1, result := 0 } := ⟨_, rfl⟩
    obtain ⟨c, hcc⟩ : ∃ c, c = A ++ y :: B := ⟨_, rfl⟩
    have hset : c = l.set i y := by rw [hcc, hc, ← hA, set_app]
    have mx : marksOf x = [x.begin_, (p : Int)] := by unfold marksOf; rw [if_neg hne, hep]
    have my : marksOf y = [x.begin_] := by unfold marksOf; rw [hy]; rfl
    have e1 : marks c = marks A ++ (x.begin_ :: marks B) := by rw [hcc, marks_split, my]; rfl
    have e2 : marks l = marks A ++ (x.begin_ :: (p : Int) :: marks B) := by rw [hc, marks_split, mx]; rfl
    have hlc : c.length = l.length := by rw [hset, List.length_set]
    have hml : (marks c).length = p := by rw [e2] at hp; rw [e1]; simp at hp ⊢; omega
    have hcnt : ∀ v : Int, (marks l).count v = (marks c).count v + if v = (p : Int) then 1 else 0 := by
      intro v
      rw [e1, e2]
      simp only [List.count_append, List.count_cons, beq_iff_eq]
      by_cases e : v = (p : Int)
      · subst e; simp; omega
      · have : ¬ (p : Int) = v := fun a => e a.symm
        simp [e, this]
    have hge : ∀ k, (c.getD k zCl).task = (l.getD k zCl).task ∧ (c.getD k zCl).begin_ = (l.getD k zCl).begin_ := by
      intro k
      by_cases e : i = k
      · subst e
        rw [hset, getD_set_eq l y hi, hx, hy]
        exact ⟨rfl, rfl⟩
      · rw [hset, getD_set_ne l y e]
        exact ⟨rfl, rfl⟩
    have hmem : ∀ z ∈ c, z = y ∨ z ∈ l := by
      intro z hz
      rw [hset] at hz
      rcases List.mem_or_eq_of_mem_set hz with h | h
      · exact .inr h
      · exact .inl h
    have hlate : ∀ b, i < b → b < l.length → (l.getD i zCl).task = (l.getD b zCl).task → False := by
      intro b hib hb ht
      have := (h.lt hib hb ht).2
      rw [hx, hep] at this
      have h3 := (hbd _ (mem_marks.2 ⟨_, getD_mem hb, .inl rfl⟩)).2
      omega
    have HC : Hist c := by
      refine ⟨⟨?_, ?_, ?_, ?_⟩, by have := h.len; omega, ?_, ?_⟩
      · intro z hz
        rcases hmem z hz with rfl | hz
        · rw [hy]; exact rangeOk_mk.2 ⟨hrx.1, hrx.2.1, hrx.2.2.1, show (-1099511627776 : Int) ≤ 0 by decide, show (0 : Int) ≤ 1099511627776 by decide⟩
        · exact h.rng z hz
      · intro z hz
        rcases hmem z hz with rfl | hz
        · rw [hy]; exact ⟨htx.1, show (-1 : Int) ≤ -1 by decide, fun _ => rfl⟩
        · exact h.tim z hz
      · intro z hz hez
        rcases hmem z hz with rfl | hz
        · rw [hy] at hez
          exact absurd rfl hez
        · exact h.be z hz hez
      · intro k h0 hk
        rw [(hge _).2, (hge k).2]
        exact h.up k h0 (by omega)
      · intro v hv
        have := h.cnt v (by omega)
        rw [hcnt, if_neg (by omega)] at this
        omega
      · intro a b hab hb ht
        rw [(hge a).1, (hge b).1] at ht
        rw [(hge b).2]
        by_cases e : i = a
        · subst e
          exact (hlate b hab (by omega) ht).elim
        · rw [hset, getD_set_ne l y e]
          exact h.st a b hab (by omega) ht
    refine ⟨c, ⟨x.task, 0, x.result, true⟩, HC, hml, ⟨hrx.1.1, hrx.1.2, Int.le_refl _, show (0 : Int) ≤ 99 by decide, hrx.2.2.2.1, hrx.2.2.2.2, fun _ => rfl⟩, ?_⟩
    have hci : c.getD i zCl = y := by rw [hset]; exact getD_set_eq l y hi
    have hq : openIx c x.task = some i := openIx_of HC.uni (by omega) (by rw [hci, hy]) (by rw [hci, hy]; exact show (-1 : Int) < 0 by decide)
    unfold bookStep
    simp only [hq]
    rw [hci, hcc, hc, ← hA, set_app, hy]
    obtain ⟨x1, x2, x3, x4, x5, x6⟩ := x
    simp only at hep
    rw [hep]
/-- What the lines of a history make of it. -/
theorem runL_snoc {a : List UInt8} : ∀ (L : List (List UInt8)) (c : List Cl) (p : Nat) (c' : List Cl), runL L [] c p = (c', 0) → runL (L ++ [a]) [] c p = if (stepL c' (p + L.length) a).2 = 0 then ((stepL c' (p + L.length) a).1, 0) else ([], (stepL c' (p + L.length) a).2)
  | [], c, p, c', h => by
    have h1 : (c, (0 : Int)) = (c', 0) := h
    obtain rfl : c = c' := congrArg Prod.fst h1
    simp [runL]
  | b :: L, c, p, c', h => by
    have h1 : (if (stepL c p b).2 = 0 then runL L [] (stepL c p b).1 (p + 1) else ([], (stepL c p b).2)) = (c', 0) := h
    by_cases h0 : (stepL c p b).2 = 0
    · rw [if_pos h0] at h1
      have ih := runL_snoc (a := a) L _ _ _ h1
      show (if (stepL c p b).2 = 0 then runL (L ++ [a]) [] (stepL c p b).1 (p + 1) else _) = _
      rw [if_pos h0, ih, List.length_cons, show p + 1 + L.length = p + (L.length + 1) from by omega]
    · rw [if_neg h0] at h1
      exact absurd (congrArg Prod.snd h1) h0
theorem mkText_no (m : Mk) : (10 : UInt8) ∉ mkText m := by
  have hi : ∀ n, (10 : UInt8) ∉ Lib.itoa n := fun n => itoa_no n 10 (by decide) (by decide)
  unfold mkText
  split
  · simp only [List.mem_append, List.mem_cons, not_or]
    exact ⟨hi _, by decide, by decide, by decide, hi _⟩
  · simp only [List.mem_append, List.mem_cons, not_or]
    exact ⟨hi _, by decide, by decide, by decide, hi _, by decide, hi _⟩
theorem hist_lines : ∀ (p : Nat) (l : List Cl), Hist l → (marks l).length = p → ∃ L : List (List UInt8), L.length = p ∧ (∀ a ∈ L, (10 : UInt8) ∉ a) ∧ textN l p = L.flatMap (· ++ [10]) ∧ runL L [] [] 0 = (l, 0)
  | 0, l, h, hp => by
    have hl : l = [] := by
      cases l with
      | nil => rfl
      | cons x l =>
        have : 1 ≤ (marks (x :: l)).length := by
          rw [show marks (x :: l) = marksOf x ++ marks l by simp [marks], List.length_append]
          have : 1 ≤ (marksOf x).length := by unfold marksOf; split <;> simp
          omega
        omega
    subst hl
    exact ⟨[], rfl, by simp, rfl, rfl⟩
  | p + 1, l, h, hp => by
    obtain ⟨c, m, hc, hcp, hm, hb⟩ := book_back h hp
    obtain ⟨L, h1, h2, h3, h4⟩ := hist_lines p c hc hcp
    obtain ⟨-, -, h5⟩ := book_hist hc hcp hm hb
    refine ⟨L ++ [mkText m], by simp [h1], ?_, ?_, ?_⟩
    · intro a ha
      rcases List.mem_append.1 ha with ha | ha
      · exact h2 a ha
      · rw [List.mem_singleton.1 ha]; exact mkText_no m
    · rw [h5, h3]; simp
    · rw [runL_snoc L [] 0 c h4, Nat.zero_add, h1]
      unfold stepL
      rw [readMark_text hm]
      simp only [hb]
      rfl
/-- The text of a history, as the reference writes it. -/
def textG (l : List Cl) : List UInt8 := textN l (2 * l.length)
theorem marks_two (l : List Cl) : (marks l).length ≤ 2 * l.length := by
  induction l with
  | nil => simp [marks]
  | cons x l ih =>
    rw [show marks (x :: l) = marksOf x ++ marks l by simp [marks], List.length_append, List.length_cons]
    have : (marksOf x).length ≤ 2 := by unfold marksOf; split <;> simp
    omega
theorem textG_eq {l : List Cl} (h : Hist l) : textG l = textN l (marks l).length := textN_more (fun v hv => (h.bound v hv).2) (marks_two l)
/-- Reading the text of a history gives it. -/
theorem read_back {l : List Cl} (h : Hist l) {r : List Cl × Int} (hr : RdTo (textG l) [] 0 r) : r = (l, 0) := by
  obtain ⟨L, h1, h2, h3, h4⟩ := hist_lines _ l h rfl
  rw [textG_eq h, h3] at hr
  obtain ⟨L', R, h5, h6⟩ := hr
  have h7 := parts_lines L h2
  have h8 : L' ++ [R] = L ++ [[]] := h5.symm.trans h7
  obtain ⟨rfl, h9⟩ := List.append_inj' h8 rfl
  obtain rfl : R = [] := by simpa using h9
  rw [← h6, h4]
theorem runL_err : ∀ (L : List (List UInt8)) (R : List UInt8) (c : List Cl) (p : Nat), (runL L R c p).2 ≠ 0 → (runL L R c p).1 = []
  | [], R, c, p, h => by
    unfold runL at h ⊢
    split at h
    · exact absurd rfl h
    · rename_i h0; rw [if_neg h0]
  | a :: L, R, c, p, h => by
    unfold runL at h ⊢
    split at h
    · rename_i h0; rw [if_pos h0]; exact runL_err L R _ _ h
    · rename_i h0; rw [if_neg h0]
theorem rdTo_err {s : List UInt8} {c : List Cl} {p : Nat} {r : List Cl × Int} (h : RdTo s c p r) (h0 : r.2 ≠ 0) : r.1 = [] := by
  obtain ⟨L, R, -, rfl⟩ := h
  exact runL_err L R c p h0
theorem runL_hist : ∀ (L : List (List UInt8)) (R : List UInt8) (c : List Cl) (p : Nat) (l : List Cl), Hist c → (marks c).length = p → runL L R c p = (l, 0) → Hist l ∧ textN l (marks l).length = textN c p ++ (L.flatMap (· ++ [10]) ++ R)
  | [], R, c, p, l, h, hp, hr => by
    unfold runL at hr
    split at hr
    · rename_i h0
      obtain rfl : c = l := congrArg Prod.fst hr
      refine ⟨h, ?_⟩
      rw [h0, hp]
      simp
    · exact absurd (congrArg Prod.snd hr) (by simp)
  | a :: L, R, c, p, l, h, hp, hr => by
    unfold runL at hr
    split at hr
    · rename_i h0
      have hs : ∃ m, readMark a = some m ∧ bookStep c p m = ((stepL c p a).1, 0) := by
        unfold stepL at h0 ⊢
        cases hm : readMark a with
        | none => rw [hm] at h0; cases h0
        | some m =>
          rw [hm] at h0
          exact ⟨m, rfl, Prod.ext rfl h0⟩
      obtain ⟨m, hm, hb⟩ := hs
      obtain ⟨e1, e2⟩ := readMark_some hm
      obtain ⟨g1, g2, g3⟩ := book_hist h hp e2 hb
      obtain ⟨k1, k2⟩ := runL_hist L R _ _ l g1 g2 hr
      refine ⟨k1, ?_⟩
      rw [k2, g3, e1]
      simp
    · exact absurd (congrArg Prod.snd hr) (by assumption)
/-- What can be read is the text of what is read, and this is a history. -/
theorem read_text {s : List UInt8} {l : List Cl} (h : RdTo s [] 0 (l, 0)) : Hist l ∧ textG l = s := by
  obtain ⟨L, R, h1, h2⟩ := h
  obtain ⟨h3, h4⟩ := runL_hist L R [] 0 l hist_nil rfl h2
  refine ⟨h3, ?_⟩
  rw [textG_eq h3, h4, parts_join s.length s L R (Nat.le_refl _) h1]
  rfl
end Go.Proofs.YtgeclafcbgocgaaDoor

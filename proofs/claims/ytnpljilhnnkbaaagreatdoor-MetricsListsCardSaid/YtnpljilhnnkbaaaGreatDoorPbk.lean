/- A part of the proof. -/
import Derived.Test.YtnpljilhnnkbaaaGreatDoorPbj
import Derived.Test.YtnpljilhnnkbaaaGreatDoorPbh
import Derived.Test.YtnpljilhnnkbaaaGreatDoorPbg
import Derived.Test.YtnpljilhnnkbaaaGreatDoorPad
import Derived.Test.YtnpljilhnnkbaaaGreatDoorPbf
import Derived.Test.YtnpljilhnnkbaaaGreatDoorPab
import Derived.Deep.Cut
import Derived.Test.YtnpljilhnnkbaaaGreatDoorProg
import Derived.Tactics
import Derived.Tactics2
import Derived.Defers
import Derived.Recover
import Derived.Laws.Pointers
import Derived.TacticsInMore
import Derived.RegionIn
import Derived.LoopNIn
import Derived.RecoverIn
import Derived.KernelRfl
import Derived.Lib.Hide
import Derived.Test.YtnpljilhnnkbaaaGreatDoorPae
import GoSem.ClaimSeven
set_option linter.all false
section
namespace Go.Proofs.Seat8
open Go.RowKit Go.Shelf Go.Proofs.Seat4
theorem grownBy_below {w w' : World} (h : Below w.heap.size w w') : w.grownBy w' none := ⟨h.os, h.tape, h.output, h.size, fun i hi _ => h.block i hi⟩
theorem setCell_grown (w : World) (b j : Nat) (v : Value) : w.grownBy (w.setCell ⟨b, j, none⟩ v) (some b) := ⟨rfl, rfl, rfl, by simp [World.setCell], fun i _ hi => setCell_other j v (fun e => hi (by rw [e]))⟩
structure RdS (w : World) (L : Loop) (c : List Mt) (t : List UInt8) (W : World) : Prop where
  blw : Below w.heap.size w W
  top : w.heap.size + 6 ≤ W.heap.size
  r2 : W.heap[w.heap.size]? = some (.cells #[.slice none 0 0] 22 (0, 0))
  r3 : W.heap[w.heap.size + 1]? = some (.cells #[.int .i64 0] 25 (0, 0))
  bx : ∃ v, W.heap[w.heap.size + 2]? = some (.cells #[v] 22 (0, 0)) ∧ W.ownsRow (w.heap.size + 6) 34 5 v c.length (c.flatMap mtCells)
  cap : W.heap[w.heap.size + 3]? = some (.cells #[.string ⟨t.toArray⟩] 9 (0, 0))
  df : W.heap[w.heap.size + 4]? = some (.deferred (some []))
  lp : W.heap[w.heap.size + 5]? = some (.loop L)
theorem own_grown {w W W' : World} {base : Nat} {v : Value} {c : List Mt} {b : Nat} (h : W.ownsRow base 34 5 v c.length (c.flatMap mtCells)) (hg : W.grownBy W' (some b)) (hb : b < base) : W'.ownsRow base 34 5 v c.length (c.flatMap mtCells) :=
  h.kept hg (.inr fun e => by have := (h.lt b e).1; omega)
theorem own_below {W W' : World} {base : Nat} {v : Value} {c : List Mt} (h : W.ownsRow base 34 5 v c.length (c.flatMap mtCells)) (hb : Below W.heap.size W W') : W'.ownsRow base 34 5 v c.length (c.flatMap mtCells) :=
  h.kept (grownBy_below hb) (by cases hq : v.ownBlock with | none => exact .inl rfl | some g => exact .inr (by simp))
theorem RdS.below {w W W1 : World} {L : Loop} {c : List Mt} {t : List UInt8} (h : RdS w L c t W) (hb : Below W.heap.size W W1) : RdS w L c t W1 := by
  have k : ∀ i, i < W.heap.size → W1.heap[i]? = W.heap[i]? := hb.block
  have ht := h.top
  obtain ⟨v, e1, e2⟩ := h.bx
  exact ⟨h.blw.trans (hb.mono (by omega)), Nat.le_trans ht hb.size, (k _ (by omega)).trans h.r2, (k _ (by omega)).trans h.r3, ⟨v, (k _ (by omega)).trans e1, own_below e2 hb⟩, (k _ (by omega)).trans h.cap, (k _ (by omega)).trans h.df, (k _ (by omega)).trans h.lp⟩
theorem RdS.put {w W : World} {L : Loop} (L' : Loop) {c : List Mt} {t : List UInt8} (h : RdS w L c t W) : RdS w L' c t (W.putObj (w.heap.size + 5) (.loop L')) := by
  have htop := h.top
  have k : ∀ i, i ≠ w.heap.size + 5 → (W.putObj (w.heap.size + 5) (.loop L')).heap[i]? = W.heap[i]? := fun i hi => World.putObj_heap_other hi
  have hg : W.grownBy (W.putObj (w.heap.size + 5) (.loop L')) (some (w.heap.size + 5)) := ⟨rfl, rfl, rfl, by simp, fun i _ hi => k i (fun e => hi (by rw [e]))⟩
  obtain ⟨v, e1, e2⟩ := h.bx
  exact ⟨h.blw.grown hg (by omega) (fun j hj => by cases hj; omega), by simpa using htop, (k _ (by omega)).trans h.r2, (k _ (by omega)).trans h.r3, ⟨v, (k _ (by omega)).trans e1, own_grown (w := w) e2 hg (by omega)⟩, (k _ (by omega)).trans h.cap, (k _ (by omega)).trans h.df, World.putObj_heap_same (by omega)⟩
theorem RdS.setCap {w W : World} {L : Loop} {c : List Mt} {t : List UInt8} (t' : List UInt8) (h : RdS w L c t W) : RdS w L c t' (W.setCell ⟨w.heap.size + 3, 0, none⟩ (.string ⟨t'.toArray⟩)) := by
  have htop := h.top
  have k : ∀ i, i ≠ w.heap.size + 3 → (W.setCell ⟨w.heap.size + 3, 0, none⟩ (.string ⟨t'.toArray⟩)).heap[i]? = W.heap[i]? := fun i hi => setCell_other _ _ hi
  have hg := setCell_grown W (w.heap.size + 3) 0 (.string ⟨t'.toArray⟩)
  obtain ⟨v, e1, e2⟩ := h.bx
  exact ⟨h.blw.setCell (by show w.heap.size ≤ w.heap.size + 3; omega) _, by simpa [World.setCell] using htop, (k _ (by omega)).trans h.r2, (k _ (by omega)).trans h.r3, ⟨v, (k _ (by omega)).trans e1, own_grown (w := w) e2 hg (by omega)⟩, setCell_heap h.cap 0 _, (k _ (by omega)).trans h.df, (k _ (by omega)).trans h.lp⟩
theorem RdS.step {w W W3 : World} {L : Loop} {c c' : List Mt} {t : List UInt8} {v' : Value} (h : RdS w L c t W) (hk : ∀ i, i < w.heap.size + 6 → W3.heap[i]? = W.heap[i]?) (hb : Below w.heap.size w W3) (htop : w.heap.size + 6 ≤ W3.heap.size) (hown : W3.ownsRow (w.heap.size + 6) 34 5 v' c'.length (c'.flatMap mtCells)) : RdS w L c' t (W3.setCell ⟨w.heap.size + 2, 0, none⟩ v') := by
  have k : ∀ i, i ≠ w.heap.size + 2 → (W3.setCell ⟨w.heap.size + 2, 0, none⟩ v').heap[i]? = W3.heap[i]? := fun i hi => setCell_other _ _ hi
  have hg := setCell_grown W3 (w.heap.size + 2) 0 v'
  obtain ⟨v, e1, e2⟩ := h.bx
  exact ⟨hb.setCell (by show w.heap.size ≤ w.heap.size + 2; omega) _, by simpa [World.setCell] using htop, (k _ (by omega)).trans ((hk _ (by omega)).trans h.r2), (k _ (by omega)).trans ((hk _ (by omega)).trans h.r3), ⟨v', setCell_heap ((hk _ (by omega)).trans e1) 0 _, own_grown (w := w) hown hg (by omega)⟩, (k _ (by omega)).trans ((hk _ (by omega)).trans h.cap), (k _ (by omega)).trans ((hk _ (by omega)).trans h.df), (k _ (by omega)).trans ((hk _ (by omega)).trans h.lp)⟩
structure RdX (w : World) (L : Loop) (v : Value) (x : Int) (W : World) : Prop where
  blw : Below w.heap.size w W
  top : w.heap.size + 6 ≤ W.heap.size
  r2 : W.heap[w.heap.size]? = some (.cells #[v] 22 (0, 0))
  r3 : W.heap[w.heap.size + 1]? = some (.cells #[.int .i64 x] 25 (0, 0))
  df : W.heap[w.heap.size + 4]? = some (.deferred (some []))
  lp : W.heap[w.heap.size + 5]? = some (.loop L)
theorem RdX.put {w W : World} {L : Loop} (L' : Loop) {v : Value} {x : Int} (h : RdX w L v x W) : RdX w L' v x (W.putObj (w.heap.size + 5) (.loop L')) := by
  have htop := h.top
  have k : ∀ i, i ≠ w.heap.size + 5 → (W.putObj (w.heap.size + 5) (.loop L')).heap[i]? = W.heap[i]? := fun i hi => World.putObj_heap_other hi
  have hg : W.grownBy (W.putObj (w.heap.size + 5) (.loop L')) (some (w.heap.size + 5)) := ⟨rfl, rfl, rfl, by simp, fun i _ hi => k i (fun e => hi (by rw [e]))⟩
  exact ⟨h.blw.grown hg (by omega) (fun j hj => by cases hj; omega), by simpa using htop, (k _ (by omega)).trans h.r2, (k _ (by omega)).trans h.r3, (k _ (by omega)).trans h.df, World.putObj_heap_same (by omega)⟩
theorem RdS.toX {w W : World} {L : Loop} {c : List Mt} {t : List UInt8} (v : Value) (x : Int) (h : RdS w L c t W) : RdX w L v x ((W.setCell ⟨w.heap.size, 0, none⟩ v).setCell ⟨w.heap.size + 1, 0, none⟩ (.int .i64 x)) := by
  have k : ∀ (V : World) (b j : Nat) (v : Value), j ≠ b → (V.setCell ⟨b, 0, none⟩ v).heap[j]? = V.heap[j]? := fun V b j v hj => setCell_other _ _ hj
  refine ⟨(h.blw.setCell (by show w.heap.size ≤ w.heap.size; omega) _).setCell (by show w.heap.size ≤ w.heap.size + 1; omega) _, by simpa [World.setCell] using h.top, ?_, ?_, ?_, ?_⟩
  · rw [k _ _ _ _ (by omega)]
    exact setCell_heap h.r2 0 _
  · exact setCell_heap ((k _ _ _ _ (by omega)).trans h.r3) 0 _
  · rw [k _ _ _ _ (by omega), k _ _ _ _ (by omega)]
    exact h.df
  · rw [k _ _ _ _ (by omega), k _ _ _ _ (by omega)]
    exact h.lp
theorem RdX.cells {w W : World} {L : Loop} {v : Value} {x : Int} (h : RdX w L v x W) : (W.putObj (w.heap.size + 4) (.deferred none)).cell? ⟨w.heap.size, 0, none⟩ = some v ∧ (W.putObj (w.heap.size + 4) (.deferred none)).cell? ⟨w.heap.size + 1, 0, none⟩ = some (.int .i64 x) ∧ Below w.heap.size w (W.putObj (w.heap.size + 4) (.deferred none)) := by
  have htop := h.top
  have k : ∀ i, i ≠ w.heap.size + 4 → (W.putObj (w.heap.size + 4) (.deferred none)).heap[i]? = W.heap[i]? := fun i hi => World.putObj_heap_other hi
  have hg : W.grownBy (W.putObj (w.heap.size + 4) (.deferred none)) (some (w.heap.size + 4)) := ⟨rfl, rfl, rfl, by simp, fun i _ hi => k i (fun e => hi (by rw [e]))⟩
  refine ⟨?_, ?_, h.blw.grown hg (by omega) (fun j hj => by cases hj; omega)⟩
  · exact (cell_heap ((k _ (by omega)).trans h.r2) 0).trans rfl
  · exact (cell_heap ((k _ (by omega)).trans h.r3) 0).trans rfl
set_option maxRecDepth 100000 in
theorem lines24 (s : List UInt8) (w : World) : Calls Tryz.prog 24 #[.string ⟨s.toArray⟩] w fun e w' => e = .returned (.func (.func 45) #[] #[.pointer (some ⟨w.heap.size, 0, none⟩)]) ∧ w.alloc (.cells #[.string ⟨s.toArray⟩] 9) = w' := by
  have hmf : ∀ fn first cap w, (Instr.makeFunc fn first cap).run Tryz.prog w = .ok (.func fn first cap) w := fun _ _ _ _ => rfl
  go_enter Tryz.func24, Tryz.ntmps24
  go_wp2_with fail
  go_ret
  exact ⟨rfl, rfl⟩
theorem heap6 (w : World) (o0 o1 o2 o3 o4 o5 : Obj) : ∀ j (o : Obj), [o0, o1, o2, o3, o4, o5][j]? = some o → ((((((w.alloc o0).alloc o1).alloc o2).alloc o3).alloc o4).alloc o5).heap[w.heap.size + j]? = some o := by
  intro j o hj
  have key : ((((((w.alloc o0).alloc o1).alloc o2).alloc o3).alloc o4).alloc o5).heap = (((((w.heap.push o0).push o1).push o2).push o3).push o4).push o5 := rfl
  have hl : ∀ i : Nat, ((((((w.alloc o0).alloc o1).alloc o2).alloc o3).alloc o4).alloc o5).heap[i]? = (w.heap.toList ++ [o0, o1, o2, o3, o4, o5])[i]? := fun i => by
    rw [key, ← Array.getElem?_toList]
    simp
  rw [hl, List.getElem?_append_right (by simp)]
  simpa using hj
end Go.Proofs.Seat8
end
section
namespace Go.Proofs.Seat8
open Go.RowKit Go.Proofs.Seat4
def bodyT (m : Mt) : List UInt8 := m.name ++ 32 :: (Lib.itoa m.index ++ 32 :: (Lib.itoa m.count ++ 32 :: (Lib.itoa m.sum ++ 32 :: Lib.itoa m.mx)))
theorem line_bodyT (m : Mt) : lineT m = bodyT m ++ [10] := line_body m
theorem splitA_join {c : UInt8} : ∀ (s p : List UInt8) {x : List UInt8} {T : List (List UInt8)}, splitA c p s = x :: T → p ++ s = x ++ T.flatMap (c :: ·)
  | [], p, x, T, h => by
    simp only [splitA] at h
    injection h with h1 h2
    subst h1 h2
    simp
  | y :: r, p, x, T, h => by
    rw [splitA] at h
    split at h
    · rename_i hy
      injection h with h1 h2
      subst h1
      cases T with
      | nil => exact absurd h2 (splitA_ne c r [])
      | cons u U =>
        have := splitA_join r [] h2
        rw [List.nil_append] at this
        rw [hy, this]
        simp
    · have := splitA_join r (p ++ [y]) h
      simpa using this
theorem splitA_free {c : UInt8} : ∀ (s p : List UInt8), c ∉ p → ∀ x ∈ splitA c p s, c ∉ x
  | [], p, hp, x, hx => by
    simp only [splitA, List.mem_singleton] at hx
    subst hx
    exact hp
  | y :: r, p, hp, x, hx => by
    rw [splitA] at hx
    split at hx
    · rcases List.mem_cons.1 hx with rfl | hx
      · exact hp
      · exact splitA_free r [] (by simp) x hx
    · rename_i hy
      exact splitA_free r (p ++ [y]) (by simp; exact ⟨hp, fun e => hy e.symm⟩) x hx
theorem splitA_body {m : Mt} (h : LineOk m) : splitA 32 [] (bodyT m) = [m.name, Lib.itoa m.index, Lib.itoa m.count, Lib.itoa m.sum, Lib.itoa m.mx] := by
  have hno := fun n => itoa_no n 32 (by decide) (by decide)
  unfold bodyT
  rw [splitA_hit _ _ _ h.2.1, splitA_hit _ _ _ (hno _), splitA_hit _ _ _ (hno _), splitA_hit _ _ _ (hno _), splitA_none _ _ (hno _)]
  simp
theorem line_a {m : Mt} {a : List UInt8} (h : lineT m = a ++ [10]) : bodyT m = a := by
  rw [line_bodyT] at h
  exact List.append_cancel_right h
def NoLine (a : List UInt8) : Prop := ∀ m, one m → lineT m ≠ a ++ [10]
theorem noLine_len {a : List UInt8} (h : (splitA 32 [] a).length ≠ 5) : NoLine a := fun m hm e => by
  rw [← line_a e, splitA_body (lineOk_of hm)] at h
  exact h rfl
theorem one_small {m : Mt} (h : one m) : ∀ n ∈ numsOf m, -1152921504606846976 ≤ n ∧ n ≤ 1152921504606846976 := by
  intro n hm
  have h2 := h.2
  simp only [rngB, wi, Bool.and_eq_true, decide_eq_true_eq] at h2
  simp only [numsOf, List.mem_cons, List.not_mem_nil, or_false] at hm
  rcases hm with rfl | rfl | rfl | rfl <;> omega
theorem noLine_num {a x0 : List UInt8} {T : List (List UInt8)} (h : splitA 32 [] a = x0 :: T) {j : Nat} (hj : j < T.length) (hn : ∀ n, -1152921504606846976 ≤ n → n ≤ 1152921504606846976 → T[j] ≠ Lib.itoa n) : NoLine a := fun m hm e => by
  have hs := splitA_body (lineOk_of hm)
  rw [line_a e, h] at hs
  injection hs with _ hT
  subst hT
  have hlo := one_small hm
  have hl : j < 4 := hj
  have key : ∃ n ∈ numsOf m, [Lib.itoa m.index, Lib.itoa m.count, Lib.itoa m.sum, Lib.itoa m.mx][j] = Lib.itoa n := by
    match j, hl with
    | 0, _ => exact ⟨m.index, by simp [numsOf], rfl⟩
    | 1, _ => exact ⟨m.count, by simp [numsOf], rfl⟩
    | 2, _ => exact ⟨m.sum, by simp [numsOf], rfl⟩
    | 3, _ => exact ⟨m.mx, by simp [numsOf], rfl⟩
  obtain ⟨n, hm', hk⟩ := key
  exact hn n (hlo n hm').1 (hlo n hm').2 hk
theorem yesLine {a x0 : List UInt8} {n1 n2 n3 n4 : Int} (h10 : (10 : UInt8) ∉ a) (h : splitA 32 [] a = [x0, Lib.itoa n1, Lib.itoa n2, Lib.itoa n3, Lib.itoa n4]) (hr : ∀ n ∈ [n1, n2, n3, n4], -1152921504606846976 ≤ n ∧ n ≤ 1152921504606846976) : lineT ⟨x0, n1, n2, n3, n4⟩ = a ++ [10] ∧ LineOk ⟨x0, n1, n2, n3, n4⟩ := by
  have hj := splitA_join a [] h
  have hb : bodyT ⟨x0, n1, n2, n3, n4⟩ = a := by
    rw [List.nil_append] at hj
    rw [hj]
    simp [bodyT]
  refine ⟨by rw [line_bodyT, hb], fun h0 => h10 ?_, splitA_free a [] (by simp) x0 (by rw [h]; simp), fun n hn => ?_⟩
  · rw [← hb]
    unfold bodyT
    exact List.mem_append_left _ h0
  · have := hr n (by simpa [numsOf] using hn)
    omega
theorem line_inj {m m' : Mt} (h : LineOk m) (h' : LineOk m') (e : lineT m = lineT m') : m = m' := by
  have e2 : bodyT m = bodyT m' := by
    rw [line_bodyT m'] at e
    exact line_a e
  have h1 := pLine_body h
  have h2 := pLine_body h'
  have h3 : pLine (bodyT m) = some m := h1
  rw [e2] at h3
  have h4 : pLine (bodyT m') = some m' := h2
  rw [h4] at h3
  exact (Option.some.inj h3).symm
theorem line_first {m : Mt} (h : LineOk m) {a r q : List UInt8} (h10 : (10 : UInt8) ∉ a) (e : lineT m ++ r = a ++ 10 :: q) : lineT m = a ++ [10] ∧ r = q := by
  have hb := body_no h
  have hb2 : (10 : UInt8) ∉ bodyT m := hb
  rw [line_bodyT, List.append_assoc] at e
  have key : ∀ (x y r q : List UInt8), (10 : UInt8) ∉ x → (10 : UInt8) ∉ y → x ++ 10 :: r = y ++ 10 :: q → x = y ∧ r = q := by
    intro x
    induction x with
    | nil =>
      intro y r q _ hy e
      cases y with
      | nil => simp at e; exact ⟨rfl, e⟩
      | cons u U =>
        injection e with e1 _
        exact absurd (by simp [e1]) hy
    | cons u U ih =>
      intro y r q hx hy e
      cases y with
      | nil =>
        injection e with e1 _
        exact absurd (by simp [← e1]) hx
      | cons v V =>
        injection e with e1 e2
        obtain ⟨h1, h2⟩ := ih V r q (fun h => hx (List.mem_cons_of_mem _ h)) (fun h => hy (List.mem_cons_of_mem _ h)) e2
        exact ⟨by rw [e1, h1], h2⟩
  obtain ⟨h1, h2⟩ := key _ _ _ _ hb2 h10 e
  exact ⟨by rw [line_bodyT, h1], h2⟩
def RpI (s : List UInt8) (out : List Mt) (t : List UInt8) : Prop := s = textT out ++ t ∧ ∀ l, (∀ m ∈ l, one m) → textT l = s → ∃ l', l = out ++ l' ∧ textT l' = t
theorem rpI_start (s : List UInt8) : RpI s [] s := ⟨rfl, fun l _ h => ⟨l, rfl, h⟩⟩
theorem text_nil_of {l : List Mt} (h : textT l = []) : l = [] := by
  cases l with
  | nil => rfl
  | cons m r =>
    have : lineT m ++ textT r = [] := h
    rw [line_bodyT] at this
    simp at this
theorem rpI_split {s a q : List UInt8} {out : List Mt} (h : RpI s out (a ++ 10 :: q)) (h10 : (10 : UInt8) ∉ a) {l : List Mt} (hl : ∀ m ∈ l, one m) (e : textT l = s) : ∃ m l', one m ∧ l = out ++ m :: l' ∧ lineT m = a ++ [10] ∧ textT l' = q := by
  obtain ⟨l', hl', ht⟩ := h.2 l hl e
  cases l' with
  | nil => cases a <;> simp [textT] at ht
  | cons m r =>
    have hm : one m := hl m (by rw [hl']; simp)
    obtain ⟨h1, h2⟩ := line_first (lineOk_of hm) h10 (show lineT m ++ textT r = _ from ht)
    exact ⟨m, r, hm, hl', h1, h2⟩
theorem rpI_step {s a q : List UInt8} {out : List Mt} (h : RpI s out (a ++ 10 :: q)) (h10 : (10 : UInt8) ∉ a) {m : Mt} (hm : lineT m = a ++ [10]) (hok : LineOk m) : RpI s (out ++ [m]) q := by
  refine ⟨?_, fun l hl e => ?_⟩
  · have h1 := h.1
    have : textT (out ++ [m]) = textT out ++ lineT m := by simp [textT]
    rw [this, hm, h1]
    simp
  · obtain ⟨m', l', hm', hl', h1, h2⟩ := rpI_split h h10 hl e
    have : m' = m := line_inj (lineOk_of hm') hok (h1.trans hm.symm)
    subst this
    exact ⟨l', by rw [hl']; simp, h2⟩
def NoText (s : List UInt8) : Prop := ∀ l, chk l = 0 → textT l ≠ s
theorem rpI_bad {s a q : List UInt8} {out : List Mt} (h : RpI s out (a ++ 10 :: q)) (h10 : (10 : UInt8) ∉ a) (hb : NoLine a ∨ out.length = 500) : NoText s := fun l hc e => by
  obtain ⟨m, l', hm, hl', h1, _⟩ := rpI_split h h10 (chk_one hc) e
  rcases hb with hb | hb
  · exact hb m hm h1
  · have := chk_len hc
    rw [hl'] at this
    simp at this
    omega
theorem rpI_rest {s t : List UInt8} {out : List Mt} (h : RpI s out t) (h10 : (10 : UInt8) ∉ t) (hb : t ≠ []) : NoText s := fun l hc e => by
  obtain ⟨l', _, ht⟩ := h.2 l (chk_one hc) e
  cases l' with
  | nil => exact hb ht.symm
  | cons m r =>
    have : lineT m ++ textT r = t := ht
    rw [line_bodyT] at this
    exact h10 (by rw [← this]; simp)
theorem rpI_chk {s : List UInt8} {out : List Mt} (h : RpI s out []) (hb : chk out ≠ 0) : NoText s := fun l hc e => by
  obtain ⟨l', hl', ht⟩ := h.2 l (chk_one hc) e
  rw [text_nil_of ht, List.append_nil] at hl'
  exact hb (hl' ▸ hc)
theorem parse_is {s : List UInt8} {l : List Mt} (hc : chk l = 0) (ht : textT l = s) : parseR s = some l := by rw [← ht]; exact parse_text hc
theorem parse_no {s : List UInt8} (h : NoText s) : parseR s = none := by
  cases e : parseR s with
  | none => rfl
  | some l => exact absurd (parse_some e).2 (h l (parse_some e).1)
end Go.Proofs.Seat8
end
section
namespace Go.Proofs.Seat8
open Go.RowKit Go.Proofs.Seat4 Av
def mtAV (m : Mt) : List AV := [.str m.name, .int m.index, .int m.count, .int m.sum, .int m.mx]
noncomputable def mtsOf : List AV → Option (List Mt)
  | [] => some []
  | .str s :: .int a :: .int b :: .int c :: .int d :: r => Option.rec (motive := fun _ => Option (List Mt)) none (fun t => some (⟨s, a, b, c, d⟩ :: t)) (mtsOf r)
  | _ => none
theorem mtsOf_ok : ∀ (l : List AV) (ms : List Mt), mtsOf l = some ms → l = ms.flatMap mtAV
  | l, ms, h => by
    unfold mtsOf at h
    split at h
    · cases h; rfl
    · rename_i s a b c d r
      cases ht : mtsOf r with
      | none => rw [ht] at h; cases h
      | some t =>
        rw [ht] at h
        cases h
        have := mtsOf_ok r t ht
        rw [List.flatMap_cons, ← this]
        rfl
    · cases h
  termination_by l => l.length
noncomputable def esOf : List Av.ME → Nat → Option (List Mt)
  | [], _ => some []
  | ⟨_, .agg [.str s, .int a, .int b, .int c, .int d], n⟩ :: r, i => Bool.rec (motive := fun _ => Option (List Mt)) none (Option.rec (motive := fun _ => Option (List Mt)) none (fun t => some (⟨s, a, b, c, d⟩ :: t)) (esOf r (i + 1))) (Nat.beq n i)
  | _ :: _, _ => none
theorem esOf_ok (m : M) : ∀ (es : List Av.ME) (i : Nat) (ms : List Mt), esOf es i = some ms → ∃ d : List (Value × Mt), es.map (meC m) = mkEs (d.map fun a => (a.1, .agg (mtCells a.2).toArray)) i ∧ d.map (·.2) = ms ∧ d.length = es.length
  | [], i, ms, h => by cases h; exact ⟨[], rfl, rfl, rfl⟩
  | e :: r, i0, ms, h => by
    unfold esOf at h
    split at h
    · rename_i h0; cases h0
    · rename_i ii _ _ key s a b c d n r' he
      cases he
      cases hb : Nat.beq n ii with
      | false => rw [hb] at h; cases h
      | true =>
        rw [hb] at h
        cases ht : esOf r (ii + 1) with
        | none => rw [ht] at h; cases h
        | some t =>
          rw [ht] at h
          cases h
          obtain ⟨d', g1, g2, g3⟩ := esOf_ok m r _ t ht
          have e1 := Nat.eq_of_beq_eq_true hb
          subst e1
          refine ⟨(conc m key, ⟨s, a, b, c, d⟩) :: d', ?_, by simp [g2], by simp [g3]⟩
          simp only [List.map_cons, mkEs, g1]
          simp [meC, conc, concL, mtCells]
    · cases h
noncomputable def insT (a : Mt) : List Mt → List Mt
  | [] => [a]
  | c :: r => Bool.rec (c :: insT a r) (a :: c :: r) (lessM a c)
noncomputable def sortT : List Mt → List Mt
  | [] => []
  | a :: r => insT a (sortT r)
theorem insT_perm (a : Mt) : ∀ l, (insT a l).Perm (a :: l)
  | [] => List.Perm.refl _
  | c :: r => by
    unfold insT
    cases lessM a c with
    | true => exact List.Perm.refl _
    | false => exact ((insT_perm a r).cons c).trans (List.Perm.swap a c r)
theorem sortT_perm : ∀ l, (sortT l).Perm l
  | [] => List.Perm.refl _
  | a :: r => (insT_perm a (sortT r)).trans ((sortT_perm r).cons a)
noncomputable def ascT : List Mt → Bool
  | a :: c :: r => band (lessM a c) (ascT (c :: r))
  | _ => true
theorem ascT_ok : ∀ l : List Mt, ascT l = true → l.Pairwise Kl
  | [], _ => List.Pairwise.nil
  | [a], _ => List.pairwise_singleton _ _
  | a :: c :: r, h => by
    unfold ascT at h
    obtain ⟨h1, h2⟩ := and_of h
    have ih := ascT_ok (c :: r) h2
    rw [lessM_iff] at h1
    refine List.Pairwise.cons (fun y hy => ?_) ih
    rcases List.mem_cons.1 hy with rfl | hy
    · exact h1
    · exact Kl.trans h1 ((List.pairwise_cons.1 ih).1 y hy)
theorem sorted_eq {l D : List Mt} (hp : D.Perm l) (ho : D.Pairwise fun x y => ¬ Kl y x) (ha : ascT (sortT l) = true) : D = sortT l := by
  have hasc := ascT_ok _ ha
  have hperm := hp.trans (sortT_perm l).symm
  refine List.Perm.eq_of_pairwise (le := fun x y => ¬ Kl y x) (fun a b h1 h2 h3 h4 => ?_) ho ?_ hperm
  · have m1 := hperm.mem_iff.1 h1
    obtain ⟨i, hi, rfl⟩ := List.getElem_of_mem m1
    obtain ⟨j, hj, rfl⟩ := List.getElem_of_mem h2
    rcases Nat.lt_trichotomy i j with h | h | h
    · exact absurd (List.pairwise_iff_getElem.1 hasc i j hi hj h) h4
    · subst h; rfl
    · exact absurd (List.pairwise_iff_getElem.1 hasc j i hj hi h) h3
  · exact hasc.imp fun {x y} h1 h2 => Kl.irr _ (Kl.trans h1 h2)
noncomputable def smN : Int → Bool
  | .ofNat n => Nat.ble n 99
  | .negSucc _ => false
noncomputable def goodT : List Mt → Bool
  | [] => true
  | m :: r => band (smN m.index) (band (smN m.count) (band (smN m.sum) (band (smN m.mx) (goodT r))))
noncomputable def it2 (n : Nat) : List UInt8 := Bool.rec [UInt8.ofNat (48 + n / 10), UInt8.ofNat (48 + n % 10)] [UInt8.ofNat (48 + n)] (Nat.ble n 9)
noncomputable def numK : Int → List UInt8
  | .ofNat n => 32 :: it2 n
  | .negSucc _ => []
noncomputable def textK : List Mt → List UInt8
  | [] => []
  | m :: r => m.name ++ (numK m.index ++ (numK m.count ++ (numK m.sum ++ (numK m.mx ++ 10 :: textK r))))
theorem smN_nat {n : Int} (h : smN n = true) : ∃ k : Nat, n = k ∧ k < 100 := by
  cases n with
  | ofNat k => exact ⟨k, rfl, by have := Nat.le_of_ble_eq_true h; omega⟩
  | negSucc k => cases h
theorem it2_eq {n : Nat} (h : n < 100) : it2 n = Lib.decDigits n := by
  unfold it2
  by_cases h1 : n < 10
  · rw [Lib.decDigits_one h1, Nat.ble_eq_true_of_le (show n ≤ 9 by omega)]
  · rw [Lib.decDigits_two h1 h, show Nat.ble n 9 = false from by
      cases hb : Nat.ble n 9 with
      | false => rfl
      | true => have := Nat.le_of_ble_eq_true hb; omega]
theorem numK_eq {n : Int} (h : smN n = true) : numK n = numT n := by
  obtain ⟨k, rfl, hk⟩ := smN_nat h
  show 32 :: it2 k = 32 :: Lib.itoa (k : Int)
  rw [it2_eq hk, Lib.itoa, if_neg (by omega)]
  rfl
theorem goodT_ok : ∀ {l : List Mt}, goodT l = true → ∀ m ∈ l, ∀ n ∈ numsOf m, smN n = true
  | [], _ => by simp
  | m :: r, h => by
    unfold goodT at h
    obtain ⟨h1, h⟩ := and_of h
    obtain ⟨h2, h⟩ := and_of h
    obtain ⟨h3, h⟩ := and_of h
    obtain ⟨h4, h⟩ := and_of h
    intro x hx n hn
    rcases List.mem_cons.1 hx with rfl | hx
    · simp only [numsOf, List.mem_cons, List.not_mem_nil, or_false] at hn
      rcases hn with rfl | rfl | rfl | rfl <;> assumption
    · exact goodT_ok h x hx n hn
theorem textK_eq : ∀ {l : List Mt}, goodT l = true → textK l = textT l
  | [], _ => rfl
  | m :: r, h => by
    have h0 := goodT_ok h m (by simp)
    have h1 : goodT r = true := by
      unfold goodT at h
      exact (and_of (and_of (and_of (and_of h).2).2).2).2
    show _ = lineT m ++ textT r
    unfold textK lineT
    rw [textK_eq h1, numK_eq (h0 _ (by simp [numsOf])), numK_eq (h0 _ (by simp [numsOf])), numK_eq (h0 _ (by simp [numsOf])), numK_eq (h0 _ (by simp [numsOf]))]
    simp [numsOf]
theorem itoaAt_small {n : Int} (h : smN n = true) (w0 : World) : ItoaAt w0 n := by
  obtain ⟨k, rfl, hk⟩ := smN_nat h
  intro w _
  refine (Tryz.strconv_Itoa_small k hk w).mono ?_
  rintro e w' ⟨rfl, rfl⟩
  refine ⟨?_, Below.refl _ _⟩
  rw [Lib.itoa, if_neg (by omega)]
  rfl
end Go.Proofs.Seat8
end
section
namespace Go.Proofs.Seat8
open Go.RowKit Go.Proofs.Seat4 Av
def AM (b : Nat) : M := ⟨fun _ => b, fun _ => 0, fun _ => 0⟩
def sh32 : Sh := .agg [.s, .i, .i, .i, .i]
theorem shT32 : shT Tryz.prog 34 = some sh32 := by kernel_rfl
theorem gd32 : Tryz.prog.eqGuardType Tryz.prog.depth 34 = false := by kernel_rfl
theorem mt_eq (x y : Mt) : x = y ↔ x.name = y.name ∧ x.index = y.index ∧ x.count = y.count ∧ x.sum = y.sum ∧ x.mx = y.mx := by
  cases x; cases y; simp
theorem eqs_mt (x y : Mt) : eqsh sh32 (.agg (mtAV x)) (.agg (mtAV y)) = some (decide (x = y)) := by
  simp only [eqsh, sh32, mtAV]
  have h : decide (x = y) = (x.name == y.name && (x.index == y.index && (x.count == y.count && (x.sum == y.sum && x.mx == y.mx)))) := by
    rw [Bool.eq_iff_iff]
    simp [mt_eq x y]
  rw [h]
  simp only [eql, eqk]
  cases x.name == y.name <;> cases x.index == y.index <;> cases x.count == y.count <;> cases x.sum == y.sum <;> cases x.mx == y.mx <;> rfl
section
variable {ops : Array Oper} {rest : List Oper} {o : Oper} {a : Act} {w : World} {Q : Exit → Act → World → Prop}
theorem wpList_ne (hg : o.guard = none) (x y : Operand) (ty : TypeId) (hop : o.op = .binOp .neq 34 x y ty) (X Y : Mt) (hx : a.eval x = .agg (mtCells X).toArray) (hy : a.eval y = .agg (mtCells Y).toArray)
    (hK : wpList Tryz.prog ops Q rest (a.put o.dst (.bool (!decide (X = Y)))) w) : wpList Tryz.prog ops Q (o :: rest) a w := by
  refine wpList_plain hg fun K' hK' => ?_
  have h1 : (eqGuard .neq 34 x y (.agg (mtCells X).toArray) (.agg (mtCells Y).toArray)).run Tryz.prog w = .ok () w := run_eqGuardV (m := AM 0) (u := .agg (mtAV X)) (v := .agg (mtAV Y)) gd32 (eqs_mt X Y) w
  have h2 : (binOp .neq 34 (.agg (mtCells X).toArray) (.agg (mtCells Y).toArray)).run Tryz.prog w = .ok (.bool (!decide (X = Y))) w := (run_eqOp (m := AM 0) (x := .agg (mtAV X)) (y := .agg (mtAV Y)) shT32 (eqs_mt X Y) w).2
  unfold Oper.wp
  simp only [execOp, hop, hx, hy, Sem.run_bind, h1, h2, Result.andThen_ok, Sem.run_pure]
  exact hK' _ _ hK
end
set_option maxRecDepth 100000 in
set_option maxHeartbeats 1000000 in
theorem same9 (a b : List Mt) (va vb : Value) (w : World) (ha : LV ME w va a) (hb : LV ME w vb b) (hla : a.length ≤ 100000) :
    Calls Tryz.prog 10 #[va, vb] w fun e w' => e = .returned (.bool (decide (a = b))) ∧ Below w.heap.size w w' := by
  obtain ⟨A1, c1, rfl, _, hr1⟩ := ha
  obtain ⟨A2, c2, rfl, _, hr2⟩ := hb
  by_cases hlen : a.length = b.length
  · have Hr1 := Lib.hid hr1
    have Hr2 := Lib.hid hr2
    rw [hlen] at hla
    rw [hlen]
    clear hr1 hr2
    go_enter Tryz.func10, Tryz.ntmps10
    go_wp2
    go_loopw [5] (fun v wr => ∃ k : Nat, k ≤ b.length ∧ v = .int .i64 k ∧ a.take k = b.take k ∧ Below w.heap.size w wr) (fun v _ => b.length - (intOf v).toNat)
    case atStart => exact ⟨0, Nat.zero_le _, rfl, rfl, Below.refl _ _⟩
    case round =>
      obtain ⟨k, hk, rfl, htk, hbw⟩ := hrel
      by_cases hlt : k < b.length
      · have hlt' : k < a.length := by omega
        obtain ⟨g1, o1, rfl, hg1, hat1⟩ := Hr1.out (fun e => by rw [e] at hlt'; exact absurd hlt' (Nat.not_lt_zero _))
        obtain ⟨g2, o2, rfl, hg2, hat2⟩ := Hr2.out (fun e => by rw [e] at hlt; exact absurd hlt (Nat.not_lt_zero _))
        have r1 : Row wr g1 (o1 + k * 5) (mtCells a[k]) := (hat1 k hlt').below hbw hg1
        have r2 : Row wr g2 (o2 + k * 5) (mtCells b[k]) := (hat2 k hlt).below hbw hg2
        have s1 := take_snoc a k hlt'
        have s2 := take_snoc b k hlt
        have hne : a[k] ≠ b[k] → a ≠ b := fun h e => h (by subst e; rfl)
        generalize hX : a[k] = X at *
        generalize hY : b[k] = Y at *
        have hq1 : g1 < wr.heap.size := Nat.lt_of_lt_of_le hg1 hbw.size
        have hq2 : g2 < wr.heap.size := Nat.lt_of_lt_of_le hg2 hbw.size
        have R1 := Lib.hid r1
        have R2 := Lib.hid r2
        have S1 := Lib.hid s1
        have S2 := Lib.hid s2
        have Hne := Lib.hid hne
        have Hbw := Lib.hid hbw
        have Htk := Lib.hid htk
        clear r1 r2 s1 s2 hne hbw htk hat1 hat2 hX hY
        go_upto_region 6 with fail
        refine wp_region_det (by kernel_rfl) (by kernel_rfl) (fun wx => Below wr.heap.size wr wx) ((Below.refl _ _).drew) ?_
        iterate 9
          apply wpDet_cons
          · intro wx hx
            have p1 := R1.out.below hx hq1
            have p2 := R2.out.below hx hq2
            first
              | ((with_reducible refine wpList_load_aggW (o := ⟨some 20, .load 34 (.tmp 19), _, _, _, _⟩) ?_ 34 _ rfl g1 (o1 + k * 5) ?_ _ p1 _ Tryz.underlying34 rfl ?_ ?_); (focus rfl); (focus rfl); (focus kernel_rfl); exact ⟨rfl, rfl, hx⟩)
              | ((with_reducible refine wpList_load_aggW (o := ⟨some 24, .load 34 (.tmp 23), _, _, _, _⟩) ?_ 34 _ rfl g2 (o2 + k * 5) ?_ _ p2 _ Tryz.underlying34 rfl ?_ ?_); (focus rfl); (focus rfl); (focus kernel_rfl); exact ⟨rfl, rfl, hx⟩)
              | ((with_reducible refine wpList_ne (o := ⟨some 25, .binOp .neq 34 (.tmp 20) (.tmp 24) _, _, _, _, none⟩) rfl _ _ _ rfl X Y ?_ ?_ ?_); (focus rfl); (focus rfl); exact ⟨rfl, rfl, hx⟩)
              | (go_wp2_with fail
                 exact ⟨rfl, rfl, hx⟩)
          go_frame
        intro w3 hx
        have hb3 : Below w.heap.size w w3 := Hbw.out.trans (below_mono hx Hbw.out.size)
        clear hx
        by_cases hXY : X = Y
        · simp only [hXY, decide_true, Bool.not_true]
          go_wp2_with fail
          refine ⟨⟨k + 1, hlt, by simp, ?_, hb3⟩, by simp [intOf]; omega⟩
          rw [S1.out, S2.out, Htk.out, hXY]
        · simp only [hXY, decide_false, Bool.not_false]
          go_wp2_with fail
          go_ret
          exact ⟨by rw [decide_eq_false (Hne.out hXY)]; rfl, hb3⟩
      · obtain rfl : k = b.length := by omega
        go_wp2
        go_ret
        rw [List.take_length, ← hlen, List.take_length] at htk
        exact ⟨by rw [decide_eq_true htk]; rfl, hbw⟩
  · go_enter Tryz.func10, Tryz.ntmps10
    go_wp2
    go_ret
    exact ⟨by rw [decide_eq_false (fun e => hlen (by rw [e]))]; rfl, Below.refl _ _⟩
end Go.Proofs.Seat8
end
section
namespace Go.Proofs.Seat4
open Go.RowKit
open Go.Proofs
set_option maxHeartbeats 800000 in
theorem run1_idle (p : Addr) (w : World) :
    CallsDIn Fence.wide 0 Tryz.prog 440 #[.pointer (some p)] .returning w fun e u' w' => e = .returned (.tuple #[]) ∧ u' = .returning ∧ w' = w := by
  refine callsDIn_of_wpSIn Tryz.func440 rfl trivial fun c₀ cs hu => ?_
  simp only [Tryz.ntmps440, List.size_toArray, List.length_cons, List.length_nil, Nat.reduceAdd, Nat.reduceSub, Array.replicate_succ, Array.replicate_zero, List.push_toArray, List.append_toArray, List.nil_append, List.cons_append]
  apply wpSIn_seq
  apply wpSIn_region
  simp [wpOpsSIn, go_sem, recoverD, hu, Tryz.ntmps440, Exit.thenS]
  refine wpSIn_of_wpIn rfl ?_
  gi_wp2
  cases c₀
  simp_all [bodyPostS, results, Tryz.results440]
theorem ta1 (x y z : Int) (w : World) : (Instr.typeAssert (.iface 490 (.agg #[.int .i64 x, .int .i64 y, .int .i64 z])) 20 488 true).run Tryz.prog w = .ok (.tuple #[.int .i64 0, .bool false]) w := by kernel_rfl
theorem ta2 (x y z : Int) (w : World) : (Instr.typeAssert (.iface 490 (.agg #[.int .i64 x, .int .i64 y, .int .i64 z])) 20 490 true).run Tryz.prog w = .ok (.tuple #[.agg #[.int .i64 x, .int .i64 y, .int .i64 z], .bool true]) w := by kernel_rfl
set_option maxHeartbeats 800000 in
theorem run1_stop (b o : Nat) (x y z : Int) (w : World) (v0 v1 v2 : Value) (h0 : w.cell? ⟨b, o, none⟩ = some v0) (h1 : w.cell? ⟨b, o + 1, none⟩ = some v1) (h2 : w.cell? ⟨b, o + 2, none⟩ = some v2)
    (z0 : w.frozen? ⟨b, o, none⟩ = false) (z1 : w.frozen? ⟨b, o + 1, none⟩ = false) (z2 : w.frozen? ⟨b, o + 2, none⟩ = false) (hb : b < w.heap.size) :
    CallsDIn Fence.wide 0 Tryz.prog 440 #[.pointer (some ⟨b, o, none⟩)] (.panicking [{ v := .iface 490 (.agg #[.int .i64 x, .int .i64 y, .int .i64 z]), recovered := false }]) w fun e u' w' => e = .returned (.tuple #[]) ∧
      u' = .panicking [{ v := .iface 490 (.agg #[.int .i64 x, .int .i64 y, .int .i64 z]), recovered := true }] ∧ w' = (w.setCells b o [.int .i64 x, .int .i64 y, .int .i64 z]).alloc (.cells #[.int .i64 x, .int .i64 y, .int .i64 z] 490) := by
  refine callsDIn_of_wpSIn Tryz.func440 rfl trivial fun c₀ cs hu => ?_
  simp only [Tryz.ntmps440, List.size_toArray, List.length_cons, List.length_nil, Nat.reduceAdd, Nat.reduceSub, Array.replicate_succ, Array.replicate_zero, List.push_toArray, List.append_toArray, List.nil_append, List.cons_append]
  apply wpSIn_seq
  apply wpSIn_region
  simp [wpOpsSIn, go_sem, recoverD, hu, Tryz.ntmps440, Exit.thenS]
  refine wpSIn_of_wpIn rfl ?_
  have hta := ta1 x y z
  have htb := ta2 x y z
  generalize hQ : bodyPostS Tryz.prog _ _ _ _ = Q
  have HQ := Lib.hid hQ
  clear hQ
  gi_wp2
  cases c₀
  rw [← HQ.out]
  simp_all [bodyPostS, results, Tryz.results440, World.setCells]
theorem stepAlloc {ri : Nat → Option Av.RInfo} {m : Av.M} {N : Av.Pos → Prop} {lim B : Nat} {H : Av.AH} {w : World} (h : Av.Rel ri m N N lim B H w) (ob : Obj) : Av.Step ri m N lim B H w m N H (w.alloc ob) :=
  ⟨h.world (fun b o hb ho => Av.getElem?_push_lt ((h.obj b o hb ho).lt)) (by rw [Av.alloc_size]; have := h.base; omega), Av.Agree.refl _ _, fun _ x => x, fun _ x => .inl x, (Below.refl _ _).alloc h.base _, fun _ _ x _ => x, Nat.le_refl _, Nat.le_refl _, fun x h1 h2 => absurd h2 (Nat.not_lt.2 h1), Av.Ext.refl _⟩
open Av in
noncomputable def dhR : DHook := fun lim xs u h k => Bool.rec (motive := fun _ => R CO) (.er [200]) ((lget xs 0).unPtr (fun b o => Option.rec (motive := fun _ => R CO) (k none h) (fun v => v.unIfc (fun t x =>
    Bool.rec (motive := fun _ => R CO) (.er [201]) (x.unAgg (fun l => (lget l 0).unInt (fun a => (lget l 1).unInt (fun b' => (lget l 2).unInt (fun c => Bool.rec (motive := fun _ => R CO) (.er [202]) (h.write lim b o [.int a, .int b', .int c] (fun h' => k none h')) (Nat.beq (llen l) 3)) (.er [202])) (.er [202])) (.er [202])) (.er [202])) (Nat.beq t 490)) (.er [201])) u) (.er [200])) (Nat.beq (llen xs) 1)
open Av in
theorem dhR_ok {ri : Nat → Option RInfo} : DhOK Tryz.prog ri 440 dhR := by
  intro m N lim B H w xs u k co hR hx hu h
  rcases bool_ok h with ⟨h1, h⟩ | ⟨_, h⟩
  · rw [llen_eq] at h1
    have h1 := beq_of h1
    match xs, h1, hx, h with
    | [a], _, hx, h =>
      rcases AV.unPtr_ok (show (lget [a] 0).unPtr _ _ = _ from h) with ⟨b, o, rfl, h⟩ | ⟨_, h⟩
      · refine ⟨run_callFunc Tryz.func440 rfl rfl, ?_⟩
        cases u with
        | none =>
          refine (run1_idle _ w).mono fun e u' w' hp => ?_
          obtain ⟨rfl, rfl, rfl⟩ := hp
          exact ⟨_, none, H, m, N, rfl, Step.refl hR, fun v hv => (by cases hv), rfl, h⟩
        | some v =>
          rcases AV.unIfc_ok (show AV.unIfc v _ _ = _ from h) with ⟨t, x, rfl, h⟩ | h
          · rcases bool_ok h with ⟨h2, h⟩ | ⟨_, h⟩
            · have h2 := beq_of h2
              subst h2
              rcases AV.unAgg_ok h with ⟨l, rfl, h⟩ | ⟨_, h⟩
              · rcases AV.unInt_ok h with ⟨a, e1, h⟩ | ⟨_, h⟩
                · rcases AV.unInt_ok h with ⟨b', e2, h⟩ | ⟨_, h⟩
                  · rcases AV.unInt_ok h with ⟨c, e3, h⟩ | ⟨_, h⟩
                    · rcases bool_ok h with ⟨h3, h⟩ | ⟨_, h⟩
                      · rw [llen_eq] at h3
                        have h3 := beq_of h3
                        match l, h3, e1, e2, e3 with
                        | [l0, l1, l2], _, e1, e2, e3 =>
                          cases (show l0 = _ from e1)
                          cases (show l1 = _ from e2)
                          cases (show l2 = _ from e3)
                          obtain ⟨l, ty, root, ab, g, birth, w1, w2, w3, w4⟩ := write_ok h
                          have hN : N b := hx.1
                          have hob := hR.obj b _ hN w1
                          have w3' : o + 3 ≤ l.length := w3
                          have g0 : w.cell? ⟨m.ad b, m.off b + o, none⟩ = some (conc m l[o]) := cell_of hob (List.getElem?_eq_getElem (by omega))
                          have g1 : w.cell? ⟨m.ad b, m.off b + o + 1, none⟩ = some (conc m l[o + 1]) := by rw [Nat.add_assoc]; exact cell_of hob (List.getElem?_eq_getElem (by omega))
                          have g2 : w.cell? ⟨m.ad b, m.off b + o + 2, none⟩ = some (conc m l[o + 2]) := by rw [Nat.add_assoc]; exact cell_of hob (List.getElem?_eq_getElem (by omega))
                          have y0 : w.frozen? ⟨m.ad b, m.off b + o, none⟩ = false := frozen_of hob (by omega)
                          have y1 : w.frozen? ⟨m.ad b, m.off b + o + 1, none⟩ = false := by rw [Nat.add_assoc]; exact frozen_of hob (by omega)
                          have y2 : w.frozen? ⟨m.ad b, m.off b + o + 2, none⟩ = false := by rw [Nat.add_assoc]; exact frozen_of hob (by omega)
                          refine CallsDIn.mono (run1_stop (m.ad b) (m.off b + o) a b' c w _ _ _ g0 g1 g2 y0 y1 y2 hob.lt) fun e u' w' hp => ?_
                          obtain ⟨rfl, rfl, rfl⟩ := hp
                          have s1 := Step.wrote hR (o := o) (vs := [.int a, .int b', .int c]) hN w1 w2 w3 (fun x hx => by
                            rcases List.mem_cons.1 hx with rfl | hx
                            · exact ⟨rfl, trivial⟩
                            · rcases List.mem_cons.1 hx with rfl | hx
                              · exact ⟨rfl, trivial⟩
                              · rcases List.mem_cons.1 hx with rfl | hx
                                · exact ⟨rfl, trivial⟩
                                · cases hx)
                          exact ⟨_, none, _, m, N, rfl, s1.trans (stepAlloc s1.rel _), fun v hv => (by cases hv), rfl, w4⟩
                      · cases h
                    · cases h
                  · cases h
                · cases h
              · cases h
            · cases h
          · cases h
      · cases h
  · cases h
end Go.Proofs.Seat4
end
section
namespace AvT
open Go Go.Proofs Av
open Go.Proofs.Seat8 (mtAV mtsOf esOf sortT ascT goodT textK chk mtCells)
section
variable {ri : Nat → Option RInfo} {m : M} {N : Pos → Prop} {lim B : Nat} {H : AH} {w w' : World}
theorem rel_newAt (h : Rel ri m N N lim B H w) {o : AObj} {g c : Nat} (hb : o.birth = H.cnt) (hr : ∀ l ty root ab g birth, o = .cells l ty root ab g birth → root = H.nx)
    (hw : RowKit.Below w.heap.size w w') (hg : w.heap.size ≤ g) (ho : LObj ri (m.set H.nx g 0 c) (more N H.nx) H.nx w' o) :
    Rel ri (m.set H.nx g 0 c) (more N H.nx) (more N H.nx) lim B (H.fresh o) w' := by
  have hnx := h.nx
  have ha : Agree N m (m.set H.nx g 0 c) := Agree.set hnx m _ _ _
  have hne : ∀ b, N b → b ≠ H.nx := fun b hb e => hnx (e ▸ hb)
  have hold : ∀ b x, N b → PT.get b (H.fresh o).bl = some x → PT.get b H.bl = some x := fun b x hb hx => by rwa [fresh_bl, if_neg (hne b hb)] at hx
  have hlt : ∀ b x, N b → PT.get b H.bl = some x → m.ad b < w.heap.size := fun b x hb hx => (h.obj b x hb hx).lt
  refine ⟨fun b hb => ?_, fun b hb => hb, fun b x hb hx => ?_, fun b x hb hx hl => ?_, fun b b' x x' hb hb' hx hx' hne' had => ?_, h.wf.fresh hb hr, ?_⟩
  · rw [fresh_nx, Pos.num_succ]
    rcases hb with hb | rfl
    · have := h.lt b hb; omega
    · omega
  · rcases hb with hb | rfl
    · have hx' := hold b x hb hx
      exact (h.obj b x hb hx').keep hb ha (fun _ y => .inl y) (hw.block _ (hlt b x hb hx'))
    · rw [fresh_bl, if_pos rfl] at hx
      cases hx
      exact ho
  · rcases hb with hb | rfl
    · rw [ha.ad b hb]
      exact h.perm b x hb (hold b x hb hx) hl
    · rw [M.set_ad]; exact Nat.le_trans h.base hg
  · rcases hb with hb | rfl
    · rcases hb' with hb' | rfl
      · rw [ha.ad b hb, ha.ad b' hb'] at had
        obtain ⟨l, ty, root, ab, g, birth, l', ty', ab', g', birth', f1, f2, f6⟩ := h.apart b b' x x' hb hb' (hold b x hb hx) (hold b' x' hb' hx') hne' had
        refine ⟨l, ty, root, ab, g, birth, l', ty', ab', g', birth', ?_, ?_, ?_⟩
        · rw [fresh_bl, if_neg (hne b hb)]; exact f1
        · rw [fresh_bl, if_neg (hne b' hb')]; exact f2
        · rw [ha.off b hb, ha.off b' hb']; exact f6
      · rw [ha.ad b hb, M.set_ad] at had
        have := hlt b x hb (hold b x hb hx)
        omega
    · rcases hb' with hb' | rfl
      · rw [ha.ad b' hb', M.set_ad] at had
        have := hlt b' x' hb' (hold b' x' hb' hx')
        omega
      · exact absurd rfl hne'
  · exact Nat.le_trans h.base hw.size
theorem step_newAt (h : Rel ri m N N lim B H w) {l : List AV} {ty gz g c : Nat} {cs : Array Value} {fz : Nat × Nat} (hw : RowKit.Below w.heap.size w w') (hg : w.heap.size ≤ g) (ho : w'.heap[g]? = some (.cells cs ty fz))
    (hcs : ∀ (i : Nat) (x : AV), l[i]? = some x → cs[i]? = some (conc m x)) (hl : ∀ x ∈ l, sc x = true ∧ okV m N x)
    (hfz : ∀ i, i < cs.size → ¬ (fz.1 ≤ i ∧ i < fz.2)) (hgz : gz ≠ 0 → c * gz ≤ cs.size ∧ l.length ≤ c * gz) :
    Step ri m N lim B H w (m.set H.nx g 0 c) (more N H.nx) (newCells H l ty gz) w' := by
  have ha : Agree N m (m.set H.nx g 0 c) := Agree.set h.nx m _ _ _
  rw [newCells_eq]
  have hrel := rel_newAt (g := g) (c := c) h (o := .cells l ty H.nx 0 gz H.cnt) rfl (fun _ _ _ _ _ _ e => by cases e; rfl) hw hg ⟨cs, fz, by rw [M.set_ad]; exact ho, fun i x hx => by rw [M.set_off, Nat.zero_add, hcs i x hx, conc_agree ha x (hl x (List.mem_of_getElem? hx)).2],
    fun x hx => ⟨(hl x hx).1, okV_agree ha (fun _ y => .inl y) x (hl x hx).2⟩, hfz, fun hg' => by rw [M.set_off, M.set_cap, Nat.zero_add]; exact hgz hg'⟩
  refine ⟨hrel, ha, fun x hx => .inl hx, fun x hx => ?_, ⟨hw.os, hw.tape, hw.output, hw.size, fun k hk => hw.block k (Nat.lt_of_lt_of_le hk h.base)⟩, Keep.fresh h.wf _ lim, ?_, ?_, fun x h1 h2 => ?_, Ext.fresh H rfl⟩
  · rcases hx with hx | rfl
    · exact .inl hx
    · exact .inr ⟨Nat.le_refl _, by rw [M.set_ad]; exact Nat.le_trans h.base hg⟩
  · rw [fresh_nx, Pos.num_succ]; omega
  · rw [fresh_cnt]; omega
  · rw [fresh_nx, Pos.num_succ] at h2
    exact .inr (Pos.num_inj (by omega))
end
theorem step_below {ri : Nat → Option RInfo} {m : M} {N : Pos → Prop} {lim B : Nat} {H : AH} {w w' : World} (h : Rel ri m N N lim B H w) (hw : RowKit.Below w.heap.size w w') : Step ri m N lim B H w m N H w' :=
  ⟨h.world (fun b o hb ho => hw.block _ ((h.obj b o hb ho).lt)) (Nat.le_trans h.base hw.size), Agree.refl _ _, fun _ x => x, fun _ x => .inl x, hw.mono h.base, fun _ _ x _ => x, Nat.le_refl _, Nat.le_refl _, fun x h1 h2 => absurd h2 (Nat.not_lt.2 h1), Ext.refl _⟩
noncomputable def hkS : Hook := fun _ xs h => List.rec (motive := fun _ => R CO) (.er [207]) (fun x r _ => List.rec (motive := fun _ => R CO) (x.unMap (.er [204]) (fun b => h.mapOf b (fun es clock _ =>
   Option.rec (motive := fun _ => R CO) (.er [209]) (fun ms => Bool.rec (motive := fun _ => R CO) (.er [206]) (.ok (.ret (.su h.nx 0 es.length 0) (newCells h ((sortT ms).flatMap mtAV) 34 5)))
     (band (Nat.beq clock es.length) (band (Nat.ble 1 es.length) (band (Nat.ble es.length 100) (ascT (sortT ms)))))) (esOf es 0)) (.er [203])) (.er [204])) (fun _ _ _ => .er [208]) r) xs
theorem hkS_ok {ri : Nat → Option RInfo} : HkOK Tryz.prog ri 42 hkS := by
  intro m N lim B H w xs co hR hx hk
  match xs, hx, hk with
  | [], _, hk => cases hk
  | _ :: _ :: _, _, hk => cases hk
  | [x], hx, hk =>
    change x.unMap _ _ _ = _ at hk
    rcases AV.unMap_ok hk with ⟨_, h⟩ | ⟨b, rfl, h⟩ | h
    · cases h
    · obtain ⟨es, clock, birth, hb, h⟩ := mapOf_ok h
      cases hes : esOf es 0 with
      | none => rw [hes] at h; cases h
      | some ms =>
        rw [hes] at h
        change Bool.rec (motive := fun _ => R CO) _ _ _ = _ at h
        cases ht : band (Nat.beq clock es.length) (band (Nat.ble 1 es.length) (band (Nat.ble es.length 100) (ascT (sortT ms)))) with
        | false => rw [ht] at h; cases h
        | true =>
          rw [ht] at h
          cases h
          obtain ⟨h1, ht⟩ := and_of ht
          obtain ⟨h2, ht⟩ := and_of ht
          obtain ⟨h3, h4⟩ := and_of ht
          have e1 := Nat.eq_of_beq_eq_true h1
          have e2 := Nat.le_of_ble_eq_true h2
          have e3 := Nat.le_of_ble_eq_true h3
          obtain ⟨d, g1, g2, g3⟩ := Go.Proofs.Seat8.esOf_ok m es 0 ms hes
          have hN : N b := hx.1
          have hobj := (hR.obj b _ hN hb).1
          rw [g1, e1] at hobj
          have hM : Go.Proofs.Seat4.MapIs w (m.ad b) (d.map Go.Proofs.Seat8.kmKV) := by
            show _ = some _
            rw [List.length_map, g3]
            exact hobj
          have hc := Go.Proofs.Seat8.sorted18 d (m.ad b) w hM (by omega)
          refine ⟨enters_of Tryz.func42 (by kernel_rfl) rfl _ _, callsIn_wide.2 (hc.mono fun e w' hp => ?_)⟩
          obtain ⟨v, D, rfl, p1, p2, p3, p6⟩ := hp
          rw [g2] at p1
          obtain rfl := Go.Proofs.Seat8.sorted_eq p1 p2 h4
          have hlen2 : (sortT ms).length = es.length := by
            rw [p1.length_eq, ← g2, List.length_map, g3]
          have hlen : ((sortT ms).flatMap mtAV).length = es.length * 5 := by
            rw [Go.Proofs.Seat8.flatN_len 5 _ (fun _ => rfl), hlen2]
          have hmap : (sortT ms).flatMap mtCells = ((sortT ms).flatMap mtAV).map (conc m) := by
            rw [List.map_flatMap]
            rfl
          rcases p3.2 with ⟨_, h0⟩ | ⟨g, cap, cur, rfl, q1, q2, q3, q4, q5, q6⟩
          · rw [List.length_map] at h0; omega
          · rw [List.length_map, g3] at q3 q6
            have hst := step_newAt hR (l := (sortT ms).flatMap mtAV) (ty := 34) (gz := 5) (c := cap) p6 q1 q2 (fun i x hi => ?_) (fun x hi => ?_) (fun i _ => by simp) (fun _ => ⟨by omega, by rw [hlen]; omega⟩)
            · refine ⟨_, _, hst, ⟨.inr rfl, ?_⟩, ?_⟩
              · rw [M.set_cap]; omega
              · simp only [conc, M.set_ad, M.set_off, M.set_cap, List.length_map, g3, Nat.sub_zero]
            · have hi' : i < es.length * 5 := by rw [← hlen]; exact (List.getElem?_eq_some_iff.1 hi).1
              have q7 : (cur.toList.take (es.length * 5))[i]? = some (conc m x) := by rw [q6, hmap, List.getElem?_map, hi]; rfl
              rw [List.getElem?_take, if_pos hi', Array.getElem?_toList] at q7
              exact q7
            · obtain ⟨a, _, ha⟩ := List.mem_flatMap.1 hi
              simp only [mtAV, List.mem_cons, List.not_mem_nil, or_false] at ha
              rcases ha with rfl | rfl | rfl | rfl | rfl <;> exact ⟨rfl, trivial⟩
    · cases h
noncomputable def goP (h : AH) (b : Pos) (o n : Nat) (q : Bool) : R CO := h.read b o (n * 5) fun l => Option.rec (motive := fun _ => R CO) (.er [215]) (fun ms => Bool.rec (motive := fun _ => R CO) (.er [216]) (.ok (.ret (.tup [.str (textK ms), .int (.ofNat 0)]) h))
   (band q (band (Nat.beq ms.length n) (band (Nat.ble n 100) (band (Nat.ble (textK ms).length 1000000) (band (goodT ms) (decide (chk ms = 0)))))))) (mtsOf l)
noncomputable def hkP : Hook := fun _ xs h => List.rec (motive := fun _ => R CO) (.er [217]) (fun x r _ => List.rec (motive := fun _ => R CO) (x.unSl (.er [214]) (fun b o n c => goP h b o n (Nat.ble n c)) (fun b o n _ => goP h b o n true) (.er [214])) (fun _ _ _ => .er [218]) r) xs
theorem goP_ok {ri : Nat → Option RInfo} {m : M} {N : Pos → Prop} {lim B : Nat} {H : AH} {w : World} {co : CO} {b : Pos} {o n : Nat} {q : Bool} (hR : Rel ri m N N lim B H w) (hN : N b) (h : goP H b o n q = .ok co) (cap : Nat) (hq : q = true → n ≤ cap) :
    CallsIn Fence.wide 0 Tryz.prog 7 #[.slice (some ⟨m.ad b, m.off b + o, none⟩) n cap] w (CoR ri m N lim B H w co) := by
  obtain ⟨l, ty, root, ab, g, birth, hb, h1, h, h2⟩ := read_ok h
  cases hms : mtsOf ((l.drop o).take (n * 5)) with
  | none => rw [hms] at h; cases h
  | some ms =>
    rw [hms] at h
    change Bool.rec (motive := fun _ => R CO) _ _ _ = _ at h
    cases ht : band q (band (Nat.beq ms.length n) (band (Nat.ble n 100) (band (Nat.ble (textK ms).length 1000000) (band (goodT ms) (decide (chk ms = 0)))))) with
    | false => rw [ht] at h; cases h
    | true =>
      rw [ht] at h
      cases h
      obtain ⟨t1, ht⟩ := and_of ht
      obtain ⟨t2, ht⟩ := and_of ht
      obtain ⟨t3, ht⟩ := and_of ht
      obtain ⟨t4, ht⟩ := and_of ht
      obtain ⟨t5, t6⟩ := and_of ht
      have e1 := Nat.eq_of_beq_eq_true t2
      have e2 := Nat.le_of_ble_eq_true t3
      have e3 := Nat.le_of_ble_eq_true t4
      have e4 := of_decide_eq_true t6
      have hl := Go.Proofs.Seat8.mtsOf_ok _ _ hms
      rw [Go.Proofs.Seat8.textK_eq t5] at e3 ⊢
      obtain ⟨cs, fz, c1, c2, c3, c4, c5⟩ := hR.obj b _ hN hb
      have hbl : m.ad b < w.heap.size := (Array.getElem?_eq_some_iff.1 c1).1
      have hrow : Go.Proofs.Seat8.LAt Go.Proofs.Seat8.ME w (m.ad b) (m.off b + o) ms := by
        refine Go.Proofs.Seat8.lAt_of_row fun t v hv => ?_
        have hlen : (Go.Proofs.Seat8.ME.all ms).length = n * 5 := by rw [Go.Proofs.Seat8.Enc.all_len, e1]; rfl
        have ht' : t < n * 5 := by rw [← hlen]; exact (List.getElem?_eq_some_iff.1 hv).1
        have hmap : Go.Proofs.Seat8.ME.all ms = (ms.flatMap mtAV).map (conc m) := by
          rw [List.map_flatMap]
          rfl
        rw [hmap, List.getElem?_map] at hv
        obtain ⟨x, hx, rfl⟩ := Option.map_eq_some_iff.1 hv
        have hx' : l[o + t]? = some x := by
          rw [← hx, ← hl, List.getElem?_take, if_pos ht', List.getElem?_drop]
        have hc := c2 (o + t) _ hx'
        simp only [World.cell?, c1, Nat.add_assoc, hc]
        rfl
      have hcon := Go.Proofs.Seat8.print16 ms (m.ad b) (m.off b + o) cap w hbl (by omega) (by have := hq t1; omega) hrow e4 e3 (fun x hx k hk => Go.Proofs.Seat8.itoaAt_small (Go.Proofs.Seat8.goodT_ok t5 x hx k hk) w)
      rw [e1] at hcon
      refine callsIn_wide.2 (hcon.mono fun e w' hp => ?_)
      obtain ⟨rfl, hbw⟩ := hp
      exact ⟨m, N, step_below hR hbw, ⟨trivial, trivial, trivial⟩, rfl⟩
theorem hkP_ok {ri : Nat → Option RInfo} : HkOK Tryz.prog ri 7 hkP := by
  intro m N lim B H w xs co hR hx hk
  match xs, hx, hk with
  | [], _, hk => cases hk
  | _ :: _ :: _, _, hk => cases hk
  | [x], hx, hk =>
    change x.unSl _ _ _ _ = _ at hk
    rcases AV.unSl_ok hk with ⟨_, h⟩ | ⟨b, o, n, c, rfl, h⟩ | ⟨b, o, n, c, rfl, h⟩ | h
    · cases h
    · exact ⟨enters_of Tryz.func7 (by kernel_rfl) rfl _ _, goP_ok hR hx.1 h c fun hq => Nat.le_of_ble_eq_true hq⟩
    · refine ⟨enters_of Tryz.func7 (by kernel_rfl) rfl _ _, goP_ok hR hx.1.1 h _ fun _ => ?_⟩
      have := hx.1.2
      omega
    · cases h
theorem hks_ok {ri : Nat → Option RInfo} : ∀ x ∈ [(42, hkS), (7, hkP)], HkOK Tryz.prog ri x.1 x.2 := fun x hx => by
  rcases List.mem_cons.1 hx with rfl | hx
  · exact hkS_ok
  · cases List.mem_singleton.1 hx
    exact hkP_ok
end AvT
end
section
namespace Go.Proofs.Seat8
open Go
theorem goes_none {P : Program} (h : P.funcs.any Func.goes = false) (f : FuncId) : P.goes f = false := by
  unfold Program.goes
  rw [h, Bool.and_false, Bool.or_false, List.any_eq_false]
  intro g _ hg
  cases hf : P.funcs[g]? with
  | none => rw [hf] at hg; cases hg
  | some fn =>
    rw [hf] at hg
    have h1 : P.funcs.any Func.goes = true := Array.any_eq_true'.2 ⟨fn, Array.mem_of_getElem? hf, hg⟩
    rw [h] at h1
    cases h1
theorem goesBy_none {P : Program} (c : OpenClaim) (h : P.funcs.any Func.goes = false) : false = c.goesBy P := by
  have hg : P.goes = fun _ => false := funext (goes_none h)
  unfold OpenClaim.goesBy Program.goesAt Program.goesFrom
  rw [hg]
  cases P.funcNamed c.func <;> cases c.start <;> simp
end Go.Proofs.Seat8
end

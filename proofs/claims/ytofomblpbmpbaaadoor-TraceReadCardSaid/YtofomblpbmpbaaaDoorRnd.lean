/- A region that draws its order within a round of a range over a function: one operation at a time. -/
import Derived.Test.YtofomblpbmpbaaaDoorRgl
import Derived.OrdersIn
namespace Go.Proofs.YtofomblpbmpbaaaDoor
open Go.RowKit Go.Shelf
section
variable {P : Program} {ops : Array Oper} {Q : Exit → Act → World → Prop}
def OnePost (a : Act) (dst : Option Tmp) (v : Value) (w1 : World) : Exit → Act → World → Prop := fun e a' w' => e = .normal ∧ a' = a.put dst v ∧ w' = w1
theorem wpOpIn_of_list {l n i : Nat} {o : Oper} {a : Act} {w w1 : World} {v : Value} {K : Act → World → Prop} (hi : ops[i]? = some o) (hd : ∀ c, o.op ≠ .defer c) (hg : o.guard = none)
    (h : wpList P ops (OnePost a o.dst v w1) [o] a w) (hK : K (a.put o.dst v) w1) : wpOpIn (Fence.wide.inRound l) n P ops Q i K a w := by
  have hw : Region.wanted o (yielded ops a.tmps) = true := by simp [Region.wanted, hg]
  unfold wpOpIn
  rw [hi]
  simp only [hw, if_true]
  unfold wpList at h
  rw [if_pos hw] at h
  rcases h with h | ⟨-, a', w', h⟩
  · unfold Oper.wpIn
    refine ⟨fun _ _ => trivial, ?_⟩
    rw [show (Fence.wide.inRound l).round = some l from rfl, Oper.semAt_some l a.eval o hd]
    unfold Oper.wp at h
    generalize (execOp a.eval o).run P w = r at h ⊢
    have fin : ∀ a' w', OnePost a o.dst v w1 .normal a' w' → K a' w' := fun a' w' h => by
      obtain ⟨-, rfl, rfl⟩ := h
      exact hK
    cases r with
    | ok x w' =>
      cases x with
      | value u => exact fin _ _ h
      | skip => exact fin _ _ h
      | defer d => exact fin _ _ h
      | enter f args =>
        refine ⟨fun h => absurd h (show ¬ false = true by decide), CallsIn.inRound l (callsIn_wide.2 (Calls.mono h fun e w'' he => ?_))⟩
        cases e with
        | returned u => exact fin _ _ he
        | panicked ch => cases he.1
        | outgrown => obtain ⟨a', w', hh⟩ := he; cases hh.1
      | row row args =>
        refine ⟨fun h => absurd h (show ¬ false = true by decide), fun c cs _ => ?_⟩
        obtain ⟨u, w'', hr, hs⟩ := h c cs
        exact ⟨u, w'', fin _ _ hr, stepsIn_wide.2 hs⟩
      | _ => exact h.elim
    | halt x w' =>
      cases x with
      | panic u => cases h.1
      | _ => exact h.elim
  · cases h.1
theorem wpAnyIn_step {F : Fence} {n fuel : Nat} {listed : Array Bool} {a : Act} {w : World} {rs : List Nat} (hr : Region.ready .any ops listed = rs) (hne : rs ≠ []) (h : ∀ i ∈ rs, wpOpIn F n P ops Q i (wpAnyIn F n P .any ops Q fuel (listed.setIfInBounds i true)) a w) : wpAnyIn F n P .any ops Q (fuel + 1) listed a w :=
  ⟨fun e => absurd (hr.symm.trans e) hne, fun i hi => h i (hr ▸ hi)⟩
theorem wpAnyIn_end {F : Fence} {n : Nat} {listed : Array Bool} {a : Act} {w : World} (hr : Region.ready .any ops listed = []) (h : Q .normal a w) : wpAnyIn F n P .any ops Q 0 listed a w := ⟨hr, h⟩
theorem put_none (a : Act) (v : Value) : a.put none v = a := rfl
/-- Two operations that make a value, a store that may come before, between or behind them, and two stores behind all: every order comes to one end. -/
theorem region5 {l n : Nat} {o0 o1 o2 o3 o4 : Oper} {d0 d1 : Option Tmp} {a : Act} {W Wa Wb Wc : World} {v0 v1 : Value} (hops : ops = #[o0, o1, o2, o3, o4])
    (r0 : Region.ready .any ops #[false, false, false, false, false] = [0, 2]) (r1 : Region.ready .any ops #[true, false, false, false, false] = [1, 2]) (r2 : Region.ready .any ops #[false, false, true, false, false] = [0])
    (r3 : Region.ready .any ops #[true, true, false, false, false] = [2]) (r4 : Region.ready .any ops #[true, false, true, false, false] = [1]) (r5 : Region.ready .any ops #[true, true, true, false, false] = [3])
    (r6 : Region.ready .any ops #[true, true, true, true, false] = [4]) (r7 : Region.ready .any ops #[true, true, true, true, true] = [])
    (hd : ∀ o ∈ ops.toList, (∀ c, o.op ≠ .defer c) ∧ o.guard = none) (e0 : o0.dst = d0) (e1 : o1.dst = d1) (e2 : o2.dst = none) (e3 : o3.dst = none) (e4 : o4.dst = none)
    (s0 : ∀ V, V = W ∨ V = Wa → wpList P ops (OnePost a d0 v0 V) [o0] a V) (s1 : ∀ V, V = W ∨ V = Wa → wpList P ops (OnePost (a.put d0 v0) d1 v1 V) [o1] (a.put d0 v0) V)
    (s2 : ∀ b, b = a ∨ b = a.put d0 v0 ∨ b = (a.put d0 v0).put d1 v1 → wpList P ops (OnePost b none undef Wa) [o2] b W) (s3 : wpList P ops (OnePost ((a.put d0 v0).put d1 v1) none undef Wb) [o3] ((a.put d0 v0).put d1 v1) Wa)
    (s4 : wpList P ops (OnePost ((a.put d0 v0).put d1 v1) none undef Wc) [o4] ((a.put d0 v0).put d1 v1) Wb) (hQ : Q .normal ((a.put d0 v0).put d1 v1) Wc) :
    wpAnyIn (Fence.wide.inRound l) n P .any ops Q ops.size (Array.replicate ops.size false) a W := by
  have hsz : ops.size = 5 := by rw [hops]; rfl
  have i0 : ops[0]? = some o0 := by rw [hops]; rfl
  have i1 : ops[1]? = some o1 := by rw [hops]; rfl
  have i2 : ops[2]? = some o2 := by rw [hops]; rfl
  have i3 : ops[3]? = some o3 := by rw [hops]; rfl
  have i4 : ops[4]? = some o4 := by rw [hops]; rfl
  have k0 := hd o0 (by rw [hops]; simp)
  have k1 := hd o1 (by rw [hops]; simp)
  have k2 := hd o2 (by rw [hops]; simp)
  have k3 := hd o3 (by rw [hops]; simp)
  have k4 := hd o4 (by rw [hops]; simp)
  rw [hsz, show Array.replicate 5 false = #[false, false, false, false, false] from rfl]
  have t3 : wpAnyIn (Fence.wide.inRound l) n P .any ops Q 2 #[true, true, true, false, false] ((a.put d0 v0).put d1 v1) Wa := by
    refine wpAnyIn_step r5 (by simp) fun i hi => ?_
    obtain rfl : i = 3 := by simpa using hi
    refine wpOpIn_of_list i3 k3.1 k3.2 (by rw [e3]; exact s3) ?_
    rw [e3, put_none]
    refine wpAnyIn_step r6 (by simp) fun i hi => ?_
    obtain rfl : i = 4 := by simpa using hi
    refine wpOpIn_of_list i4 k4.1 k4.2 (by rw [e4]; exact s4) ?_
    rw [e4, put_none]
    exact wpAnyIn_end r7 hQ
  refine wpAnyIn_step r0 (by simp) fun i hi => ?_
  have hi' : i = 0 ∨ i = 2 := by simpa using hi
  rcases hi' with rfl | rfl
  · refine wpOpIn_of_list i0 k0.1 k0.2 (by rw [e0]; exact s0 W (.inl rfl)) ?_
    rw [e0]
    refine wpAnyIn_step r1 (by simp) fun i hi => ?_
    have hi' : i = 1 ∨ i = 2 := by simpa using hi
    rcases hi' with rfl | rfl
    · refine wpOpIn_of_list i1 k1.1 k1.2 (by rw [e1]; exact s1 W (.inl rfl)) ?_
      rw [e1]
      refine wpAnyIn_step r3 (by simp) fun i hi => ?_
      obtain rfl : i = 2 := by simpa using hi
      refine wpOpIn_of_list i2 k2.1 k2.2 (by rw [e2]; exact s2 _ (.inr (.inr rfl))) ?_
      rw [e2, put_none]
      exact t3
    · refine wpOpIn_of_list i2 k2.1 k2.2 (by rw [e2]; exact s2 _ (.inr (.inl rfl))) ?_
      rw [e2, put_none]
      refine wpAnyIn_step r4 (by simp) fun i hi => ?_
      obtain rfl : i = 1 := by simpa using hi
      refine wpOpIn_of_list i1 k1.1 k1.2 (by rw [e1]; exact s1 Wa (.inr rfl)) ?_
      rw [e1]
      exact t3
  · refine wpOpIn_of_list i2 k2.1 k2.2 (by rw [e2]; exact s2 _ (.inl rfl)) ?_
    rw [e2, put_none]
    refine wpAnyIn_step r2 (by simp) fun i hi => ?_
    obtain rfl : i = 0 := by simpa using hi
    refine wpOpIn_of_list i0 k0.1 k0.2 (by rw [e0]; exact s0 Wa (.inr rfl)) ?_
    rw [e0]
    refine wpAnyIn_step r4 (by simp) fun i hi => ?_
    obtain rfl : i = 1 := by simpa using hi
    refine wpOpIn_of_list i1 k1.1 k1.2 (by rw [e1]; exact s1 Wa (.inr rfl)) ?_
    rw [e1]
    exact t3
end
end Go.Proofs.YtofomblpbmpbaaaDoor

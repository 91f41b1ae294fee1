/- A part of the proof that nurserylaw36.HappensBefore returns true for every input. -/
import Derived.Test.YtbaakaaimolagaaGreatDoorProg
import Derived.Test.YtbaakaaimolagaaGreatDoorAvd
import Derived.Tactics
import Derived.Tactics2
import Derived.Defers
import Derived.Recover
import Derived.Laws.Pointers
import Derived.TacticsInMore
import Derived.RegionIn
import Derived.LoopNIn
import Derived.RecoverIn
import Derived.KernelRfl
import Derived.Lib.Hide
namespace Go.Proofs.Seat4
open Go.RowKit
open Go.Proofs
set_option maxHeartbeats 800000 in
theorem run1_idle (p : Addr) (w : World) :
    CallsDIn Fence.wide 0 Tryz.prog 345 #[.pointer (some p)] .returning w fun e u' w' => e = .returned (.tuple #[]) ∧ u' = .returning ∧ w' = w := by
  refine callsDIn_of_wpSIn Tryz.func345 rfl trivial fun c₀ cs hu => ?_
  simp only [Tryz.ntmps345, List.size_toArray, List.length_cons, List.length_nil, Nat.reduceAdd, Nat.reduceSub, Array.replicate_succ, Array.replicate_zero, List.push_toArray, List.append_toArray, List.nil_append, List.cons_append]
  apply wpSIn_seq
  apply wpSIn_region
  simp [wpOpsSIn, go_sem, recoverD, hu, Tryz.ntmps345, Exit.thenS]
  refine wpSIn_of_wpIn rfl ?_
  gi_wp2
  cases c₀
  simp_all [bodyPostS, results, Tryz.results345]
theorem ta1 (x y z : Int) (w : World) : (Instr.typeAssert (.iface 425 (.agg #[.int .i64 x, .int .i64 y, .int .i64 z])) 20 423 true).run Tryz.prog w = .ok (.tuple #[.int .i64 0, .bool false]) w := by kernel_rfl
theorem ta2 (x y z : Int) (w : World) : (Instr.typeAssert (.iface 425 (.agg #[.int .i64 x, .int .i64 y, .int .i64 z])) 20 425 true).run Tryz.prog w = .ok (.tuple #[.agg #[.int .i64 x, .int .i64 y, .int .i64 z], .bool true]) w := by kernel_rfl
set_option maxHeartbeats 800000 in
theorem run1_stop (b o : Nat) (x y z : Int) (w : World) (v0 v1 v2 : Value) (h0 : w.cell? ⟨b, o, none⟩ = some v0) (h1 : w.cell? ⟨b, o + 1, none⟩ = some v1) (h2 : w.cell? ⟨b, o + 2, none⟩ = some v2)
    (z0 : w.frozen? ⟨b, o, none⟩ = false) (z1 : w.frozen? ⟨b, o + 1, none⟩ = false) (z2 : w.frozen? ⟨b, o + 2, none⟩ = false) (hb : b < w.heap.size) :
    CallsDIn Fence.wide 0 Tryz.prog 345 #[.pointer (some ⟨b, o, none⟩)] (.panicking [{ v := .iface 425 (.agg #[.int .i64 x, .int .i64 y, .int .i64 z]), recovered := false }]) w fun e u' w' => e = .returned (.tuple #[]) ∧
      u' = .panicking [{ v := .iface 425 (.agg #[.int .i64 x, .int .i64 y, .int .i64 z]), recovered := true }] ∧ w' = (w.setCells b o [.int .i64 x, .int .i64 y, .int .i64 z]).alloc (.cells #[.int .i64 x, .int .i64 y, .int .i64 z] 425) := by
  refine callsDIn_of_wpSIn Tryz.func345 rfl trivial fun c₀ cs hu => ?_
  simp only [Tryz.ntmps345, List.size_toArray, List.length_cons, List.length_nil, Nat.reduceAdd, Nat.reduceSub, Array.replicate_succ, Array.replicate_zero, List.push_toArray, List.append_toArray, List.nil_append, List.cons_append]
  apply wpSIn_seq
  apply wpSIn_region
  simp [wpOpsSIn, go_sem, recoverD, hu, Tryz.ntmps345, Exit.thenS]
  refine wpSIn_of_wpIn rfl ?_
  have hta := ta1 x y z
  have htb := ta2 x y z
  generalize hQ : bodyPostS Tryz.prog _ _ _ _ = Q
  have HQ := Lib.hid hQ
  clear hQ
  gi_wp2
  cases c₀
  rw [← HQ.out]
  simp_all [bodyPostS, results, Tryz.results345, World.setCells]
theorem stepAlloc {ri : Nat → Option Av.RInfo} {m : Av.M} {N : Av.Pos → Prop} {lim B : Nat} {H : Av.AH} {w : World} (h : Av.Rel ri m N N lim B H w) (ob : Obj) : Av.Step ri m N lim B H w m N H (w.alloc ob) :=
  ⟨h.world (fun b o hb ho => Av.getElem?_push_lt ((h.obj b o hb ho).lt)) (by rw [Av.alloc_size]; have := h.base; omega), Av.Agree.refl _ _, fun _ x => x, fun _ x => .inl x, (Below.refl _ _).alloc h.base _, fun _ _ x _ => x, Nat.le_refl _, Nat.le_refl _, fun x h1 h2 => absurd h2 (Nat.not_lt.2 h1), Av.Ext.refl _⟩
open Av in
/-- what the deferred closure of a runner does: it catches what is thrown to stop -/
noncomputable def dhR : DHook := fun lim xs u h k => Bool.rec (motive := fun _ => R CO) (.er [200]) ((lget xs 0).unPtr (fun b o => Option.rec (motive := fun _ => R CO) (k none h) (fun v => v.unIfc (fun t x =>
    Bool.rec (motive := fun _ => R CO) (.er [201]) (x.unAgg (fun l => (lget l 0).unInt (fun a => (lget l 1).unInt (fun b' => (lget l 2).unInt (fun c => Bool.rec (motive := fun _ => R CO) (.er [202]) (h.write lim b o [.int a, .int b', .int c] (fun h' => k none h')) (Nat.beq (llen l) 3)) (.er [202])) (.er [202])) (.er [202])) (.er [202])) (Nat.beq t 425)) (.er [201])) u) (.er [200])) (Nat.beq (llen xs) 1)
open Av in
theorem dhR_ok {ri : Nat → Option RInfo} : DhOK Tryz.prog ri 345 dhR := by
  intro m N lim B H w xs u k co hR hx hu h
  rcases bool_ok h with ⟨h1, h⟩ | ⟨_, h⟩
  · rw [llen_eq] at h1
    have h1 := beq_of h1
    match xs, h1, hx, h with
    | [a], _, hx, h =>
      rcases AV.unPtr_ok (show (lget [a] 0).unPtr _ _ = _ from h) with ⟨b, o, rfl, h⟩ | ⟨_, h⟩
      · refine ⟨run_callFunc Tryz.func345 rfl rfl, ?_⟩
        cases u with
        | none =>
          refine (run1_idle _ w).mono fun e u' w' hp => ?_
          obtain ⟨rfl, rfl, rfl⟩ := hp
          exact ⟨_, none, H, m, N, rfl, Step.refl hR, fun v hv => (by cases hv), rfl, h⟩
        | some v =>
          rcases AV.unIfc_ok (show AV.unIfc v _ _ = _ from h) with ⟨t, x, rfl, h⟩ | h
          · rcases bool_ok h with ⟨h2, h⟩ | ⟨_, h⟩
            · have h2 := beq_of h2
              subst h2
              rcases AV.unAgg_ok h with ⟨l, rfl, h⟩ | ⟨_, h⟩
              · rcases AV.unInt_ok h with ⟨a, e1, h⟩ | ⟨_, h⟩
                · rcases AV.unInt_ok h with ⟨b', e2, h⟩ | ⟨_, h⟩
                  · rcases AV.unInt_ok h with ⟨c, e3, h⟩ | ⟨_, h⟩
                    · rcases bool_ok h with ⟨h3, h⟩ | ⟨_, h⟩
                      · rw [llen_eq] at h3
                        have h3 := beq_of h3
                        match l, h3, e1, e2, e3 with
                        | [l0, l1, l2], _, e1, e2, e3 =>
                          cases (show l0 = _ from e1)
                          cases (show l1 = _ from e2)
                          cases (show l2 = _ from e3)
                          obtain ⟨l, ty, root, ab, g, birth, w1, w2, w3, w4⟩ := write_ok h
                          have hN : N b := hx.1
                          have hob := hR.obj b _ hN w1
                          have w3' : o + 3 ≤ l.length := w3
                          have g0 : w.cell? ⟨m.ad b, m.off b + o, none⟩ = some (conc m l[o]) := cell_of hob (List.getElem?_eq_getElem (by omega))
                          have g1 : w.cell? ⟨m.ad b, m.off b + o + 1, none⟩ = some (conc m l[o + 1]) := by rw [Nat.add_assoc]; exact cell_of hob (List.getElem?_eq_getElem (by omega))
                          have g2 : w.cell? ⟨m.ad b, m.off b + o + 2, none⟩ = some (conc m l[o + 2]) := by rw [Nat.add_assoc]; exact cell_of hob (List.getElem?_eq_getElem (by omega))
                          have y0 : w.frozen? ⟨m.ad b, m.off b + o, none⟩ = false := frozen_of hob (by omega)
                          have y1 : w.frozen? ⟨m.ad b, m.off b + o + 1, none⟩ = false := by rw [Nat.add_assoc]; exact frozen_of hob (by omega)
                          have y2 : w.frozen? ⟨m.ad b, m.off b + o + 2, none⟩ = false := by rw [Nat.add_assoc]; exact frozen_of hob (by omega)
                          refine CallsDIn.mono (run1_stop (m.ad b) (m.off b + o) a b' c w _ _ _ g0 g1 g2 y0 y1 y2 hob.lt) fun e u' w' hp => ?_
                          obtain ⟨rfl, rfl, rfl⟩ := hp
                          have s1 := Step.wrote hR (o := o) (vs := [.int a, .int b', .int c]) hN w1 w2 w3 (fun x hx => by
                            rcases List.mem_cons.1 hx with rfl | hx
                            · exact ⟨rfl, trivial⟩
                            · rcases List.mem_cons.1 hx with rfl | hx
                              · exact ⟨rfl, trivial⟩
                              · rcases List.mem_cons.1 hx with rfl | hx
                                · exact ⟨rfl, trivial⟩
                                · cases hx)
                          exact ⟨_, none, _, m, N, rfl, s1.trans (stepAlloc s1.rel _), fun v hv => (by cases hv), rfl, w4⟩
                      · cases h
                    · cases h
                  · cases h
                · cases h
              · cases h
            · cases h
          · cases h
      · cases h
  · cases h
end Go.Proofs.Seat4

import Derived.Test.YtofomblpbmpbaaaDoorRef3
import Derived.Test.YtofomblpbmpbaaaDoorDec
import Derived.Test.YtofomblpbmpbaaaDoorDet
import Derived.Maps.RangeWalk
namespace Go.Proofs.YtofomblpbmpbaaaDoor
open Go.RowKit
def fieldB (name : List UInt8) (n missing : Int) : List UInt8 := if n = missing then [] else 32 :: (name ++ 61 :: Lib.itoa n)
/-- The text of an event. -/
def textB (e : Ev) : List UInt8 := Lib.itoa e.step ++ 32 :: (Lib.itoa e.time ++ 32 :: (Lib.itoa e.task ++ 32 :: (wordOf e.kind ++ (fieldB [111, 98, 106, 101, 99, 116] e.object (-1) ++ (fieldB [115, 99, 111, 112, 101] e.scope (-1) ++ (fieldB [118, 97, 108, 117, 101] e.value 0 ++ fieldB [111, 116, 104, 101, 114] e.other (-1)))))))
theorem box_step {w W W' : World} {B : Nat} {x0 x1 x2 x3 : Value} (h : W.cell? ⟨B, 0, none⟩ = some x0 ∧ W.cell? ⟨B, 1, none⟩ = some x1 ∧ W.cell? ⟨B, 2, none⟩ = some x2 ∧ W.cell? ⟨B, 3, none⟩ = some x3 ∧ B < W.heap.size ∧ Below B w W) (hb : Below W.heap.size W W') :
    W'.cell? ⟨B, 0, none⟩ = some x0 ∧ W'.cell? ⟨B, 1, none⟩ = some x1 ∧ W'.cell? ⟨B, 2, none⟩ = some x2 ∧ W'.cell? ⟨B, 3, none⟩ = some x3 ∧ B < W'.heap.size ∧ Below B w W' := by
  obtain ⟨h0, h1, h2, h3, h4, h5⟩ := h
  have hs := hb.size
  exact ⟨(hb.cell (p := ⟨B, 0, none⟩) h4).trans h0, (hb.cell (p := ⟨B, 1, none⟩) h4).trans h1, (hb.cell (p := ⟨B, 2, none⟩) h4).trans h2, (hb.cell (p := ⟨B, 3, none⟩) h4).trans h3, by omega, h5.trans (hb.mono (by omega))⟩
structure EvOk (v : Ev) : Prop where
  word : wordOf v.kind ≠ []
  s0 : 1 ≤ v.step
  s1 : v.step ≤ 2000
  t0 : 0 ≤ v.time
  t1 : v.time ≤ 1099511627776
  k0 : -1 ≤ v.task
  k1 : v.task ≤ 15
  o0 : -1 ≤ v.object
  o1 : v.object ≤ 15
  c0 : -1 ≤ v.scope
  c1 : v.scope ≤ 31
  v0 : -1099511627776 ≤ v.value
  v1 : v.value ≤ 1099511627776
  r0 : -1 ≤ v.other
  r1 : v.other ≤ 99
theorem evOk_of {v : Ev} (h : evErr v = 0) : EvOk v := by
  unfold evErr at h
  split at h
  · cases h
  · rename_i hw
    split at h
    · rename_i hr
      simp only [rangesB, inB, Bool.and_eq_true, decide_eq_true_eq] at hr
      obtain ⟨⟨⟨⟨⟨⟨⟨a, b⟩, c, d⟩, e, f⟩, g, h⟩, i, j⟩, k, l⟩, m, n⟩ := hr
      exact ⟨hw, a, b, c, d, e, f, g, h, i, j, k, l, m, n⟩
    · cases h
theorem word_len (k : Int) : (wordOf k).length ≤ 12 := by
  have hall : ∀ p ∈ wordsL, p.2.length ≤ 12 := by decide
  unfold wordOf
  cases hf : wordsL.find? (fun p => p.1 == k) with
  | none => simp
  | some p => exact hall p (List.mem_of_find?_eq_some hf)
theorem row8 {w : World} {b : Nat} {v : Ev} (c0 : w.cell? ⟨b, 0, none⟩ = some (.int .i64 v.step)) (c1 : w.cell? ⟨b, 1, none⟩ = some (.int .i64 v.time)) (c2 : w.cell? ⟨b, 2, none⟩ = some (.int .i64 v.task)) (c3 : w.cell? ⟨b, 3, none⟩ = some (.int .i64 v.kind))
    (c4 : w.cell? ⟨b, 4, none⟩ = some (.int .i64 v.object)) (c5 : w.cell? ⟨b, 5, none⟩ = some (.int .i64 v.scope)) (c6 : w.cell? ⟨b, 6, none⟩ = some (.int .i64 v.value)) (c7 : w.cell? ⟨b, 7, none⟩ = some (.int .i64 v.other)) : Row w b 0 (evCells v) := by
  intro j u hj
  match j, hj with
  | 0, hj => cases hj; exact c0
  | 1, hj => cases hj; exact c1
  | 2, hj => cases hj; exact c2
  | 3, hj => cases hj; exact c3
  | 4, hj => cases hj; exact c4
  | 5, hj => cases hj; exact c5
  | 6, hj => cases hj; exact c6
  | 7, hj => cases hj; exact c7
  | j + 8, hj => simp [evCells] at hj
theorem row8_of {w : World} {b : Nat} {v : Ev} (h : Row w b 0 (evCells v)) : w.cell? ⟨b, 0, none⟩ = some (.int .i64 v.step) ∧ w.cell? ⟨b, 1, none⟩ = some (.int .i64 v.time) ∧ w.cell? ⟨b, 2, none⟩ = some (.int .i64 v.task) ∧ w.cell? ⟨b, 3, none⟩ = some (.int .i64 v.kind) ∧
    w.cell? ⟨b, 4, none⟩ = some (.int .i64 v.object) ∧ w.cell? ⟨b, 5, none⟩ = some (.int .i64 v.scope) ∧ w.cell? ⟨b, 6, none⟩ = some (.int .i64 v.value) ∧ w.cell? ⟨b, 7, none⟩ = some (.int .i64 v.other) := by
  have h' : ∀ j u, (evCells v)[j]? = some u → w.cell? ⟨b, j, none⟩ = some u := fun j u hj => by have := h j u hj; rwa [Nat.zero_add] at this
  exact ⟨h' 0 _ rfl, h' 1 _ rfl, h' 2 _ rfl, h' 3 _ rfl, h' 4 _ rfl, h' 5 _ rfl, h' 6 _ rfl, h' 7 _ rfl⟩
theorem keep4 {w wx w' : World} {B : Nat} {x4 x5 x6 x7 : Value} (c4 : wx.cell? ⟨B, 4, none⟩ = some x4) (c5 : wx.cell? ⟨B, 5, none⟩ = some x5) (c6 : wx.cell? ⟨B, 6, none⟩ = some x6) (c7 : wx.cell? ⟨B, 7, none⟩ = some x7) (hB : B < wx.heap.size) (hb : Below B w wx) (hbk : Below wx.heap.size wx w') :
    w'.cell? ⟨B, 4, none⟩ = some x4 ∧ w'.cell? ⟨B, 5, none⟩ = some x5 ∧ w'.cell? ⟨B, 6, none⟩ = some x6 ∧ w'.cell? ⟨B, 7, none⟩ = some x7 ∧ B < w'.heap.size ∧ Below B w w' :=
  ⟨(hbk.cell (p := ⟨B, 4, none⟩) hB).trans c4, (hbk.cell (p := ⟨B, 5, none⟩) hB).trans c5, (hbk.cell (p := ⟨B, 6, none⟩) hB).trans c6, (hbk.cell (p := ⟨B, 7, none⟩) hB).trans c7, Nat.lt_of_lt_of_le hB hbk.size, hb.trans (hbk.mono (Nat.le_of_lt hB))⟩
def TextOk (v : Ev) (w : World) (e : Ending) (w' : World) : Prop := e = .returned (.tuple #[.string ⟨(textB v).toArray⟩, .int .i64 0]) ∧ Below w.heap.size w w'
set_option maxRecDepth 100000 in
set_option maxHeartbeats 4000000 in
theorem text13_ok (v : Ev) (w : World) (hok : evErr v = 0) :
    Calls Tryd.prog 13 #[.agg (evCells v).toArray] w (TextOk v w) := by
  unfold evCells
  go_enter Tryd.func13, Tryd.ntmps13
  go_wp2_with fail
  refine (check42 v _).mono ?_
  rintro e w1 ⟨rfl, hb1⟩
  rw [hok]
  have hb : Below w.heap.size w w1 := ((Below.refl _ _).alloc (Nat.le_refl _) _).trans (hb1.mono (by simp))
  obtain ⟨hc, hf⟩ := bcell hb1
  have hB : w.heap.size < w1.heap.size := by have := hb1.size; simp at this; omega
  have c0 : w1.cell? ⟨w.heap.size, 0, none⟩ = some (.int .i64 v.step) := by rw [hc _ _ (by simp)]; simp
  have c1 : w1.cell? ⟨w.heap.size, 1, none⟩ = some (.int .i64 v.time) := by rw [hc _ _ (by simp)]; simp
  have c2 : w1.cell? ⟨w.heap.size, 2, none⟩ = some (.int .i64 v.task) := by rw [hc _ _ (by simp)]; simp
  have c3 : w1.cell? ⟨w.heap.size, 3, none⟩ = some (.int .i64 v.kind) := by rw [hc _ _ (by simp)]; simp
  have c4 : w1.cell? ⟨w.heap.size, 4, none⟩ = some (.int .i64 v.object) := by rw [hc _ _ (by simp)]; simp
  have c5 : w1.cell? ⟨w.heap.size, 5, none⟩ = some (.int .i64 v.scope) := by rw [hc _ _ (by simp)]; simp
  have c6 : w1.cell? ⟨w.heap.size, 6, none⟩ = some (.int .i64 v.value) := by rw [hc _ _ (by simp)]; simp
  have c7 : w1.cell? ⟨w.heap.size, 7, none⟩ = some (.int .i64 v.other) := by rw [hc _ _ (by simp)]; simp
  clear hc hb1 hf
  have O := evOk_of hok
  have b0 := O.s0; have b1 := O.s1; have b2 := O.t0; have b3 := O.t1; have b4 := O.k0; have b5 := O.k1; have b6 := O.o0; have b7 := O.o1
  have b8 := O.c0; have b9 := O.c1; have b10 := O.v0; have b11 := O.v1; have b12 := O.r0; have b13 := O.r1
  clear O hok
  have l0 := Lib.itoa_length_le v.step (by omega) (by omega)
  have l1 := Lib.itoa_length_le v.time (by omega) (by omega)
  have l2 := Lib.itoa_length_le v.task (by omega) (by omega)
  have l3 := word_len v.kind
  have l4 := Lib.itoa_length_le v.object (by omega) (by omega)
  have l5 := Lib.itoa_length_le v.scope (by omega) (by omega)
  have l6 := Lib.itoa_length_le v.value (by omega) (by omega)
  have l7 := Lib.itoa_length_le v.other (by omega) (by omega)
  go_wp2_with fail
  refine wp_region_det (by kernel_rfl) (by kernel_rfl) (fun w' => Row w' w.heap.size 0 (evCells v) ∧ w.heap.size < w'.heap.size ∧ Below w.heap.size w w') ⟨row8 c0 c1 c2 c3 c4 c5 c6 c7, hB, hb.drew⟩ ?_
  clear c0 c1 c2 c3 c4 c5 c6 c7 hB hb
  iterate 19
    apply wpDet_cons
    · rintro wx ⟨hr, hB, hb⟩
      obtain ⟨c0, c1, c2, c3, -, -, -, -⟩ := row8_of hr
      have Hr := Lib.hid hr
      clear hr
      go_wp2_with (first | (go_at_call 43; refine (decimal43 _ _ (by omega) (by omega)).mono ?_; rintro e w' ⟨rfl, hbk⟩) | (go_at_call 44; refine (word44 _ _).mono ?_; rintro e w' ⟨rfl, hbk⟩))
      first | exact ⟨rfl, rfl, Hr.out, hB, hb⟩ | exact ⟨rfl, rfl, Hr.out.below hbk hB, Nat.lt_of_lt_of_le hB hbk.size, hb.trans (hbk.mono (Nat.le_of_lt hB))⟩
    go_frame
  rintro wx ⟨hr, hB, hb⟩
  obtain ⟨-, -, -, -, c4, c5, c6, c7⟩ := row8_of hr
  clear hr
  go_wp2_with (go_at_call 43; refine (decimal43 _ _ (by omega) (by omega)).mono ?_; rintro e w' ⟨rfl, hbk⟩; have K := keep4 c4 c5 c6 c7 hB hb hbk; clear c4 c5 c6 c7 hB hb hbk; obtain ⟨c4, c5, c6, c7, hB, hb⟩ := K)
  all_goals
    go_ret2
    refine ⟨congrArg (fun b => Ending.returned (Value.tuple #[.string b, .int .i64 0])) (ByteArray.ext ?_), hb⟩
    clear c4 c5 c6 c7 hB hb
    go_light
    simp_all [textB, fieldB, ByteArray.data_append]
end Go.Proofs.YtofomblpbmpbaaaDoor

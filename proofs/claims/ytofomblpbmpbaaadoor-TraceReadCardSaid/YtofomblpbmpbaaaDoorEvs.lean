/- Lists of events in memory; the events of a task. -/
import Derived.Test.YtofomblpbmpbaaaDoorWord
import Derived.Lib.Hide
import Derived.Deep.Light
namespace Go.Proofs.YtofomblpbmpbaaaDoor
open Go.RowKit
theorem T31 : ElemT Tryd.prog 31 23 8 64 := ElemT.mk' Tryd.underlying31 (z := .agg #[.int .i64 0, .int .i64 0, .int .i64 0, .int .i64 0, .int .i64 0, .int .i64 0, .int .i64 0, .int .i64 0]) (by kernel_rfl) rfl (by decide)
def evsCells (l : List Ev) : List Value := l.flatMap evCells
theorem evsCells_len (l : List Ev) : (evsCells l).length = l.length * 8 := by
  induction l with
  | nil => rfl
  | cons e l ih =>
    show (evCells e ++ evsCells l).length = _
    rw [List.length_append, ih]
    simp [evCells]
    omega
/-- The events l lie one behind the other from a place on. -/
def EvsAt (w : World) (b off : Nat) (l : List Ev) : Prop := ∀ k (h : k < l.length), Row w b (off + k * 8) (evCells l[k])
theorem EvsAt.below {w w' : World} {b off B : Nat} {l : List Ev} (h : EvsAt w b off l) (hb : Below B w w') (hB : b < B) : EvsAt w' b off l := fun k hk => (h k hk).below hb hB
theorem evsAt_of_row {w : World} {b : Nat} : ∀ {l : List Ev} {off : Nat}, Row w b off (evsCells l) → EvsAt w b off l
  | [], _, _ => fun k h => absurd h (Nat.not_lt_zero _)
  | e :: l, off, h => fun k hk => by
    have h' : Row w b off (evCells e ++ evsCells l) := h
    obtain ⟨h1, h2⟩ := h'.append
    cases k with
    | zero => simpa using h1
    | succ k =>
      have := evsAt_of_row h2 k (by simpa using hk)
      have hl : (evCells e).length = 8 := rfl
      rw [hl] at this
      rw [show off + (k + 1) * 8 = off + 8 + k * 8 from by omega]
      exact this
/-- A slice that holds the events l. -/
def EvsV (w : World) (v : Value) (l : List Ev) : Prop := ∃ A c, v = .slice A l.length c ∧ l.length ≤ c ∧ (l ≠ [] → ∃ b off, A = some ⟨b, off, none⟩ ∧ b < w.heap.size ∧ EvsAt w b off l)
theorem EvsV.split {w : World} {v : Value} {l : List Ev} (h : EvsV w v l) : (∃ A c, v = .slice A 0 c ∧ l = []) ∨ ∃ b off cap, v = .slice (some ⟨b, off, none⟩) l.length cap ∧ l.length ≤ cap ∧ b < w.heap.size ∧ EvsAt w b off l := by
  obtain ⟨A, c, rfl, hc, hr⟩ := h
  cases l with
  | nil => exact .inl ⟨A, c, rfl, rfl⟩
  | cons e l =>
    obtain ⟨b, off, rfl, hb, hrow⟩ := hr (by simp)
    exact .inr ⟨b, off, c, rfl, hc, hb, hrow⟩
theorem EvsV.mk_ {w : World} {l : List Ev} {b off cap : Nat} (hc : l.length ≤ cap) (hb : b < w.heap.size) (h : EvsAt w b off l) : EvsV w (.slice (some ⟨b, off, none⟩) l.length cap) l := ⟨_, _, rfl, hc, fun _ => ⟨b, off, rfl, hb, h⟩⟩
theorem EvsV.nil_ (w : World) (A : Option Addr) (c : Nat) : EvsV w (.slice A 0 c) [] := ⟨A, c, rfl, Nat.zero_le _, fun h => absurd rfl h⟩
theorem EvsV.below {w w' : World} {v : Value} {l : List Ev} (h : EvsV w v l) (hb : Below w.heap.size w w') : EvsV w' v l := by
  obtain ⟨A, c, h1, h2, hr⟩ := h
  refine ⟨A, c, h1, h2, fun hl => ?_⟩
  obtain ⟨b, off, h3, h4, h5⟩ := hr hl
  exact ⟨b, off, h3, Nat.lt_of_lt_of_le h4 hb.size, h5.below hb h4⟩
theorem evsV_own {w : World} {base : Nat} {v : Value} {l : List Ev} (h : w.ownsRow base 23 8 v l.length (evsCells l)) : EvsV w v l := by
  rcases ownsRow_row h with ⟨rfl, h0, -⟩ | ⟨g, cap, rfl, -, hg, hcap, hrow⟩
  · rw [List.eq_nil_of_length_eq_zero h0]
    exact EvsV.nil_ _ _ _
  · exact EvsV.mk_ hcap hg (evsAt_of_row hrow)
set_option maxRecDepth 100000 in
theorem great16 (w : World) (v : Value) (l : List Ev) (h : EvsV w v l) : Calls Tryd.prog 16 #[v] w fun e w' => e = .returned (.bool (decide (80 < l.length))) ∧ w = w' := by
  rcases h.split with ⟨A, c, rfl, rfl⟩ | ⟨b, off, cap, rfl, -, -, -⟩
  · go_enter Tryd.func16, Tryd.ntmps16
    go_wp2_with fail
    go_ret
    exact ⟨rfl, rfl⟩
  · go_enter Tryd.func16, Tryd.ntmps16
    go_wp2_with fail
    go_ret
    refine ⟨?_, rfl⟩
    by_cases h : 80 < l.length
    · have h' : (80 : Int) < l.length := by omega
      simp [h, h']
    · have h' : ¬ (80 : Int) < l.length := by omega
      simp [h, h']
def ofF (l : List Ev) (t : Int) : List Ev := l.filter (fun e => e.task == t)
theorem ofF_le (l : List Ev) (t : Int) : (ofF l t).length ≤ l.length := List.length_filter_le _ _
theorem take_snoc {α : Type} (l : List α) (k : Nat) (h : k < l.length) : l.take (k + 1) = l.take k ++ [l[k]] := by
  rw [List.take_succ_eq_append_getElem h]
theorem ofF_hit (l : List Ev) (t : Int) (k : Nat) (h : k < l.length) (ht : (l[k].task == t) = true) : ofF (l.take (k + 1)) t = ofF (l.take k) t ++ [l[k]] := by
  unfold ofF
  rw [take_snoc l k h, List.filter_append]
  simp [ht]
theorem ofF_miss (l : List Ev) (t : Int) (k : Nat) (h : k < l.length) (ht : (l[k].task == t) = false) : ofF (l.take (k + 1)) t = ofF (l.take k) t := by
  unfold ofF
  rw [take_snoc l k h, List.filter_append]
  simp [ht]
theorem evsCells_snoc (l : List Ev) (e : Ev) : evsCells (l ++ [e]) = evsCells l ++ evCells e := by simp [evsCells]
set_option maxRecDepth 100000 in
set_option maxHeartbeats 1000000 in
theorem of18 (l : List Ev) (v : Value) (t : Int) (w : World) (hv : EvsV w v l) (hl : l.length ≤ 65536) :
    Calls Tryd.prog 18 #[v, .int .i64 t] w fun e w' => ∃ v', e = .returned v' ∧ w'.ownsRow w.heap.size 23 8 v' (ofF l t).length (evsCells (ofF l t)) ∧ Below w.heap.size w w' := by
  rcases hv.split with ⟨A, c, rfl, rfl⟩ | ⟨b, off, cap, rfl, hcap, hbw, hrow⟩
  · go_enter Tryd.func18, Tryd.ntmps18
    go_wp2
    refine wp_loop_rounds 1 ?_
    rw [rounds_succ]
    go_wp2_with fail
    go_ret
    exact ⟨_, rfl, World.ownsRow_nil _ _ _ _, Below.refl _ _⟩
  · go_enter Tryd.func18, Tryd.ntmps18
    go_wp2
    go_loopw [5, 10] (fun v i wr => ∃ k : Nat, k ≤ l.length ∧ i = .int .i64 k ∧ wr.ownsRow w.heap.size 23 8 v (ofF (l.take k) t).length (evsCells (ofF (l.take k) t)) ∧ Below w.heap.size w wr) (fun _ i _ => l.length - (intOf i).toNat)
    case atStart => exact ⟨0, Nat.zero_le _, rfl, World.ownsRow_nil _ _ _ _, Below.refl _ _⟩
    case round =>
      obtain ⟨k, hk, rfl, hown, hb⟩ := hrel
      by_cases hlt : k < l.length
      · have hr' : Row wr b (off + k * 8) (evCells l[k]) := (hrow k hlt).below hb hbw
        have hle : (ofF (l.take k) t).length ≤ k := Nat.le_trans (ofF_le _ _) (List.length_take_le _ _)
        have hsz := hb.size
        have Hrow := Lib.hid hrow
        clear hrow
        rcases Bool.eq_false_or_eq_true (l[k].task == t) with ht | ht
        · have hhit := ofF_hit l t k hlt ht
          have Hhit := Lib.hid hhit
          clear hhit
          go_wp2_with (first | ((with_reducible refine wpList_load_agg (o := ⟨some 13, .load 23 (.tmp 12), _, _, _, none⟩) rfl 23 _ rfl b (off + k * 8) ?_ _ hr' _ Tryd.underlying23 rfl ?_ ?_); (focus rfl); (focus kernel_rfl); simp only [evCells]) | (at_builtin; refine wpList_app rfl _ _ 31 rfl w.heap.size 23 8 64 T31 _ _ _ rfl ((hown.alloc _).alloc _) (wr.heap.size + 1) (evCells l[k]) rfl rfl (Row.new _ _ _ _ (by simp)) (evCells_one _) (by omega) (by omega) (by simp; omega) ?_; intro v' w1 hown1 hgr1))
          go_roundw
          case rel =>
            refine ⟨k + 1, by omega, by go_num, ?_, ?_⟩
            · rw [Hhit.out, List.length_append, evsCells_snoc]
              exact hown1
            · exact ((hb.alloc hsz _).alloc (by simp; omega) _).grown hgr1 (by simp; omega) (fun j hj => (hown.lt j hj).1)
          case measure => simp [intOf]; omega
        · have hhit := ofF_miss l t k hlt ht
          have Hhit := Lib.hid hhit
          clear hhit
          go_wp2_with (first | ((with_reducible refine wpList_load_agg (o := ⟨some 13, .load 23 (.tmp 12), _, _, _, none⟩) rfl 23 _ rfl b (off + k * 8) ?_ _ hr' _ Tryd.underlying23 rfl ?_ ?_); (focus rfl); (focus kernel_rfl); simp only [evCells]))
          go_roundw
          case rel =>
            refine ⟨k + 1, by omega, by go_num, ?_, hb.alloc hsz _⟩
            rw [Hhit.out]
            exact hown.alloc _
          case measure => simp [intOf]; omega
      · have hk' : k = l.length := by omega
        go_wp2_with fail
        go_ret
        refine ⟨_, rfl, ?_, hb⟩
        rw [hk', List.take_length] at hown
        exact hown
end Go.Proofs.YtofomblpbmpbaaaDoor

/- Print by the program and by the reference. -/
import Derived.Test.YtofomblpbmpbaaaDoorLns
import Derived.Test.YtofomblpbmpbaaaDoorEvs
import Derived.Test.YtofomblpbmpbaaaDoorEvB
import Derived.Test.YtofomblpbmpbaaaDoorText3
namespace Go.Proofs.YtofomblpbmpbaaaDoor
open Go.RowKit
def PrPost (l : List Ev) (w : World) (en : Ending) (w' : World) : Prop := en = .returned (.tuple #[.string ⟨(printB l).toArray⟩, .int .i64 (prErr l)]) ∧ Below w.heap.size w w'
def PrTo (l : List Ev) (k : Nat) : Prop := ∀ j, j < k → evErr (l.getD j zEv) = 0
theorem PrTo.zero (l : List Ev) : PrTo l 0 := fun _ h => absurd h (Nat.not_lt_zero _)
theorem PrTo.succ {l : List Ev} {k : Nat} (h : PrTo l k) (hk : k < l.length) (he : evErr l[k] = 0) : PrTo l (k + 1) := fun j hj => by
  rcases Nat.lt_succ_iff_lt_or_eq.1 hj with h1 | rfl
  · exact h j h1
  · rw [getD_lt l j hk]; exact he
theorem pr_bad {l : List Ev} {k : Nat} (h : PrTo l k) (hk : k < l.length) {c : Int} (he : evErr l[k] = c) (hc : c ≠ 0) : prErr l = c ∧ printB l = [] := by
  have h1 : evErr (l.getD k zEv) = c := by rw [getD_lt l k hk]; exact he
  have h2 : prErr l = c := by
    rw [← h1]
    exact firstErr_at hk h (by rw [h1]; exact hc)
  exact ⟨h2, if_neg (by rw [h2]; exact hc)⟩
theorem pr_end {l : List Ev} (h : PrTo l l.length) : prErr l = 0 ∧ printB l = linesB l := by
  have h2 : prErr l = 0 := firstErr_zero.2 h
  exact ⟨h2, if_pos h2⟩
theorem lines_take (l : List Ev) (k : Nat) (h : k < l.length) : linesB (l.take (k + 1)) = linesB (l.take k) ++ (textB l[k] ++ [10]) := by rw [take_snoc' l k h, linesB_snoc]
theorem PrTo.len {l : List Ev} : ∀ {k : Nat}, PrTo l k → k ≤ l.length → (linesB (l.take k)).length ≤ k * 201
  | 0, _, _ => by simp [linesB]
  | k + 1, h, hk => by
    have ih := PrTo.len (k := k) (fun j hj => h j (by omega)) (by omega)
    have he := h k (by omega)
    rw [getD_lt l k (by omega)] at he
    have := text_len _ he
    rw [lines_take l k (by omega), List.length_append, List.length_append]
    simp
    omega
set_option maxRecDepth 100000 in
set_option maxHeartbeats 2000000 in
theorem print21 (l : List Ev) (v : Value) (w : World) (hv : EvsV w v l) (hl : l.length ≤ 80) : Calls Tryd.prog 21 #[v] w (PrPost l w) := by
  have hP : ∀ w' s c, Below w.heap.size w w' → printB l = s → prErr l = c → PrPost l w (.returned (.tuple #[.string ⟨s.toArray⟩, .int .i64 c])) w' := fun w' s c h h1 h2 => ⟨by rw [h1, h2], h⟩
  rcases hv.split with ⟨A, c, rfl, rfl⟩ | ⟨b, off, cap, rfl, hcap, hbw, hrow⟩
  · go_enter Tryd.func21, Tryd.ntmps21
    go_wp2_with fail
    refine wp_loop_rounds 1 ?_
    rw [rounds_succ]
    go_wp2_with fail
    go_ret2
    exact hP _ [] 0 (Below.refl _ _) rfl rfl
  · go_enter Tryd.func21, Tryd.ntmps21
    go_wp2_with fail
    go_loopw [4, 5] (fun t i wr => ∃ k : Nat, k ≤ l.length ∧ i = .int .i64 k ∧ PrTo l k ∧ t = .string ⟨(linesB (l.take k)).toArray⟩ ∧ Below w.heap.size w wr) (fun _ i _ => l.length - (intOf i).toNat)
    case atStart => exact ⟨0, Nat.zero_le _, rfl, PrTo.zero l, rfl, Below.refl _ _⟩
    case round =>
      obtain ⟨k, hk, rfl, hpr, rfl, hb⟩ := hrel
      by_cases hlt : k < l.length
      · have hr' : Row wr b (off + k * 8) (evCells l[k]) := (hrow k hlt).below hb hbw
        have hlen := hpr.len hk
        have Hpr := Lib.hid hpr
        clear hpr
        go_wp2_with ((with_reducible refine wpList_load_agg (o := ⟨some 21, .load 23 (.tmp 20), _, _, _, none⟩) rfl 23 _ rfl b (off + k * 8) ?_ _ hr' _ Tryd.underlying23 rfl ?_ ?_); (focus rfl); (focus kernel_rfl); simp only [evCells])
        have n0 := text13 l[k] wr
        unfold TextPost at n0
        by_cases he : evErr l[k] = 0
        · have Hlt := Lib.hid (lines_take l k hlt)
          have Hpr1 := Lib.hid (Hpr.out.succ hlt he)
          have htl := text_len _ he
          unfold textR at n0
          rw [if_pos he, he] at n0
          unfold evCells at n0
          refine n0.mono ?_
          rintro e w1 ⟨rfl, hb1⟩
          clear n0 he hr'
          generalize linesB (l.take k) = acc at *
          generalize textB l[k] = tx at *
          go_wp2_with fail
          go_roundw
          case rel =>
            refine ⟨k + 1, by omega, by go_num, Hpr1.out, ?_, hb.trans (hb1.mono hb.size)⟩
            rw [Hlt.out]
            refine congrArg Value.string (ByteArray.ext ?_)
            simp [ByteArray.data_append]
          case measure => simp [intOf]; omega
        · obtain ⟨x, hx⟩ : ∃ x, evErr l[k] = x := ⟨_, rfl⟩
          have Hbad := Lib.hid (pr_bad Hpr.out hlt hx (by rw [← hx]; exact he))
          unfold textR at n0
          rw [if_neg he, hx] at n0
          rw [hx] at he
          have hx1 : (x != 0) = true := by simpa using he
          unfold evCells at n0
          refine n0.mono ?_
          rintro e w1 ⟨rfl, hb1⟩
          clear n0 he hx hr'
          go_wp2_with fail
          go_ret2
          exact hP _ [] _ (hb.trans (hb1.mono hb.size)) Hbad.out.2 Hbad.out.1
      · have hk' : k = l.length := by omega
        subst hk'
        have Hend := Lib.hid (pr_end hpr)
        rw [List.take_length]
        clear hpr
        go_wp2_with fail
        go_ret2
        exact hP _ _ _ hb Hend.out.2 Hend.out.1
set_option maxRecDepth 100000 in
set_option maxHeartbeats 4000000 in
theorem print20 (l : List Ev) (v : Value) (w : World) (hE : Env w) (hv : EvsV w v l) (hl : l.length ≤ 4000) : Calls Tryd.prog 20 #[v] w (PrPost l w) := by
  have hP : ∀ w' s c, Below w.heap.size w w' → printB l = s → prErr l = c → PrPost l w (.returned (.tuple #[.string ⟨s.toArray⟩, .int .i64 c])) w' := fun w' s c h h1 h2 => ⟨by rw [h1, h2], h⟩
  have hB0 : Below w.heap.size w (w.alloc (.cells #[.pointer none, .slice none 0 0] 57)) := (Below.refl _ _).alloc (Nat.le_refl _) _
  have hI0 : IsB (w.alloc (.cells #[.pointer none, .slice none 0 0] 57)) w.heap.size (w.heap.size + 1) [] := IsB.new _ _ (fun _ => True) (heap_alloc_new w _) _ (by omega) (by simp)
  rcases hv.split with ⟨A, c, rfl, rfl⟩ | ⟨b, off, cap, rfl, hcap, hbw, hrow⟩
  · go_enter Tryd.func20, Tryd.ntmps20
    go_wp2_with fail
    refine wp_loop_rounds 1 ?_
    rw [rounds_succ]
    go_wp2_with fail
    refine (string41 w.heap.size (w.heap.size + 1) [] _ hI0).mono ?_
    rintro e w1 ⟨rfl, hb1⟩
    go_wp2_with fail
    go_ret2
    exact hP _ [] 0 (hB0.trans hb1) rfl rfl
  · go_enter Tryd.func20, Tryd.ntmps20
    go_wp2_with fail
    go_loopw [14] (fun i wr => ∃ k : Nat, k ≤ l.length ∧ i = .int .i64 k ∧ PrTo l k ∧ IsB wr w.heap.size (w.heap.size + 1) (linesB (l.take k)) ∧ Below w.heap.size w wr) (fun i _ => l.length - (intOf i).toNat)
    case atStart => exact ⟨0, Nat.zero_le _, rfl, PrTo.zero l, hI0, hB0⟩
    case round =>
      obtain ⟨k, hk, rfl, hpr, hI, hb⟩ := hrel
      have hsz := hb.size
      by_cases hlt : k < l.length
      · have hr' : Row wr b (off + k * 8) (evCells l[k]) := (hrow k hlt).below hb hbw
        have hlen := hpr.len hk
        have Hpr := Lib.hid hpr
        have HI := Lib.hid hI
        clear hpr hI hI0 hB0
        have n0 := text12 l[k] (wr.alloc (.cells (evCells l[k]).toArray 23)) ((hE.below hb).alloc _)
        unfold TextPost at n0
        go_wp2_with ((with_reducible refine wpList_load_agg (o := ⟨some 17, .load 23 (.tmp 16), _, _, _, none⟩) rfl 23 _ rfl b (off + k * 8) ?_ _ hr' _ Tryd.underlying23 rfl ?_ ?_); (focus rfl); (focus kernel_rfl); simp only [evCells])
        by_cases he : evErr l[k] = 0
        · have Hlt := Lib.hid (lines_take l k hlt)
          have Hpr1 := Lib.hid (Hpr.out.succ hlt he)
          have htl := text_len _ he
          unfold textR at n0
          rw [if_pos he, he] at n0
          unfold evCells at n0
          refine n0.mono ?_
          rintro e w1 ⟨rfl, hb1⟩
          have hI1 := (HI.out.keep ((Below.refl _ _).alloc (Nat.le_refl _) _)).keep hb1
          have hb01 : Below w.heap.size w w1 := (hb.alloc hsz _).trans (hb1.mono (Nat.le_trans hsz (by simp)))
          clear n0 he hr' hb1 HI
          generalize linesB (l.take k) = acc at *
          generalize textB l[k] = tx at *
          go_wp2_with fail
          refine (writeString37 w.heap.size (w.heap.size + 1) acc tx w1 hI1 (by omega)).mono ?_
          rintro e w2 ⟨rfl, hI2, hb2⟩
          have hb02 : Below w.heap.size w w2 := hb01.trans (hb2.below (by omega))
          clear hI1 hb01 hb2
          go_wp2_with fail
          refine (writeByte36 w.heap.size (w.heap.size + 1) (acc ++ tx) 10 w2 hI2.isB (by simp; omega)).mono ?_
          rintro e w3 ⟨rfl, hI3, hb3⟩
          have hb03 : Below w.heap.size w w3 := hb02.trans (hb3.below (by omega))
          clear hI2 hb02 hb3
          go_wp2_with fail
          go_roundw
          case rel =>
            refine ⟨k + 1, by omega, by go_num, Hpr1.out, ?_, hb03⟩
            rw [Hlt.out, ← List.append_assoc]
            exact hI3.isB
          case measure => simp [intOf]; omega
        · obtain ⟨x, hx⟩ : ∃ x, evErr l[k] = x := ⟨_, rfl⟩
          have Hbad := Lib.hid (pr_bad Hpr.out hlt hx (by rw [← hx]; exact he))
          unfold textR at n0
          rw [if_neg he, hx] at n0
          rw [hx] at he
          have hx1 : (x != 0) = true := by simpa using he
          unfold evCells at n0
          refine n0.mono ?_
          rintro e w1 ⟨rfl, hb1⟩
          clear n0 he hx hr'
          go_wp2_with fail
          go_ret2
          exact hP _ [] _ ((hb.alloc hsz _).trans (hb1.mono (Nat.le_trans hsz (by simp)))) Hbad.out.2 Hbad.out.1
      · have hk' : k = l.length := by omega
        subst hk'
        have Hend := Lib.hid (pr_end hpr)
        rw [List.take_length] at hI
        have HI := Lib.hid hI
        clear hpr hI hI0 hB0
        go_wp2_with fail
        refine (string41 w.heap.size (w.heap.size + 1) (linesB l) wr HI.out).mono ?_
        rintro e w1 ⟨rfl, hb1⟩
        go_wp2_with fail
        go_ret2
        exact hP _ _ _ (hb.trans hb1) Hend.out.2 Hend.out.1
end Go.Proofs.YtofomblpbmpbaaaDoor

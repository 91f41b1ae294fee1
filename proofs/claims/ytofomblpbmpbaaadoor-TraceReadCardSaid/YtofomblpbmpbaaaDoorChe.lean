/- Check by the program. -/
import Derived.Test.YtofomblpbmpbaaaDoorChw
import Derived.Test.YtofomblpbmpbaaaDoorEvB
import Derived.Deep.CutRange
namespace Go.Proofs.YtofomblpbmpbaaaDoor
open Go.RowKit
def OkTo (l : List Ev) (k : Nat) : Prop := ∀ j, j < k → okAt l j = 0
theorem OkTo.zero (l : List Ev) : OkTo l 0 := fun _ h => absurd h (Nat.not_lt_zero _)
theorem OkTo.succ {l : List Ev} {k : Nat} (h : OkTo l k) (hk : okAt l k = 0) : OkTo l (k + 1) := fun j hj => by
  rcases Nat.lt_succ_iff_lt_or_eq.1 hj with h1 | rfl
  · exact h j h1
  · exact hk
theorem chk_at {l : List Ev} {k : Nat} (h : OkTo l k) (hk : k < l.length) {c : Int} (hc : okAt l k = c) (hne : c ≠ 0) : chk l = c := by
  rw [← hc]
  exact firstErr_at hk h (by rw [hc]; exact hne)
theorem chk_end {l : List Ev} (h : OkTo l l.length) : chk l = 0 := firstErr_zero.2 h
theorem okAt_1 {l : List Ev} {k : Nat} (hk : k < l.length) (h : evErr l[k] ≠ 0) : okAt l k = 1 := by
  unfold okAt
  rw [getD_lt l k hk, if_pos h]
theorem okAt_9 {l : List Ev} {k : Nat} (hk : k < l.length) (h : evErr l[k] = 0) (h2 : orderP (prevE l k) l[k] = false) : okAt l k = 9 := by
  unfold okAt
  rw [getD_lt l k hk, if_neg (by simpa using h), if_pos h2]
theorem okAt_17 {l : List Ev} {k : Nat} (hk : k < l.length) (h : evErr l[k] = 0) (h2 : orderP (prevE l k) l[k] = true) (h3 : fitsB (stOf (l.take k)) l[k] = false) : okAt l k = 17 := by
  unfold okAt
  rw [getD_lt l k hk, if_neg (by simpa using h), if_neg (by simpa using h2), if_pos h3]
theorem okAt_0 {l : List Ev} {k : Nat} (hk : k < l.length) (h : evErr l[k] = 0) (h2 : orderP (prevE l k) l[k] = true) (h3 : fitsB (stOf (l.take k)) l[k] = true) : okAt l k = 0 := by
  unfold okAt
  rw [getD_lt l k hk, if_neg (by simpa using h), if_neg (by simpa using h2), if_neg (by simpa using h3)]
theorem OkTo.inv {l : List Ev} {k : Nat} (h : OkTo l k) (hk : k ≤ l.length) : Inv (l.take k) (stOf (l.take k)) := inv_take l k hk h
theorem ret_i64 {a b : Int} (h : a = b) : Ending.returned (.int .i64 a) = .returned (.int .i64 b) := by rw [h]
set_option maxRecDepth 100000 in
set_option maxHeartbeats 4000000 in
theorem check25 (l : List Ev) (v : Value) (w : World) (hv : EvsV w v l) (hl : l.length ≤ 65536) :
    Calls Tryd.prog 25 #[v] w fun e w' => e = .returned (.int .i64 (chk l)) ∧ Below w.heap.size w w' := by
  rcases hv.split with ⟨A, c, rfl, rfl⟩ | ⟨b, off, cap, rfl, hcap, hbw, hrow⟩
  · go_enter Tryd.func25, Tryd.ntmps25
    go_wp2_with fail
    refine wp_loop_rounds 1 ?_
    rw [rounds_succ]
    go_wp2_with fail
    go_ret
    exact ⟨rfl, (Below.refl _ _).alloc (Nat.le_refl _) _⟩
  · go_enter Tryd.func25, Tryd.ntmps25
    go_wp2_with fail
    go_loopw [10] (fun i wr => ∃ k : Nat, k ≤ l.length ∧ i = .int .i64 k ∧ OkTo l k ∧ StAt wr w.heap.size (stOf (l.take k)) ∧ Below w.heap.size w wr) (fun i _ => l.length - (intOf i).toNat)
    case atStart => exact ⟨0, Nat.zero_le _, rfl, OkTo.zero _, heap_alloc_new w _, (Below.refl _ _).alloc (Nat.le_refl _) _⟩
    case round =>
      obtain ⟨k, hk, rfl, hok, hst, hb⟩ := hrel
      have hsz := hb.size
      have hp := hst.lt
      by_cases hlt : k < l.length
      · have hr' : Row wr b (off + k * 8) (evCells l[k]) := (hrow k hlt).below hb hbw
        have hinv := hok.inv (Nat.le_of_lt hlt)
        have hs0 := hinv.starts
        have hs1 := hinv.most
        have hs2 := hinv.len
        have hs3 : 0 ≤ (stOf (l.take k)).started := by omega
        have hvv : EvsV wr (.slice (some ⟨b, off, none⟩) l.length cap) l := EvsV.mk_ hcap (by omega) (fun j hj => (hrow j hj).below hb hbw)
        have Hrow := Lib.hid hrow
        have Hst := Lib.hid hst
        have Hok := Lib.hid hok
        have Hs2 := Lib.hid hs2
        clear hrow hst hok hs2 hinv hs0
        go_wp2_with ((with_reducible refine wpList_load_agg (o := ⟨some 14, .load 23 (.tmp 13), _, _, _, none⟩) rfl 23 _ rfl b (off + k * 8) ?_ _ hr' _ Tryd.underlying23 rfl ?_ ?_); (focus rfl); (focus kernel_rfl); simp only [evCells])
        have n0 := check33 l[k] (wr.alloc (.cells (evCells l[k]).toArray 23))
        by_cases he : evErr l[k] = 0
        · rw [he] at n0
          unfold evCells at n0
          refine n0.mono ?_
          rintro e w1 ⟨rfl, hb1⟩
          have hE : EvAt w1 wr.heap.size l[k] := by
            unfold EvAt
            rw [hb1.block _ (by simp)]
            exact Array.getElem?_push_size
          have hbr : Below wr.heap.size wr w1 := ((Below.refl _ _).alloc (Nat.le_refl _) _).trans (hb1.mono (by simp))
          have hvv1 := hvv.below hbr
          have hlt1 := hE.lt
          have Hbr := Lib.hid hbr
          have HE := Lib.hid hE
          clear n0 hb1 hr' hvv hbr hE
          go_wp2_with fail
          have n0 := order56 l _ k w1 hvv1 hlt hl
          rcases Bool.eq_false_or_eq_true (orderP (prevE l k) l[k]) with ho | ho
          · rw [ho] at n0
            refine n0.mono ?_
            rintro e w2 ⟨rfl, hb2⟩
            have hE2 := HE.out.below hb2 hlt1
            have hb3 : Below wr.heap.size wr w2 := Hbr.out.trans (hb2.mono Hbr.out.size)
            have hst2 := Hst.out.below hb3 hp
            obtain ⟨c0, c1, c2, c3, c4, c5, c6, c7⟩ := hE2.cells
            have hrow2 := hE2.row
            have Hb3 := Lib.hid hb3
            have Hst2 := Lib.hid hst2
            have Hhe := Lib.hid he
            have Hho := Lib.hid ho
            clear n0 hb2 hE2 hb3 hst2 hvv1 he ho hlt1
            go_wp2_with ((with_reducible refine wpList_load_agg (o := ⟨some 23, .load 23 (.tmp 5), _, _, _, none⟩) rfl 23 _ rfl wr.heap.size 0 ?_ _ hrow2 _ Tryd.underlying23 rfl ?_ ?_); (focus rfl); (focus kernel_rfl); simp only [evCells])
            clear c0 c1 c2 c3 c4 c5 c6 c7 hrow2
            have n0 := tasks57 (stOf (l.take k)) l[k] w.heap.size w2 Hst2.out Hhe.out Hs2.out hs3 (by omega)
            unfold TPost at n0
            rcases Bool.eq_false_or_eq_true (fitsB (stOf (l.take k)) l[k]) with hf | hf
            · rw [hf] at n0
              unfold evCells at n0
              refine n0.mono ?_
              rintro e w3 ⟨rfl, hst3, hg3⟩
              have h0 := okAt_0 hlt Hhe.out Hho.out hf
              have Hok1 := Lib.hid (Hok.out.succ h0)
              have hst4 := hst3 rfl
              rw [← stOf_take l k hlt] at hst4
              have Hst4 := Lib.hid hst4
              have hb4 : Below w.heap.size w w3 := (hb.trans (Hb3.out.mono hsz)).grown hg3 (Nat.le_trans hsz Hb3.out.size) (fun j hj => by cases hj; exact Nat.le_refl _)
              clear n0 hst3 hst4 h0 hf hg3
              go_wp2_with fail
              go_roundw
              case rel => exact ⟨k + 1, by omega, by go_num, Hok1.out, Hst4.out, hb4⟩
              case measure => simp [intOf]; omega
            · rw [hf] at n0
              unfold evCells at n0
              refine n0.mono ?_
              rintro e w3 ⟨rfl, -, hg3⟩
              have hc := chk_at Hok.out hlt (okAt_17 hlt Hhe.out Hho.out hf) (by decide)
              have hb4 : Below w.heap.size w w3 := (hb.trans (Hb3.out.mono hsz)).grown hg3 (Nat.le_trans hsz Hb3.out.size) (fun j hj => by cases hj; exact Nat.le_refl _)
              have Hc := Lib.hid hc
              clear n0 hf hg3 hc
              go_wp2_with fail
              go_ret
              exact ⟨ret_i64 Hc.out.symm, hb4⟩
          · rw [ho] at n0
            refine n0.mono ?_
            rintro e w2 ⟨rfl, hb2⟩
            have hc := chk_at Hok.out hlt (okAt_9 hlt he ho) (by decide)
            have hb3 : Below w.heap.size w w2 := hb.trans ((Hbr.out.trans (hb2.mono Hbr.out.size)).mono hsz)
            have Hc := Lib.hid hc
            clear n0 hc ho he hb2 hvv1
            go_wp2_with fail
            go_ret
            exact ⟨ret_i64 Hc.out.symm, hb3⟩
        · have hc := chk_at Hok.out hlt (okAt_1 hlt he) (by decide)
          obtain ⟨x, hx⟩ : ∃ x, evErr l[k] = x := ⟨_, rfl⟩
          rw [hx] at n0 he
          have hx1 : (x != 0) = true := by simpa using he
          unfold evCells at n0
          refine n0.mono ?_
          rintro e w1 ⟨rfl, hb1⟩
          have hbr : Below w.heap.size w w1 := (hb.alloc hsz _).trans (hb1.mono (Nat.le_trans hsz (by simp)))
          have Hc := Lib.hid hc
          clear n0 hb1 hr' hvv he hx hc
          go_wp2_with fail
          go_ret
          exact ⟨ret_i64 Hc.out.symm, hbr⟩
      · have hk' : k = l.length := by omega
        subst hk'
        have Hc := Lib.hid (chk_end hok)
        clear hok
        go_wp2_with fail
        go_ret
        exact ⟨ret_i64 Hc.out.symm, hb⟩
end Go.Proofs.YtofomblpbmpbaaaDoor

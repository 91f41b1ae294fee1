/- Check by the reference, the whole. -/
import Derived.Test.YtofomblpbmpbaaaDoorRck
import Derived.Test.YtofomblpbmpbaaaDoorLiv
import Derived.Test.YtofomblpbmpbaaaDoorDet
namespace Go.Proofs.YtofomblpbmpbaaaDoor
open Go.RowKit
theorem EvsV.take_ {w : World} {l : List Ev} {b off cap k : Nat} (hk : k ≤ l.length) (hc : l.length ≤ cap) (hb : b < w.heap.size) (h : EvsAt w b off l) : EvsV w (.slice (some ⟨b, off, none⟩) k cap) (l.take k) := by
  have hl : (l.take k).length = k := by simp; omega
  refine ⟨some ⟨b, off, none⟩, cap, by rw [hl], by rw [hl]; omega, fun _ => ⟨b, off, rfl, hb, fun j hj => ?_⟩⟩
  have := h j (by rw [hl] at hj; omega)
  simpa using this
def CPost (c : Int) (w : World) (en : Ending) (w' : World) : Prop := en = .returned (.int .i64 c) ∧ Below w.heap.size w w'
set_option maxRecDepth 100000 in
set_option maxHeartbeats 4000000 in
theorem check28 (l : List Ev) (v : Value) (w : World) (hv : EvsV w v l) (hl : l.length ≤ 65536) : Calls Tryd.prog 28 #[v] w (CPost (chk l) w) := by
  rcases hv.split with ⟨A, c, rfl, rfl⟩ | ⟨b, off, cap, rfl, hcap, hbw, hrow⟩
  · go_enter Tryd.func28, Tryd.ntmps28
    go_wp2_with fail
    refine wp_loop_rounds 1 ?_
    rw [rounds_succ]
    go_wp2_with fail
    go_ret
    exact ⟨rfl, (Below.refl _ _).alloc (Nat.le_refl _) _⟩
  · go_enter Tryd.func28, Tryd.ntmps28
    go_wp2_with fail
    go_loopw [4] (fun i wr => ∃ k : Nat, k ≤ l.length ∧ i = .int .i64 k ∧ OkTo l k ∧ EvAt wr w.heap.size (prevE l k) ∧ Below w.heap.size w wr) (fun i _ => l.length - (intOf i).toNat)
    case atStart => exact ⟨0, Nat.zero_le _, rfl, OkTo.zero _, heap_alloc_new w _, (Below.refl _ _).alloc (Nat.le_refl _) _⟩
    case round =>
      obtain ⟨k, hk, rfl, hok, hpe, hb⟩ := hrel
      have hsz := hb.size
      have hp := hpe.lt
      by_cases hlt : k < l.length
      · have hEv : EvsAt wr b off l := fun j hj => (hrow j hj).below hb hbw
        have hr' := hEv k hlt
        have hbr : b < wr.heap.size := by omega
        have hinv := hok.inv (Nat.le_of_lt hlt)
        have hpn := prevE_snoc l k hlt
        have Hpn := Lib.hid hpn
        have Hinv := Lib.hid hinv
        have Hev := Lib.hid hEv
        have Hpe := Lib.hid hpe
        have Hok := Lib.hid hok
        have Hrow := Lib.hid hrow
        clear hok hpe hinv hrow hpn hEv
        go_wp2_with ((with_reducible refine wpList_load_agg (o := ⟨some 15, .load 23 (.tmp 14), _, _, _, none⟩) rfl 23 _ rfl b (off + k * 8) ?_ _ hr' _ Tryd.underlying23 rfl ?_ ?_); (focus rfl); (focus kernel_rfl); simp only [evCells])
        have n0 := check42 l[k] wr
        by_cases he : evErr l[k] = 0
        · rw [he] at n0
          unfold evCells at n0
          refine n0.mono ?_
          rintro e w1 ⟨rfl, hb1⟩
          have hbs1 := hb1.size
          have hpe1 := Hpe.out.below hb1 hp
          have hr1 := hr'.below hb1 hbr
          have hev1 : EvsAt w1 b off l := fun j hj => (Hev.out j hj).below hb1 hbr
          have Hhe := Lib.hid he
          have Hev1 := Lib.hid hev1
          clear n0 hr' he hev1
          go_wp2_with fail
          refine wp_region_det (by kernel_rfl) (by kernel_rfl) (fun w' => Below w1.heap.size w1 w') ((Below.refl _ _).drew) ?_
          iterate 7
            apply wpDet_cons
            · rintro wx hx
              have g1 := (hpe1.below hx (Nat.lt_of_lt_of_le hp hbs1)).row
              have g2 := hr1.below hx (Nat.lt_of_lt_of_le hbr hbs1)
              go_wp2_with (first
                | ((with_reducible refine wpList_load_agg (o := ⟨some 18, .load 23 (.tmp 3), _, _, _, none⟩) rfl 23 _ rfl w.heap.size 0 ?_ _ g1 _ Tryd.underlying23 rfl ?_ ?_); (focus rfl); (focus kernel_rfl); simp only [evCells])
                | ((with_reducible refine wpList_load_agg (o := ⟨some 22, .load 23 (.tmp 21), _, _, _, none⟩) rfl 23 _ rfl b (off + k * 8) ?_ _ g2 _ Tryd.underlying23 rfl ?_ ?_); (focus rfl); (focus kernel_rfl); simp only [evCells])
                | (go_at_call 58; refine (ordered58 (prevE l k) l[k] _).mono ?_; rintro e w' ⟨rfl, hbk⟩))
              first | exact ⟨rfl, rfl, hx⟩ | exact ⟨rfl, rfl, hx.trans (hbk.mono hx.size)⟩
            go_frame
          rintro w2 hb2
          rw [← order_same]
          have hp2 : w.heap.size < w2.heap.size := Nat.lt_of_lt_of_le (Nat.lt_of_lt_of_le hp hbs1) hb2.size
          have hbr2 : b < w2.heap.size := Nat.lt_of_lt_of_le (Nat.lt_of_lt_of_le hbr hbs1) hb2.size
          have hpe2 := hpe1.below hb2 (Nat.lt_of_lt_of_le hp hbs1)
          have hev2 : EvsAt w2 b off l := fun j hj => (Hev1.out j hj).below hb2 (Nat.lt_of_lt_of_le hbr hbs1)
          have hb02 : Below w.heap.size w w2 := hb.trans ((hb1.trans (hb2.mono hbs1)).mono hsz)
          clear hpe1 hr1 hb2 hb1 hbs1
          rcases Bool.eq_false_or_eq_true (orderP (prevE l k) l[k]) with ho | ho
          · rw [ho]
            have Hho := Lib.hid ho
            have Hpe2 := Lib.hid hpe2
            have Hev2 := Lib.hid hev2
            clear ho hpe2 hev2
            go_wp2_with fail
            have hal := allowed_same Hinv.out Hhe.out
            have Hal := Lib.hid hal
            clear hal
            refine wp_region_det (by kernel_rfl) (by kernel_rfl) (fun w' => Below w2.heap.size w2 w') ((Below.refl _ _).drew) ?_
            iterate 9
              apply wpDet_cons
              · rintro wx hx
                have g2 := (Hev2.out k hlt).below hx hbr2
                have g3 : EvsV wx (.slice (some ⟨b, off, none⟩) k cap) (l.take k) := EvsV.take_ hk hcap (Nat.lt_of_lt_of_le hbr2 hx.size) (fun j hj => (Hev2.out j hj).below hx hbr2)
                go_wp2_with (first
                  | ((with_reducible refine wpList_load_agg (o := ⟨some 31, .load 23 (.tmp 30), _, _, _, none⟩) rfl 23 _ rfl b (off + k * 8) ?_ _ g2 _ Tryd.underlying23 rfl ?_ ?_); (focus rfl); (focus kernel_rfl); simp only [evCells])
                  | (go_at_call 59; refine (allowed59 (l.take k) _ l[k] _ g3 (by simp; omega)).mono ?_; rintro e w' ⟨rfl, hbk⟩))
                first | exact ⟨rfl, rfl, hx⟩ | exact ⟨rfl, rfl, hx.trans (hbk.mono hx.size)⟩
              go_frame
            rintro w3 hb3
            rw [← Hal.out]
            have hb03 : Below w.heap.size w w3 := hb02.trans (hb3.mono hb02.size)
            have hpe3 := Hpe2.out.below hb3 hp2
            have hr3 := (Hev2.out k hlt).below hb3 hbr2
            rcases Bool.eq_false_or_eq_true (fitsB (stOf (l.take k)) l[k]) with hf | hf
            · rw [hf]
              have Hok1 := Lib.hid (Hok.out.succ (okAt_0 hlt Hhe.out Hho.out hf))
              clear hf
              go_wp2_with (first
                | ((with_reducible refine wpList_load_agg (o := ⟨some 37, .load 23 (.tmp 36), _, _, _, none⟩) rfl 23 _ rfl b (off + k * 8) ?_ _ hr3 _ Tryd.underlying23 rfl ?_ ?_); (focus rfl); (focus kernel_rfl); simp only [evCells])
                | ((with_reducible refine wpList_storeEv rfl (.tmp 3) (.tmp 37) rfl w.heap.size (prevE l k) l[k] rfl rfl hpe3 ?_); intro w4 he4 hk4 hs4 hw4))
              go_roundw
              case rel =>
                refine ⟨k + 1, by omega, by go_num, Hok1.out, ?_, hw4 _ _ hb03 (Nat.le_refl _)⟩
                rw [Hpn.out]
                exact he4
              case measure => simp [intOf]; omega
            · rw [hf]
              have Hc := Lib.hid (chk_at Hok.out hlt (okAt_17 hlt Hhe.out Hho.out hf) (by decide))
              clear hf
              go_wp2_with fail
              go_ret
              exact ⟨ret_i64 Hc.out.symm, hb03⟩
          · rw [ho]
            have Hc := Lib.hid (chk_at Hok.out hlt (okAt_9 hlt Hhe.out ho) (by decide))
            clear ho
            go_wp2_with fail
            go_ret
            exact ⟨ret_i64 Hc.out.symm, hb02⟩
        · have hc := chk_at Hok.out hlt (okAt_1 hlt he) (by decide)
          obtain ⟨x, hx⟩ : ∃ x, evErr l[k] = x := ⟨_, rfl⟩
          rw [hx] at n0 he
          have hx1 : (x != 0) = true := by simpa using he
          unfold evCells at n0
          refine n0.mono ?_
          rintro e w1 ⟨rfl, hb1⟩
          have hbr : Below w.heap.size w w1 := hb.trans (hb1.mono hsz)
          have Hc := Lib.hid hc
          clear n0 hb1 hr' he hx hc
          go_wp2_with fail
          go_ret
          exact ⟨ret_i64 Hc.out.symm, hbr⟩
      · have hk' : k = l.length := by omega
        subst hk'
        have Hc := Lib.hid (chk_end hok)
        clear hok hpe
        go_wp2_with fail
        go_ret
        exact ⟨ret_i64 Hc.out.symm, hb⟩
end Go.Proofs.YtofomblpbmpbaaaDoor

/- The law of the tasks: the walk. -/
import Derived.Test.YtofomblpbmpbaaaDoorTsk
import Derived.Test.YtofomblpbmpbaaaDoorLaw1
import Derived.Deep.CutRange
import Derived.BigQuiet
import Derived.BigRegion
namespace Go.Proofs.YtofomblpbmpbaaaDoor
open Go.RowKit
theorem int_row {w : World} {g off : Nat} {xs : List Int} (h : Row w g off (xs.map intV)) : ∀ j, j < xs.length → w.cell? ⟨g, off + j, none⟩ = some (.int .i64 (xs.getD j 0)) := by
  intro j hj
  refine (h j (intV xs[j]) (by simp [hj])).trans ?_
  simp [intV, List.getD_eq_getElem?_getD, List.getElem?_eq_getElem hj]
theorem contains17 (w : World) (B : Nat) (v : Value) (xs : List Int) (x : Int) (h : IntsV w B v xs) (hl : xs.length ≤ 65536) :
    Calls Tryd.prog 17 #[v, .int .i64 x] w fun e w' => e = .returned (.bool (xs.contains x)) ∧ w' = w := by
  rcases h with ⟨rfl, rfl⟩ | ⟨g, cap, rfl, hcap, -, hg, hrow⟩
  · exact Tryd.slices_Contains_int_empty none 0 x w
  · have := Tryd.slices_Contains_int g 0 xs.length cap xs x w (Nat.le_refl _) (by omega) (int_row hrow)
    rwa [List.take_length] at this
/-- The same of both forms: a slice of so many events. -/
theorem EvsV.part {w : World} {v : Value} {m : List Ev} (h : EvsV w v m) : ∃ p c, v = .slice p m.length c ∧ (∀ k (hk : k < m.length), ∃ g o, p = some ⟨g, o, none⟩ ∧ g < w.heap.size ∧ EvsAt w g o m) := by
  rcases h.split with ⟨A, c, rfl, rfl⟩ | ⟨b, off, cap, rfl, -, hb, hr⟩
  · exact ⟨A, c, rfl, fun k hk => absurd hk (Nat.not_lt_zero _)⟩
  · exact ⟨_, _, rfl, fun _ _ => ⟨b, off, rfl, hb, hr⟩⟩
/-- Numbers that are still to come. -/
def RestV (w : World) (v : Value) (xs : List Int) : Prop := ∃ p c, v = .slice p xs.length c ∧ xs.length ≤ c ∧ (xs ≠ [] → ∃ g o, p = some ⟨g, o, none⟩ ∧ g < w.heap.size ∧ Row w g o (xs.map intV))
theorem IntsV.rest {w : World} {B : Nat} {v : Value} {xs : List Int} (h : IntsV w B v xs) : RestV w v xs := by
  rcases h with ⟨rfl, rfl⟩ | ⟨g, cap, rfl, hc, -, hg, hr⟩
  · exact ⟨none, 0, rfl, Nat.le_refl _, fun h => absurd rfl h⟩
  · exact ⟨_, _, rfl, hc, fun _ => ⟨g, 0, rfl, hg, hr⟩⟩
theorem RestV.below {w w' : World} {v : Value} {xs : List Int} (h : RestV w v xs) (hb : Below w.heap.size w w') : RestV w' v xs := by
  obtain ⟨p, c, rfl, hc, hr⟩ := h
  refine ⟨p, c, rfl, hc, fun hx => ?_⟩
  obtain ⟨g, o, rfl, hg, hrow⟩ := hr hx
  exact ⟨g, o, rfl, Nat.lt_of_lt_of_le hg hb.size, hrow.below hb hg⟩
set_option maxRecDepth 100000 in
set_option maxHeartbeats 4000000 in
theorem traceTasks5 (l : List Ev) (v : Value) (w : World) (hE : Env w) (hv : EvsV w v l) : Calls Tryd.prog 5 #[v] w (LPost w) := by
  by_cases hbig : 80 < l.length
  · have hd : decide (80 < l.length) = true := decide_eq_true hbig
    go_enter Tryd.func5, Tryd.ntmps5
    go_wp2_with fail
    have n0 := great16 w v l hv
    rw [hd] at n0
    refine n0.mono ?_
    rintro e w1 ⟨rfl, rfl⟩
    go_wp2_with fail
    refine (awake11 _ hE).mono ?_
    rintro e w1 ⟨rfl, hb1⟩
    go_wp2_with fail
    go_ret
    exact ⟨rfl, hb1⟩
  · have hd : decide (80 < l.length) = false := decide_eq_false hbig
    go_enter Tryd.func5, Tryd.ntmps5
    go_wp2_with fail
    have n0 := great16 w v l hv
    rw [hd] at n0
    refine n0.mono ?_
    rintro e w1 ⟨rfl, rfl⟩
    clear n0 hd
    rcases hv.split with ⟨A, c, rfl, rfl⟩ | ⟨b, off, cap, rfl, hcap, hbw, hrow⟩
    · go_wp2_with fail
      refine wp_loop_rounds 1 ?_
      rw [rounds_succ]
      go_wp2_with fail
      refine wp_loop_rounds 1 ?_
      rw [rounds_succ]
      go_wp2_with fail
      refine (awake11 _ (hE.alloc _)).mono ?_
      rintro e w1 ⟨rfl, hb1⟩
      go_wp2_with fail
      go_ret
      exact ⟨rfl, ((Below.refl _ _).alloc (Nat.le_refl _) _).trans (hb1.mono (by simp))⟩
    · go_wp2_with fail
      go_loopw [3, 20] (fun v i wr => ∃ k : Nat, k ≤ l.length ∧ i = .int .i64 k ∧ wr.ownsRow w.heap.size 3 1 v (tasksF (l.take k)).length ((tasksF (l.take k)).map intV) ∧ Below w.heap.size w wr) (fun _ i _ => l.length - (intOf i).toNat)
      case atStart => exact ⟨0, Nat.zero_le _, rfl, World.ownsRow_made w #[] 0 (Nat.le_refl _) (by unfold maxLen; omega) rfl, (Below.refl _ _).alloc (Nat.le_refl _) _⟩
      case round =>
        obtain ⟨k, hk, rfl, hown, hb⟩ := hrel
        have hsz := hb.size
        by_cases hlt : k < l.length
        · have hr' : Row wr b (off + k * 8) (evCells l[k]) := (hrow k hlt).below hb hbw
          have hle : (tasksF (l.take k)).length ≤ k := Nat.le_trans (tasks_len _) (List.length_take_le _ _)
          have Hrow := Lib.hid hrow
          clear hrow
          go_wp2_with ((with_reducible refine wpList_load_agg (o := ⟨some 23, .load 23 (.tmp 22), _, _, _, none⟩) rfl 23 _ rfl b (off + k * 8) ?_ _ hr' _ Tryd.underlying23 rfl ?_ ?_); (focus rfl); (focus kernel_rfl); simp only [evCells])
          refine (contains17 _ w.heap.size _ (tasksF (l.take k)) _ (intsV_own (hown.alloc _) (Nat.le_refl _)) (by omega)).mono ?_
          rcases Bool.eq_false_or_eq_true ((tasksF (l.take k)).contains l[k].task) with ht | ht
          · have Hhit := Lib.hid (tasks_hit l k hlt ht)
            rw [ht]
            rintro e w2 ⟨rfl, rfl⟩
            go_wp2_with fail
            go_roundw
            case rel =>
              refine ⟨k + 1, by omega, by go_num, ?_, hb.alloc hsz _⟩
              rw [Hhit.out]
              exact hown.alloc _
            case measure => simp [intOf]; omega
          · have Hhit := Lib.hid (tasks_miss l k hlt ht)
            rw [ht]
            rintro e w2 ⟨rfl, rfl⟩
            go_wp2_with (at_builtin; refine wpList_app rfl _ _ 33 rfl w.heap.size 3 1 8 T33 _ _ _ rfl ((hown.alloc _).alloc _) (wr.heap.size + 1) [intV l[k].task] rfl rfl (Row.new _ _ _ _ (by simp)) (by intro u hu; simp at hu; subst hu; rfl) (by omega) (by omega) (by simp; omega) ?_; intro v' w3 hown1 hgr1)
            go_roundw
            case rel =>
              refine ⟨k + 1, by omega, by go_num, ?_, ((hb.alloc hsz _).alloc (by simp; omega) _).grown hgr1 (by simp; omega) (fun j hj => (hown.lt j hj).1)⟩
              rw [Hhit.out, List.length_append, List.map_append]
              exact hown1
            case measure => simp [intOf]; omega
        · have hk' : k = l.length := by omega
          subst hk'
          rw [List.take_length] at hown
          obtain ⟨hnd, hall, hsum⟩ := tasks_ok l
          have hpart := sum_take_le l
          have htl := tasks_len l
          have Hpart := Lib.hid hpart
          clear hnd hall hpart
          have hiv := intsV_own hown (Nat.le_refl _)
          clear hown hk
          generalize tasksF l = ts at *
          rcases hiv with ⟨rfl, rfl⟩ | ⟨g, cap2, rfl, hcap2, hg0, hg1, hts⟩
          · have hl0 : l.length = 0 := hsum.symm
            have hl1 : l = [] := List.eq_nil_of_length_eq_zero hl0
            subst hl1
            clear hsum
            go_wp2_with fail
            refine wp_loop_rounds 1 ?_
            rw [rounds_succ]
            go_wp2_with fail
            refine (awake11 _ (hE.below hb)).mono ?_
            rintro e w1 ⟨rfl, hb1⟩
            go_wp2_with fail
            go_ret
            exact ⟨rfl, hb.trans (hb1.mono hsz)⟩
          · have Hsum := Lib.hid hsum
            clear hsum hlt
            go_wp2_with fail
            generalize wr = wl at *
            go_loopw [6, 37] (fun tot i wr => ∃ j : Nat, j ≤ ts.length ∧ i = .int .i64 j ∧ tot = .int .i64 (sumF l (ts.take j)) ∧ Below wl.heap.size wl wr) (fun _ i _ => ts.length - (intOf i).toNat)
            case atStart => exact ⟨0, Nat.zero_le _, rfl, rfl, Below.refl _ _⟩
            case round =>
              obtain ⟨j, hj, rfl, rfl, hb2⟩ := hrel
              by_cases hjt : j < ts.length
              · have hcell := (hb2.cell (p := ⟨g, 0 + j, none⟩) hg1).trans (int_row hts j hjt)
                have hgd : ts.getD j 0 = ts[j] := by simp [List.getD_eq_getElem?_getD, List.getElem?_eq_getElem hjt]
                rw [hgd, Nat.zero_add] at hcell
                have hss := sum_succ l ts j hjt
                have hsb := Hpart.out (j + 1)
                rw [hss] at hsb
                obtain ⟨t, ht⟩ : ∃ t, ts[j] = t := ⟨_, rfl⟩
                rw [ht] at hcell hss hsb
                have hbz := hb2.size
                have hb0 : Below w.heap.size w wr := hb.trans (hb2.mono hsz)
                have hvv : EvsV wr (.slice (some ⟨b, off, none⟩) l.length cap) l := EvsV.mk_ hcap (by omega) (hrow.below hb0 hbw)
                have Hss := Lib.hid hss
                have Ht := Lib.hid ht
                have hrow0 := Lib.hid hrow
                have Hts := Lib.hid hts
                clear hss ht hgd hrow hts
                go_wp2_with fail
                refine (of18 l _ t wr hvv (by omega)).mono ?_
                rintro e w3 ⟨v3, rfl, hown3, hb3⟩
                have hmv := evsV_own hown3
                clear hown3
                obtain ⟨m, hm⟩ : ∃ m, ofF l t = m := ⟨_, rfl⟩
                rw [hm] at hmv hsb
                have Hm := Lib.hid hm
                clear hm
                have hvv3 := hvv.below hb3
                obtain ⟨pm, cm, rfl, hmine⟩ := hmv.part
                have Hmine := Lib.hid hmine
                clear hmine hmv
                go_wp2_with fail
                refine (clean19 l _ t w3 hvv3 (by omega)).mono ?_
                rintro e w4 ⟨v4, rfl, hiv4, hb4⟩
                have hrest := hiv4.rest
                have hb34 := hb3.trans (hb4.mono hb3.size)
                have hs4 := hb34.size
                have hr4 := (hrow0.out.below hb0 hbw).below hb34 (by omega)
                rw [← rest_zero] at hrest
                have Hrest := Lib.hid hrest
                have Hr4 := Lib.hid hr4
                have Hmine4 := Lib.hid (show ∀ k (hk : k < m.length), ∃ g o, pm = some ⟨g, o, none⟩ ∧ g < w4.heap.size ∧ EvsAt w4 g o m from fun k hk => by
                  obtain ⟨g, o, e1, e2, e3⟩ := Hmine.out k hk
                  exact ⟨g, o, e1, Nat.lt_of_lt_of_le e2 hb4.size, e3.below hb4 e2⟩)
                clear hrest hr4 Hmine hiv4 hvv hvv3
                go_wp2_with fail
                generalize wr = wj at *
                go_loopw [10, 11, 53] (fun kv cv iv wr => ∃ i : Nat, i ≤ l.length ∧ iv = .int .i64 i ∧ kv = .int .i64 (ofF (l.take i) t).length ∧ RestV wr cv (restF l t i) ∧ Below w4.heap.size w4 wr) (fun _ _ iv _ => l.length - (intOf iv).toNat)
                case atStart => exact ⟨0, Nat.zero_le _, rfl, rfl, Hrest.out, Below.refl _ _⟩
                case round =>
                  obtain ⟨i, hi, rfl, rfl, hrs, hb5⟩ := hrel
                  have hs5 := hb5.size
                  by_cases hil : i < l.length
                  · have hr' : Row wr b (off + i * 8) (evCells l[i]) := (Hr4.out i hil).below hb5 (by omega)
                    obtain ⟨kk, hkk⟩ : ∃ kk, (ofF (l.take i) t).length = kk := ⟨_, rfl⟩
                    have hkl : kk ≤ i := by rw [← hkk]; exact Nat.le_trans (ofF_le _ _) (List.length_take_le _ _)
                    rw [hkk]
                    have Hkk := Lib.hid hkk
                    clear hkk
                    rcases Bool.eq_false_or_eq_true (l[i].task == t) with hT | hT
                    · have hmi := mine_at l t i hil hT
                      rw [Hkk.out, Hm.out] at hmi
                      obtain ⟨hkm, hme⟩ := List.getElem?_eq_some_iff.1 hmi
                      obtain ⟨gm, om, rfl, hgm, hev⟩ := Hmine4.out kk hkm
                      have hrm := (hev kk hkm).below hb5 hgm
                      rw [hme] at hrm
                      have hgw : gm < wr.heap.size := by omega
                      have Hoff := Lib.hid (ofF_hit l t i hil hT)
                      have hRk := fun hK => rest_hit l t i hil hT hK
                      have hRn := fun hK => rest_miss l t i hil hT hK
                      have HRk := Lib.hid hRk
                      have HRn := Lib.hid hRn
                      have Hrs := Lib.hid hrs
                      clear hmi hme hev hrs hRk hRn
                      obtain ⟨ev, hev0⟩ : ∃ ev, l[i] = ev := ⟨_, rfl⟩
                      rw [hev0] at hrm hr' hT HRk HRn
                      have Hev := Lib.hid hev0
                      have Hrm := Lib.hid hrm
                      clear hev0 hrm
                      go_upto_region 22 with ((with_reducible refine wpList_load_agg (o := ⟨some 56, .load 23 (.tmp 55), _, _, _, none⟩) rfl 23 _ rfl b (off + i * 8) ?_ _ hr' _ Tryd.underlying23 rfl ?_ ?_); (focus rfl); (focus kernel_rfl); simp only [evCells])
                      have hEw : EvAt (wr.alloc (.cells (evCells ev).toArray 23)) wr.heap.size ev := Array.getElem?_push_size
                      have hrm' := Hrm.out.alloc hgw (.cells (evCells ev).toArray 23)
                      have hBy : Below w4.heap.size w4 (wr.alloc (.cells (evCells ev).toArray 23)) := hb5.alloc hs5 _
                      have hrsy := Hrs.out.below ((Below.refl _ _).alloc (Nat.le_refl _) (.cells (evCells ev).toArray 23))
                      have m0 := hrm' 0 _ rfl
                      have m1 := hrm' 1 _ rfl
                      have m2 := hrm' 2 _ rfl
                      have m3 := hrm' 3 _ rfl
                      have m4 := hrm' 4 _ rfl
                      have m5 := hrm' 5 _ rfl
                      have m6 := hrm' 6 _ rfl
                      have m7 := hrm' 7 _ rfl
                      rw [Nat.add_zero] at m0
                      obtain ⟨y0, y1, y2, y3, y4, y5, y6, y7⟩ := hEw.cells
                      have Hr := Lib.hid hrsy
                      clear hrm' hEw hrsy Hrm Hrs hr'
                      generalize hN : wr.heap.size = N at *
                      simp only [evCells] at m0 m1 m2 m3 m4 m5 m6 m7 y0 y1 y2 y3 y4 y5 y6 y7 hBy Hr
                      generalize wr.alloc (.cells #[.int .i64 ev.step, .int .i64 ev.time, .int .i64 ev.task, .int .i64 ev.kind, .int .i64 ev.object, .int .i64 ev.scope, .int .i64 ev.value, .int .i64 ev.other] 23) = wy at *
                      clear hN
                      have hki : (m.length ≤ kk) = False := by simp; omega
                      rcases Bool.eq_false_or_eq_true (ev.kind == 209) with hK | hK
                      · have hx := HRk.out hK
                        have hrr := Hr.out
                        rw [hx] at hrr
                        obtain ⟨pc, cc, rfl, hcc, hrowc⟩ := hrr
                        obtain ⟨g2, o2, rfl, hg2, hrow2⟩ := hrowc (by simp)
                        have c0 : wy.cell? ⟨g2, o2, none⟩ = some (.int .i64 ev.value) := hrow2 0 _ rfl
                        have hrow3 := hrow2.drop 1
                        obtain ⟨rs, hrs2⟩ : ∃ rs, restF l t (i + 1) = rs := ⟨_, rfl⟩
                        rw [hrs2] at hcc hrow3 ⊢
                        have Hrs2 := Lib.hid hrs2
                        have Hrow3 := Lib.hid hrow3
                        simp only [List.length_cons] at hcc ⊢
                        clear hx hrowc hrow2 hrs2 hrow3 Hr HRk HRn
                        go_region
                        go_wp2_with fail
                        have hz : ((rs.length : Int) + 1 == 0) = false := by simp; omega
                        have hz2 : ((((rs.length + 1 : Nat) : Int)) == 0) = false := by simp; omega
                        go_region
                        go_wp2_with fail
                        all_goals
                          go_roundw
                          case rel =>
                            refine ⟨i + 1, by omega, by go_num, ?_, ?_, ?_⟩
                            · rw [Hoff.out, List.length_append, Hkk.out]
                              go_num
                            · rw [Hrs2.out]
                              refine ⟨_, _, rfl, by omega, fun hx => ?_⟩
                              have hr1 : rs.length ≠ 0 := fun h => hx (List.eq_nil_of_length_eq_zero h)
                              exact ⟨g2, o2 + 1, if_neg (by omega), hg2, fun q u hq => Hrow3.out q u hq⟩
                            · exact hBy.drew.drew
                          case measure => simp [intOf]; omega
                      · have hx := HRn.out hK
                        have hrr := Hr.out
                        rw [← hx] at hrr
                        have Hrr := Lib.hid hrr
                        clear hx hrr Hr HRk HRn
                        go_region
                        go_wp2_with fail
                        go_roundw
                        case rel =>
                          refine ⟨i + 1, by omega, by go_num, ?_, ?_, ?_⟩
                          · rw [Hoff.out, List.length_append, Hkk.out]
                            go_num
                          · exact Hrr.out.below ((Below.refl _ _).drew)
                          · exact hBy.drew
                        case measure => simp [intOf]; omega
                    · have Hoff := Lib.hid (ofF_miss l t i hil hT)
                      have Hro := Lib.hid (rest_other l t i hil hT)
                      have Hrs := Lib.hid hrs
                      clear hrs
                      go_wp2_with ((with_reducible refine wpList_load_agg (o := ⟨some 56, .load 23 (.tmp 55), _, _, _, none⟩) rfl 23 _ rfl b (off + i * 8) ?_ _ hr' _ Tryd.underlying23 rfl ?_ ?_); (focus rfl); (focus kernel_rfl); simp only [evCells])
                      go_roundw
                      case rel =>
                        refine ⟨i + 1, by omega, by go_num, ?_, ?_, hb5.alloc hs5 _⟩
                        · rw [Hoff.out, Hkk.out]
                        · rw [Hro.out]
                          exact Hrs.out.below ((Below.refl _ _).alloc (Nat.le_refl _) _)
                      case measure => simp [intOf]; omega
                  · have hil' : i = l.length := by omega
                    subst hil'
                    rw [rest_end] at hrs
                    obtain ⟨pc, cc, rfl, -, -⟩ := hrs
                    have Hss' := Lib.hid (show ((sumF l (ts.take (j + 1)) : Nat) : Int) = (sumF l (ts.take j) : Nat) + (m.length : Nat) by rw [Hss.out, Hm.out]; simp)
                    simp only [List.length_nil]
                    go_wp2_with fail
                    go_roundw
                    case rel =>
                      refine ⟨j + 1, by omega, by go_num, ?_, hb2.trans ((hb34.trans (hb5.mono hs4)).mono hbz)⟩
                      rw [Hss'.out]
                    case measure => simp [intOf]; omega
              · have hj' : j = ts.length := by omega
                subst hj'
                have hb0 : Below w.heap.size w wr := hb.trans (hb2.mono hsz)
                rw [List.take_length, Hsum.out]
                go_wp2_with fail
                refine (awake11 _ (hE.below hb0)).mono ?_
                rintro e w1 ⟨rfl, hb1⟩
                go_wp2_with fail
                go_ret
                exact ⟨rfl, hb0.trans (hb1.mono hb0.size)⟩
end Go.Proofs.YtofomblpbmpbaaaDoor

/- Check, by the reference. -/
import Derived.Test.YtgeclafcbgocgaaDoorRcl
import Derived.Test.YtgeclafcbgocgaaDoorChk
namespace Go.Proofs.YtgeclafcbgocgaaDoor
open Go.RowKit
theorem marks_le (l : List Cl) : (marks l).length ≤ 2 * l.length := by
  induction l with
  | nil => simp [marks]
  | cons x l ih =>
    rw [show marks (x :: l) = marksOf x ++ marks l by simp [marks], List.length_append, List.length_cons]
    have : (marksOf x).length ≤ 2 := by unfold marksOf; split <;> simp
    omega
theorem marks_cut (l : List Cl) (k : Nat) : marks l = marks (l.take k) ++ marks (l.drop k) := by
  have : marks (l.take k ++ l.drop k) = marks (l.take k) ++ marks (l.drop k) := by unfold marks; rw [List.flatMap_append]
  rwa [List.take_append_drop] at this
theorem count_marksOf (x : Cl) (n : Nat) : (marksOf x).count (n : Int) = (if x.begin_ = (n : Int) then 1 else 0) + (if x.end_ = (n : Int) then 1 else 0) := by
  unfold marksOf
  by_cases h : x.end_ = -1
  · rw [if_pos h, if_neg (show ¬ x.end_ = (n : Int) by omega)]
    simp [List.count_cons]
  · rw [if_neg h]
    simp only [List.count_cons, List.count_nil, beq_iff_eq]
    omega
theorem rpos_bad {l : List Cl} (h : Calls0 l) {n : Nat} (hn : n < (marks l).length) (hc : (marks l).count (n : Int) ≠ 1) : posOk l = false := by
  cases hp : posOk l with
  | false => rfl
  | true => exact absurd ((pos_same (marks_nonneg h)).1 hp n hn) hc
theorem rpos_good {l : List Cl} (h : Calls0 l) (hc : ∀ n : Nat, n < (marks l).length → (marks l).count (n : Int) = 1) : posOk l = true := (pos_same (marks_nonneg h)).2 hc
/-- Two calls of a task may stand so. -/
def okP (x y : Cl) : Prop := x.task = y.task → x.end_ ≠ -1 ∧ x.end_ ≤ y.begin_
theorem rst_iff {l : List Cl} (h : Calls0 l) (hp : posOk l = true) : stOk l = true ↔ stR l := by
  have hc := (pos_same (marks_nonneg h)).1 hp
  exact stOk_iff.trans (st_same h.up (end_ne_begin (count_le_of h hc).2))
set_option maxRecDepth 100000 in
set_option maxHeartbeats 4000000 in
theorem rcheck16 (l : List Cl) (v : Value) (w : World) (hv : ClV w v l) (hl : l.length ≤ 65536) :
    Calls Tryd.prog 16 #[v] w fun e w' => e = .returned (.int .i64 (chkH l)) ∧ Below w.heap.size w w' := by
  have HP : ∀ x w', chkH l = x → Below w.heap.size w w' → (Ending.returned (.int .i64 x) = Ending.returned (.int .i64 (chkH l)) ∧ Below w.heap.size w w') := fun x w' h hb => ⟨by rw [h], hb⟩
  rcases hv.split with ⟨A, c, rfl, rfl⟩ | ⟨b, off, cap, rfl, hcap, hbw, hrow⟩
  · go_enter Tryd.func16, Tryd.ntmps16
    go_wp2_with fail
    refine wp_loop_rounds 1 ?_
    rw [rounds_succ]
    go_wp2_with fail
    refine wp_loop_rounds 1 ?_
    rw [rounds_succ]
    go_wp2_with fail
    refine wp_loop_rounds 1 ?_
    rw [rounds_succ]
    go_wp2_with fail
    go_ret
    exact HP 0 _ rfl (Below.refl _ _)
  · by_cases hl0 : 100 < l.length
    · clear hv
      go_enter Tryd.func16, Tryd.ntmps16
      go_wp2_with fail
      go_ret
      exact HP 4 _ (by unfold chkH; rw [if_pos hl0]) (Below.refl _ _)
    · have Hv := Lib.hid hv
      clear hv
      have Hl := Lib.hid (show l.length ≤ 100 by omega)
      go_enter Tryd.func16, Tryd.ntmps16
      go_wp2_with fail
      go_loopw [3, 4] (fun t i wr => ∃ k : Nat, k ≤ l.length ∧ i = .int .i64 k ∧ t = .int .i64 ((marks (l.take k)).length : Nat) ∧ Hid (firstErr (callAt l) k = 0) ∧ Below w.heap.size w wr) (fun _ i _ => l.length - (intOf i).toNat)
      case atStart => exact ⟨0, Nat.zero_le _, rfl, rfl, rfl, Below.refl _ _⟩
      case round =>
        obtain ⟨k, hk, rfl, rfl, hz, hb⟩ := hrel
        by_cases hlt : k < l.length
        · have n0 := call36 l _ k wr (Hv.out.below hb) hlt hl
          obtain ⟨x, hx⟩ : ∃ x, callAt l k = x := ⟨_, rfl⟩
          rw [hx] at n0
          have Hx := Lib.hid hx
          clear hx
          rcases Bool.eq_false_or_eq_true (x != 0) with ht | ht
          · have hfin : chkH l = x := by
              refine chkH_calls Hl.out ?_ (by simpa using ht)
              unfold callsErr
              rw [firstErr_at hlt (firstErr_zero.1 hz.out) (by rw [Hx.out]; simpa using ht), Hx.out]
            have HF := Lib.hid hfin
            clear hfin
            go_wp2_with fail
            refine n0.mono ?_
            rintro e w1 ⟨rfl, hb1⟩
            clear n0
            go_wp2_with fail
            go_ret
            exact HP _ _ HF.out (hb.trans (hb1.mono hb.size))
          · have hz2 : firstErr (callAt l) (k + 1) = 0 := by
              show (if firstErr (callAt l) k ≠ 0 then _ else callAt l k) = 0
              rw [if_neg (by rw [hz.out]; simp), Hx.out]
              simpa using ht
            have HZ := Lib.hid hz2
            clear hz2
            have hr5 : wr.cell? ⟨b, off + k * 6 + 5, none⟩ = some (.int .i64 l[k].end_) := ((hrow k hlt).below hb hbw) 5 _ rfl
            have Hmt := Lib.hid (marks_take l k hlt)
            obtain ⟨y, hy⟩ : ∃ y, l[k] = y := ⟨_, rfl⟩
            rw [hy] at hr5
            have Hy := Lib.hid hy
            clear hy
            rcases Bool.eq_false_or_eq_true (y.end_ != -1) with he | he
            · have Hm := Lib.hid (show (((marks (l.take (k + 1))).length : Nat) : Int) = ((marks (l.take k)).length : Nat) + 1 + 1 by rw [Hmt.out, Hy.out, List.length_append]; unfold marksOf; rw [if_neg (by simpa using he)]; simp; omega)
              have hq200 : (marks (l.take k)).length ≤ 200 := by have := marks_le (l.take k); have := Hl.out; have := List.length_take_le k l; omega
              generalize (marks (l.take k)).length = q at Hm hq200 ⊢
              clear Hmt Hy
              go_wp2_with fail
              refine n0.mono ?_
              rintro e w1 ⟨rfl, hb1⟩
              clear n0
              have hr6 := (hb1.cell (p := ⟨b, off + k * 6 + 5, none⟩) (Nat.lt_of_lt_of_le hbw hb.size)).trans hr5
              clear hr5
              go_wp2_with fail
              go_roundw
              case rel => exact ⟨k + 1, by omega, by go_num, by rw [Hm.out], HZ, hb.trans (hb1.mono hb.size)⟩
              case measure => simp [intOf]; omega
            · have Hm := Lib.hid (show (((marks (l.take (k + 1))).length : Nat) : Int) = ((marks (l.take k)).length : Nat) + 1 by rw [Hmt.out, Hy.out, List.length_append]; unfold marksOf; rw [if_pos (by simpa using he)]; simp)
              have hq200 : (marks (l.take k)).length ≤ 200 := by have := marks_le (l.take k); have := Hl.out; have := List.length_take_le k l; omega
              generalize (marks (l.take k)).length = q at Hm hq200 ⊢
              clear Hmt Hy
              go_wp2_with fail
              refine n0.mono ?_
              rintro e w1 ⟨rfl, hb1⟩
              clear n0
              have hr6 := (hb1.cell (p := ⟨b, off + k * 6 + 5, none⟩) (Nat.lt_of_lt_of_le hbw hb.size)).trans hr5
              clear hr5
              go_wp2_with fail
              go_roundw
              case rel => exact ⟨k + 1, by omega, by go_num, by rw [Hm.out], HZ, hb.trans (hb1.mono hb.size)⟩
              case measure => simp [intOf]; omega
        · have hk' : k = l.length := by omega
          subst hk'
          rw [List.take_length]
          have hc0 : Calls0 l := callsErr_zero.1 hz.out
          have Hc0 := Lib.hid hc0
          clear hc0
          obtain ⟨P, hP⟩ : ∃ P, (marks l).length = P := ⟨_, rfl⟩
          have HPl := Lib.hid hP
          have hP200 : P ≤ 200 := by
            have := marks_le l
            have := Hl.out
            omega
          rw [hP]
          clear hP
          obtain ⟨wm, hwm⟩ : ∃ x, x = wr := ⟨_, rfl⟩
          subst hwm
          go_wp2_with fail
          go_loopw [6] (fun i wr => ∃ n : Nat, n ≤ P ∧ i = .int .i64 n ∧ Hid (∀ v : Nat, v < n → (marks l).count (v : Int) = 1) ∧ Below w.heap.size w wr) (fun i _ => P - (intOf i).toNat)
          case atStart => exact ⟨0, Nat.zero_le _, rfl, fun v hv => absurd hv (Nat.not_lt_zero _), hb⟩
          case round =>
            clear hb
            obtain ⟨n, hn, rfl, hcn, hb⟩ := hrel
            obtain ⟨wm2, hwm2⟩ : ∃ x, x = wr := ⟨_, rfl⟩
            subst hwm2
            by_cases hnt : n < P
            · go_wp2_with fail
              go_loopw [7, 8] (fun c i wr => ∃ k : Nat, k ≤ l.length ∧ i = .int .i64 k ∧ c = .int .i64 ((marks (l.take k)).count (n : Int) : Nat) ∧ Below w.heap.size w wr) (fun _ i _ => l.length - (intOf i).toNat)
              case atStart => exact ⟨0, Nat.zero_le _, rfl, by simp [marks], hb⟩
              case round =>
                clear hb
                obtain ⟨k, hk, rfl, rfl, hb⟩ := hrel
                by_cases hkt : k < l.length
                · have hr4 : wr.cell? ⟨b, off + k * 6 + 4, none⟩ = some (.int .i64 l[k].begin_) := ((hrow k hkt).below hb hbw) 4 _ rfl
                  have hr5 : wr.cell? ⟨b, off + k * 6 + 5, none⟩ = some (.int .i64 l[k].end_) := ((hrow k hkt).below hb hbw) 5 _ rfl
                  have hct : (marks (l.take (k + 1))).count (n : Int) = (marks (l.take k)).count (n : Int) + ((if l[k].begin_ = (n : Int) then 1 else 0) + (if l[k].end_ = (n : Int) then 1 else 0)) := by
                    rw [marks_take l k hkt, List.count_append, count_marksOf]
                  have hqb : (marks (l.take k)).count (n : Int) ≤ 200 := by
                    have h1 : (marks (l.take k)).count (n : Int) ≤ (marks l).count (n : Int) := by
                      rw [marks_cut l k, List.count_append]
                      omega
                    have h2 := List.count_le_length (a := (n : Int)) (l := marks l)
                    have := HPl.out
                    omega
                  generalize (marks (l.take k)).count (n : Int) = q at *
                  have Hct := Lib.hid hct
                  clear hct
                  obtain ⟨y, hy⟩ : ∃ y, l[k] = y := ⟨_, rfl⟩
                  rw [hy] at hr4 hr5 Hct
                  clear hy
                  rcases Bool.eq_false_or_eq_true (y.begin_ == (n : Int)) with h1 | h1 <;> rcases Bool.eq_false_or_eq_true (y.end_ == (n : Int)) with h2 | h2
                  · have hq := Hct.out
                    rw [if_pos (by simpa using h1), if_pos (by simpa using h2)] at hq
                    have Hq := Lib.hid hq
                    clear hq Hct
                    go_wp2_with fail
                    go_roundw
                    case rel => exact ⟨k + 1, by omega, by go_num, by rw [Hq.out]; simp; omega, hb⟩
                    case measure => simp [intOf]; omega
                  · have hq := Hct.out
                    rw [if_pos (by simpa using h1), if_neg (by simpa using h2)] at hq
                    have Hq := Lib.hid hq
                    clear hq Hct
                    go_wp2_with fail
                    go_roundw
                    case rel => exact ⟨k + 1, by omega, by go_num, by rw [Hq.out]; simp, hb⟩
                    case measure => simp [intOf]; omega
                  · have hq := Hct.out
                    rw [if_neg (by simpa using h1), if_pos (by simpa using h2)] at hq
                    have Hq := Lib.hid hq
                    clear hq Hct
                    go_wp2_with fail
                    go_roundw
                    case rel => exact ⟨k + 1, by omega, by go_num, by rw [Hq.out]; simp, hb⟩
                    case measure => simp [intOf]; omega
                  · have hq := Hct.out
                    rw [if_neg (by simpa using h1), if_neg (by simpa using h2)] at hq
                    have Hq := Lib.hid hq
                    clear hq Hct
                    go_wp2_with fail
                    go_roundw
                    case rel => exact ⟨k + 1, by omega, by go_num, by rw [Hq.out]; simp, hb⟩
                    case measure => simp [intOf]; omega
                · have hk' : k = l.length := by omega
                  subst hk'
                  rw [List.take_length]
                  obtain ⟨q, hq⟩ : ∃ q, (marks l).count (n : Int) = q := ⟨_, rfl⟩
                  rw [hq]
                  have Hq := Lib.hid hq
                  clear hq
                  rcases Bool.eq_false_or_eq_true ((q : Int) != 1) with h1 | h1
                  · have hbad : chkH l = 16 := chkH_pos Hl.out hz.out (rpos_bad Hc0.out (n := n) (by rw [HPl.out]; exact hnt) (by rw [Hq.out]; simp at h1; omega))
                    have HF := Lib.hid hbad
                    clear hbad
                    go_wp2_with fail
                    go_ret
                    exact HP _ _ HF.out hb
                  · have hcn2 : Hid (∀ v : Nat, v < n + 1 → (marks l).count (v : Int) = 1) := fun v hv => by
                      rcases Nat.lt_succ_iff_lt_or_eq.1 hv with h | rfl
                      · exact hcn.out v h
                      · rw [Hq.out]; simp at h1; omega
                    go_wp2_with fail
                    go_roundw
                    case rel => exact ⟨n + 1, by omega, by go_num, hcn2, hb⟩
                    case measure => simp [intOf]; omega
            · have hn' : n = P := by omega
              subst hn'
              have Hp := Lib.hid (rpos_good Hc0.out (by rw [HPl.out]; exact hcn.out))
              clear hcn
              go_wp2_with fail
              go_loopw [9] (fun i wr => ∃ k : Nat, k ≤ l.length ∧ i = .int .i64 k ∧ Hid (∀ a c, a < k → a < c → c < l.length → okP (l.getD a zCl) (l.getD c zCl)) ∧ Below w.heap.size w wr) (fun i _ => l.length - (intOf i).toNat)
              case atStart => exact ⟨0, Nat.zero_le _, rfl, fun a c ha => absurd ha (Nat.not_lt_zero _), hb⟩
              case round =>
                clear hb
                obtain ⟨k, hk, rfl, hS, hb⟩ := hrel
                obtain ⟨wm3, hwm3⟩ : ∃ x, x = wr := ⟨_, rfl⟩
                subst hwm3
                by_cases hkt : k < l.length
                · go_wp2_with fail
                  go_loopw [10] (fun i wr => ∃ j : Nat, k < j ∧ j ≤ l.length ∧ i = .int .i64 j ∧ Hid (∀ c, k < c → c < j → okP (l.getD k zCl) (l.getD c zCl)) ∧ Below w.heap.size w wr) (fun i _ => l.length - (intOf i).toNat)
                  case atStart => exact ⟨k + 1, by omega, by omega, by go_num, fun c h1 h2 => by omega, hb⟩
                  case round =>
                    clear hb
                    obtain ⟨j, hkj, hj, rfl, hS2, hb⟩ := hrel
                    by_cases hjt : j < l.length
                    · have c0 : wr.cell? ⟨b, off + k * 6, none⟩ = some (.int .i64 l[k].task) := ((hrow k hkt).below hb hbw) 0 _ rfl
                      have c5 : wr.cell? ⟨b, off + k * 6 + 5, none⟩ = some (.int .i64 l[k].end_) := ((hrow k hkt).below hb hbw) 5 _ rfl
                      have d0 : wr.cell? ⟨b, off + j * 6, none⟩ = some (.int .i64 l[j].task) := ((hrow j hjt).below hb hbw) 0 _ rfl
                      have d4 : wr.cell? ⟨b, off + j * 6 + 4, none⟩ = some (.int .i64 l[j].begin_) := ((hrow j hjt).below hb hbw) 4 _ rfl
                      have hbr : b < wr.heap.size := Nat.lt_of_lt_of_le hbw hb.size
                      have hbad : ¬ okP l[k] l[j] → chkH l = 17 := fun h => by
                        rw [chkH_st Hl.out hz.out Hp.out, if_pos]
                        cases hs : stOk l with
                        | false => rfl
                        | true =>
                          have := (rst_iff Hc0.out Hp.out).1 hs k j hkj hjt
                          rw [getD_lt l k hkt, getD_lt l j hjt] at this
                          exact absurd this h
                      have hgood : okP l[k] l[j] → Hid (∀ c, k < c → c < j + 1 → okP (l.getD k zCl) (l.getD c zCl)) := fun h c h1 h2 => by
                        rcases Nat.lt_succ_iff_lt_or_eq.1 h2 with h3 | rfl
                        · exact hS2.out c h1 h3
                        · rw [getD_lt l k hkt, getD_lt l c hjt]; exact h
                      have Hbad := Lib.hid hbad
                      have Hgood := Lib.hid hgood
                      have Hb := Lib.hid hb
                      clear hbad hgood hS2 hb
                      obtain ⟨x, hx⟩ : ∃ x, l[k] = x := ⟨_, rfl⟩
                      obtain ⟨y, hy⟩ : ∃ y, l[j] = y := ⟨_, rfl⟩
                      rw [hx] at c0 c5 Hbad Hgood
                      rw [hy] at d0 d4 Hbad Hgood
                      clear hx hy
                      obtain ⟨x0, x1, x2, x3, x4, x5⟩ := x
                      obtain ⟨y0, y1, y2, y3, y4, y5⟩ := y
                      simp only at c0 c5 d0 d4
                      rcases Bool.eq_false_or_eq_true (x0 == y0) with t1 | t1
                      · rcases Bool.eq_false_or_eq_true (x5 == -1) with t2 | t2
                        · have HF := Lib.hid (Hbad.out (fun h => (h (by simpa using t1)).1 (by simpa using t2)))
                          clear Hbad Hgood
                          go_wp2_with fail
                          go_quiet (fail)
                          go_wp2_with fail
                          go_ret
                          exact HP _ _ HF.out (Hb.out.dn _)
                        · by_cases t3 : y4 < x5
                          · have HF := Lib.hid (Hbad.out (fun h => by have := (h (by simpa using t1)).2; simp at this; omega))
                            clear Hbad Hgood
                            go_wp2_with fail
                            go_quiet (fail)
                            go_wp2_with fail
                            go_ret
                            exact HP _ _ HF.out (Hb.out.dn _)
                          · have HS2 := Hgood.out (fun _ => ⟨by simpa using t2, by simp; omega⟩)
                            have t4 : decide (y4 < x5) = false := decide_eq_false t3
                            clear Hbad Hgood t3
                            go_wp2_with fail
                            go_quiet (fail)
                            go_wp2_with fail
                            go_roundw
                            case rel => exact ⟨j + 1, by omega, by omega, by go_num, HS2, Hb.out.dn _⟩
                            case measure => simp [intOf]; omega
                      · have HS2 := Hgood.out (fun h => absurd h (by simpa using t1))
                        clear Hbad Hgood
                        go_wp2_with fail
                        go_quiet (fail)
                        go_wp2_with fail
                        go_roundw
                        case rel => exact ⟨j + 1, by omega, by omega, by go_num, HS2, Hb.out.dn _⟩
                        case measure => simp [intOf]; omega
                    · have hj' : j = l.length := by omega
                      subst hj'
                      have HS3 : Hid (∀ a c, a < k + 1 → a < c → c < l.length → okP (l.getD a zCl) (l.getD c zCl)) := fun a c h1 h2 h3 => by
                        rcases Nat.lt_succ_iff_lt_or_eq.1 h1 with h | rfl
                        · exact hS.out a c h h2 h3
                        · exact hS2.out c h2 h3
                      go_wp2_with fail
                      go_roundw
                      case rel => exact ⟨k + 1, by omega, by go_num, HS3, hb⟩
                      case measure => simp [intOf]; omega
                · have hk' : k = l.length := by omega
                  subst hk'
                  have hfin : chkH l = 0 := by
                    rw [chkH_st Hl.out hz.out Hp.out, (rst_iff Hc0.out Hp.out).2 (fun i k hik hk => hS.out i k (by omega) hik hk)]
                    rfl
                  have HF := Lib.hid hfin
                  clear hfin
                  go_wp2_with fail
                  go_ret
                  exact HP _ _ HF.out hb
end Go.Proofs.YtgeclafcbgocgaaDoor

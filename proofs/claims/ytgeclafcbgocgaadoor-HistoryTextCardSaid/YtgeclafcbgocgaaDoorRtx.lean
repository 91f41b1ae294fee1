/- Text, by the reference. -/
import Derived.Test.YtgeclafcbgocgaaDoorDtm
import Derived.Test.YtgeclafcbgocgaaDoorHpt
import Derived.Test.YtgeclafcbgocgaaDoorRck
namespace Go.Proofs.YtgeclafcbgocgaaDoor
open Go.RowKit
theorem mkText_le (m : Mk) (h : -1099511627776 ≤ m.task ∧ m.task ≤ 1099511627776 ∧ -1099511627776 ≤ m.method ∧ m.method ≤ 1099511627776 ∧ -1099511627776 ≤ m.value ∧ m.value ≤ 1099511627776) : (mkText m).length ≤ 90 := by
  have l1 := itoa_short m.task (by omega) (by omega)
  have l2 := itoa_short m.method (by omega) (by omega)
  have l3 := itoa_short m.value (by omega) (by omega)
  unfold mkText wB wE
  split <;> simp <;> omega
theorem lineOf_le (x : Cl) (n : Int) (h : rangeOk x = true) : (lineOf x n).length ≤ 200 := by
  have h' := rangeOk_mk.1 h
  have h1 := mkText_le ⟨x.task, x.method, x.arg, false⟩ (by simp only; omega)
  have h2 := mkText_le ⟨x.task, 0, x.result, true⟩ (by simp only; omega)
  unfold lineOf
  rw [List.length_append]
  split <;> split <;> simp <;> omega
theorem lineAt_le (n : Int) : ∀ (l : List Cl), (∀ x ∈ l, rangeOk x = true) → (lineAt l n).length ≤ l.length * 200
  | [], _ => by simp [lineAt]
  | x :: l, h => by
    have h1 := lineOf_le x n (h x (List.mem_cons_self ..))
    have h2 := lineAt_le n l fun y hy => h y (List.mem_cons_of_mem _ hy)
    show (lineOf x n ++ lineAt l n).length ≤ _
    rw [List.length_append, List.length_cons, Nat.succ_mul]
    omega
theorem textN_le (l : List Cl) (h : ∀ x ∈ l, rangeOk x = true) (hl : l.length ≤ 100) : ∀ n, (textN l n).length ≤ n * 20000
  | 0 => Nat.le_refl _
  | n + 1 => by
    have h1 := textN_le l h hl n
    have h2 := lineAt_le n l h
    show (textN l n ++ lineAt l n).length ≤ _
    rw [List.length_append, Nat.succ_mul]
    omega
theorem lineAt_take (l : List Cl) (n : Int) (k : Nat) (h : k < l.length) : lineAt (l.take (k + 1)) n = lineAt (l.take k) n ++ lineOf l[k] n := by
  rw [take_snoc l k h, lineAt_app]
  simp [lineAt]
theorem bcatO (o a b c : List UInt8) : (ByteArray.mk o.toArray ++ ByteArray.mk a.toArray ++ ByteArray.mk #[32, 98, 101, 103, 105, 110, 32] ++ ByteArray.mk b.toArray ++ ByteArray.mk #[32] ++ ByteArray.mk c.toArray ++ ByteArray.mk #[10]) = ByteArray.mk (o ++ (a ++ ([32, 98, 101, 103, 105, 110, 32] ++ (b ++ (32 :: (c ++ [10])))))).toArray := by
  have e : ∀ (l r : List UInt8), (ByteArray.mk l.toArray) ++ (ByteArray.mk r.toArray) = ByteArray.mk (l ++ r).toArray := cat2
  rw [show (#[32, 98, 101, 103, 105, 110, 32] : Array UInt8) = ([32, 98, 101, 103, 105, 110, 32] : List UInt8).toArray from rfl, show (#[32] : Array UInt8) = ([32] : List UInt8).toArray from rfl, show (#[10] : Array UInt8) = ([10] : List UInt8).toArray from rfl, e, e, e, e, e, e]
  simp
theorem ecatO (o a b : List UInt8) : (ByteArray.mk o.toArray ++ ByteArray.mk a.toArray ++ ByteArray.mk #[32, 101, 110, 100, 32] ++ ByteArray.mk b.toArray ++ ByteArray.mk #[10]) = ByteArray.mk (o ++ (a ++ ([32, 101, 110, 100, 32] ++ (b ++ [10])))).toArray := by
  have e : ∀ (l r : List UInt8), (ByteArray.mk l.toArray) ++ (ByteArray.mk r.toArray) = ByteArray.mk (l ++ r).toArray := cat2
  rw [show (#[32, 101, 110, 100, 32] : Array UInt8) = ([32, 101, 110, 100, 32] : List UInt8).toArray from rfl, show (#[10] : Array UInt8) = ([10] : List UInt8).toArray from rfl, e, e, e, e]
  simp
theorem lineOf_b (x : Cl) (n : Int) (h : x.begin_ = n) : lineOf x n = bLine x ++ (if x.end_ = n then eLine x else []) := by
  unfold lineOf
  rw [if_pos h, bLine_mk, eLine_mk]
theorem lineOf_nb (x : Cl) (n : Int) (h : ¬ x.begin_ = n) : lineOf x n = (if x.end_ = n then eLine x else []) := by
  unfold lineOf
  rw [if_neg h, eLine_mk]
  rfl
set_option maxRecDepth 100000 in
set_option maxHeartbeats 4000000 in
theorem rtext11 (l : List Cl) (v : Value) (w : World) (hv : ClV w v l) (hl : l.length ≤ 65536) :
    Calls Tryd.prog 11 #[v] w fun e w' => e = .returned (.tuple #[strV (textH l), .int .i64 (chkH l)]) ∧ Below w.heap.size w w' := by
  have n0 := rcheck16 l v w hv hl
  by_cases hc : chkH l = 0
  · have hH := hist_iff.1 hc
    have hlen := hH.len
    have HH := Lib.hid hH
    rw [textH_hist hH]
    have hG : textG l = textN l (2 * l.length) := rfl
    rw [hG, hc]
    rw [hc] at n0
    clear hG hc hH
    rcases hv.split with ⟨A, c, rfl, rfl⟩ | ⟨b, off, cap, rfl, hcap, hbw, hrow⟩
    · go_enter Tryd.func11, Tryd.ntmps11
      go_wp2_with fail
      refine n0.mono ?_
      rintro e w1 ⟨rfl, hb1⟩
      clear n0
      go_wp2_with fail
      refine wp_loop_rounds 1 ?_
      rw [rounds_succ]
      go_wp2_with fail
      go_ret2
      exact ⟨rfl, hb1⟩
    · clear hv
      go_enter Tryd.func11, Tryd.ntmps11
      go_wp2_with fail
      refine n0.mono ?_
      rintro e w1 ⟨rfl, hb1⟩
      clear n0
      go_wp2_with fail
      go_loopw [5, 6] (fun s i wr => ∃ n : Nat, n ≤ 2 * l.length ∧ i = .int .i64 n ∧ s = strV (textN l n) ∧ Below w.heap.size w wr) (fun _ i _ => 2 * l.length - (intOf i).toNat)
      case atStart => exact ⟨0, Nat.zero_le _, rfl, rfl, hb1⟩
      case round =>
        obtain ⟨n, hn, rfl, rfl, hb⟩ := hrel
        obtain ⟨wm, hwm⟩ : ∃ x, x = wr := ⟨_, rfl⟩
        subst hwm
        have htn := textN_le l HH.out.rng hlen n
        by_cases hnt : n < 2 * l.length
        · have hni : (n : Int) < 2 * (l.length : Int) := by omega
          unfold strV
          go_wp2_with fail
          go_loopw [5, 7] (fun s i wr => ∃ k : Nat, k ≤ l.length ∧ i = .int .i64 k ∧ s = strV (textN l n ++ lineAt (l.take k) n) ∧ Below w.heap.size w wr) (fun _ i _ => l.length - (intOf i).toNat)
          case atStart => exact ⟨0, Nat.zero_le _, rfl, by simp [lineAt, strV], hb⟩
          case round =>
            clear hb
            obtain ⟨k, hk, rfl, rfl, hb⟩ := hrel
            by_cases hkt : k < l.length
            · have hr' : Row w b (off + k * 6) (clCells l[k]) := hrow k hkt
              have hr := rangeOk_mk.1 (HH.out.rng _ (List.getElem_mem hkt))
              have hlt := lineAt_le n (l.take k) (fun x hx => HH.out.rng x (List.mem_of_mem_take hx))
              rw [List.length_take] at hlt
              have hst := lineAt_take l n k hkt
              have hul : (textN l n ++ lineAt (l.take k) n).length ≤ 5000000 := by
                rw [List.length_append]
                have : min k l.length ≤ 100 := by omega
                omega
              have hst2 : textN l n ++ lineAt (l.take (k + 1)) n = (textN l n ++ lineAt (l.take k) n) ++ lineOf l[k] n := by rw [hst, List.append_assoc]
              generalize textN l n ++ lineAt (l.take k) n = o at *
              obtain ⟨x, hx⟩ : ∃ x, l[k] = x := ⟨_, rfl⟩
              rw [hx] at hr' hr hst2
              obtain ⟨a0, a1, a2, a3, a4, a5⟩ := x
              simp only [clCells] at hr hr'
              have Hst := Lib.hid hst2
              have Hrow := Lib.hid hrow
              have Hbw := Lib.hid hbw
              have s0 := itoa_short a0 (by omega) (by omega)
              have s1 := itoa_short a1 (by omega) (by omega)
              have s2 := itoa_short a2 (by omega) (by omega)
              have s3 := itoa_short a3 (by omega) (by omega)
              have y4 : wr.cell? ⟨b, off + k * 6 + 4, none⟩ = some (.int .i64 a4) := (hr'.below hb hbw) 4 _ rfl
              have y5 : wr.cell? ⟨b, off + k * 6 + 5, none⟩ = some (.int .i64 a5) := (hr'.below hb hbw) 5 _ rfl
              clear hx hst hst2 hlt hrow
              unfold strV
              rcases Bool.eq_false_or_eq_true (a4 == (n : Int)) with t1 | t1
              · have hline := lineOf_b ⟨a0, a1, a2, a3, a4, a5⟩ n (by simpa using t1)
                rw [hline] at Hst
                clear hline
                go_upto_region 12 with fail
                refine wp_region_tailM 25 (by kernel_rfl) (by kernel_rfl) (fun wx => Below w.heap.size w wx) hb.drew ?_
                clear y4 y5
                iterate 25
                  apply wpDetT_cons
                  · intro wx hx
                    have y0 : wx.cell? ⟨b, off + k * 6, none⟩ = some (.int .i64 a0) := (hr'.below hx hbw) 0 _ rfl
                    have y1 : wx.cell? ⟨b, off + k * 6 + 1, none⟩ = some (.int .i64 a1) := (hr'.below hx hbw) 1 _ rfl
                    have y2 : wx.cell? ⟨b, off + k * 6 + 2, none⟩ = some (.int .i64 a2) := (hr'.below hx hbw) 2 _ rfl
                    go_wp2_with (go_at_call 29; refine (decimal29 _ _ (by omega) (by omega)).mono ?_; rintro e w' ⟨rfl, hbk⟩)
                    first | exact ⟨rfl, rfl, hx⟩ | exact ⟨rfl, rfl, hx.trans (hbk.mono hx.size)⟩
                  go_frame
                intro wx hx
                have hbc : _ = ByteArray.mk (o ++ (Lib.itoa a0 ++ ([32, 98, 101, 103, 105, 110, 32] ++ (Lib.itoa a1 ++ (32 :: (Lib.itoa a2 ++ [10])))))).toArray := bcatO o (Lib.itoa a0) (Lib.itoa a1) (Lib.itoa a2)
                rw [hbc]
                clear hbc
                have z5 : wx.cell? ⟨b, off + k * 6 + 5, none⟩ = some (.int .i64 a5) := (hr'.below hx hbw) 5 _ rfl
                have hst3 : textN l n ++ lineAt (l.take (k + 1)) n = (o ++ (Lib.itoa a0 ++ ([32, 98, 101, 103, 105, 110, 32] ++ (Lib.itoa a1 ++ (32 :: (Lib.itoa a2 ++ [10])))))) ++ (if a5 = (n : Int) then eLine ⟨a0, a1, a2, a3, a4, a5⟩ else []) := Hst.out.trans (List.append_assoc _ _ _).symm
                have ho2 : (o ++ (Lib.itoa a0 ++ ([32, 98, 101, 103, 105, 110, 32] ++ (Lib.itoa a1 ++ (32 :: (Lib.itoa a2 ++ [10])))))).length ≤ 6000000 := by simp; omega
                generalize o ++ (Lib.itoa a0 ++ ([32, 98, 101, 103, 105, 110, 32] ++ (Lib.itoa a1 ++ (32 :: (Lib.itoa a2 ++ [10]))))) = o2 at *
                clear Hst
                rcases Bool.eq_false_or_eq_true (a5 == (n : Int)) with t2 | t2
                · rw [if_pos (show a5 = (n : Int) by simpa using t2)] at hst3
                  have HF := Lib.hid (show textN l n ++ lineAt (l.take (k + 1)) n = o2 ++ (Lib.itoa a0 ++ ([32, 101, 110, 100, 32] ++ (Lib.itoa a3 ++ [10]))) from hst3)
                  clear hst3
                  go_upto_region 14 with fail
                  refine wp_region_tailM 17 (by kernel_rfl) (by kernel_rfl) (fun wx => Below w.heap.size w wx) hx.drew ?_
                  clear z5
                  iterate 17
                    apply wpDetT_cons
                    · intro wy hy
                      have y0 : wy.cell? ⟨b, off + k * 6, none⟩ = some (.int .i64 a0) := (hr'.below hy hbw) 0 _ rfl
                      have y3 : wy.cell? ⟨b, off + k * 6 + 3, none⟩ = some (.int .i64 a3) := (hr'.below hy hbw) 3 _ rfl
                      go_wp2_with (go_at_call 29; refine (decimal29 _ _ (by omega) (by omega)).mono ?_; rintro e w' ⟨rfl, hbk⟩)
                      first | exact ⟨rfl, rfl, hy⟩ | exact ⟨rfl, rfl, hy.trans (hbk.mono hy.size)⟩
                    go_frame
                  intro wy hy
                  have hbc : _ = ByteArray.mk (o2 ++ (Lib.itoa a0 ++ ([32, 101, 110, 100, 32] ++ (Lib.itoa a3 ++ [10])))).toArray := ecatO o2 (Lib.itoa a0) (Lib.itoa a3)
                  rw [hbc]
                  clear hbc
                  go_wp2_with fail
                  go_roundw
                  case rel => exact ⟨k + 1, by omega, by go_num, by rw [HF.out], hy⟩
                  case measure => simp [intOf]; omega
                · rw [if_neg (show ¬ a5 = (n : Int) by simpa using t2)] at hst3
                  have HF := Lib.hid (show textN l n ++ lineAt (l.take (k + 1)) n = o2 from hst3.trans (List.append_nil _))
                  clear hst3
                  go_wp2_with fail
                  go_roundw
                  case rel => exact ⟨k + 1, by omega, by go_num, by rw [HF.out], hx⟩
                  case measure => simp [intOf]; omega
              · have hline := lineOf_nb ⟨a0, a1, a2, a3, a4, a5⟩ n (by simpa using t1)
                rw [hline] at Hst
                clear hline
                have z5 : wr.cell? ⟨b, off + k * 6 + 5, none⟩ = some (.int .i64 a5) := y5
                have hst3 := Hst.out
                generalize o = o2 at *
                clear Hst
                rcases Bool.eq_false_or_eq_true (a5 == (n : Int)) with t2 | t2
                · rw [if_pos (show a5 = (n : Int) by simpa using t2)] at hst3
                  have HF := Lib.hid (show textN l n ++ lineAt (l.take (k + 1)) n = o2 ++ (Lib.itoa a0 ++ ([32, 101, 110, 100, 32] ++ (Lib.itoa a3 ++ [10]))) from hst3)
                  clear hst3
                  go_upto_region 14 with fail
                  refine wp_region_tailM 17 (by kernel_rfl) (by kernel_rfl) (fun wx => Below w.heap.size w wx) hb.drew ?_
                  clear z5
                  iterate 17
                    apply wpDetT_cons
                    · intro wy hy
                      have y0 : wy.cell? ⟨b, off + k * 6, none⟩ = some (.int .i64 a0) := (hr'.below hy hbw) 0 _ rfl
                      have y3 : wy.cell? ⟨b, off + k * 6 + 3, none⟩ = some (.int .i64 a3) := (hr'.below hy hbw) 3 _ rfl
                      go_wp2_with (go_at_call 29; refine (decimal29 _ _ (by omega) (by omega)).mono ?_; rintro e w' ⟨rfl, hbk⟩)
                      first | exact ⟨rfl, rfl, hy⟩ | exact ⟨rfl, rfl, hy.trans (hbk.mono hy.size)⟩
                    go_frame
                  intro wy hy
                  have hbc : _ = ByteArray.mk (o2 ++ (Lib.itoa a0 ++ ([32, 101, 110, 100, 32] ++ (Lib.itoa a3 ++ [10])))).toArray := ecatO o2 (Lib.itoa a0) (Lib.itoa a3)
                  rw [hbc]
                  clear hbc
                  go_wp2_with fail
                  go_roundw
                  case rel => exact ⟨k + 1, by omega, by go_num, by rw [HF.out], hy⟩
                  case measure => simp [intOf]; omega
                · rw [if_neg (show ¬ a5 = (n : Int) by simpa using t2)] at hst3
                  have HF := Lib.hid (show textN l n ++ lineAt (l.take (k + 1)) n = o2 from hst3.trans (List.append_nil _))
                  clear hst3
                  go_wp2_with fail
                  go_roundw
                  case rel => exact ⟨k + 1, by omega, by go_num, by rw [HF.out], hb⟩
                  case measure => simp [intOf]; omega
            · have hk' : k = l.length := by omega
              subst hk'
              rw [List.take_length]
              have HF := Lib.hid (show textN l (n + 1) = textN l n ++ lineAt l n from rfl)
              unfold strV
              go_wp2_with fail
              go_roundw
              case rel => exact ⟨n + 1, by omega, by go_num, by rw [HF.out], hb⟩
              case measure => simp [intOf]; omega
        · have hn' : n = 2 * l.length := by omega
          have hni : decide ((n : Int) < 2 * (l.length : Int)) = false := decide_eq_false (by omega)
          have HF := Lib.hid (show textN l n = textN l (2 * l.length) by rw [hn'])
          unfold strV
          go_wp2_with fail
          go_ret2
          exact ⟨by rw [← HF.out]; rfl, hb⟩
  · have hR : textH l = [] := if_neg hc
    rw [hR]
    obtain ⟨x, hx⟩ : ∃ x, chkH l = x := ⟨_, rfl⟩
    rw [hx] at n0 hc ⊢
    have hx1 : (x != 0) = true := by simpa using hc
    clear hx hc hR
    go_enter Tryd.func11, Tryd.ntmps11
    go_wp2_with fail
    refine n0.mono ?_
    rintro e w1 ⟨rfl, hb1⟩
    clear n0
    go_wp2_with fail
    go_ret2
    exact ⟨rfl, hb1⟩
end Go.Proofs.YtgeclafcbgocgaaDoor

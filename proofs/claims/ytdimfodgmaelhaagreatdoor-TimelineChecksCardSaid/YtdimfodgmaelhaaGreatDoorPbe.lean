/- A part of the proof. -/
import Derived.Test.YtdimfodgmaelhaaGreatDoorPbc
import Derived.Test.YtdimfodgmaelhaaGreatDoorPbb
import Derived.Test.YtdimfodgmaelhaaGreatDoorPbd
import Derived.Deep.Cut
set_option linter.all false
set_option linter.all false
namespace Go.Proofs.Seat9
open Go.RowKit Go.Proofs.Seat4
theorem lastM_take (kind : Int) (l : List Sp) (k : Nat) (h : k < l.length) : lastS (mine kind (l.take (k + 1))) = if l[k].kind = kind then lastF (lastS (mine kind (l.take k))) l[k] else lastS (mine kind (l.take k)) := by
 rw [mine_take kind l k h]
 split
 ·unfold lastS; rw [List.foldl_append]; rfl
 ·rw [List.append_nil]
theorem lastF_cases (n : Int) (x : Sp) : (n < x.from_ ∧ x.from_ < x.to_ ∧ lastF n x = x.to_) ∨ (n < x.from_ ∧ ¬ x.from_ < x.to_ ∧ lastF n x = x.from_) ∨ (¬ n < x.from_ ∧ n < x.to_ ∧ lastF n x = x.to_) ∨ (¬ n < x.from_ ∧ ¬ n < x.to_ ∧ lastF n x = n) := by
 unfold lastF
 omega
theorem textM_take (n : Nat) (kind : Int) (l : List Sp) (k : Nat) (h : k < l.length) : textS n (mine kind (l.take (k + 1))) = if l[k].kind = kind then textS n (mine kind (l.take k)) ++ lineS n l[k] else textS n (mine kind (l.take k)) := by
 rw [mine_take kind l k h]
 split
 ·unfold textS; rw [List.flatMap_append]; simp
 ·rw [List.append_nil]
theorem textM_len (n : Nat) (kind : Int) (l : List Sp) (k : Nat) (h : chk l = 0) (hl : l.length ≤ 40) : (textS n (mine kind (l.take k))).length ≤ 40 * (45 + n) := by
 have hsh : ∀ x ∈ mine kind (l.take k), (Lib.itoa x.task).length ≤ 21 ∧ (Lib.itoa x.index).length ≤ 21 := fun x hx => by
  have h1 : x ∈ l := List.mem_of_mem_take (List.mem_filter.1 hx).1
  obtain ⟨b1, b2, b3, b4⟩ := valid_small (chk_valid confP l l 0 h _ h1)
  exact ⟨Lib.itoa_length_le _ (by omega) (by omega), Lib.itoa_length_le _ (by omega) (by omega)⟩
 have h2 : (mine kind (l.take k)).length ≤ 40 := Nat.le_trans (mine_len kind _) (by rw [List.length_take]; omega)
 exact Nat.le_trans (textS_len _ _ hsh) (Nat.mul_le_mul h2 (Nat.le_refl _))
set_option maxRecDepth 100000 in
set_option maxHeartbeats 4000000 in
theorem rchart6 (l : List Sp) (v : Value) (kind : Int) (w : World) (hv : SpV w v l) (hl : l.length ≤ 40) : Calls Tryz.prog 6 #[v, .int .i64 kind] w (ChartP l kind w) := by
 have hck := rcheck8 l v w hv (by omega)
 obtain ⟨A, cap, rfl, hcap, hlie⟩ := hv
 have Hlie := Lib.hid (show ∃ P : Prop, P = (l ≠ [] → ∃ b off, A = some ⟨b, off, none⟩ ∧ b < w.heap.size ∧ LAt SE w b off l) ∧ P from ⟨_, rfl, hlie⟩)
 clear hlie
 by_cases c1 : chk l = 0
 ·rw [c1] at hck
  have Hck := Lib.hid hck
  clear hck
  by_cases c2 : 1 ≤ kind ∧ kind ≤ 4
  ·have hwi : wi kind 1 4 = true := decide_eq_true c2
   obtain ⟨k1, k4⟩ := c2
   have k1' : ¬ kind < 1 := by omega
   have k4' : ¬ 4 < kind := by omega
   have C1 := Lib.hid c1
   have C2 := Lib.hid hwi
   clear c1 hwi k1 k4
   go_enter Tryz.func6, Tryz.ntmps6
   go_wp2_with fail
   refine Hck.out.mono ?_
   rintro e w1 ⟨rfl, hb1⟩
   have Hb1 := Lib.hid hb1
   clear hb1 Hck
   go_wp2_with fail
   go_loopw [6, 7] (fun nv iv wr => ∃ k : Nat, k ≤ l.length ∧ iv = .int .i64 k ∧ nv = .int .i64 (lastS (mine kind (l.take k))) ∧ Below w.heap.size w wr) (fun _ iv _ => l.length - (intOf iv).toNat)
   case atStart => exact ⟨0, Nat.zero_le _, rfl, rfl, Hb1.out⟩
   case round =>
    obtain ⟨k, hk, rfl, rfl, hbr⟩ := hrel
    clear Hb1
    by_cases hlt : k < l.length
    ·obtain ⟨P, rfl, hP⟩ := Hlie.out
     obtain ⟨b, off, rfl, hb, hrow⟩ := hP (by intro e; subst e; simp at hlt)
     have hr' : Row wr b (off + k * 7) (spCells l[k]) := (hrow k hlt).below hbr hb
     have hnext := lastM_take kind l k hlt
     generalize hN : lastS (mine kind (l.take k)) = n at *
     generalize hN2 : lastS (mine kind (l.take (k + 1))) = n2 at *
     generalize hM : l[k] = M at *
     have c0 : wr.cell? ⟨b, off + k * 7, none⟩ = some (.int .i64 M.kind) := by have := hr' 0 _ rfl; simpa using this
     have hbz : b < wr.heap.size := Nat.lt_of_lt_of_le hb hbr.size
     have HN2 := Lib.hid hN2
     have Hbr := Lib.hid hbr
     have Hr := Lib.hid hr'
     clear hN hN2 hM hP hbr hrow hr' Hlie
     by_cases hk1 : M.kind = kind
     ·rw [if_pos hk1] at hnext
      have Hnext := Lib.hid hnext
      clear hnext
      subst hk1
      rcases lastF_cases n M with ⟨m1, m2, hv⟩ | ⟨m1, m2, hv⟩ | ⟨m1, m2, hv⟩ | ⟨m1, m2, hv⟩
      all_goals
       have Hv := Lib.hid hv
       clear hv
       go_wp2_with fail
       refine wp_region_tail 12 (by kernel_rfl) (by kernel_rfl) (fun W => Below wr.heap.size wr W) ((Below.refl _ _).drew) ?_
       iterate 12
        apply wpDetT_cons
        ·intro wx hx
         have gr := Hr.out.below hx hbz
         have g3 : wx.cell? ⟨b, off + k * 7 + 3, none⟩ = some (.int .i64 M.from_) := by simpa using gr 3 _ rfl
         have g4 : wx.cell? ⟨b, off + k * 7 + 4, none⟩ = some (.int .i64 M.to_) := by simpa using gr 4 _ rfl
         have Hx := Lib.hid hx
         clear gr hx
         go_wp2_with fail
         exact ⟨rfl, rfl, Hx.out⟩
        go_frame
       intro wx hx
       have hbx := Hbr.out.trans (below_mono hx Hbr.out.size)
       have Hbx := Lib.hid hbx
       clear hx hbx
       go_wp2_with fail
       exact ⟨⟨k + 1, hlt, by simp, by rw [HN2.out, Hnext.out, Hv.out], Hbx.out⟩, by simp [intOf]; omega⟩
     ·rw [if_neg hk1] at hnext
      have hne : (M.kind == kind) = false := by simpa using hk1
      have Hnext := Lib.hid hnext
      clear hnext hk1
      go_wp2
      exact ⟨⟨k + 1, hlt, by simp, by rw [HN2.out, Hnext.out], Hbr.out⟩, by simp [intOf]; omega⟩
    ·have hkk : k = l.length := by omega
     subst hkk
     rw [List.take_of_length_le (Nat.le_refl _)]
     by_cases c3 : 200 < lastS (mine kind l)
     ·have hE : chartE l kind = 4 := by unfold chartE; rw [if_neg (by simp [C1.out]), if_neg (by simp [C2.out]), if_pos c3]
      have hT : chartT l kind = [] := by unfold chartT; rw [hE]; rfl
      have HE := Lib.hid hE
      have HT := Lib.hid hT
      have Hbr := Lib.hid hbr
      clear hE hT hbr
      go_wp2
      go_ret2
      exact chartP_of HE.out HT.out Hbr.out
     ·have hE : chartE l kind = 0 := by unfold chartE; rw [if_neg (by simp [C1.out]), if_neg (by simp [C2.out]), if_neg c3]
      have hT : chartT l kind = textS ((lastS (mine kind l)).toNat + 1) (mine kind l) := by unfold chartT; rw [hE]; rfl
      have HE := Lib.hid hE
      have hge : 0 ≤ lastS (mine kind l) := last_ge _ 0
      obtain ⟨N, hN⟩ : ∃ N : Nat, lastS (mine kind l) = N := ⟨(lastS (mine kind l)).toNat, by omega⟩
      have hN200 : N ≤ 200 := by omega
      rw [hN] at c3 hT ⊢
      rw [Int.toNat_natCast] at hT
      have HTT := Lib.hid hT
      have Hbr := Lib.hid hbr
      clear hE hT hge hN hbr
      go_wp2_with fail
      go_loopw [8, 9] (fun ov iv wq => ∃ k : Nat, k ≤ l.length ∧ iv = .int .i64 k ∧ ov = .string ⟨(textS (N + 1) (mine kind (l.take k))).toArray⟩ ∧ Below w.heap.size w wq) (fun _ iv _ => l.length - (intOf iv).toNat)
      case atStart => exact ⟨0, Nat.zero_le _, rfl, rfl, Hbr.out⟩
      case round =>
       obtain ⟨k, hk, rfl, rfl, hbw⟩ := hrel
       clear Hbr
       by_cases hlt : k < l.length
       ·obtain ⟨t1, t2, t3, t4⟩ := valid_small (chk_valid confP l l 0 C1.out _ (List.getElem_mem hlt))
        obtain ⟨P, rfl, hP⟩ := Hlie.out
        obtain ⟨b, off, rfl, hb, hrow⟩ := hP (by intro e; subst e; simp at hlt)
        have hr : Row w b (off + k * 7) (spCells l[k]) := hrow k hlt
        have hT := textM_take (N + 1) kind l k hlt
        have hTl := textM_len (N + 1) kind l (k + 1) C1.out hl
        have hi1 : (Lib.itoa l[k].task).length ≤ 21 := Lib.itoa_length_le _ (by omega) (by omega)
        have hi2 : (Lib.itoa l[k].index).length ≤ 21 := Lib.itoa_length_le _ (by omega) (by omega)
        have hXl : (textS (N + 1) (mine kind (l.take k))).length ≤ 40 * (45 + (N + 1)) := textM_len (N + 1) kind l k C1.out hl
        generalize hX : textS (N + 1) (mine kind (l.take k)) = X at *
        generalize hX9 : textS (N + 1) (mine kind (l.take (k + 1))) = X9 at *
        generalize hM : l[k] = M at *
        have hr' := hr.below hbw hb
        have c0 : wr.cell? ⟨b, off + k * 7, none⟩ = some (.int .i64 M.kind) := by have := hr' 0 _ rfl; simpa using this
        have c1 : wr.cell? ⟨b, off + k * 7 + 1, none⟩ = some (.int .i64 M.task) := by have := hr' 1 _ rfl; simpa using this
        have HX9 := Lib.hid hX9
        have Hbw := Lib.hid hbw
        have Hrow := Lib.hid hr
        have HDi := Lib.hid (fun W => decimal25 M.index W (by omega) (by omega))
        clear hX hX9 hM hP hbw hrow hr hr' Hlie
        by_cases hk1 : M.kind = kind
        ·rw [if_pos hk1] at hT
         rw [hT, List.length_append] at hTl
         have HT := Lib.hid hT
         have HTl := Lib.hid hTl
         clear hT hTl
         subst hk1
         rcases Int.lt_or_le M.task 0 with t0 | t0
         ·have et : M.task = -1 := by omega
          have q1 : ¬ 9223372036854775807 < X.length + 3 := by omega
          have e1 : (ByteArray.mk X.toArray ++ ByteArray.mk #[45, 49, 32]) = ByteArray.mk (X ++ Lib.itoa M.task ++ [32]).toArray := by
           rw [et, itoa_m1, show (#[45, 49, 32] : Array UInt8) = ([45, 49, 32] : List UInt8).toArray from rfl, cat2]
           simp
          have E1 := Lib.hid e1
          clear e1 et
          go_upto_region 21 with fail
          rw [E1.out]
          have Hb5 := Hbw
          clear E1 Hbw q1 c0 c1
          obtain ⟨W5, hW5⟩ : ∃ W5, W5 = wr := ⟨_, rfl⟩
          rw [← hW5] at Hb5 ⊢
          clear hW5
          generalize hX2 : X ++ Lib.itoa M.task ++ [32] = X2 at *
          have hX2l : X2.length ≤ X.length + 22 := by rw [← hX2]; simp; omega
          have q3 : ¬ 9223372036854775807 < X2.length + (Lib.itoa M.index).length := by omega
          have q4 : ¬ 9223372036854775807 < X2.length + (Lib.itoa M.index).length + 1 := by omega
          have g2 : W5.cell? ⟨b, off + k * 7 + 2, none⟩ = some (.int .i64 M.index) := by simpa using (Hrow.out.below Hb5.out hb) 2 _ rfl
          have e4 : X2 ++ Lib.itoa M.index ++ [32] = X ++ headS M := by rw [← hX2]; simp [headS]
          have e3 : (ByteArray.mk X2.toArray ++ ByteArray.mk (Lib.itoa M.index).toArray ++ ByteArray.mk #[32]) = ByteArray.mk (X ++ headS M).toArray := by
           rw [← e4, show (#[32] : Array UInt8) = ([32] : List UInt8).toArray from rfl, cat2, cat2]
          have E3 := Lib.hid e3
          clear e3 e4 hX2
          have Hh : Hid ((headS M).length + (N + 1) + 1 = (lineS (N + 1) M).length) := Lib.hid (by simp [lineS, headS, cellsS_len]; omega)
          go_upto_region 22 with (go_at_call 25; refine (HDi.out _).mono ?_; rintro e w6 ⟨rfl, hb6⟩)
          rw [E3.out]
          have hb7 : Below w.heap.size w w6 := Hb5.out.trans (below_mono hb6 Hb5.out.size)
          have Hb7 := Lib.hid hb7
          clear hb6 hb7 q3 q4 g2 E3 Hb5 HDi hX2l
          go_wp2_with fail
          go_loopw [8, 10] (fun ov jv wq => ∃ j : Nat, j ≤ N + 1 ∧ jv = .int .i64 j ∧ ov = .string ⟨(X ++ headS M ++ cellsS M j).toArray⟩ ∧ Below w.heap.size w wq) (fun _ jv _ => N + 1 - (intOf jv).toNat)
          case atStart => exact ⟨0, Nat.zero_le _, rfl, by simp [cellsS], Hb7.out⟩
          case round =>
           obtain ⟨j, hj, rfl, rfl, hbj⟩ := hrel
           have hrj := Hrow.out.below hbj hb
           have hjl : (X ++ headS M ++ cellsS M j).length + 1 ≤ 1048576 := by
            have h1 := HTl.out
            have h3 := Hh.out
            simp only [List.length_append, cellsS_len]
            omega
           by_cases h4 : j < N + 1
           ·have hj4 : (j : Int) ≤ (N : Int) := by omega
            have hZZ : ∃ Z, X ++ headS M ++ cellsS M j = Z := ⟨_, rfl⟩
            obtain ⟨Z, hZ⟩ := hZZ
            rw [hZ] at hjl ⊢
            have HZ := Lib.hid hZ
            have Hbj := Lib.hid hbj
            have q5 : ¬ 9223372036854775807 < Z.length + 1 := by omega
            clear hZ hbj hjl
            rcases Bool.eq_false_or_eq_true (contS M j) with hq | hq
            ·have hcall := contains26 M j wr
             rw [hq] at hcall
             have Hq := Lib.hid hq
             have Hcall := Lib.hid hcall
             clear hq hcall
             go_wp2_with (first
              | ((with_reducible refine wpList_load_agg (o := ⟨some 94, .load 46 (.tmp 93), _, _, _, none⟩) rfl 46 _ rfl b (off + k * 7) ?_ _ hrj _ Tryz.underlying46 rfl ?_ ?_); (focus rfl); (focus kernel_rfl); simp only [spCells])
              | (go_at_call 26; refine Hcall.out.mono ?_; rintro e w8 ⟨rfl, hb8⟩))
             refine ⟨⟨j + 1, h4, by simp, ?_, Hbj.out.trans (below_mono hb8 Hbj.out.size)⟩, by simp [intOf]; omega⟩
             have e1 : cellS M j = 35 := by unfold cellS; rw [Hq.out]; rfl
             rw [cellsS_succ, e1, ← List.append_assoc, HZ.out]
             exact congrArg Value.string (cat2 Z [35])
            ·have hcall := contains26 M j wr
             rw [hq] at hcall
             have Hq := Lib.hid hq
             have Hcall := Lib.hid hcall
             clear hq hcall
             go_wp2_with (first
              | ((with_reducible refine wpList_load_agg (o := ⟨some 94, .load 46 (.tmp 93), _, _, _, none⟩) rfl 46 _ rfl b (off + k * 7) ?_ _ hrj _ Tryz.underlying46 rfl ?_ ?_); (focus rfl); (focus kernel_rfl); simp only [spCells])
              | (go_at_call 26; refine Hcall.out.mono ?_; rintro e w8 ⟨rfl, hb8⟩))
             refine ⟨⟨j + 1, h4, by simp, ?_, Hbj.out.trans (below_mono hb8 Hbj.out.size)⟩, by simp [intOf]; omega⟩
             have e1 : cellS M j = 46 := by unfold cellS; rw [Hq.out]; rfl
             rw [cellsS_succ, e1, ← List.append_assoc, HZ.out]
             exact congrArg Value.string (cat2 Z [46])
           ·have hjN : j = N + 1 := by omega
            subst hjN
            have hj4 : ¬ ((N : Int) + 1 ≤ (N : Int)) := by omega
            obtain ⟨Z, hZ⟩ : ∃ Z, X ++ headS M ++ cellsS M (N + 1) = Z := ⟨_, rfl⟩
            rw [hZ] at hjl ⊢
            have HZ := Lib.hid hZ
            have Hbj := Lib.hid hbj
            have q5 : ¬ 9223372036854775807 < Z.length + 1 := by omega
            clear hZ hbj hjl
            go_wp2_with fail
            refine ⟨⟨k + 1, hlt, by simp, ?_, Hbj.out⟩, by simp [intOf]; omega⟩
            rw [HX9.out, HT.out, show X ++ lineS (N + 1) M = Z ++ [10] from by rw [← HZ.out]; simp [lineS, headS]]
            exact congrArg Value.string (cat2 Z [10])
         ·have t0' : ¬ M.task < 0 := by omega
          have q1 : ¬ 9223372036854775807 < X.length + (Lib.itoa M.task).length := by omega
          have q2 : ¬ 9223372036854775807 < X.length + (Lib.itoa M.task).length + 1 := by omega
          have e1 : (ByteArray.mk X.toArray ++ ByteArray.mk (Lib.itoa M.task).toArray ++ ByteArray.mk #[32]) = ByteArray.mk (X ++ Lib.itoa M.task ++ [32]).toArray := by
           rw [show (#[32] : Array UInt8) = ([32] : List UInt8).toArray from rfl, cat2, cat2]
          have E1 := Lib.hid e1
          have HDt := Lib.hid (fun W => decimal25 M.task W (by omega) (by omega))
          clear e1
          go_upto_region 21 with (go_at_call 25; refine (HDt.out _).mono ?_; rintro e W5 ⟨rfl, hb5⟩)
          rw [E1.out]
          have Hb5 := Lib.hid (Hbw.out.trans (below_mono hb5 Hbw.out.size))
          clear E1 Hbw q1 q2 c0 c1 hb5 HDt
          generalize hX2 : X ++ Lib.itoa M.task ++ [32] = X2 at *
          have hX2l : X2.length ≤ X.length + 22 := by rw [← hX2]; simp; omega
          have q3 : ¬ 9223372036854775807 < X2.length + (Lib.itoa M.index).length := by omega
          have q4 : ¬ 9223372036854775807 < X2.length + (Lib.itoa M.index).length + 1 := by omega
          have g2 : W5.cell? ⟨b, off + k * 7 + 2, none⟩ = some (.int .i64 M.index) := by simpa using (Hrow.out.below Hb5.out hb) 2 _ rfl
          have e4 : X2 ++ Lib.itoa M.index ++ [32] = X ++ headS M := by rw [← hX2]; simp [headS]
          have e3 : (ByteArray.mk X2.toArray ++ ByteArray.mk (Lib.itoa M.index).toArray ++ ByteArray.mk #[32]) = ByteArray.mk (X ++ headS M).toArray := by
           rw [← e4, show (#[32] : Array UInt8) = ([32] : List UInt8).toArray from rfl, cat2, cat2]
          have E3 := Lib.hid e3
          clear e3 e4 hX2
          have Hh : Hid ((headS M).length + (N + 1) + 1 = (lineS (N + 1) M).length) := Lib.hid (by simp [lineS, headS, cellsS_len]; omega)
          go_upto_region 22 with (go_at_call 25; refine (HDi.out _).mono ?_; rintro e w6 ⟨rfl, hb6⟩)
          rw [E3.out]
          have hb7 : Below w.heap.size w w6 := Hb5.out.trans (below_mono hb6 Hb5.out.size)
          have Hb7 := Lib.hid hb7
          clear hb6 hb7 q3 q4 g2 E3 Hb5 HDi hX2l
          go_wp2_with fail
          go_loopw [8, 10] (fun ov jv wq => ∃ j : Nat, j ≤ N + 1 ∧ jv = .int .i64 j ∧ ov = .string ⟨(X ++ headS M ++ cellsS M j).toArray⟩ ∧ Below w.heap.size w wq) (fun _ jv _ => N + 1 - (intOf jv).toNat)
          case atStart => exact ⟨0, Nat.zero_le _, rfl, by simp [cellsS], Hb7.out⟩
          case round =>
           obtain ⟨j, hj, rfl, rfl, hbj⟩ := hrel
           have hrj := Hrow.out.below hbj hb
           have hjl : (X ++ headS M ++ cellsS M j).length + 1 ≤ 1048576 := by
            have h1 := HTl.out
            have h3 := Hh.out
            simp only [List.length_append, cellsS_len]
            omega
           by_cases h4 : j < N + 1
           ·have hj4 : (j : Int) ≤ (N : Int) := by omega
            have hZZ : ∃ Z, X ++ headS M ++ cellsS M j = Z := ⟨_, rfl⟩
            obtain ⟨Z, hZ⟩ := hZZ
            rw [hZ] at hjl ⊢
            have HZ := Lib.hid hZ
            have Hbj := Lib.hid hbj
            have q5 : ¬ 9223372036854775807 < Z.length + 1 := by omega
            clear hZ hbj hjl
            rcases Bool.eq_false_or_eq_true (contS M j) with hq | hq
            ·have hcall := contains26 M j wr
             rw [hq] at hcall
             have Hq := Lib.hid hq
             have Hcall := Lib.hid hcall
             clear hq hcall
             go_wp2_with (first
              | ((with_reducible refine wpList_load_agg (o := ⟨some 94, .load 46 (.tmp 93), _, _, _, none⟩) rfl 46 _ rfl b (off + k * 7) ?_ _ hrj _ Tryz.underlying46 rfl ?_ ?_); (focus rfl); (focus kernel_rfl); simp only [spCells])
              | (go_at_call 26; refine Hcall.out.mono ?_; rintro e w8 ⟨rfl, hb8⟩))
             refine ⟨⟨j + 1, h4, by simp, ?_, Hbj.out.trans (below_mono hb8 Hbj.out.size)⟩, by simp [intOf]; omega⟩
             have e1 : cellS M j = 35 := by unfold cellS; rw [Hq.out]; rfl
             rw [cellsS_succ, e1, ← List.append_assoc, HZ.out]
             exact congrArg Value.string (cat2 Z [35])
            ·have hcall := contains26 M j wr
             rw [hq] at hcall
             have Hq := Lib.hid hq
             have Hcall := Lib.hid hcall
             clear hq hcall
             go_wp2_with (first
              | ((with_reducible refine wpList_load_agg (o := ⟨some 94, .load 46 (.tmp 93), _, _, _, none⟩) rfl 46 _ rfl b (off + k * 7) ?_ _ hrj _ Tryz.underlying46 rfl ?_ ?_); (focus rfl); (focus kernel_rfl); simp only [spCells])
              | (go_at_call 26; refine Hcall.out.mono ?_; rintro e w8 ⟨rfl, hb8⟩))
             refine ⟨⟨j + 1, h4, by simp, ?_, Hbj.out.trans (below_mono hb8 Hbj.out.size)⟩, by simp [intOf]; omega⟩
             have e1 : cellS M j = 46 := by unfold cellS; rw [Hq.out]; rfl
             rw [cellsS_succ, e1, ← List.append_assoc, HZ.out]
             exact congrArg Value.string (cat2 Z [46])
           ·have hjN : j = N + 1 := by omega
            subst hjN
            have hj4 : ¬ ((N : Int) + 1 ≤ (N : Int)) := by omega
            obtain ⟨Z, hZ⟩ : ∃ Z, X ++ headS M ++ cellsS M (N + 1) = Z := ⟨_, rfl⟩
            rw [hZ] at hjl ⊢
            have HZ := Lib.hid hZ
            have Hbj := Lib.hid hbj
            have q5 : ¬ 9223372036854775807 < Z.length + 1 := by omega
            clear hZ hbj hjl
            go_wp2_with fail
            refine ⟨⟨k + 1, hlt, by simp, ?_, Hbj.out⟩, by simp [intOf]; omega⟩
            rw [HX9.out, HT.out, show X ++ lineS (N + 1) M = Z ++ [10] from by rw [← HZ.out]; simp [lineS, headS]]
            exact congrArg Value.string (cat2 Z [10])
        ·rw [if_neg hk1] at hT
         have hne : (M.kind != kind) = true := by simpa using hk1
         have hne2 : (M.kind == kind) = false := by simpa using hk1
         have HT := Lib.hid hT
         clear hT hk1
         go_wp2
         exact ⟨⟨k + 1, hlt, by simp, by rw [HX9.out, HT.out], Hbw.out⟩, by simp [intOf]; omega⟩
       ·have hkk : k = l.length := by omega
        subst hkk
        rw [List.take_of_length_le (Nat.le_refl _)]
        have Hbw := Lib.hid hbw
        clear hbw
        go_wp2
        go_ret2
        exact chartP_of HE.out HTT.out Hbw.out
  ·have hwi : wi kind 1 4 = false := decide_eq_false c2
   have hE : chartE l kind = 8 := by unfold chartE; rw [if_neg (by simp [c1]), if_pos hwi]
   have hT : chartT l kind = [] := by unfold chartT; rw [hE]; rfl
   have HE := Lib.hid hE
   have HT := Lib.hid hT
   rcases Int.lt_or_le kind 1 with k1 | k1
   ·clear hE hT hwi c2 c1
    go_enter Tryz.func6, Tryz.ntmps6
    go_wp2_with fail
    refine Hck.out.mono ?_
    rintro e w1 ⟨rfl, hb1⟩
    have Hb1 := Lib.hid hb1
    clear hb1
    go_wp2
    go_ret2
    exact chartP_of HE.out HT.out Hb1.out
   ·have k1' : ¬ kind < 1 := by omega
    have k4 : 4 < kind := by omega
    clear hE hT hwi c2 c1
    go_enter Tryz.func6, Tryz.ntmps6
    go_wp2_with fail
    refine Hck.out.mono ?_
    rintro e w1 ⟨rfl, hb1⟩
    have Hb1 := Lib.hid hb1
    clear hb1
    go_wp2
    go_ret2
    exact chartP_of HE.out HT.out Hb1.out
 ·have hE : chartE l kind = 1 := by unfold chartE; rw [if_pos c1]
  have hT : chartT l kind = [] := by unfold chartT; rw [hE]; rfl
  have hne : (chk l != 0) = true := by simpa using c1
  have Hck := Lib.hid hck
  have HE := Lib.hid hE
  have HT := Lib.hid hT
  clear hE hT c1 hck
  go_enter Tryz.func6, Tryz.ntmps6
  go_wp2_with fail
  refine Hck.out.mono ?_
  rintro e w1 ⟨rfl, hb1⟩
  have Hb1 := Lib.hid hb1
  clear hb1
  go_wp2
  go_ret2
  exact chartP_of HE.out HT.out Hb1.out
end Go.Proofs.Seat9

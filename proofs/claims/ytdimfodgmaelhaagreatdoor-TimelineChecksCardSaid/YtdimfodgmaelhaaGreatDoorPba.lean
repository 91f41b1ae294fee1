/- A part of the proof. -/
import Derived.Test.YtdimfodgmaelhaaGreatDoorPaz
set_option linter.all false
namespace Go.Proofs.Seat9
open Go.RowKit Go.Proofs.Seat4
theorem wpList_load_aggW {P : Program} {ops : Array Oper} {rest : List Oper} {o : Oper} {a : Act} {w : World} {Q : Exit → Act → World → Prop} (hgd : Region.wanted o (yielded ops a.tmps) = true) (ty : TypeId) (x : Operand) (ho : o.op = .load ty x)
 (b off : Nat) (hx : a.eval x = .pointer (some ⟨b, off, none⟩)) (cs : List Value) (hc : Row w b off cs) (d : TypeDesc)
 (hu : P.underlying ty = some d) (hd : (match d with | .struct _ | .array _ _ => true | _ => false) = true) (hi : (P.info? ty).map (·.size) = some cs.length)
 (h : wpList P ops Q rest (a.put o.dst (.agg cs.toArray)) w) : wpList P ops Q (o :: rest) a w :=
 wpList_step fun K hK => by
  rw [if_pos hgd]
  unfold Oper.wp execOp
  simp only [ho, hx, Instr.loadAt, Instr.sureAddr, Sem.run_bind, Sem.run_pure, Result.andThen_ok, run_loadVar_agg w b off ty cs d hc hu hd hi]
  exact hK _ _ h
theorem confP_split (y x : Sp) : ((y.kind == x.kind) = false ∧ confP y x = false) ∨ ((y.kind == x.kind) = true ∧ (((y.task == x.task) = false ∧ confP y x = false) ∨ ((y.task == x.task) = true ∧ (((y.index == x.index) = false ∧ confP y x = false) ∨ ((y.index == x.index) = true ∧
 ((contS y x.from_ = true ∧ confP y x = true) ∨ (contS y x.from_ = false ∧ ((contS x y.from_ = true ∧ confP y x = true) ∨ (contS x y.from_ = false ∧ confP y x = false))))))))) := by
 unfold confP sameK
 by_cases h1 : y.kind = x.kind <;> by_cases h2 : y.task = x.task <;> by_cases h3 : y.index = x.index <;> cases h4 : contS y x.from_ <;> cases h5 : contS x y.from_ <;> simp_all
theorem any_snoc (l : List Sp) (j : Nat) (hj : j < l.length) (p : Sp → Bool) : (l.take (j + 1)).any p = ((l.take j).any p || p l[j]) := by
 rw [List.take_succ_eq_append_getElem hj, List.any_append]
 simp
theorem any_upto (l : List Sp) (j k : Nat) (hj : j < l.length) (hjk : j < k) (p : Sp → Bool) (h : p l[j] = true) : (l.take k).any p = true := by
 rw [List.any_eq_true]
 refine ⟨l[j], ?_, h⟩
 rw [List.mem_take_iff_getElem]
 exact ⟨j, by omega, rfl⟩
set_option maxRecDepth 100000 in
set_option maxHeartbeats 4000000 in
theorem check7p (l : List Sp) (b off cap : Nat) (w : World) (hb : b < w.heap.size) (hl : l.length ≤ 1000000) (hrow : LAt SE w b off l) (hcap : l.length ≤ cap) :
 Calls Tryz.prog 7 #[.slice (some ⟨b, off, none⟩) l.length cap] w fun e w' => e = .returned (.int .i64 (chk l)) ∧ Below w.heap.size w w' := by
 have Hrow := Lib.hid hrow
 clear hrow
 go_enter Tryz.func7, Tryz.ntmps7
 go_wp2
 go_loopw [9] (fun v wr => ∃ k : Nat, k ≤ l.length ∧ v = .int .i64 k ∧ chkR confP l (l.drop k) k = chk l ∧ Below w.heap.size w wr) (fun v _ => l.length - (intOf v).toNat)
 case atStart => exact ⟨0, Nat.zero_le _, rfl, by simp [chk], Below.refl _ _⟩
 case round =>
  obtain ⟨k, hk, rfl, hchk, hbw⟩ := hrel
  by_cases hlt : k < l.length
  ·rw [chkR_at confP l k hlt] at hchk
   have hr : Row w b (off + k * 7) (spCells l[k]) := Hrow.out k hlt
   have hr' : Row wr b (off + k * 7) (spCells l[k]) := hr.below hbw hb
   generalize hM : l[k] = M at *
   have HM := Lib.hid hM
   have Hchk := Lib.hid hchk
   have hsz := hbw.size
   have Hbw := Lib.hid hbw
   have hva := fun W => valid27 M W
   have hck0 : validS M = false → chk l = 1 := fun h => by rw [← hchk]; unfold chk1; rw [if_pos h]; rfl
   have Hck0 := Lib.hid hck0
   generalize hVV : validS M = vv at *
   have HVV := Lib.hid hVV
   have Hva := Lib.hid hva
   clear hM hchk hr hbw hva hVV hck0
   have rM : Row (wr.alloc (.cells #[.int .i64 M.kind, .int .i64 M.task, .int .i64 M.index, .int .i64 M.from_, .int .i64 M.to_, .int .i64 M.start, .int .i64 M.end_] 46)) wr.heap.size 0 (spCells M) := Row.new wr #[.int .i64 M.kind, .int .i64 M.task, .int .i64 M.index, .int .i64 M.from_, .int .i64 M.to_, .int .i64 M.start, .int .i64 M.end_] 46 _ rfl
   rcases Bool.eq_false_or_eq_true vv with rfl | rfl
   rotate_left
   ·skip
    go_wp2_with (first
     | ((with_reducible refine wpList_load_agg (o := ⟨some 13, .load 46 (.tmp 12), _, _, _, none⟩) rfl 46 _ rfl b (off + k * 7) ?_ _ hr' _ Tryz.underlying46 rfl ?_ ?_); (focus rfl); (focus kernel_rfl); simp only [spCells])
     | ((with_reducible refine wpList_load_agg (o := ⟨some 14, .load 46 (.tmp 4), _, _, _, none⟩) rfl 46 _ rfl wr.heap.size 0 ?_ _ rM _ Tryz.underlying46 rfl ?_ ?_); (focus rfl); (focus kernel_rfl); simp only [spCells])
     | (go_at_call 27; refine (Hva.out _).mono ?_; rintro e w1 ⟨rfl, hb1⟩))
    go_ret
    refine ⟨by rw [Hck0.out (by trivial)]; rfl, (Hbw.out.alloc hsz _).trans (below_mono hb1 ?_)⟩
    simp; omega
   ·skip
    go_wp2_with (first
     | ((with_reducible refine wpList_load_agg (o := ⟨some 13, .load 46 (.tmp 12), _, _, _, none⟩) rfl 46 _ rfl b (off + k * 7) ?_ _ hr' _ Tryz.underlying46 rfl ?_ ?_); (focus rfl); (focus kernel_rfl); simp only [spCells])
     | ((with_reducible refine wpList_load_agg (o := ⟨some 14, .load 46 (.tmp 4), _, _, _, none⟩) rfl 46 _ rfl wr.heap.size 0 ?_ _ rM _ Tryz.underlying46 rfl ?_ ?_); (focus rfl); (focus kernel_rfl); simp only [spCells])
     | (go_at_call 27; refine (Hva.out _).mono ?_; rintro e w1 ⟨rfl, hb1⟩))
    have hbm : Below (wr.heap.size + 1) (wr.alloc (.cells #[.int .i64 M.kind, .int .i64 M.task, .int .i64 M.index, .int .i64 M.from_, .int .i64 M.to_, .int .i64 M.start, .int .i64 M.end_] 46)) w1 := by simpa using hb1
    have rM2 : Row w1 wr.heap.size 0 (spCells M) := rM.below hbm (by omega)
    have hb2 : Below w.heap.size w w1 := (Hbw.out.alloc hsz _).trans (below_mono hbm (by omega))
    have hB2 : wr.heap.size < w1.heap.size := by have := hbm.size; simp at this; omega
    have hbB : b < wr.heap.size := by omega
    generalize hBB : wr.heap.size = B at *
    have Hb2 := Lib.hid hb2
    have RM := Lib.hid rM2
    have hb1z : b < w1.heap.size := by omega
    clear hbm rM2 hb2 hb1 rM hr' hBB
    have fin : ∀ (wx : World), Below w1.heap.size w1 wx → Below w.heap.size w wx := fun wx h => Hb2.out.trans (below_mono h Hb2.out.size)
    have Fin := Lib.hid fin
    clear fin
    rcases Nat.eq_zero_or_pos k with rfl | hk0
    ·refine wp_region_det (by kernel_rfl) (by kernel_rfl) (fun wx => Below w1.heap.size w1 wx) ((Below.refl _ _).drew) ?_
     iterate 12
      apply wpDet_cons
      ·intro wx hx
       go_wp2_with fail
       exact ⟨rfl, rfl, hx⟩
      go_frame
     intro w3 hx
     have hb3 := Fin.out w3 hx
     have Hb3 := Lib.hid hb3
     clear hx hb3
     go_wp2_with fail
     refine wp_loop_rounds 1 ?_
     rw [rounds_succ]
     go_wp2_with fail
     have hz : chk1 confP l 0 M = 0 := by unfold chk1; rw [HVV.out]; simp
     have h9 := Hchk.out
     rw [if_pos hz] at h9
     go_roundw
     case rel => exact ⟨0 + 1, by omega, by go_num, h9, Hb3.out⟩
     case measure => simp [intOf]; omega
    ·obtain ⟨k', rfl⟩ : ∃ k', k = k' + 1 := ⟨k - 1, by omega⟩
     have hp : Row w1 b (off + k' * 7) (spCells (l[k']'(by omega))) := ((Hrow.out k' (by omega)).below Hb2.out hb)
     have hP : l.getD (k' + 1 - 1) default = l[k']'(by omega) := by simp [List.getD_eq_getElem?_getD, show k' < l.length from by omega]
     generalize hPP : (l[k']'(by omega)) = P at hp hP
     generalize hc : cfS P M = c
     have HP := Lib.hid hP
     have Hp := Lib.hid hp
     have Hc := Lib.hid hc
     clear hP hp hc hPP
     have i1 : (k' : Int) < (l.length : Int) := by omega
     have h0 : (0 : Int) < (k' : Int) + 1 := by omega
     have h9 : ¬ c < 0 → chk l = 9 := fun hc0 => by
      have hl : lessS P M = false := (cfS_less P M).1 (by rw [Hc.out]; omega)
      have hz : chk1 confP l (k' + 1) M = 9 := by unfold chk1; rw [HVV.out, HP.out, hl]; simp
      have h := Hchk.out
      rw [hz, if_neg (by decide)] at h
      exact h.symm
     have hl0 : c < 0 → lessS P M = true := fun hc0 => by
      cases h : lessS P M with
      | true => rfl
      | false => exact absurd ((cfS_less P M).2 h) (by rw [Hc.out]; omega)
     have H9 := Lib.hid h9
     have HL0 := Lib.hid hl0
     clear h9 hl0
     rcases Int.lt_or_le c 0 with hc0 | hc0
     rotate_left
     ·have h91 := H9.out (by omega)
      have H91 := Lib.hid h91
      clear h91 H9 HL0
      refine wp_region_det (by kernel_rfl) (by kernel_rfl) (fun wx => Below w1.heap.size w1 wx) ((Below.refl _ _).drew) ?_
      iterate 12
       apply wpDet_cons
       ·intro wx hx
        have gP := Hp.out.below hx hb1z
        have gM := RM.out.below hx hB2
        simp only [spCells] at gP gM
        first
         | ((with_reducible refine wpList_load_aggW (o := ⟨some 24, .load 46 (.tmp 23), _, _, _, _⟩) ?_ 46 _ rfl b (off + k' * 7) ?_ _ gP _ Tryz.underlying46 rfl ?_ ?_); (focus rfl); (focus rfl); (focus kernel_rfl); exact ⟨rfl, rfl, hx⟩)
         | ((with_reducible refine wpList_load_aggW (o := ⟨some 25, .load 46 (.tmp 4), _, _, _, _⟩) ?_ 46 _ rfl B 0 ?_ _ gM _ Tryz.underlying46 rfl ?_ ?_); (focus rfl); (focus rfl); (focus kernel_rfl); exact ⟨rfl, rfl, hx⟩)
         | (go_wp2_with (go_at_call 28; refine (compare28 P M c Hc.out _).mono ?_; rintro e w' ⟨rfl, hbk⟩)
            first
             | exact ⟨rfl, rfl, hx⟩
             | exact ⟨rfl, rfl, hx.trans (below_mono hbk hx.size)⟩)
       go_frame
      intro w3 hx
      have hb3 := Fin.out w3 hx
      clear hx
      go_wp2_with fail
      go_ret
      exact ⟨by rw [H91.out]; rfl, hb3⟩
     ·have hlt2 := HL0.out hc0
      have Hlt2 := Lib.hid hlt2
      clear hlt2 H9 HL0
      refine wp_region_det (by kernel_rfl) (by kernel_rfl) (fun wx => Below w1.heap.size w1 wx) ((Below.refl _ _).drew) ?_
      iterate 12
       apply wpDet_cons
       ·intro wx hx
        have gP := Hp.out.below hx hb1z
        have gM := RM.out.below hx hB2
        simp only [spCells] at gP gM
        first
         | ((with_reducible refine wpList_load_aggW (o := ⟨some 24, .load 46 (.tmp 23), _, _, _, _⟩) ?_ 46 _ rfl b (off + k' * 7) ?_ _ gP _ Tryz.underlying46 rfl ?_ ?_); (focus rfl); (focus rfl); (focus kernel_rfl); exact ⟨rfl, rfl, hx⟩)
         | ((with_reducible refine wpList_load_aggW (o := ⟨some 25, .load 46 (.tmp 4), _, _, _, _⟩) ?_ 46 _ rfl B 0 ?_ _ gM _ Tryz.underlying46 rfl ?_ ?_); (focus rfl); (focus rfl); (focus kernel_rfl); exact ⟨rfl, rfl, hx⟩)
         | (go_wp2_with (go_at_call 28; refine (compare28 P M c Hc.out _).mono ?_; rintro e w' ⟨rfl, hbk⟩)
            first
             | exact ⟨rfl, rfl, hx⟩
             | exact ⟨rfl, rfl, hx.trans (below_mono hbk hx.size)⟩)
       go_frame
      intro w3 hx
      have hb3 := Fin.out w3 hx
      have hB3 : B < w3.heap.size := Nat.lt_of_lt_of_le hB2 hx.size
      have rM3 := RM.out.below hx hB2
      have rows3 : LAt SE w3 b off l := fun j hj => ((Hrow.out j hj).below hb3 hb)
      have Hb3 := Lib.hid hb3
      have RM3 := Lib.hid rM3
      have Rows3 := Lib.hid rows3
      have hb3z : b < w3.heap.size := Nat.lt_of_lt_of_le hb1z hx.size
      clear hx hb3 rM3 rows3
      go_wp2_with fail
      have hNo : (l.take (k' + 1)).any (fun y => confP y M) = false → chkR confP l (l.drop (k' + 1 + 1)) (k' + 1 + 1) = chk l := fun hn => by
       have hz : chk1 confP l (k' + 1) M = 0 := by unfold chk1; rw [HVV.out, HP.out, Hlt2.out, hn]; simp
       have h := Hchk.out
       rwa [if_pos hz] at h
      have hYes : (l.take (k' + 1)).any (fun y => confP y M) = true → chk l = 16 := fun hn => by
       have hz : chk1 confP l (k' + 1) M = 16 := by unfold chk1; rw [HVV.out, HP.out, Hlt2.out, hn]; simp
       have h := Hchk.out
       rw [hz, if_neg (by decide)] at h
       exact h.symm
      obtain ⟨NoP, hNoP⟩ : ∃ NoP : Prop, NoP = ((l.take (k' + 1)).any (fun y => confP y M) = false → chkR confP l (l.drop (k' + 1 + 1)) (k' + 1 + 1) = chk l) := ⟨_, rfl⟩
      obtain ⟨YesP, hYesP⟩ : ∃ YesP : Prop, YesP = ((l.take (k' + 1)).any (fun y => confP y M) = true → chk l = 16) := ⟨_, rfl⟩
      rw [← hNoP] at hNo
      rw [← hYesP] at hYes
      have HNoP := Lib.hid hNoP
      have HYesP := Lib.hid hYesP
      have HNo := Lib.hid hNo
      have HYes := Lib.hid hYes
      clear hNo hYes hNoP hYesP HP Hc Hp Hchk HVV Hva Hck0 Hlt2 h0
      have hkc : ((k' : Int) + 1) = ((k' + 1 : Nat) : Int) := by omega
      rw [hkc]
      clear hkc
      generalize hKK : k' + 1 = K at *
      have HKK := Lib.hid hKK
      clear hKK hc0
      go_loopw [33] (fun v wq => ∃ j : Nat, j ≤ K ∧ v = .int .i64 j ∧ (l.take j).any (fun y => confP y M) = false ∧ Below w3.heap.size w3 wq) (fun v _ => K - (intOf v).toNat)
      case atStart => exact ⟨0, Nat.zero_le _, rfl, by simp, Below.refl _ _⟩
      case round =>
       obtain ⟨j, hj, rfl, hany, hbq⟩ := hrel
       by_cases hjk : j < K
       ·have hjl : j < l.length := by omega
        have hy : Row wr b (off + j * 7) (spCells l[j]) := (Rows3.out j hjl).below hbq hb3z
        have rMq := RM3.out.below hbq hB3
        have hsn := any_snoc l j hjl (fun y => confP y M)
        have hup := any_upto l j (K) hjl hjk (fun y => confP y M)
        rw [hany, Bool.false_or] at hsn
        generalize hY : l[j] = Y at *
        have hsq := hbq.size
        have HY := Lib.hid hY
        have Hsn := Lib.hid hsn
        obtain ⟨UpP, hUpP⟩ : ∃ UpP : Prop, UpP = (confP Y M = true → (l.take (K)).any (fun y => confP y M) = true) := ⟨_, rfl⟩
        change (confP Y M = true → (l.take (K)).any (fun y => confP y M) = true) at hup
        rw [← hUpP] at hup
        have HUpP := Lib.hid hUpP
        have Hup := Lib.hid hup
        have Hbq := Lib.hid hbq
        have rY : Row (wr.alloc (.cells #[.int .i64 Y.kind, .int .i64 Y.task, .int .i64 Y.index, .int .i64 Y.from_, .int .i64 Y.to_, .int .i64 Y.start, .int .i64 Y.end_] 46)) wr.heap.size 0 (spCells Y) := Row.new wr #[.int .i64 Y.kind, .int .i64 Y.task, .int .i64 Y.index, .int .i64 Y.from_, .int .i64 Y.to_, .int .i64 Y.start, .int .i64 Y.end_] 46 _ rfl
        have rMz : Row (wr.alloc (.cells #[.int .i64 Y.kind, .int .i64 Y.task, .int .i64 Y.index, .int .i64 Y.from_, .int .i64 Y.to_, .int .i64 Y.start, .int .i64 Y.end_] 46)) B 0 (spCells M) := rMq.alloc (by omega) _
        have m0 : (wr.alloc (.cells #[.int .i64 Y.kind, .int .i64 Y.task, .int .i64 Y.index, .int .i64 Y.from_, .int .i64 Y.to_, .int .i64 Y.start, .int .i64 Y.end_] 46)).cell? ⟨B, 0, none⟩ = some (.int .i64 M.kind) := by simpa using rMz 0 _ rfl
        have m1 : (wr.alloc (.cells #[.int .i64 Y.kind, .int .i64 Y.task, .int .i64 Y.index, .int .i64 Y.from_, .int .i64 Y.to_, .int .i64 Y.start, .int .i64 Y.end_] 46)).cell? ⟨B, 1, none⟩ = some (.int .i64 M.task) := by simpa using rMz 1 _ rfl
        have m2 : (wr.alloc (.cells #[.int .i64 Y.kind, .int .i64 Y.task, .int .i64 Y.index, .int .i64 Y.from_, .int .i64 Y.to_, .int .i64 Y.start, .int .i64 Y.end_] 46)).cell? ⟨B, 2, none⟩ = some (.int .i64 M.index) := by simpa using rMz 2 _ rfl
        have m3 : (wr.alloc (.cells #[.int .i64 Y.kind, .int .i64 Y.task, .int .i64 Y.index, .int .i64 Y.from_, .int .i64 Y.to_, .int .i64 Y.start, .int .i64 Y.end_] 46)).cell? ⟨B, 3, none⟩ = some (.int .i64 M.from_) := by simpa using rMz 3 _ rfl
        have RMz := Lib.hid rMz
        have hB4 : B < wr.heap.size := by omega
        have hbw4 : Below w3.heap.size w3 (wr.alloc (.cells #[.int .i64 Y.kind, .int .i64 Y.task, .int .i64 Y.index, .int .i64 Y.from_, .int .i64 Y.to_, .int .i64 Y.start, .int .i64 Y.end_] 46)) := hbq.alloc hsq _
        have Hbw4 := Lib.hid hbw4
        clear hY hsn hup hbq rMq hUpP rMz hbw4
        have hgo : confP Y M = false → (l.take (j + 1)).any (fun y => confP y M) = false := fun h => by rw [Hsn.out]; exact h
        have hstop : confP Y M = true → chk l = 16 := fun h => by
         have h1 := Hup.out
         rw [HUpP.out] at h1
         have h2 := HYes.out
         rw [HYesP.out] at h2
         exact h2 (h1 h)
        rcases confP_split Y M with ⟨c1, hc⟩ | ⟨c1, ⟨c2, hc⟩ | ⟨c2, ⟨c3, hc⟩ | ⟨c3, ⟨c4, hc⟩ | ⟨c4, ⟨c5, hc⟩ | ⟨c5, hc⟩⟩⟩⟩⟩
        ·have G := Lib.hid (hgo hc)
         clear hgo hstop hc Hsn HUpP Hup
         go_wp2_with ((with_reducible refine wpList_load_agg (o := ⟨some 36, .load 46 (.tmp 35), _, _, _, none⟩) rfl 46 _ rfl b (off + j * 7) ?_ _ hy _ Tryz.underlying46 rfl ?_ ?_); (focus rfl); (focus kernel_rfl); simp only [spCells])
         go_roundw
         case rel => exact ⟨j + 1, by omega, by go_num, G.out, Hbw4.out⟩
         case measure => simp [intOf]; omega
        ·have G := Lib.hid (hgo hc)
         clear hgo hstop hc Hsn HUpP Hup
         go_wp2_with ((with_reducible refine wpList_load_agg (o := ⟨some 36, .load 46 (.tmp 35), _, _, _, none⟩) rfl 46 _ rfl b (off + j * 7) ?_ _ hy _ Tryz.underlying46 rfl ?_ ?_); (focus rfl); (focus kernel_rfl); simp only [spCells])
         go_roundw
         case rel => exact ⟨j + 1, by omega, by go_num, G.out, Hbw4.out⟩
         case measure => simp [intOf]; omega
        ·have G := Lib.hid (hgo hc)
         clear hgo hstop hc Hsn HUpP Hup
         go_wp2_with ((with_reducible refine wpList_load_agg (o := ⟨some 36, .load 46 (.tmp 35), _, _, _, none⟩) rfl 46 _ rfl b (off + j * 7) ?_ _ hy _ Tryz.underlying46 rfl ?_ ?_); (focus rfl); (focus kernel_rfl); simp only [spCells])
         go_roundw
         case rel => exact ⟨j + 1, by omega, by go_num, G.out, Hbw4.out⟩
         case measure => simp [intOf]; omega
        ·have G := Lib.hid (hstop hc)
         have K4 := Lib.hid (fun W => contains22 Y M.from_ W)
         rw [c4] at K4
         clear hgo hstop hc Hsn HUpP Hup c4
         go_wp2_with (first
          | ((with_reducible refine wpList_load_agg (o := ⟨some 36, .load 46 (.tmp 35), _, _, _, none⟩) rfl 46 _ rfl b (off + j * 7) ?_ _ hy _ Tryz.underlying46 rfl ?_ ?_); (focus rfl); (focus kernel_rfl); simp only [spCells])
          | ((with_reducible refine wpList_load_aggW (o := ⟨some 57, .load 46 (.tmp 6), _, _, _, _⟩) ?_ 46 _ rfl wr.heap.size 0 ?_ _ rY _ Tryz.underlying46 rfl ?_ ?_); (focus rfl); (focus rfl); (focus kernel_rfl); simp only [spCells])
          | (go_at_call 22; refine (K4.out _).mono ?_; rintro e w5 ⟨rfl, hb5⟩))
         go_ret
         refine ⟨by rw [G.out]; rfl, Hb3.out.trans (below_mono (Hbw4.out.trans (below_mono hb5 ?_)) Hb3.out.size)⟩
         simp; omega
        ·have G := Lib.hid (hstop hc)
         have K4 := Lib.hid (fun W => contains22 Y M.from_ W)
         have K5 := Lib.hid (fun W => contains22 M Y.from_ W)
         rw [c4] at K4
         rw [c5] at K5
         clear hgo hstop hc Hsn HUpP Hup c4 c5
         go_wp2_with (first
          | ((with_reducible refine wpList_load_agg (o := ⟨some 36, .load 46 (.tmp 35), _, _, _, none⟩) rfl 46 _ rfl b (off + j * 7) ?_ _ hy _ Tryz.underlying46 rfl ?_ ?_); (focus rfl); (focus kernel_rfl); simp only [spCells])
          | ((with_reducible refine wpList_load_aggW (o := ⟨some 57, .load 46 (.tmp 6), _, _, _, _⟩) ?_ 46 _ rfl wr.heap.size 0 ?_ _ rY _ Tryz.underlying46 rfl ?_ ?_); (focus rfl); (focus rfl); (focus kernel_rfl); simp only [spCells])
          | ((with_reducible refine wpList_load_aggW (o := ⟨some 62, .load 46 (.tmp 4), _, _, _, _⟩) ?_ 46 _ rfl B 0 ?_ _ r5 _ Tryz.underlying46 rfl ?_ ?_); (focus rfl); (focus rfl); (focus kernel_rfl); simp only [spCells])
          | (go_at_call 22; first
              | ((with_reducible refine (K4.out _).mono ?_); rintro e w5 ⟨rfl, hb5⟩; have r5 := RMz.out.below hb5 (by simp; omega); have y5 : w5.cell? ⟨wr.heap.size, 3, none⟩ = some (.int .i64 Y.from_) := by simpa using rY.below hb5 (by simp) 3 _ rfl)
              | ((with_reducible refine (K5.out _).mono ?_); rintro e w6 ⟨rfl, hb6⟩)))
         go_ret
         refine ⟨by rw [G.out]; rfl, Hb3.out.trans (below_mono (Hbw4.out.trans (below_mono (hb5.trans (below_mono hb6 hb5.size)) ?_)) Hb3.out.size)⟩
         simp; omega
        ·have G := Lib.hid (hgo hc)
         have K4 := Lib.hid (fun W => contains22 Y M.from_ W)
         have K5 := Lib.hid (fun W => contains22 M Y.from_ W)
         rw [c4] at K4
         rw [c5] at K5
         clear hgo hstop hc Hsn HUpP Hup c4 c5
         go_wp2_with (first
          | ((with_reducible refine wpList_load_agg (o := ⟨some 36, .load 46 (.tmp 35), _, _, _, none⟩) rfl 46 _ rfl b (off + j * 7) ?_ _ hy _ Tryz.underlying46 rfl ?_ ?_); (focus rfl); (focus kernel_rfl); simp only [spCells])
          | ((with_reducible refine wpList_load_aggW (o := ⟨some 57, .load 46 (.tmp 6), _, _, _, _⟩) ?_ 46 _ rfl wr.heap.size 0 ?_ _ rY _ Tryz.underlying46 rfl ?_ ?_); (focus rfl); (focus rfl); (focus kernel_rfl); simp only [spCells])
          | ((with_reducible refine wpList_load_aggW (o := ⟨some 62, .load 46 (.tmp 4), _, _, _, _⟩) ?_ 46 _ rfl B 0 ?_ _ r5 _ Tryz.underlying46 rfl ?_ ?_); (focus rfl); (focus rfl); (focus kernel_rfl); simp only [spCells])
          | (go_at_call 22; first
              | ((with_reducible refine (K4.out _).mono ?_); rintro e w5 ⟨rfl, hb5⟩; have r5 := RMz.out.below hb5 (by simp; omega); have y5 : w5.cell? ⟨wr.heap.size, 3, none⟩ = some (.int .i64 Y.from_) := by simpa using rY.below hb5 (by simp) 3 _ rfl)
              | ((with_reducible refine (K5.out _).mono ?_); rintro e w6 ⟨rfl, hb6⟩)))
         have hfin := Hbw4.out.trans (below_mono (hb5.trans (below_mono hb6 hb5.size)) (by simp; omega))
         go_roundw
         case rel => exact ⟨j + 1, by omega, by go_num, G.out, hfin⟩
         case measure => simp [intOf]; omega
       ·have hjK : j = K := by omega
        rw [hjK] at hany
        clear hjK
        have h2 := HNo.out
        rw [HNoP.out] at h2
        have h9 := h2 hany
        have H9 := Lib.hid h9
        have hb9 := Hb3.out.trans (below_mono hbq Hb3.out.size)
        have HB9 := Lib.hid hb9
        clear h9 h2 hany hbq hb9
        go_wp2_with fail
        go_roundw
        case rel => exact ⟨K + 1, by omega, by go_num, H9.out, HB9.out⟩
        case measure =>
         have hkk := HKK.out
         simp [intOf]
         omega
  ·have hk' : k = l.length := by omega
   have hz2' : chk l = 0 := by rw [← hchk, hk', List.drop_length]; rfl
   have Hz2 := Lib.hid hz2'
   have Hbw := Lib.hid hbw
   clear hz2' hchk hbw
   go_wp2_with fail
   go_ret
   exact ⟨by rw [Hz2.out]; rfl, Hbw.out⟩
end Go.Proofs.Seat9

/- A part of the proof. -/
import Derived.Test.YtfekipocjifehaaGreatDoorPaq
import Derived.Deep.Cut
import Derived.Test.YtfekipocjifehaaGreatDoorPad
import Derived.Test.YtfekipocjifehaaGreatDoorPab
import Derived.Shelf.Spec.SlicesGrow
import Derived.Ground.Names8Prog
import Derived.Test.YtfekipocjifehaaGreatDoorProg
import Derived.Laws.AppendOwnNone
import Derived.Test.YtfekipocjifehaaGreatDoorPap
set_option linter.all false
section
namespace Go.Proofs.Seat7
open Go.RowKit Go.Proofs.Seat4
theorem below_grow (w : World) (q : Nat) (os : Array Obj) : Below w.heap.size w (Go.Sort.grow (w.drewN q) os) :=
  ⟨rfl, rfl, rfl, by simp [Go.Sort.grow], fun k hk => by simp [Go.Sort.grow, Array.getElem?_append, hk]⟩
theorem cmp24' (x y : Mt) (c : Int) (hc : cfM x y = c) (W : World) : Calls Tryz.prog 24 #[.agg #[.string ⟨x.name.toArray⟩, .int .i64 x.index, .int .i64 x.count, .int .i64 x.sum, .int .i64 x.mx], .agg #[.string ⟨y.name.toArray⟩, .int .i64 y.index, .int .i64 y.count, .int .i64 y.sum, .int .i64 y.mx]] W fun e w' => e = .returned (.int .i64 c) ∧ Below W.heap.size W w' :=
  (cmp24 x y W).mono fun e w' ⟨h1, q, os, h2⟩ => ⟨by rw [h1, hc], by rw [h2]; exact below_grow W q os⟩
theorem wpList_load_aggW {P : Program} {ops : Array Oper} {rest : List Oper} {o : Oper} {a : Act} {w : World} {Q : Exit → Act → World → Prop} (hgd : Region.wanted o (yielded ops a.tmps) = true) (ty : TypeId) (x : Operand) (ho : o.op = .load ty x)
    (b off : Nat) (hx : a.eval x = .pointer (some ⟨b, off, none⟩)) (cs : List Value) (hc : Row w b off cs) (d : TypeDesc)
    (hu : P.underlying ty = some d) (hd : (match d with | .struct _ | .array _ _ => true | _ => false) = true) (hi : (P.info? ty).map (·.size) = some cs.length)
    (h : wpList P ops Q rest (a.put o.dst (.agg cs.toArray)) w) : wpList P ops Q (o :: rest) a w :=
  wpList_step fun K hK => by
    rw [if_pos hgd]
    unfold Oper.wp execOp
    simp only [ho, hx, Instr.loadAt, Instr.sureAddr, Sem.run_bind, Sem.run_pure, Result.andThen_ok, run_loadVar_agg w b off ty cs d hc hu hd hi]
    exact hK _ _ h
noncomputable def chkR (l : List Mt) : List Mt → Nat → Int
  | [], _ => 0
  | m :: r, i => if chk1 l i m = 0 then chkR l r (i + 1) else chk1 l i m
noncomputable def chk (l : List Mt) : Int := if 500 < l.length then 4 else chkR l l 0
theorem chkR_at (l : List Mt) (k : Nat) (h : k < l.length) : chkR l (l.drop k) k = if chk1 l k l[k] = 0 then chkR l (l.drop (k + 1)) (k + 1) else chk1 l k l[k] := by
  rw [List.drop_eq_getElem_cons h]; rfl
set_option maxRecDepth 100000 in
set_option maxHeartbeats 1000000 in
theorem check11 (l : List Mt) (b off cap : Nat) (w : World) (hb : b < w.heap.size) (hl : l.length ≤ 500) (hrow : LAt ME w b off l) :
    Calls Tryz.prog 11 #[.slice (some ⟨b, off, none⟩) l.length cap] w fun e w' => e = .returned (.int .i64 (chkR l l 0)) ∧ Below w.heap.size w w' := by
  have Hrow := Lib.hid hrow
  clear hrow
  have hl2 : ((500 : Int) < (l.length : Int)) = False := by simp; omega
  go_enter Tryz.func11, Tryz.ntmps11
  go_wp2
  go_loopw [10] (fun v wr => ∃ k : Nat, k ≤ l.length ∧ v = .int .i64 k ∧ chkR l (l.drop k) k = chkR l l 0 ∧ Below w.heap.size w wr) (fun v _ => l.length - (intOf v).toNat)
  case atStart => exact ⟨0, Nat.zero_le _, rfl, by simp, Below.refl _ _⟩
  case round =>
    obtain ⟨k, hk, rfl, hchk, hbw⟩ := hrel
    by_cases hlt : k < l.length
    · rw [chkR_at l k hlt] at hchk
      have hr : Row w b (off + k * 5) (mtCells l[k]) := Hrow.out k hlt
      have hr' : Row wr b (off + k * 5) (mtCells l[k]) := hr.below hbw hb
      generalize hM : l[k] = M at *
      have HM := Lib.hid hM
      have Hchk := Lib.hid hchk
      have hsz := hbw.size
      have Hbw := Lib.hid hbw
      clear hM hchk hr hbw
      go_wp2_with ((with_reducible refine wpList_load_agg (o := ⟨some 14, .load 32 (.tmp 13), _, _, _, none⟩) rfl 32 _ rfl b (off + k * 5) ?_ _ hr' _ Tryz.underlying32 rfl ?_ ?_); (focus rfl); (focus kernel_rfl); simp only [mtCells])
      obtain ⟨W1, hW1⟩ : ∃ W1, W1 = wr.alloc (.cells #[.string ⟨M.name.toArray⟩, .int .i64 M.index, .int .i64 M.count, .int .i64 M.sum, .int .i64 M.mx] 32) := ⟨_, rfl⟩
      rw [← hW1]
      have cM : Row W1 wr.heap.size 0 (mtCells M) := by rw [hW1]; exact Row.new wr #[.string ⟨M.name.toArray⟩, .int .i64 M.index, .int .i64 M.count, .int .i64 M.sum, .int .i64 M.mx] 32 _ rfl
      have hb1 : Below w.heap.size w W1 := by rw [hW1]; exact Hbw.out.alloc hsz _
      have hz1 : W1.heap.size = wr.heap.size + 1 := by rw [hW1]; simp
      generalize hB : wr.heap.size = B at *
      have Hb1 := Lib.hid hb1
      have CM := Lib.hid cM
      have HB := Lib.hid hB
      clear hW1 hb1 hr' hB
      have c0 : W1.cell? ⟨B, 0, none⟩ = some (.string ⟨M.name.toArray⟩) := by simpa using cM 0 _ rfl
      clear cM
      rcases Bool.eq_false_or_eq_true (nmL.contains M.name) with hn | hn
      · refine wp_region_detD (by kernel_rfl) 0 (by kernel_rfl) (fun bb wx => ∃ n, wx = (bif bb then (W1.alloc (.cells (nmL.map strV).toArray 9)) else W1).drewN n) ⟨1, rfl⟩ ?_
        apply wpDetD_at (v := .slice (some ⟨B + 1, 0, none⟩) 10 10) rfl
        · rintro wx ⟨n, rfl⟩
          have hz2 : (W1.drewN n).heap.size = B + 1 := hz1
          go_wp2_with (go_at_call 23; refine (names23 _).mono ?_; rintro e w' ⟨rfl, rfl⟩)
          exact ⟨rfl, rfl, n, rfl⟩
        go_frame
        apply wpDetD_cons rfl
        · rintro bb wx ⟨n, rfl⟩
          go_wp2_with fail
          exact ⟨rfl, rfl, n, rfl⟩
        go_frame
        apply wpDetD_cons (v := .string ⟨M.name.toArray⟩) rfl
        · rintro bb wx ⟨n, rfl⟩
          have c1 : ((bif bb then (W1.alloc (.cells (nmL.map strV).toArray 9)) else W1).drewN n).cell? ⟨B, 0, none⟩ = some (.string ⟨M.name.toArray⟩) := by
            cases bb
            · exact c0
            · exact ((Below.refl W1.heap.size W1).alloc (Nat.le_refl _) _).cell (by simp only; omega) |>.trans c0
          go_wp2_with fail
          exact ⟨rfl, rfl, n, rfl⟩
        go_frame
        apply wpDetD_behind (v := .bool true) rfl (by kernel_rfl)
        · rintro wx ⟨n, rfl⟩
          have hrow2 : Row ((W1.alloc (.cells (nmL.map strV).toArray 9)).drewN n) (B + 1) 0 (nmL.map strV) := Row.new W1 (nmL.map strV).toArray 9 (B + 1) hz1.symm
          have h22 := contains22 M.name (B + 1) _ hrow2
          rw [hn] at h22
          have H22 := Lib.hid h22
          clear h22 hrow2
          go_wp2_with (go_at_call 22; refine H22.out.mono ?_; rintro e w' ⟨rfl, rfl⟩)
          exact ⟨rfl, rfl, n, rfl⟩
        go_frame
        apply wpDetD_cons rfl
        · rintro bb wx ⟨n, rfl⟩
          go_wp2_with fail
          exact ⟨rfl, rfl, n, rfl⟩
        go_frame
        apply wpDetD_cons rfl
        · rintro bb wx ⟨n, rfl⟩
          go_wp2_with fail
          exact ⟨rfl, rfl, n, rfl⟩
        go_frame
        rintro W2 ⟨n, hW2⟩
        have hb2 : Below W1.heap.size W1 W2 := by
          rw [hW2]
          exact ⟨rfl, rfl, rfl, by simp, fun k hk => ((Below.refl W1.heap.size W1).alloc (Nat.le_refl _) _).block k hk⟩
        clear hW2
        have CM2 := Lib.hid (CM.out.below hb2 (by omega))
        have Hb2 := Lib.hid (Hb1.out.trans ⟨hb2.os, hb2.tape, hb2.output, hb2.size, fun k hk => hb2.block k (Nat.lt_of_lt_of_le hk Hb1.out.size)⟩)
        have hz2 : B + 1 ≤ W2.heap.size := by have := hb2.size; omega
        have f1 : W2.cell? ⟨B, 1, none⟩ = some (.int .i64 M.index) := by simpa using CM2.out 1 _ rfl
        have f2 : W2.cell? ⟨B, 2, none⟩ = some (.int .i64 M.count) := by simpa using CM2.out 2 _ rfl
        have f3 : W2.cell? ⟨B, 3, none⟩ = some (.int .i64 M.sum) := by simpa using CM2.out 3 _ rfl
        have f4 : W2.cell? ⟨B, 4, none⟩ = some (.int .i64 M.mx) := by simpa using CM2.out 4 _ rfl
        clear hb2 c0 hz1
        rcases Bool.eq_false_or_eq_true (rngB M) with hg | hg
        · obtain ⟨hg1, hg2, hg3, hg4⟩ : wi M.index (-1) 1099511627776 = true ∧ wi M.count 1 1099511627776 = true ∧ wi M.sum (-1152921504606846976) 1152921504606846976 = true ∧ wi M.mx (-1099511627776) 1099511627776 = true := by
            unfold rngB at hg
            simp only [Bool.and_eq_true] at hg
            exact ⟨hg.1.1.1, hg.1.1.2, hg.1.2, hg.2⟩
          go_wp2_with (go_at_call 19; refine (within19 _ _ _ _).mono ?_; rintro e w' ⟨rfl, rfl⟩)
          have hbig : b < W2.heap.size := by have := Hb2.out.size; omega
          have hB2 : B < W2.heap.size := by omega
          have hBB := Lib.hid hB2
          clear hB2 f1 f2 f3 f4 hg1 hg2 hg3 hg4
          rcases Nat.eq_zero_or_pos k with rfl | hk0
          · have hz : chk1 l 0 M = 0 := by unfold chk1; rw [hn, hg]; simp
            have Hz := Lib.hid hz
            clear hz
            refine wp_region_det (by kernel_rfl) (by kernel_rfl) (fun wx => Below W2.heap.size W2 wx) ((Below.refl _ _).drew) ?_
            iterate 13
              apply wpDet_cons
              · intro wx hx
                go_wp2_with fail
                exact ⟨rfl, rfl, hx⟩
              go_frame
            intro w3 hx
            have hb3 : Below w.heap.size w w3 := Hb2.out.trans (below_mono hx Hb2.out.size)
            clear hx
            go_wp2_with fail
            go_roundw
            case rel => exact ⟨0 + 1, by omega, by go_num, by have h := Hchk.out; rwa [if_pos Hz.out] at h, hb3⟩
            case measure => simp [intOf]; omega
          · obtain ⟨k', rfl⟩ : ∃ k', k = k' + 1 := ⟨k - 1, by omega⟩
            have hp : Row W2 b (off + k' * 5) (mtCells (l[k']'(by omega))) := (Hrow.out k' (by omega)).below Hb2.out hb
            have hP : l.getD (k' + 1 - 1) default = l[k']'(by omega) := by simp [List.getD_eq_getElem?_getD, show k' < l.length from by omega]
            generalize hPP : (l[k']'(by omega)) = P at hp hP
            generalize hc : cfM P M = c
            have HP := Lib.hid hP
            have Hp := Lib.hid hp
            have Hc := Lib.hid hc
            clear hP hp hc hPP
            have i1 : (k' : Int) < (l.length : Int) := by omega
            have h0 : (0 : Int) < (k' : Int) + 1 := by omega
            rcases Int.lt_or_le c 0 with hc0 | hc0
            · have hz : chk1 l (k' + 1) M = 0 := by unfold chk1; rw [hn, hg, HP.out, Hc.out, if_neg (by simp), if_neg (by simp), if_neg (by omega)]
              have Hz := Lib.hid hz
              clear hz
              refine wp_region_det (by kernel_rfl) (by kernel_rfl) (fun wx => Below W2.heap.size W2 wx) ((Below.refl _ _).drew) ?_
              iterate 13
                apply wpDet_cons
                · intro wx hx
                  have gP := Hp.out.below hx hbig
                  have gM := CM2.out.below hx hBB.out
                  simp only [mtCells] at gP gM
                  first
                    | ((with_reducible refine wpList_load_aggW (o := ⟨some 52, .load 32 (.tmp 51), _, _, _, _⟩) ?_ 32 _ rfl b (off + k' * 5) ?_ _ gP _ Tryz.underlying32 rfl ?_ ?_); (focus rfl); (focus rfl); (focus kernel_rfl); exact ⟨rfl, rfl, hx⟩)
                    | ((with_reducible refine wpList_load_aggW (o := ⟨some 53, .load 32 (.tmp 4), _, _, _, _⟩) ?_ 32 _ rfl B 0 ?_ _ gM _ Tryz.underlying32 rfl ?_ ?_); (focus rfl); (focus rfl); (focus kernel_rfl); exact ⟨rfl, rfl, hx⟩)
                    | (go_wp2_with (go_at_call 24; refine (cmp24' P M c Hc.out _).mono ?_; rintro e w' ⟨rfl, hbk⟩)
                       first
                         | exact ⟨rfl, rfl, hx⟩
                         | exact ⟨rfl, rfl, hx.trans (below_mono hbk hx.size)⟩)
                go_frame
              intro w3 hx
              have hb3 : Below w.heap.size w w3 := Hb2.out.trans (below_mono hx Hb2.out.size)
              clear hx
              go_wp2_with fail
              go_roundw
              case rel => exact ⟨k' + 1 + 1, by omega, by go_num, by have h := Hchk.out; rwa [if_pos Hz.out] at h, hb3⟩
              case measure => simp [intOf]; omega
            · have hz : chk1 l (k' + 1) M = 9 := by unfold chk1; rw [hn, hg, HP.out, Hc.out, if_neg (by simp), if_neg (by simp), if_pos ⟨by omega, hc0⟩]
              have hz2 : chkR l l 0 = 9 := by have h := Hchk.out; rw [hz, if_neg (by decide)] at h; exact h.symm
              have Hz2 := Lib.hid hz2
              clear hz hz2
              refine wp_region_det (by kernel_rfl) (by kernel_rfl) (fun wx => Below W2.heap.size W2 wx) ((Below.refl _ _).drew) ?_
              iterate 13
                apply wpDet_cons
                · intro wx hx
                  have gP := Hp.out.below hx hbig
                  have gM := CM2.out.below hx hBB.out
                  simp only [mtCells] at gP gM
                  first
                    | ((with_reducible refine wpList_load_aggW (o := ⟨some 52, .load 32 (.tmp 51), _, _, _, _⟩) ?_ 32 _ rfl b (off + k' * 5) ?_ _ gP _ Tryz.underlying32 rfl ?_ ?_); (focus rfl); (focus rfl); (focus kernel_rfl); exact ⟨rfl, rfl, hx⟩)
                    | ((with_reducible refine wpList_load_aggW (o := ⟨some 53, .load 32 (.tmp 4), _, _, _, _⟩) ?_ 32 _ rfl B 0 ?_ _ gM _ Tryz.underlying32 rfl ?_ ?_); (focus rfl); (focus rfl); (focus kernel_rfl); exact ⟨rfl, rfl, hx⟩)
                    | (go_wp2_with (go_at_call 24; refine (cmp24' P M c Hc.out _).mono ?_; rintro e w' ⟨rfl, hbk⟩)
                       first
                         | exact ⟨rfl, rfl, hx⟩
                         | exact ⟨rfl, rfl, hx.trans (below_mono hbk hx.size)⟩)
                go_frame
              intro w3 hx
              have hb3 : Below w.heap.size w w3 := Hb2.out.trans (below_mono hx Hb2.out.size)
              clear hx
              go_wp2_with fail
              go_ret
              exact ⟨by rw [Hz2.out]; rfl, hb3⟩
        · have hz : chk1 l k M = 2 := by unfold chk1; rw [hn, hg]; simp
          have hz2' : chkR l l 0 = 2 := by have h := Hchk.out; rw [hz, if_neg (by decide)] at h; exact h.symm
          have Hz2 := Lib.hid hz2'
          clear hz hz2'
          unfold rngB at hg
          rcases Bool.eq_false_or_eq_true (wi M.index (-1) 1099511627776) with hg1 | hg1
          · rcases Bool.eq_false_or_eq_true (wi M.count 1 1099511627776) with hg2 | hg2
            · rcases Bool.eq_false_or_eq_true (wi M.sum (-1152921504606846976) 1152921504606846976) with hg3 | hg3
              · have hg4 : wi M.mx (-1099511627776) 1099511627776 = false := by rw [hg1, hg2, hg3] at hg; simpa using hg
                clear hg
                go_wp2_with (go_at_call 19; refine (within19 _ _ _ _).mono ?_; rintro e w' ⟨rfl, rfl⟩)
                go_ret
                exact ⟨by rw [Hz2.out]; rfl, Hb2.out⟩
              · clear hg
                go_wp2_with (go_at_call 19; refine (within19 _ _ _ _).mono ?_; rintro e w' ⟨rfl, rfl⟩)
                go_ret
                exact ⟨by rw [Hz2.out]; rfl, Hb2.out⟩
            · clear hg
              go_wp2_with (go_at_call 19; refine (within19 _ _ _ _).mono ?_; rintro e w' ⟨rfl, rfl⟩)
              go_ret
              exact ⟨by rw [Hz2.out]; rfl, Hb2.out⟩
          · clear hg
            go_wp2_with (go_at_call 19; refine (within19 _ _ _ _).mono ?_; rintro e w' ⟨rfl, rfl⟩)
            go_ret
            exact ⟨by rw [Hz2.out]; rfl, Hb2.out⟩
      · refine wp_region_detD (by kernel_rfl) 0 (by kernel_rfl) (fun bb wx => ∃ n, wx = (bif bb then (W1.alloc (.cells (nmL.map strV).toArray 9)) else W1).drewN n) ⟨1, rfl⟩ ?_
        apply wpDetD_at (v := .slice (some ⟨B + 1, 0, none⟩) 10 10) rfl
        · rintro wx ⟨n, rfl⟩
          have hz2 : (W1.drewN n).heap.size = B + 1 := hz1
          go_wp2_with (go_at_call 23; refine (names23 _).mono ?_; rintro e w' ⟨rfl, rfl⟩)
          exact ⟨rfl, rfl, n, rfl⟩
        go_frame
        apply wpDetD_cons rfl
        · rintro bb wx ⟨n, rfl⟩
          go_wp2_with fail
          exact ⟨rfl, rfl, n, rfl⟩
        go_frame
        apply wpDetD_cons (v := .string ⟨M.name.toArray⟩) rfl
        · rintro bb wx ⟨n, rfl⟩
          have c1 : ((bif bb then (W1.alloc (.cells (nmL.map strV).toArray 9)) else W1).drewN n).cell? ⟨B, 0, none⟩ = some (.string ⟨M.name.toArray⟩) := by
            cases bb
            · exact c0
            · exact ((Below.refl W1.heap.size W1).alloc (Nat.le_refl _) _).cell (by simp only; omega) |>.trans c0
          go_wp2_with fail
          exact ⟨rfl, rfl, n, rfl⟩
        go_frame
        apply wpDetD_behind (v := .bool false) rfl (by kernel_rfl)
        · rintro wx ⟨n, rfl⟩
          have hrow2 : Row ((W1.alloc (.cells (nmL.map strV).toArray 9)).drewN n) (B + 1) 0 (nmL.map strV) := Row.new W1 (nmL.map strV).toArray 9 (B + 1) hz1.symm
          have h22 := contains22 M.name (B + 1) _ hrow2
          rw [hn] at h22
          have H22 := Lib.hid h22
          clear h22 hrow2
          go_wp2_with (go_at_call 22; refine H22.out.mono ?_; rintro e w' ⟨rfl, rfl⟩)
          exact ⟨rfl, rfl, n, rfl⟩
        go_frame
        apply wpDetD_cons rfl
        · rintro bb wx ⟨n, rfl⟩
          go_wp2_with fail
          exact ⟨rfl, rfl, n, rfl⟩
        go_frame
        apply wpDetD_cons rfl
        · rintro bb wx ⟨n, rfl⟩
          go_wp2_with fail
          exact ⟨rfl, rfl, n, rfl⟩
        go_frame
        rintro W2 ⟨n, hW2⟩
        have hb2 : Below W1.heap.size W1 W2 := by
          rw [hW2]
          exact ⟨rfl, rfl, rfl, by simp, fun k hk => ((Below.refl W1.heap.size W1).alloc (Nat.le_refl _) _).block k hk⟩
        clear hW2
        have CM2 := Lib.hid (CM.out.below hb2 (by omega))
        have Hb2 := Lib.hid (Hb1.out.trans ⟨hb2.os, hb2.tape, hb2.output, hb2.size, fun k hk => hb2.block k (Nat.lt_of_lt_of_le hk Hb1.out.size)⟩)
        have hz : chk1 l k M = 5 := by unfold chk1; rw [hn]; simp
        have hz2' : chkR l l 0 = 5 := by have h := Hchk.out; rw [hz, if_neg (by decide)] at h; exact h.symm
        have Hz2 := Lib.hid hz2'
        clear hz hz2' hb2 c0 hz1
        go_wp2_with fail
        go_ret
        exact ⟨by rw [Hz2.out]; rfl, Hb2.out⟩
    · have hk' : k = l.length := by omega
      have hz2' : chkR l l 0 = 0 := by rw [← hchk, hk', List.drop_length]; rfl
      have Hz2 := Lib.hid hz2'
      have Hbw := Lib.hid hbw
      clear hz2' hchk hbw
      go_wp2_with fail
      go_ret
      exact ⟨by rw [Hz2.out]; rfl, Hbw.out⟩
set_option maxRecDepth 100000 in
theorem check_big (A : Option Addr) (n cap : Nat) (hn : 500 < n) (w : World) : Calls Tryz.prog 11 #[.slice A n cap] w fun e w' => e = .returned (.int .i64 4) ∧ w' = w := by
  have h : (500 : Int) < (n : Int) := by omega
  go_enter Tryz.func11, Tryz.ntmps11
  go_wp2_with fail
  go_ret
  exact ⟨rfl, rfl⟩
set_option maxRecDepth 100000 in
theorem check_nil (A : Option Addr) (cap : Nat) (w : World) : Calls Tryz.prog 11 #[.slice A 0 cap] w fun e w' => e = .returned (.int .i64 0) ∧ w' = w := by
  go_enter Tryz.func11, Tryz.ntmps11
  go_wp2
  refine wp_loop_rounds 1 ?_
  rw [rounds_succ]
  go_wp2_with fail
  go_ret
  exact ⟨rfl, rfl⟩
theorem check (l : List Mt) (v : Value) (w : World) (hv : MtV w v l) : Calls Tryz.prog 11 #[v] w fun e w' => e = .returned (.int .i64 (chk l)) ∧ Below w.heap.size w w' := by
  by_cases hb : 500 < l.length
  · obtain ⟨A, c, rfl, _, _⟩ := hv
    refine (check_big A _ c hb w).mono fun e w' ⟨h1, h2⟩ => ⟨?_, by rw [h2]; exact Below.refl _ _⟩
    rw [h1]; unfold chk; rw [if_pos hb]
  · rcases hv.split with ⟨A, c, rfl, rfl⟩ | ⟨b, off, cap, rfl, hcap, hbw, hrow⟩
    · exact (check_nil A c w).mono fun e w' ⟨h1, h2⟩ => ⟨h1, by rw [h2]; exact Below.refl _ _⟩
    · refine (check11 l b off cap w hbw (by omega) hrow).mono fun e w' ⟨h1, h2⟩ => ⟨?_, h2⟩
      rw [h1]; unfold chk; rw [if_neg hb]
end Go.Proofs.Seat7
end
section
namespace Go.Proofs.Seat7
open Go.RowKit Go.Proofs.Seat4
def numsOf (m : Mt) : List Int := [m.index, m.count, m.sum, m.mx]
def numT (n : Int) : List UInt8 := 32 :: Lib.itoa n
def lineT (m : Mt) : List UInt8 := m.name ++ (numsOf m).flatMap numT ++ [10]
def textT (l : List Mt) : List UInt8 := l.flatMap lineT
theorem textT_take (l : List Mt) (k : Nat) (h : k < l.length) : textT (l.take (k + 1)) = textT (l.take k) ++ lineT l[k] := by
  unfold textT
  rw [take_snoc l k h, List.flatMap_append]
  simp
theorem textT_le (l : List Mt) (k : Nat) : (textT (l.take k)).length ≤ (textT l).length := by
  unfold textT
  conv => rhs; rw [← List.take_append_drop k l, List.flatMap_append, List.length_append]
  omega
def ItoaAt (w0 : World) (n : Int) : Prop := ∀ w, Below w0.heap.size w0 w → Calls Tryz.prog 31 #[.int .i64 n] w fun e w' => e = .returned (.string ⟨(Lib.itoa n).toArray⟩) ∧ Below w.heap.size w w'
theorem numT_bytes (n : Int) : ((⟨#[32]⟩ : ByteArray) ++ ⟨(Lib.itoa n).toArray⟩) = ⟨(numT n).toArray⟩ := by
  rw [ByteArray.ext_iff]
  simp [numT]
theorem numT_len (n : Int) : (numT n).length = 1 + (Lib.itoa n).length := by simp [numT]; omega
theorem flat_take_le (nums : List Int) (j : Nat) : ((nums.take j).flatMap numT).length ≤ (nums.flatMap numT).length := by
  conv => rhs; rw [← List.take_append_drop j nums, List.flatMap_append, List.length_append]
  omega
set_option maxRecDepth 100000 in
set_option maxHeartbeats 1000000 in
theorem print16 (l : List Mt) (b off cap : Nat) (w : World) (hb : b < w.heap.size) (hl : l.length ≤ 500) (hcap : l.length ≤ cap) (hrow : LAt ME w b off l) (hc : chk l = 0) (hlen : (textT l).length ≤ 1000000) (hI : ∀ m ∈ l, ∀ n ∈ numsOf m, ItoaAt w n) :
    Calls Tryz.prog 16 #[.slice (some ⟨b, off, none⟩) l.length cap] w fun e w' => e = .returned (.tuple #[.string ⟨(textT l).toArray⟩, .int .i64 0]) ∧ Below w.heap.size w w' := by
  have Hrow := Lib.hid hrow
  have HI := Lib.hid hI
  have Hlen := Lib.hid hlen
  have hck := check l (.slice (some ⟨b, off, none⟩) l.length cap) w (LV.mk_ hcap hb hrow)
  rw [hc] at hck
  have Hck := Lib.hid hck
  clear hrow hI hlen hck hc
  go_enter Tryz.func16, Tryz.ntmps16
  go_wp2_with (go_at_call 11; refine Hck.out.mono ?_; rintro e w1 ⟨rfl, hb1⟩)
  have hB : IsB (w1.alloc (.cells #[.pointer none, .slice none 0 0] 88)) w1.heap.size (w1.heap.size + 1) [] := IsB.new _ _ (fun _ => True) (heap_alloc_new w1 _) _ (by omega) (by simp)
  have hb2 : Below w.heap.size w (w1.alloc (.cells #[.pointer none, .slice none 0 0] 88)) := hb1.alloc hb1.size _
  have hN : w.heap.size ≤ w1.heap.size := hb1.size
  generalize hW : w1.alloc (.cells #[.pointer none, .slice none 0 0] 88) = W at *
  generalize hbk : w1.heap.size = Bk at *
  have HB := Lib.hid hB
  have Hb2 := Lib.hid hb2
  clear hB hb2 hb1 hW hbk Hck
  go_loopw [17] (fun v wr => ∃ k : Nat, k ≤ l.length ∧ v = .int .i64 k ∧ IsB wr Bk (Bk + 1) (textT (l.take k)) ∧ Below w.heap.size w wr) (fun v _ => l.length - (intOf v).toNat)
  case atStart => exact ⟨0, Nat.zero_le _, rfl, HB.out, Hb2.out⟩
  case round =>
    obtain ⟨k, hk, rfl, hB, hbw⟩ := hrel
    clear HB Hb2
    by_cases hlt : k < l.length
    · have hr' : Row wr b (off + k * 5) (mtCells l[k]) := (Hrow.out k hlt).below hbw hb
      have hMI : ∀ n ∈ numsOf l[k], ItoaAt w n := HI.out l[k] (List.getElem_mem hlt)
      have hT := textT_take l k hlt
      have hTl := textT_le l (k + 1)
      rw [hT] at hTl
      generalize hM : l[k] = M at *
      have HM := Lib.hid hM
      have HB := Lib.hid hB
      have hsz := hbw.size
      have Hbw := Lib.hid hbw
      have HMI := Lib.hid hMI
      have HT := Lib.hid hT
      have HTl := Lib.hid hTl
      clear hM hB hbw hMI hT hTl
      go_upto_region 8 with ((with_reducible refine wpList_load_agg (o := ⟨some 20, .load 32 (.tmp 19), _, _, _, none⟩) rfl 32 _ rfl b (off + k * 5) ?_ _ hr' _ Tryz.underlying32 rfl ?_ ?_); (focus rfl); (focus kernel_rfl); simp only [mtCells])
      have hXn : (wr.alloc (.cells #[.string ⟨M.name.toArray⟩, .int .i64 M.index, .int .i64 M.count, .int .i64 M.sum, .int .i64 M.mx] 32)).heap[wr.heap.size]? = some (.cells #[.string ⟨M.name.toArray⟩, .int .i64 M.index, .int .i64 M.count, .int .i64 M.sum, .int .i64 M.mx] 32 (0, 0)) := heap_alloc_new wr _
      have hbA : Below wr.heap.size wr (wr.alloc (.cells #[.string ⟨M.name.toArray⟩, .int .i64 M.index, .int .i64 M.count, .int .i64 M.sum, .int .i64 M.mx] 32)) := (Below.refl _ _).alloc (Nat.le_refl _) _
      have hB2 := HB.out.keep hbA
      have hBk : Bk < wr.heap.size := Nat.lt_of_lt_of_le HB.out.1 HB.out.2.1
      have hb2 : Below w.heap.size w (wr.alloc (.cells #[.string ⟨M.name.toArray⟩, .int .i64 M.index, .int .i64 M.count, .int .i64 M.sum, .int .i64 M.mx] 32)) := Hbw.out.alloc hsz _
      generalize (wr.alloc (.cells #[.string ⟨M.name.toArray⟩, .int .i64 M.index, .int .i64 M.count, .int .i64 M.sum, .int .i64 M.mx] 32)) = W2 at *
      have Hb2 := Lib.hid hb2
      have HB2 := Lib.hid hB2
      clear hbA hB2 hb2
      have hTlen : (textT (l.take k) ++ M.name).length ≤ 1000000 := by
        have h1 := HTl.out
        have h2 := Hlen.out
        unfold lineT at h1
        simp only [List.length_append] at h1 ⊢
        omega
      have c0 : W2.cell? ⟨wr.heap.size, 0, none⟩ = some (.string ⟨M.name.toArray⟩) := by rw [Lib.cell_of_heap hXn]; rfl
      go_wp2_with (go_at_call 30; refine (writeString30 Bk (Bk + 1) (textT (l.take k)) M.name W2 HB2.out (by simp only [List.length_append] at hTlen; omega)).mono ?_; rintro e w3 ⟨rfl, hB3, hb3⟩; have hX3 := hb3.kept _ _ _ _ (by omega) (by decide) hXn; (have c1 : w3.cell? ⟨wr.heap.size, 1, none⟩ = some (.int .i64 M.index) := by rw [Lib.cell_of_heap hX3]; rfl); (have c2 : w3.cell? ⟨wr.heap.size, 2, none⟩ = some (.int .i64 M.count) := by rw [Lib.cell_of_heap hX3]; rfl); (have c3 : w3.cell? ⟨wr.heap.size, 3, none⟩ = some (.int .i64 M.sum) := by rw [Lib.cell_of_heap hX3]; rfl); (have c4 : w3.cell? ⟨wr.heap.size, 4, none⟩ = some (.int .i64 M.mx) := by rw [Lib.cell_of_heap hX3]; rfl))
      have hbW3 : Below w.heap.size w w3 := Hb2.out.trans ((hb3.below (by omega)).mono hN)
      have hYn : (w3.alloc (.cells #[.int .i64 M.index, .int .i64 M.count, .int .i64 M.sum, .int .i64 M.mx] 3)).heap[w3.heap.size]? = some (.cells #[.int .i64 M.index, .int .i64 M.count, .int .i64 M.sum, .int .i64 M.mx] 3 (0, 0)) := heap_alloc_new w3 _
      have hB4 : IsB (w3.alloc (.cells #[.int .i64 M.index, .int .i64 M.count, .int .i64 M.sum, .int .i64 M.mx] 3)) Bk (Bk + 1) (textT (l.take k) ++ M.name) := hB3.isB.keep ((Below.refl _ _).alloc (Nat.le_refl _) _)
      have hb4 : Below w.heap.size w (w3.alloc (.cells #[.int .i64 M.index, .int .i64 M.count, .int .i64 M.sum, .int .i64 M.mx] 3)) := hbW3.alloc hbW3.size _
      have hYB : w3.heap.size ≠ Bk := by
        have := hB3.1
        have := hB3.2.1
        omega
      generalize (w3.alloc (.cells #[.int .i64 M.index, .int .i64 M.count, .int .i64 M.sum, .int .i64 M.mx] 3)) = W4 at *
      have HB4 := Lib.hid hB4
      have Hb4 := Lib.hid hb4
      clear hB4 hb4 hbW3 c0 c1 c2 c3 c4 hX3 hXn hb3 hB3 HB2 Hb2
      generalize hY : w3.heap.size = Y at *
      clear hY
      go_loopw [34] (fun v wq => ∃ j : Nat, j ≤ 4 ∧ v = .int .i64 j ∧ IsB wq Bk (Bk + 1) (textT (l.take k) ++ M.name ++ ((numsOf M).take j).flatMap numT) ∧ Below w.heap.size w wq ∧ wq.heap[Y]? = some (.cells #[.int .i64 M.index, .int .i64 M.count, .int .i64 M.sum, .int .i64 M.mx] 3 (0, 0))) (fun v _ => 4 - (intOf v).toNat)
      case atStart => exact ⟨0, Nat.zero_le _, rfl, by simpa using HB4.out, Hb4.out, hYn⟩
      case round =>
        obtain ⟨j, hj, rfl, hBj, hbj, hYj⟩ := hrel
        clear HB4 Hb4 hYn hTlen
        by_cases h4 : j < 4
        · obtain ⟨n, hn, hmem, hcj⟩ : ∃ n, (numsOf M).take (j + 1) = (numsOf M).take j ++ [n] ∧ n ∈ numsOf M ∧ wr.cell? ⟨Y, j, none⟩ = some (.int .i64 n) := by
            rw [Lib.cell_of_heap hYj]
            match j, h4 with
            | 0, _ => exact ⟨_, rfl, by simp [numsOf], rfl⟩
            | 1, _ => exact ⟨_, rfl, by simp [numsOf], rfl⟩
            | 2, _ => exact ⟨_, rfl, by simp [numsOf], rfl⟩
            | 3, _ => exact ⟨_, rfl, by simp [numsOf], rfl⟩
          have hall : (textT (l.take k) ++ M.name ++ ((numsOf M).take (j + 1)).flatMap numT).length ≤ 1000000 := by
            have h1 := HTl.out
            have h2 := Hlen.out
            have h3 := flat_take_le (numsOf M) (j + 1)
            unfold lineT at h1
            simp only [List.length_append] at h1 ⊢
            omega
          rw [hn, List.flatMap_append, List.flatMap_singleton, ← List.append_assoc, List.length_append] at hall
          have hnl := numT_len n
          have hit : ¬ 9223372036854775807 < 1 + (Lib.itoa n).length := by omega
          have Hall := Lib.hid hall
          have Hnl := Lib.hid hnl
          clear hall hnl
          go_wp2_with (first | (go_at_call 31; refine (HMI.out n hmem wr hbj).mono ?_; rintro e w5 ⟨rfl, hb5⟩) | (go_at_call 30; rw [numT_bytes]; refine (writeString30 Bk (Bk + 1) (textT (l.take k) ++ M.name ++ ((numsOf M).take j).flatMap numT) (numT n) w5 (hBj.keep hb5) (by have := Hall.out; omega)).mono ?_; rintro e w6 ⟨rfl, hB6, hb6⟩))
          refine ⟨⟨j + 1, h4, by simp, ?_, ?_, ?_⟩, ?_⟩
          · rw [hn, List.flatMap_append, List.flatMap_singleton, ← List.append_assoc]
            exact hB6.isB
          · exact hbj.trans ((hb5.mono hbj.size).trans ((hb6.below (by omega)).mono hN))
          · exact hb6.kept _ _ _ _ hYB (by decide) ((hb5.block Y (heap_lt hYj)).trans hYj)
          · simp [intOf]; omega
        · obtain rfl : j = 4 := by omega
          have h7 : (textT (l.take k) ++ M.name ++ ((numsOf M).take 4).flatMap numT).length + 1 ≤ 1048576 := by
            have h1 := HTl.out
            have h2 := Hlen.out
            have h3 := flat_take_le (numsOf M) 4
            unfold lineT at h1
            simp only [List.length_append, List.length_singleton] at h1 ⊢
            omega
          go_wp2_with (go_at_call 32; refine Calls.mono (writeByte32 Bk (Bk + 1) (textT (l.take k) ++ M.name ++ ((numsOf M).take 4).flatMap numT) 10 wr hBj h7) ?_; rintro e w6 ⟨rfl, hB6, hb6⟩)
          refine ⟨⟨k + 1, hlt, by simp, ?_, ?_⟩, ?_⟩
          · have h9 := hB6.isB
            rw [show (numsOf M).take 4 = numsOf M from rfl] at h9
            rw [HT.out, lineT, ← List.append_assoc, ← List.append_assoc]
            exact h9
          · exact hbj.trans ((hb6.below (by omega)).mono hN)
          · simp [intOf]; omega
    · obtain rfl : k = l.length := by omega
      rw [List.take_length] at hB
      go_wp2_with (go_at_call 33; refine (string33 Bk (Bk + 1) (textT l) wr hB).mono ?_; rintro e w9 ⟨rfl, hb9⟩)
      go_ret2
      exact ⟨rfl, hbw.trans (hb9.mono hN)⟩
end Go.Proofs.Seat7
end
section
namespace Go.Proofs.Seat7
open Go.RowKit Go.Proofs.Seat4
theorem nm_cons (s : List UInt8) : nmL.contains s = (s == [115, 116, 101, 112, 115] || (s == [111, 112, 101, 114, 97, 116, 105, 111, 110, 115] || (s == [112, 97, 114, 107, 101, 100] || (s == [119, 97, 105, 116, 115] || (s == [119, 97, 105, 116, 116, 105, 109, 101] || (s == [108, 105, 118, 101, 115] || (s == [102, 97, 105, 108, 117, 114, 101, 115] ||
  (s == [99, 97, 110, 99, 101, 108, 108, 97, 116, 105, 111, 110, 115] || (s == [99, 108, 101, 97, 110, 117, 112, 115] || (s == [101, 109, 105, 116, 116, 101, 100] || false)))))))))) := rfl
set_option maxRecDepth 100000 in
set_option maxHeartbeats 1000000 in
theorem isName21 (s : List UInt8) (w : World) : Calls Tryz.prog 21 #[.string ⟨s.toArray⟩] w fun e w' => e = .returned (.bool (nmL.contains s)) ∧ w = w' := by
  rw [nm_cons]
  go_enter Tryz.func21, Tryz.ntmps21
  go_wp2
  all_goals
    go_ret
    refine ⟨?_, rfl⟩
    first
      | (exfalso; simp_all; done)
      | (simp_all; done)
def lessM (x y : Mt) : Bool := Op.bytesLess x.name y.name || (x.name == y.name && decide (x.index < y.index))
set_option maxRecDepth 100000 in
set_option maxHeartbeats 1000000 in
theorem less20 (x y : Mt) (W : World) : Calls Tryz.prog 20 #[.agg #[.string ⟨x.name.toArray⟩, .int .i64 x.index, .int .i64 x.count, .int .i64 x.sum, .int .i64 x.mx], .agg #[.string ⟨y.name.toArray⟩, .int .i64 y.index, .int .i64 y.count, .int .i64 y.sum, .int .i64 y.mx]] W fun e w' => e = .returned (.bool (lessM x y)) ∧ Below W.heap.size W w' := by
  unfold lessM
  go_enter Tryz.func20, Tryz.ntmps20
  go_wp2
  all_goals
    go_ret
    refine ⟨?_, ((Below.refl _ _).alloc (Nat.le_refl _) _).alloc (by simp) _⟩
    simp_all
theorem lessM_iff (x y : Mt) : lessM x y = true ↔ Kl x y := by
  unfold lessM Kl
  simp
end Go.Proofs.Seat7
end
section
namespace Go.Proofs.Seat7
open Go.RowKit Go.Proofs.Seat4 Av
def mtAV (m : Mt) : List AV := [.str m.name, .int m.index, .int m.count, .int m.sum, .int m.mx]
noncomputable def mtsOf : List AV → Option (List Mt)
  | [] => some []
  | .str s :: .int a :: .int b :: .int c :: .int d :: r => Option.rec (motive := fun _ => Option (List Mt)) none (fun t => some (⟨s, a, b, c, d⟩ :: t)) (mtsOf r)
  | _ => none
theorem mtsOf_ok : ∀ (l : List AV) (ms : List Mt), mtsOf l = some ms → l = ms.flatMap mtAV
  | l, ms, h => by
    unfold mtsOf at h
    split at h
    · cases h; rfl
    · rename_i s a b c d r
      cases ht : mtsOf r with
      | none => rw [ht] at h; cases h
      | some t =>
        rw [ht] at h
        cases h
        have := mtsOf_ok r t ht
        rw [List.flatMap_cons, ← this]
        rfl
    · cases h
  termination_by l => l.length
noncomputable def esOf : List Av.ME → Nat → Option (List Mt)
  | [], _ => some []
  | ⟨_, .agg [.str s, .int a, .int b, .int c, .int d], n⟩ :: r, i => Bool.rec (motive := fun _ => Option (List Mt)) none (Option.rec (motive := fun _ => Option (List Mt)) none (fun t => some (⟨s, a, b, c, d⟩ :: t)) (esOf r (i + 1))) (Nat.beq n i)
  | _ :: _, _ => none
theorem esOf_ok (m : M) : ∀ (es : List Av.ME) (i : Nat) (ms : List Mt), esOf es i = some ms → ∃ d : List (Value × Mt), es.map (meC m) = mkEs (d.map fun a => (a.1, .agg (mtCells a.2).toArray)) i ∧ d.map (·.2) = ms ∧ d.length = es.length
  | [], i, ms, h => by cases h; exact ⟨[], rfl, rfl, rfl⟩
  | e :: r, i0, ms, h => by
    unfold esOf at h
    split at h
    · rename_i h0; cases h0
    · rename_i ii _ _ key s a b c d n r' he
      cases he
      cases hb : Nat.beq n ii with
      | false => rw [hb] at h; cases h
      | true =>
        rw [hb] at h
        cases ht : esOf r (ii + 1) with
        | none => rw [ht] at h; cases h
        | some t =>
          rw [ht] at h
          cases h
          obtain ⟨d', g1, g2, g3⟩ := esOf_ok m r _ t ht
          have e1 := Nat.eq_of_beq_eq_true hb
          subst e1
          refine ⟨(conc m key, ⟨s, a, b, c, d⟩) :: d', ?_, by simp [g2], by simp [g3]⟩
          simp only [List.map_cons, mkEs, g1]
          simp [meC, conc, concL, mtCells]
    · cases h
noncomputable def insT (a : Mt) : List Mt → List Mt
  | [] => [a]
  | c :: r => Bool.rec (c :: insT a r) (a :: c :: r) (lessM a c)
noncomputable def sortT : List Mt → List Mt
  | [] => []
  | a :: r => insT a (sortT r)
theorem insT_perm (a : Mt) : ∀ l, (insT a l).Perm (a :: l)
  | [] => List.Perm.refl _
  | c :: r => by
    unfold insT
    cases lessM a c with
    | true => exact List.Perm.refl _
    | false => exact ((insT_perm a r).cons c).trans (List.Perm.swap a c r)
theorem sortT_perm : ∀ l, (sortT l).Perm l
  | [] => List.Perm.refl _
  | a :: r => (insT_perm a (sortT r)).trans ((sortT_perm r).cons a)
noncomputable def ascT : List Mt → Bool
  | a :: c :: r => band (lessM a c) (ascT (c :: r))
  | _ => true
theorem ascT_ok : ∀ l : List Mt, ascT l = true → l.Pairwise Kl
  | [], _ => List.Pairwise.nil
  | [a], _ => List.pairwise_singleton _ _
  | a :: c :: r, h => by
    unfold ascT at h
    obtain ⟨h1, h2⟩ := and_of h
    have ih := ascT_ok (c :: r) h2
    rw [lessM_iff] at h1
    refine List.Pairwise.cons (fun y hy => ?_) ih
    rcases List.mem_cons.1 hy with rfl | hy
    · exact h1
    · exact Kl.trans h1 ((List.pairwise_cons.1 ih).1 y hy)
theorem sorted_eq {l D : List Mt} (hp : D.Perm l) (ho : D.Pairwise fun x y => ¬ Kl y x) (ha : ascT (sortT l) = true) : D = sortT l := by
  have hasc := ascT_ok _ ha
  have hperm := hp.trans (sortT_perm l).symm
  refine List.Perm.eq_of_pairwise (le := fun x y => ¬ Kl y x) (fun a b h1 h2 h3 h4 => ?_) ho ?_ hperm
  · have m1 := hperm.mem_iff.1 h1
    obtain ⟨i, hi, rfl⟩ := List.getElem_of_mem m1
    obtain ⟨j, hj, rfl⟩ := List.getElem_of_mem h2
    rcases Nat.lt_trichotomy i j with h | h | h
    · exact absurd (List.pairwise_iff_getElem.1 hasc i j hi hj h) h4
    · subst h; rfl
    · exact absurd (List.pairwise_iff_getElem.1 hasc j i hj hi h) h3
  · exact hasc.imp fun {x y} h1 h2 => Kl.irr _ (Kl.trans h1 h2)
noncomputable def smN : Int → Bool
  | .ofNat n => Nat.ble n 99
  | .negSucc _ => false
noncomputable def goodT : List Mt → Bool
  | [] => true
  | m :: r => band (smN m.index) (band (smN m.count) (band (smN m.sum) (band (smN m.mx) (goodT r))))
noncomputable def it2 (n : Nat) : List UInt8 := Bool.rec [UInt8.ofNat (48 + n / 10), UInt8.ofNat (48 + n % 10)] [UInt8.ofNat (48 + n)] (Nat.ble n 9)
noncomputable def numK : Int → List UInt8
  | .ofNat n => 32 :: it2 n
  | .negSucc _ => []
noncomputable def textK : List Mt → List UInt8
  | [] => []
  | m :: r => m.name ++ (numK m.index ++ (numK m.count ++ (numK m.sum ++ (numK m.mx ++ 10 :: textK r))))
theorem smN_nat {n : Int} (h : smN n = true) : ∃ k : Nat, n = k ∧ k < 100 := by
  cases n with
  | ofNat k => exact ⟨k, rfl, by have := Nat.le_of_ble_eq_true h; omega⟩
  | negSucc k => cases h
theorem it2_eq {n : Nat} (h : n < 100) : it2 n = Lib.decDigits n := by
  unfold it2
  by_cases h1 : n < 10
  · rw [Lib.decDigits_one h1, Nat.ble_eq_true_of_le (show n ≤ 9 by omega)]
  · rw [Lib.decDigits_two h1 h, show Nat.ble n 9 = false from by
      cases hb : Nat.ble n 9 with
      | false => rfl
      | true => have := Nat.le_of_ble_eq_true hb; omega]
theorem numK_eq {n : Int} (h : smN n = true) : numK n = numT n := by
  obtain ⟨k, rfl, hk⟩ := smN_nat h
  show 32 :: it2 k = 32 :: Lib.itoa (k : Int)
  rw [it2_eq hk, Lib.itoa, if_neg (by omega)]
  rfl
theorem goodT_ok : ∀ {l : List Mt}, goodT l = true → ∀ m ∈ l, ∀ n ∈ numsOf m, smN n = true
  | [], _ => by simp
  | m :: r, h => by
    unfold goodT at h
    obtain ⟨h1, h⟩ := and_of h
    obtain ⟨h2, h⟩ := and_of h
    obtain ⟨h3, h⟩ := and_of h
    obtain ⟨h4, h⟩ := and_of h
    intro x hx n hn
    rcases List.mem_cons.1 hx with rfl | hx
    · simp only [numsOf, List.mem_cons, List.not_mem_nil, or_false] at hn
      rcases hn with rfl | rfl | rfl | rfl <;> assumption
    · exact goodT_ok h x hx n hn
theorem textK_eq : ∀ {l : List Mt}, goodT l = true → textK l = textT l
  | [], _ => rfl
  | m :: r, h => by
    have h0 := goodT_ok h m (by simp)
    have h1 : goodT r = true := by
      unfold goodT at h
      exact (and_of (and_of (and_of (and_of h).2).2).2).2
    show _ = lineT m ++ textT r
    unfold textK lineT
    rw [textK_eq h1, numK_eq (h0 _ (by simp [numsOf])), numK_eq (h0 _ (by simp [numsOf])), numK_eq (h0 _ (by simp [numsOf])), numK_eq (h0 _ (by simp [numsOf]))]
    simp [numsOf]
theorem itoaAt_small {n : Int} (h : smN n = true) (w0 : World) : ItoaAt w0 n := by
  obtain ⟨k, rfl, hk⟩ := smN_nat h
  intro w _
  refine (Tryz.strconv_Itoa_small k hk w).mono ?_
  rintro e w' ⟨rfl, rfl⟩
  refine ⟨?_, Below.refl _ _⟩
  rw [Lib.itoa, if_neg (by omega)]
  rfl
end Go.Proofs.Seat7
end
section
namespace Go.Proofs.Seat7
open Go.RowKit Go.Proofs.Seat4 Av
def keyV (m : Mt) : Value := .agg #[.string ⟨m.name.toArray⟩, .int .i64 m.index]
def mtKV (m : Mt) : Value × Value := (keyV m, .agg (mtCells m).toArray)
def keyA (m : Mt) : AV := .agg [.str m.name, .int m.index]
def mtE : List Mt → Nat → List Av.ME
  | [], _ => []
  | m :: r, i => ⟨keyA m, .agg (mtAV m), i⟩ :: mtE r (i + 1)
theorem mtE_map (A : M) : ∀ (d : List Mt) (i : Nat), (mtE d i).map (meC A) = mkEs (d.map mtKV) i
  | [], _ => rfl
  | m :: r, i => by
    simp only [mtE, List.map_cons, mkEs, mtE_map A r (i + 1)]
    rfl
theorem mtE_len : ∀ (d : List Mt) (i : Nat), (mtE d i).length = d.length
  | [], _ => rfl
  | m :: r, i => by simp [mtE, mtE_len r]
theorem mtE_get : ∀ (d : List Mt) (i j : Nat) (h : j < d.length), (mtE d i)[j]? = some ⟨keyA d[j], .agg (mtAV d[j]), i + j⟩
  | m :: r, i, 0, _ => rfl
  | m :: r, i, j + 1, h => by
    simp only [mtE, List.getElem?_cons_succ, List.getElem_cons_succ]
    rw [mtE_get r (i + 1) j (by simpa using h), show i + 1 + j = i + (j + 1) from by omega]
theorem mtE_append : ∀ (d e : List Mt) (i : Nat), mtE (d ++ e) i = mtE d i ++ mtE e (i + d.length)
  | [], e, i => rfl
  | m :: r, e, i => by
    simp only [List.cons_append, mtE, mtE_append r e (i + 1), List.length_cons]
    rw [show i + 1 + r.length = i + (r.length + 1) from by omega]
def sameK (x y : Mt) : Bool := x.name == y.name && x.index == y.index
theorem sameK_iff (x y : Mt) : sameK x y = true ↔ x.name = y.name ∧ x.index = y.index := by simp [sameK]
def findM : List Mt → Mt → Option Mt
  | [], _ => none
  | y :: r, x => if sameK x y then some y else findM r x
def putM : List Mt → Mt → List Mt
  | [], x => [x]
  | y :: r, x => if sameK x y then x :: r else y :: putM r x
def sh57 : Sh := .agg [.s, .i]
theorem eqs_key (x y : Mt) : eqsh sh57 (keyA x) (keyA y) = some (sameK x y) := by
  simp only [eqsh, sh57, keyA, sameK]
  simp only [eql, eqk]
  cases x.name == y.name <;> cases x.index == y.index <;> rfl
theorem keyA_of {x y : Mt} (h : sameK x y = true) : keyA x = keyA y := by
  obtain ⟨h1, h2⟩ := (sameK_iff x y).1 h
  simp [keyA, h1, h2]
theorem fnd_none : ∀ {d : List Mt} {x : Mt} (i : Nat), findM d x = none → Fnd sh57 (keyA x) (mtE d i) none
  | [], x, i, _ => .nil
  | y :: r, x, i, h => by
    unfold findM at h
    split at h
    · cases h
    · exact .go (o := none) (by rw [eqs_key]; simpa using ‹¬ sameK x y = true›) (fnd_none (i + 1) h)
theorem put_none : ∀ {d : List Mt} {x y : Mt}, findM d x = none → sameK x y = true → putM d y = d ++ [y]
  | [], x, y, _, _ => rfl
  | z :: r, x, y, h, hk => by
    unfold findM at h
    split at h
    · cases h
    · rename_i hn
      have : ¬ sameK y z = true := fun e => hn (by rw [sameK_iff] at *; exact ⟨hk.1.trans e.1, hk.2.trans e.2⟩)
      show putM (z :: r) y = _
      unfold putM
      rw [if_neg this, put_none h hk]
      rfl
theorem fnd_some : ∀ {d : List Mt} {x z : Mt} (i : Nat), findM d x = some z → ∃ j, ∃ h : j < d.length, d[j] = z ∧ Fnd sh57 (keyA x) (mtE d i) (some (j, .agg (mtAV z))) ∧ sameK x z = true ∧
    ∀ y, sameK x y = true → (mtE d i).set j ⟨keyA y, .agg (mtAV y), i + j⟩ = mtE (putM d y) i
  | y :: r, x, z, i, h => by
    unfold findM at h
    split at h
    · rename_i hs
      cases h
      refine ⟨0, by simp, rfl, ?_, hs, fun u hu => ?_⟩
      · exact .hit (by show eqsh _ _ (keyA y) = _; rw [eqs_key, hs]) (keyA_of hs)
      · have : sameK u y = true := by rw [sameK_iff] at *; exact ⟨hu.1.symm.trans hs.1, hu.2.symm.trans hs.2⟩
        unfold putM
        rw [if_pos this]
        rfl
    · rename_i hn
      obtain ⟨j, hj, h1, h2, h3, h4⟩ := fnd_some (i + 1) h
      refine ⟨j + 1, by simp; omega, by simpa using h1, ?_, h3, fun u hu => ?_⟩
      · exact .go (o := some (j, .agg (mtAV z))) (by show eqsh _ _ (keyA y) = _; rw [eqs_key]; simpa using hn) h2
      · have : ¬ sameK u y = true := fun e => hn (by rw [sameK_iff] at *; exact ⟨hu.1.trans e.1, hu.2.trans e.2⟩)
        unfold putM
        rw [if_neg this]
        show _ :: (mtE r (i + 1)).set j _ = _ :: _
        rw [← h4 u hu, show i + (j + 1) = i + 1 + j from by omega]
theorem key57 : keyOK Tryz.prog 57 = true := by kernel_rfl
theorem shT57 : shT Tryz.prog 57 = some sh57 := by kernel_rfl
theorem zero32 (w : World) : (zeroValue 32).run Tryz.prog w = .ok (.agg #[.string ⟨#[]⟩, .int .i64 0, .int .i64 0, .int .i64 0, .int .i64 0]) w := by kernel_rfl
def AM (b : Nat) : M := ⟨fun _ => b, fun _ => 0, fun _ => 0⟩
theorem lobj (w : World) (b : Nat) (d : List Mt) (h : MapIs w b (d.map mtKV)) : LObj (fun _ => none) (AM b) (fun _ => True) .h w (.map (mtE d 0) d.length 0) := by
  refine ⟨?_, fun e he => ?_⟩
  · rw [mtE_map]
    have := h
    unfold MapIs at this
    rw [List.length_map] at this
    exact this
  · obtain ⟨j, hj⟩ := List.getElem?_of_mem he
    have hl : j < d.length := by rw [← mtE_len d 0]; exact (List.getElem?_eq_some_iff.1 hj).1
    rw [mtE_get d 0 j hl] at hj
    cases hj
    simp [okV, okL, keyA, mtAV, sc]
theorem lens (x : Mt) : ∀ ks, sh57 = .agg ks → ∃ l, keyA x = .agg l ∧ l.length = ks.length := by
  intro ks h
  cases h
  exact ⟨_, rfl, rfl⟩
section
variable {ops : Array Oper} {rest : List Oper} {o : Oper} {a : Act} {w : World} {Q : Exit → Act → World → Prop}
theorem wpList_look (hg : o.guard = none) (m q : Operand) (hop : o.op = .lookup 54 m q true) (b : Nat) (d : List Mt) (x : Mt) (hm : a.eval m = .map (some b)) (hq : a.eval q = .agg #[.string ⟨x.name.toArray⟩, .int .i64 x.index]) (hM : MapIs w b (d.map mtKV))
    (hK : wpList Tryz.prog ops Q rest (a.put o.dst (.tuple #[.agg (mtCells ((findM d x).getD ⟨[], 0, 0, 0, 0⟩)).toArray, .bool (findM d x).isSome])) w) : wpList Tryz.prog ops Q (o :: rest) a w := by
  refine wpList_plain hg fun K' hK' => ?_
  have hrun : (Instr.lookup 54 (.map (some b)) (.agg #[.string ⟨x.name.toArray⟩, .int .i64 x.index]) true).run Tryz.prog w = .ok (.tuple #[.agg (mtCells ((findM d x).getD ⟨[], 0, 0, 0, 0⟩)).toArray, .bool (findM d x).isSome]) w := by
    have hz : ∀ w, (zeroValue 32).run Tryz.prog w = .ok (conc (AM b) (.agg (mtAV ⟨[], 0, 0, 0, 0⟩))) w := zero32
    cases hf : findM d x with
    | none => exact run_lookup1 Tryz.underlying54 key57 shT57 hz (lens x) (lobj w b d hM) (fnd_none 0 hf) true
    | some z =>
      obtain ⟨j, hj, h1, h2, _⟩ := fnd_some 0 hf
      exact run_lookup1 Tryz.underlying54 key57 shT57 hz (lens x) (lobj w b d hM) h2 true
  unfold Oper.wp
  simp only [execOp, hop, hm, hq, Sem.run_bind, hrun, Result.andThen_ok, Sem.run_pure]
  exact hK' _ _ hK
set_option maxRecDepth 100000 in
theorem wpList_put (hg : o.guard = none) (m q v : Operand) (hop : o.op = .mapUpdate 54 m q v) (b : Nat) (d : List Mt) (x : Mt) (hm : a.eval m = .map (some b)) (hq : a.eval q = .agg #[.string ⟨x.name.toArray⟩, .int .i64 x.index]) (hv : a.eval v = .agg (mtCells x).toArray) (hM : MapIs w b (d.map mtKV))
    (hK : ∀ w', MapIs w' b ((putM d x).map mtKV) → Below b w w' → w'.heap.size = w.heap.size → (∀ k, k ≠ b → w'.heap[k]? = w.heap[k]?) → wpList Tryz.prog ops Q rest (a.put o.dst undef) w') : wpList Tryz.prog ops Q (o :: rest) a w := by
  refine wpList_plain hg fun K' hK' => ?_
  have hb : b < w.heap.size := hM.lt
  have hput : ∀ es' n, es' = mtE (putM d x) 0 → n = (putM d x).length → (Instr.mapUpdate 54 (.map (some b)) (.agg #[.string ⟨x.name.toArray⟩, .int .i64 x.index]) (.agg (mtCells x).toArray)).run Tryz.prog w = .ok () (w.putObj b (.map (es'.map (meC (AM b))).toArray n)) →
      (Instr.mapUpdate 54 (.map (some b)) (.agg #[.string ⟨x.name.toArray⟩, .int .i64 x.index]) (.agg (mtCells x).toArray)).run Tryz.prog w = .ok () (w.putObj b (.map (mkEs ((putM d x).map mtKV) 0).toArray ((putM d x).map mtKV).length)) := by
    rintro es' n rfl rfl h
    rw [mtE_map] at h
    rw [List.length_map]
    exact h
  have hrun : (Instr.mapUpdate 54 (.map (some b)) (.agg #[.string ⟨x.name.toArray⟩, .int .i64 x.index]) (.agg (mtCells x).toArray)).run Tryz.prog w = .ok () (w.putObj b (.map (mkEs ((putM d x).map mtKV) 0).toArray ((putM d x).map mtKV).length)) := by
    cases hf : findM d x with
    | none =>
      have hp := put_none hf ((sameK_iff x x).2 ⟨rfl, rfl⟩)
      refine hput (mtE d 0 ++ [⟨keyA x, .agg (mtAV x), d.length⟩]) (d.length + 1) ?_ ?_ ?_
      · rw [hp, mtE_append, Nat.zero_add]; rfl
      · rw [hp]; simp
      · exact run_mup (qv := keyA x) (vv := .agg (mtAV x)) (b := Pos.h) Tryz.underlying54 key57 shT57 (lens x) (lobj w b d hM) (.inr ⟨fnd_none 0 hf, rfl, rfl⟩)
    | some z =>
      obtain ⟨j, hj, h1, h2, _, h3⟩ := fnd_some 0 hf
      have h4 := h3 x ((sameK_iff x x).2 ⟨rfl, rfl⟩)
      refine hput _ d.length h4 ?_ ?_
      · rw [← mtE_len (putM d x) 0, ← h4, List.length_set, mtE_len]
      · exact run_mup (qv := keyA x) (vv := .agg (mtAV x)) (b := Pos.h) Tryz.underlying54 key57 shT57 (lens x) (lobj w b d hM) (.inl ⟨j, _, _, h2, mtE_get d 0 j hj, rfl, rfl⟩)
  unfold Oper.wp
  simp only [execOp, hop, hm, hq, hv, Sem.run_bind, hrun, Result.andThen_ok, Sem.run_pure]
  have h9 := hK (w.putObj b (.map (mkEs ((putM d x).map mtKV) 0).toArray ((putM d x).map mtKV).length)) (World.putObj_heap_same hb) (below_set w b _) (by simp [World.putObj]) (fun k hk => World.putObj_heap_other hk)
  refine hK' _ _ ?_
  exact h9
end
end Go.Proofs.Seat7
end
section
namespace Go.Proofs
open Go.Shelf
def Tryz.growMt_ren : Go.Shelf.Ren := ⟨fun | 4 => 34 | n => n, fun | 22 => 22 | 25 => 32 | 3 => 3 | 4 => 4 | 9 => 9 | 20 => 20 | 0 => 0 | n => n, fun | n => n⟩
theorem Tryz.growMt : Go.Proofs.Lays8.n4 Tryz.prog Tryz.growMt_ren := {
  mixed := by kernel_rfl
  f4 := ⟨Tryz.f34.name, by decide, Tryz.func34.trans (congrArg some (by kernel_rfl))⟩
  t0 := Tryz.underlying0
  a0 := Tryz.isAgg0
  z0 := Tryz.sizeOf0
  v0 := Tryz.zeroValue0
  t3 := Tryz.underlying3
  a3 := Tryz.isAgg3
  z3 := Tryz.sizeOf3
  v3 := Tryz.zeroValue3
  t4 := Tryz.underlying4
  a4 := Tryz.isAgg4
  z4 := Tryz.sizeOf4
  v4 := Tryz.zeroValue4
  t9 := Tryz.underlying9
  a9 := Tryz.isAgg9
  z9 := Tryz.sizeOf9
  v9 := Tryz.zeroValue9
  t20 := Tryz.underlying20
  a20 := Tryz.isAgg20
  z20 := Tryz.sizeOf20
  v20 := Tryz.zeroValue20
  t22 := Tryz.underlying22
  a22 := Tryz.isAgg22
  z22 := Tryz.sizeOf22
  v22 := Tryz.zeroValue22 }
end Go.Proofs
end
section
namespace Go.Proofs.Seat7
open Go.RowKit Go.Proofs.Seat4
def NilOk (v : Value) : Prop := ∀ n c, v = .slice none n c → c = 0
theorem row_of_lAt {w : World} {b off : Nat} {l : List Mt} (h : LAt ME w b off l) : Row w b off (ME.all l) := by
  intro j v hj
  have h1 : (l.flatMap mtCells)[j]? = some v := hj
  rw [flatN 5 (by omega) mtCells (fun _ => rfl)] at h1
  obtain ⟨m, hm, hv⟩ := Option.bind_eq_some_iff.1 h1
  obtain ⟨hk, rfl⟩ := List.getElem?_eq_some_iff.1 hm
  have := h (j / 5) hk (j % 5) v hv
  rwa [show off + j / 5 * ME.size + j % 5 = off + j from by show off + j / 5 * 5 + j % 5 = _; omega] at this
section
variable {ops : Array Oper} {rest : List Oper} {o : Oper} {a : Act} {w : World} {Q : Exit → Act → World → Prop}
theorem wpList_cat (hgd : o.guard = none) (s x : Operand) (ho : o.op = .call { callee := .builtin .append, args := #[s, x], argTypes := #[22, 22] })
    (base : Nat) (v vx : Value) (n : Nat) (xs : List Value) (hs : a.eval s = v) (hown : w.ownsRow base 32 5 v n xs) (l : List Mt) (hx : a.eval x = vx) (hl : LV ME w vx l) (hn : NilOk vx)
    (hm : n + l.length ≤ 1048576) (hbase : base ≤ w.heap.size)
    (h : ∀ v' w', w'.ownsRow base 32 5 v' (n + l.length) (xs ++ ME.all l) → w.grownBy w' v.ownBlock → wpList Tryz.prog ops Q rest (a.put o.dst v') w') : wpList Tryz.prog ops Q (o :: rest) a w := by
  obtain ⟨ht, ⟨i, z, hi, hz, hsize, hby, hzs⟩, hsz⟩ := TM
  obtain ⟨A, c, rfl, hc, hr⟩ := hl
  cases A with
  | none =>
    obtain rfl : l = [] := Classical.byContradiction fun hne => by
      obtain ⟨_, _, e, _⟩ := hr hne
      cases e
    obtain rfl := hn _ _ rfl
    refine wpList_append_own_none hgd s x 22 ho base 32 i 5 ht hi v n xs hs hown hx ?_
    have h1 := h v w (by simpa [Enc.all] using hown) ⟨rfl, rfl, rfl, Nat.le_refl _, fun _ _ _ => rfl⟩
    exact h1
  | some ad =>
    refine wpList_append_own w hgd s x 22 ho base 32 i z 5 48 ht hi hz hsize hby hzs hsz v n xs hs hown ad l.length c (ME.all l) hx (ME.all_len l) ?_ ?_ (by unfold maxLen; omega) ?_ hbase (fun v' w' h2 h3 _ => h v' w' h2 h3)
    · intro j u hj
      by_cases hne : l = []
      · subst hne; simp [Enc.all] at hj
      · obtain ⟨b, off, e, hb, hat⟩ := hr hne
        cases e
        rw [plain_add]
        exact row_of_lAt hat j u hj
    · intro u hu
      obtain ⟨m, _, hm⟩ := List.mem_flatMap.1 hu
      exact mtCells_one m u hm
    · omega
end
theorem lv_len {w : World} {v : Value} {l : List Mt} (h : LV ME w v l) : ∃ A c, v = .slice A l.length c := by
  obtain ⟨A, c, h, _⟩ := h
  exact ⟨A, c, h⟩
theorem grow34 (n : Nat) (hn : n ≤ 10000) (w : World) : Calls Tryz.prog 34 #[.slice none 0 0, .int .i64 n] w fun e w' => ∃ v, e = .returned v ∧ w'.ownsRow w.heap.size 32 5 v 0 [] ∧ Below w.heap.size w w' := by
  obtain ⟨ht, ⟨i, z, hi, hz, hsize, hby, hzs⟩, hsz⟩ := TM
  by_cases h0 : n = 0
  · subst h0
    refine (Any8.slices_Grow_room Tryz.growMt none 0 0 0 w (Nat.le_refl _) (by omega) (by omega) (by omega)).mono ?_
    rintro e w' ⟨rfl, rfl⟩
    exact ⟨_, rfl, World.ownsRow_nil _ _ _ _, Below.refl _ _⟩
  · refine (Any8.slices_Grow_grow Tryz.growMt i z hi hz (by omega) none 0 0 n [] w (Nat.le_refl _) (by omega) (by rw [hby]; omega) (by omega) (by simp) (fun _ => rfl) (fun a ha => by cases ha)).mono ?_
    rintro e w' ⟨rfl, rfl⟩
    have hG := grownCap_ge w (0 + n) 0 32
    have hG2 := grownCap_le_maxLen w (0 + n) 0 32 (by unfold maxLen; omega)
    refine ⟨_, rfl, ⟨rfl, .inr ⟨_, _, _, rfl, Nat.le_refl _, heap_alloc_new w.drew _, Nat.zero_le _, hG2, ?_, by simp⟩⟩, (Below.refl _ _).drew.alloc (Nat.le_refl _) _⟩
    simp only [List.size_toArray, List.length_nil, Array.size_append, size_zeroCells, hzs]
    show 0 + (0 + n - 0) * 5 + (grownCap w (0 + n) 0 32 - (0 + n)) * 5 = grownCap w (0 + n) 0 32 * 5
    omega
theorem lv_same {w w' : World} {v : Value} {l : List Mt} (h : LV ME w v l) (hb : Below w.heap.size w w') : LV ME w' v l := h.below hb
set_option maxRecDepth 100000 in
set_option maxHeartbeats 1000000 in
theorem concat17 (a b : List Mt) (va vb : Value) (bl : Nat) (w : World) (hbl : bl < w.heap.size) (hrow : Row w bl 0 [va, vb]) (ha : LV ME w va a) (hb : LV ME w vb b) (hna : NilOk va) (hnb : NilOk vb) (hlen : a.length + b.length ≤ 10000) :
    Calls Tryz.prog 17 #[.slice (some ⟨bl, 0, none⟩) 2 2] w fun e w' => ∃ v, e = .returned v ∧ w'.ownsRow w.heap.size 32 5 v (a.length + b.length) (ME.all (a ++ b)) ∧ Below w.heap.size w w' := by
  have Ha := Lib.hid ha
  have Hb := Lib.hid hb
  have r0 : w.cell? ⟨bl, 0, none⟩ = some va := hrow 0 va rfl
  have r1 : w.cell? ⟨bl, 1, none⟩ = some vb := hrow 1 vb rfl
  obtain ⟨A1, c1, rfl⟩ := lv_len ha
  obtain ⟨A2, c2, rfl⟩ := lv_len hb
  have Hna := Lib.hid hna
  have Hnb := Lib.hid hnb
  clear ha hb hrow hna hnb
  go_enter Tryz.func17, Tryz.ntmps17
  go_wp2
  go_loopw [3, 11] (fun t v wr => ((v = .int .i64 0 ∧ t = .int .i64 0) ∨ (v = .int .i64 1 ∧ t = .int .i64 a.length) ∨ (v = .int .i64 2 ∧ t = .int .i64 ((a.length + b.length : Nat) : Int))) ∧ w = wr) (fun _ v _ => 2 - (intOf v).toNat)
  case atStart => exact ⟨.inl ⟨rfl, rfl⟩, rfl⟩
  case round =>
    obtain ⟨hk, rfl⟩ := hrel
    rcases hk with ⟨rfl, rfl⟩ | ⟨rfl, rfl⟩ | ⟨rfl, rfl⟩
    · go_wp2
      exact ⟨⟨.inr (.inl ⟨rfl, rfl⟩), trivial⟩, by decide⟩
    · go_wp2
      refine ⟨⟨.inr (.inr ⟨rfl, by simp⟩), trivial⟩, by decide⟩
    · go_wp2_with (go_at_call 34; refine (grow34 (a.length + b.length) hlen _).mono ?_; rintro e w1 ⟨v1, rfl, hown, hb1⟩)
      have Hown := Lib.hid hown
      have Hb1 := Lib.hid hb1
      have R0 := Lib.hid r0
      have R1 := Lib.hid r1
      clear hown r0 r1 hb1
      go_loopw [6, 27] (fun t v w2 => ((v = .int .i64 0 ∧ w2.ownsRow w.heap.size 32 5 t 0 []) ∨ (v = .int .i64 1 ∧ w2.ownsRow w.heap.size 32 5 t a.length (ME.all a)) ∨ (v = .int .i64 2 ∧ w2.ownsRow w.heap.size 32 5 t (a.length + b.length) (ME.all (a ++ b)))) ∧ Below w.heap.size w w2) (fun _ v _ => 2 - (intOf v).toNat)
      case atStart => exact ⟨.inl ⟨rfl, Hown.out⟩, Hb1.out⟩
      case round =>
        obtain ⟨hk, hb2⟩ := hrel
        have q0 := (hb2.cell (p := ⟨bl, 0, none⟩) hbl).trans R0.out
        have q1 := (hb2.cell (p := ⟨bl, 1, none⟩) hbl).trans R1.out
        have hla : LV ME wr (.slice A1 a.length c1) a := lv_same Ha.out hb2
        have hlb : LV ME wr (.slice A2 b.length c2) b := lv_same Hb.out hb2
        clear Hown Hb1 R0 R1
        have Hla := Lib.hid hla
        have Hlb := Lib.hid hlb
        have Hb2 := Lib.hid hb2
        have hsz := hb2.size
        clear hla hlb hb2
        rcases hk with ⟨rfl, hown⟩ | ⟨rfl, hown⟩ | ⟨rfl, hown⟩
        · have Hown := Lib.hid hown
          clear hown
          go_wp2_with (at_builtin; refine wpList_cat rfl _ _ rfl w.heap.size _ _ 0 [] rfl Hown.out a rfl Hla.out Hna.out (by omega) hsz ?_; intro v' w3 hown3 hgr)
          refine ⟨⟨.inr (.inl ⟨rfl, by simpa using hown3⟩), ?_⟩, by decide⟩
          exact Hb2.out.grown hgr hsz (fun k hk => (Hown.out.lt k hk).1)
        · have Hown := Lib.hid hown
          clear hown
          go_wp2_with (at_builtin; refine wpList_cat rfl _ _ rfl w.heap.size _ _ a.length (ME.all a) rfl Hown.out b rfl Hlb.out Hnb.out (by omega) hsz ?_; intro v' w3 hown3 hgr)
          refine ⟨⟨.inr (.inr ⟨rfl, by simpa [Enc.all] using hown3⟩), ?_⟩, by decide⟩
          exact Hb2.out.grown hgr hsz (fun k hk => (Hown.out.lt k hk).1)
        · go_wp2
          go_ret
          exact ⟨_, rfl, hown, Hb2.out⟩
end Go.Proofs.Seat7
end
section
namespace Go.Proofs.Seat4
open Go.RowKit
def Clo (ops : Array Oper) (D : Nat → Bool) : Prop := ∀ j o, ops[j]? = some o → D j = true → ∀ e ∈ o.after, Region.binds .any e = true → D e.on = true
def DetOpG (P : Program) (ops : Array Oper) (S : (Nat → Bool) → World → Prop) (i : Nat) (o : Oper) (a : Act) (v : Value) : Prop :=
  ∀ D w, D i = false → Clo ops D → (∀ e ∈ o.after, Region.binds .any e = true → D e.on = true) → S D w → wpList P ops (DetPost (S (fun j => D j || j == i)) o a v) [o] a w
def wpDetG (P : Program) (ops : Array Oper) (S : (Nat → Bool) → World → Prop) (Q : Exit → Act → World → Prop) : Nat → List Oper → Act → Prop
  | _, [], a => ∀ D w, (∀ j, j < ops.size → D j = true) → S D w → Q .normal a w
  | i, o :: rest, a => ∃ v, DetOpG P ops S i o a v ∧ wpDetG P ops S Q (i + 1) rest (a.put o.dst v)
section
variable {P : Program} {ops : Array Oper} {S : (Nat → Bool) → World → Prop} {Q : Exit → Act → World → Prop}
theorem wpDetG_cons {i : Nat} {o : Oper} {rest : List Oper} {a : Act} {v : Value} (h1 : DetOpG P ops S i o a v) (h2 : wpDetG P ops S Q (i + 1) rest (a.put o.dst v)) : wpDetG P ops S Q i (o :: rest) a := ⟨v, h1, h2⟩
theorem det_canonG (a0 : Act) : ∀ (l : List Oper) (k : Nat) (a : Act) (v : Nat → Value), (∀ j, l[j]? = ops[k + j]?) → canon ops a0 v k = a → wpDetG P ops S Q k l a →
    ∃ v' : Nat → Value, (∀ j, j < k → v' j = v j) ∧ (∀ j o, k ≤ j → ops[j]? = some o → DetOpG P ops S j o (canon ops a0 v' j) (v' j)) ∧ (∀ D w, (∀ j, j < ops.size → D j = true) → S D w → Q .normal (canon ops a0 v' (k + l.length)) w) := by
  intro l
  induction l with
  | nil =>
    intro k a v hl ha h
    refine ⟨v, fun _ _ => rfl, fun j o hj ho => ?_, fun D w hD hw => by simpa [ha] using h D w hD hw⟩
    have hnone : ops[j]? = none := by
      have := hl (j - k)
      rw [show k + (j - k) = j from by omega] at this
      simpa using this.symm
    rw [hnone] at ho
    cases ho
  | cons o rest ih =>
    intro k a v hl ha h
    obtain ⟨u, hu, hrest⟩ := h
    have hk : ops[k]? = some o := by simpa using (hl 0).symm
    have same : ∀ (v1 v2 : Nat → Value) (m : Nat), (∀ j, j < m → v1 j = v2 j) → canon ops a0 v1 m = canon ops a0 v2 m := by
      intro v1 v2 m hm
      induction m with
      | zero => rfl
      | succ m ihm =>
        simp only [canon]
        rw [ihm fun j hj => hm j (by omega)]
        cases ops[m]? with
        | none => rfl
        | some o' => simp only [hm m (by omega)]
    let v2 : Nat → Value := fun j => if j = k then u else v j
    have hv2 : ∀ j, j < k → v2 j = v j := fun j hj => if_neg (by omega)
    have hck : canon ops a0 v2 k = a := (same v2 v k hv2).trans ha
    have hck1 : canon ops a0 v2 (k + 1) = a.put o.dst u := by
      show (match ops[k]? with | some o => (canon ops a0 v2 k).put o.dst (v2 k) | none => canon ops a0 v2 k) = _
      rw [hk, hck]
      simp [v2]
    obtain ⟨v', h1, h2, h3⟩ := ih (k + 1) _ v2 (fun j => by have := hl (j + 1); simpa [Nat.add_assoc, Nat.add_comm 1 j] using this) hck1 hrest
    refine ⟨v', fun j hj => (h1 j (by omega)).trans (hv2 j hj), fun j o' hj ho => ?_, fun D w hD hw => by have := h3 D w hD hw; rwa [show k + 1 + rest.length = k + (o :: rest).length from by simp; omega] at this⟩
    by_cases e : j = k
    · subst e
      rw [hk] at ho
      cases ho
      rw [same v' v2 j fun m hm => h1 m (by omega), hck, h1 j (by omega)]
      simp only [v2, if_true]
      exact hu
    · exact h2 j o' (by omega) ho
theorem det_anyG (hok : detOk ops = true) (a0 : Act) (v : Nat → Value) (hop : ∀ j o, ops[j]? = some o → DetOpG P ops S j o (canon ops a0 v j) (v j)) (hend : ∀ D w, (∀ j, j < ops.size → D j = true) → S D w → Q .normal (canon ops a0 v ops.size) w) :
    ∀ (fuel : Nat) (listed : Array Bool) (a : Act) (w : World), listed.size = ops.size → ((List.range ops.size).filter fun i => !listed.getD i true).length ≤ fuel → DetInv ops a0 v (fun j => listed.getD j true) a → Closed ops listed → S (fun j => listed.getD j true) w →
      wpAny P .any ops Q fuel listed a w := by
  have hall : ∀ (listed : Array Bool) (a : Act) (w : World), listed.size = ops.size → DetInv ops a0 v (fun j => listed.getD j true) a → Closed ops listed → S (fun j => listed.getD j true) w → (∀ i, i < ops.size → listed.getD i true = true) → Q .normal a w := by
    intro listed a w hsz hinv hC hS hl
    have hc := canon_inv hok a0 v ops.size (Nat.le_refl _)
    have : a = canon ops a0 v ops.size := by
      have ht : a.tmps = (canon ops a0 v ops.size).tmps := by
        apply Array.ext_getElem?
        intro t
        by_cases hex : ∃ j, j < ops.size ∧ writesTo ops j t = true
        · obtain ⟨j, hj, hw⟩ := hex
          by_cases htl : t < a0.tmps.size
          · rw [hinv.done t htl j hj hw (hl j hj), hc.done t htl j hj hw (by simpa using hj)]
          · rw [Array.getElem?_eq_none (by rw [hinv.size]; omega), Array.getElem?_eq_none (by rw [hc.size]; omega)]
        · rw [hinv.rest t fun j hj hw => absurd ⟨j, hj, hw⟩ hex, hc.rest t fun j hj hw => absurd ⟨j, hj, hw⟩ hex]
      have hd : a.defers = (canon ops a0 v ops.size).defers := hinv.defers.trans hc.defers.symm
      cases a
      cases hcn : canon ops a0 v ops.size
      rw [hcn] at ht hd
      simp only at ht hd
      rw [ht, hd]
    rw [this]
    exact hend _ w hl hS
  have hready : ∀ (listed : Array Bool), Region.ready .any ops listed = [] → ∀ i, i < ops.size → listed.getD i true = true := by
    intro listed hr i
    induction i using Nat.strongRecOn with
    | ind i ih =>
      intro hi
      apply Classical.byContradiction
      intro hn
      have hn' : listed.getD i true = false := by simpa using hn
      have : i ∈ Region.ready .any ops listed := by
        unfold Region.ready
        rw [List.mem_filter]
        refine ⟨List.mem_range.2 hi, ?_⟩
        have hget : ops[i]? = some ops[i] := Array.getElem?_eq_getElem hi
        rw [hn', hget]
        simp only [Bool.not_false, Bool.true_and, Option.map_some, Option.getD_some]
        rw [Array.all_eq_true']
        intro e he
        cases hb : Region.binds .any e with
        | false => rfl
        | true =>
          have hlt := (detOk_at hok hget).early e he hb
          have := ih e.on hlt (by omega)
          have hlt' : e.on < listed.size ∨ ¬ e.on < listed.size := by omega
          rcases hlt' with h | h
          · simp only [Array.getD, h, dif_pos] at this ⊢
            exact this
          · exfalso
            have h1 : i < listed.size ∨ ¬ i < listed.size := by omega
            rcases h1 with h1 | h1
            · omega
            · simp [Array.getD, h1] at hn'
      rw [hr] at this
      cases this
  intro fuel
  induction fuel with
  | zero =>
    intro listed a w hsz hcount hinv hC hS
    have hl : ∀ i, i < ops.size → listed.getD i true = true := by
      intro i hi
      have := List.eq_nil_of_length_eq_zero (Nat.le_zero.1 hcount)
      have hmem : i ∉ (List.range ops.size).filter fun i => !listed.getD i true := by rw [this]; simp
      rw [List.mem_filter] at hmem
      simp only [List.mem_range, hi, true_and] at hmem
      simpa using hmem
    refine ⟨?_, hall listed a w hsz hinv hC hS hl⟩
    unfold Region.ready
    rw [List.filter_eq_nil_iff]
    intro i hi
    rw [hl i (List.mem_range.1 hi)]
    simp
  | succ fuel ih =>
    intro listed a w hsz hcount hinv hC hS
    refine ⟨fun hr => hall listed a w hsz hinv hC hS (hready listed hr), fun i hi => ?_⟩
    unfold Region.ready at hi
    rw [List.mem_filter] at hi
    obtain ⟨hir, hc⟩ := hi
    have hil : i < ops.size := List.mem_range.1 hir
    have hget : ops[i]? = some ops[i] := Array.getElem?_eq_getElem hil
    rw [hget] at hc
    simp only [Bool.and_eq_true, Option.map_some, Option.getD_some] at hc
    obtain ⟨hn, hafter⟩ := hc
    have hn' : listed.getD i true = false := by simpa using hn
    have A := detOk_at hok hget
    have hcan := canon_inv hok a0 v i (by omega)
    have hagree : ∀ t ∈ ops[i].looksAt ops, a.tmps[t]? = (canon ops a0 v i).tmps[t]? := by
      intro t ht
      by_cases hex : ∃ j, j < ops.size ∧ writesTo ops j t = true
      · obtain ⟨j, hj, hw⟩ := hex
        obtain ⟨e, he, hb, hon⟩ := A.deps t ht j hj hw
        have hlt := A.early e he hb
        have hlist := Array.all_eq_true'.1 hafter e he
        rw [hb] at hlist
        simp only [Bool.not_true, Bool.false_or] at hlist
        have hDj : listed.getD j true = true := by
          rw [hon] at hlist
          simp only [Array.getD] at hlist ⊢
          split at hlist
          · rename_i h; rw [dif_pos h]; exact hlist
          · cases hlist
        by_cases htl : t < a0.tmps.size
        · rw [hinv.done t htl j hj hw hDj, hcan.done t htl j hj hw (by simp; omega)]
        · rw [Array.getElem?_eq_none (by rw [hinv.size]; exact Nat.le_of_not_lt htl), Array.getElem?_eq_none (by rw [hcan.size]; exact Nat.le_of_not_lt htl)]
      · rw [hinv.rest t fun j hj hw => absurd ⟨j, hj, hw⟩ hex, hcan.rest t fun j hj hw => absurd ⟨j, hj, hw⟩ hex]
    have hdep : ∀ e ∈ ops[i].after, Region.binds .any e = true → listed.getD e.on true = true := by
      intro e he hb
      have hlist := Array.all_eq_true'.1 hafter e he
      rw [hb] at hlist
      simp only [Bool.not_true, Bool.false_or] at hlist
      simp only [Array.getD] at hlist ⊢
      split at hlist
      · rename_i h; rw [dif_pos h]; exact hlist
      · cases hlist
    refine wpOp_mono ?_ (det_transfer (Q := Q) (v := v i) hget A.sel (hinv.size.trans hcan.size.symm) hagree (hop i ops[i] hget (fun j => listed.getD j true) w hn' (fun j o ho hj => hC.down j o ho hj) hdep hS))
    rintro a' w' ⟨rfl, hS'⟩
    have hsz' : (listed.setIfInBounds i true).size = ops.size := by simpa using hsz
    have hf : (fun j => listed.getD j true || j == i) = fun j => (listed.setIfInBounds i true).getD j true := by
      funext j
      by_cases hjl : j < listed.size
      · by_cases e : j = i
        · subst e; simp [Array.getD, hjl]
        · have : ¬ i = j := fun x => e x.symm
          simp [Array.getD, hjl, Array.getElem_setIfInBounds, e, this]
      · simp [Array.getD, hjl]
    rw [hf] at hS'
    refine ih _ _ _ hsz' ?_ ?_ (hC.set hget hdep) hS'
    · have hlt : ((List.range ops.size).filter fun k => !(listed.setIfInBounds i true).getD k true).length < ((List.range ops.size).filter fun k => !listed.getD k true).length := by
        have hsub : ((List.range ops.size).filter fun k => !(listed.setIfInBounds i true).getD k true) = ((List.range ops.size).filter fun k => !listed.getD k true).filter (fun k => k != i) := by
          rw [List.filter_filter]
          apply List.filter_congr
          intro k hk
          have hkl : k < listed.size := by rw [hsz]; exact List.mem_range.1 hk
          by_cases e : k = i
          · subst e; simp [Array.getD, hkl]
          · have : ¬ i = k := fun x => e x.symm
            simp [Array.getD, hkl, Array.getElem_setIfInBounds, e, this]
        rw [hsub]
        have hmem : i ∈ (List.range ops.size).filter fun k => !listed.getD k true := List.mem_filter.2 ⟨hir, hn⟩
        exact List.length_filter_lt_length_iff_exists.2 ⟨i, hmem, by simp⟩
      omega
    · have := hinv.put hok hget hn'
      rwa [hf] at this
theorem wp_region_detG {id : Nat} {a : Act} {w : World} (hm : P.follows .mixedOrders = true) (hok : detOk ops = true) (S : (Nat → Bool) → World → Prop) (hS : S (fun j => !decide (j < ops.size)) w.drew) (h : wpDetG P ops S Q 0 ops.toList a) : (Code.region id ops true).wp P Q a w := by
  obtain ⟨v, _, h2, h3⟩ := det_canonG (P := P) (S := S) (Q := Q) a ops.toList 0 a (fun _ => undef) (fun j => by simp) rfl h
  have hf : (fun j => (Array.replicate ops.size false).getD j true) = fun j => !decide (j < ops.size) := by
    funext j
    by_cases h : j < ops.size <;> simp [Array.getD, h]
  refine wp_region_any hm (det_anyG (S := S) hok a v (fun j o ho => h2 j o (Nat.zero_le _) ho) (by simpa using h3) ops.size _ a _ (by simp) ?_ ?_ ?_ (by rw [hf]; exact hS))
  · exact Nat.le_trans (List.length_filter_le _ _) (by simp)
  · rw [hf]
    exact ⟨rfl, rfl, fun t _ j hj _ hD => by simp [hj] at hD, fun t _ => rfl⟩
  · refine ⟨by simp, fun i o hi hl => ?_⟩
    have hlt : i < ops.size := (Array.getElem?_eq_some_iff.1 hi).1
    simp [lst, Array.getD, hlt] at hl
end
end Go.Proofs.Seat4
end

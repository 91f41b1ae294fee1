/- A part of the proof. -/
import Derived.Test.YtfekipocjifehaaGreatDoorPar
import Derived.Deep.Cut
import Derived.Test.YtfekipocjifehaaGreatDoorProg
import Derived.Test.YtfekipocjifehaaGreatDoorPad
import Derived.Tactics
import Derived.Tactics2
import Derived.Defers
import Derived.Recover
import Derived.Laws.Pointers
import Derived.TacticsInMore
import Derived.RegionIn
import Derived.LoopNIn
import Derived.RecoverIn
import Derived.KernelRfl
import Derived.Lib.Hide
import Derived.Test.YtfekipocjifehaaGreatDoorPae
import Derived.Test.YtfekipocjifehaaGreatDoorPaq
import Derived.Test.YtfekipocjifehaaGreatDoorRows
import Derived.Deep.Slices
import Derived.Deep.Fields
import Derived.ProofKit
import Derived.OpenShut
import Derived.LaidMore
import Derived.Lay
import Derived.Stop.Joined
import Derived.Stop.LaidErr
import Derived.HandedShaped
import Derived.Lib.LaidTab
import Derived.Lib.SmallJoins
import Derived.JoinedOf
import GoSem.ClaimSeven
set_option linter.all false
section
namespace Go.Proofs.Seat7
open Go.RowKit Go.Proofs.Seat4
def SW (W : World) (x : Nat) (u2 u3 u4 : Value) (b1 b2 b3 : Bool) : World :=
  let w1 := bif b1 then W.setCell ⟨x, 2, none⟩ u2 else W
  let w2 := bif b2 then w1.setCell ⟨x, 3, none⟩ u3 else w1
  bif b3 then w2.setCell ⟨x, 4, none⟩ u4 else w2
section
variable {W : World} {x : Nat} {u2 u3 u4 : Value}
theorem SW_size (b1 b2 b3 : Bool) : (SW W x u2 u3 u4 b1 b2 b3).heap.size = W.heap.size := by
  cases b1 <;> cases b2 <;> cases b3 <;> simp [SW, World.setCell]
theorem SW_block (b1 b2 b3 : Bool) (k : Nat) (hk : k ≠ x) : (SW W x u2 u3 u4 b1 b2 b3).heap[k]? = W.heap[k]? := by
  have h : ¬ x = k := fun e => hk e.symm
  cases b1 <;> cases b2 <;> cases b3 <;> simp [SW, World.setCell, Array.getElem?_modify, h]
theorem SW_at {a b c d e : Value} {t : TypeId} (b1 b2 b3 : Bool) (h : W.heap[x]? = some (.cells #[a, b, c, d, e] t (0, 0))) :
    (SW W x u2 u3 u4 b1 b2 b3).heap[x]? = some (.cells #[a, b, bif b1 then u2 else c, bif b2 then u3 else d, bif b3 then u4 else e] t (0, 0)) := by
  cases b1 <;> cases b2 <;> cases b3 <;> simp [SW, World.setCell, Array.getElem?_modify, h]
theorem SW_bx {b1 b2 b3 : Bool} {B : Nat} {w0 : World} (h : Below B w0 W) (hx : B ≤ x) : Below B w0 (SW W x u2 u3 u4 b1 b2 b3) := by
  refine h.trans ⟨?_, ?_, ?_, ?_, fun k hk => SW_block b1 b2 b3 k (by omega)⟩
  · cases b1 <;> cases b2 <;> cases b3 <;> rfl
  · cases b1 <;> cases b2 <;> cases b3 <;> rfl
  · cases b1 <;> cases b2 <;> cases b3 <;> rfl
  · exact Nat.le_of_eq (SW_size b1 b2 b3).symm
end
theorem clo_dep {ops : Array Oper} {D : Nat → Bool} (hC : Clo ops D) {j i : Nat} (h : (match ops[j]? with | some o => o.after.any (fun e => Region.binds .any e && e.on == i) | none => false) = true) (hj : D j = true) : D i = true := by
  cases ho : ops[j]? with
  | none => rw [ho] at h; cases h
  | some o =>
    rw [ho] at h
    obtain ⟨e, he, hb⟩ := Array.any_eq_true'.1 h
    simp only [Bool.and_eq_true, beq_iff_eq] at hb
    have := hC j o ho hj e he hb.1
    rwa [hb.2] at this
theorem dep_of {o : Oper} {D : Nat → Bool} {i : Nat} (hdep : ∀ e ∈ o.after, Region.binds .any e = true → D e.on = true) (h : (o.after.any fun e => Region.binds .any e && e.on == i) = true) : D i = true := by
  obtain ⟨e, he, hb⟩ := Array.any_eq_true'.1 h
  simp only [Bool.and_eq_true, beq_iff_eq] at hb
  have := hdep e he hb.1
  rwa [hb.2] at this
def S3 (W : World) (x : Nat) (u2 u3 u4 : Value) (D : Nat → Bool) (w : World) : Prop := w = SW W x u2 u3 u4 (D 16) (D 18) (D 20)
theorem S3_keep {W : World} {x : Nat} {u2 u3 u4 : Value} {D : Nat → Bool} {w : World} {i : Nat} (h : S3 W x u2 u3 u4 D w) (h1 : (16 == i) = false) (h2 : (18 == i) = false) (h3 : (20 == i) = false) : S3 W x u2 u3 u4 (fun j => D j || j == i) w := by
  unfold S3 at *
  simp only [h1, h2, h3, Bool.or_false]
  exact h
theorem S3_no {W : World} {x : Nat} {u2 u3 u4 : Value} {D : Nat → Bool} {w : World} (h : S3 W x u2 u3 u4 D w) (h1 : D 16 = false) (h2 : D 18 = true → D 16 = true) (h3 : D 20 = true → D 18 = true) : w = W := by
  have e2 : D 18 = false := by
    cases e : D 18 with
    | false => rfl
    | true => rw [h2 e] at h1; cases h1
  have e3 : D 20 = false := by
    cases e : D 20 with
    | false => rfl
    | true => rw [h3 e] at e2; cases e2
  unfold S3 at h
  rw [h1, e2, e3] at h
  exact h
section
variable {W : World} {x : Nat} {u2 u3 u4 : Value} {D : Nat → Bool} {w : World}
theorem S3_1 (h : S3 W x u2 u3 u4 D w) (h1 : D 16 = false) (h2 : D 18 = true → D 16 = true) (h3 : D 20 = true → D 18 = true) : S3 W x u2 u3 u4 (fun j => D j || j == 16) (w.setCell ⟨x, 2, none⟩ u2) := by
  have e2 : D 18 = false := by
    cases e : D 18 with
    | false => rfl
    | true => rw [h2 e] at h1; cases h1
  have e3 : D 20 = false := by
    cases e : D 20 with
    | false => rfl
    | true => rw [h3 e] at e2; cases e2
  unfold S3 at *
  rw [h1, e2, e3] at h
  subst h
  simp [h1, e2, e3, SW]
theorem S3_2 (h : S3 W x u2 u3 u4 D w) (h1 : D 16 = true) (h2 : D 18 = false) (h3 : D 20 = true → D 18 = true) : S3 W x u2 u3 u4 (fun j => D j || j == 18) (w.setCell ⟨x, 3, none⟩ u3) := by
  have e3 : D 20 = false := by
    cases e : D 20 with
    | false => rfl
    | true => rw [h3 e] at h2; cases h2
  unfold S3 at *
  rw [h1, h2, e3] at h
  subst h
  simp [h1, h2, e3, SW]
theorem S3_3 (h : S3 W x u2 u3 u4 D w) (h1 : D 16 = true) (h2 : D 18 = true) (h3 : D 20 = false) : S3 W x u2 u3 u4 (fun j => D j || j == 20) (w.setCell ⟨x, 4, none⟩ u4) := by
  unfold S3 at *
  rw [h1, h2, h3] at h
  subst h
  simp [h1, h2, h3, SW]
theorem S3_x {a b c d e : Value} {t : TypeId} (h : S3 W x u2 u3 u4 D w) (hx : W.heap[x]? = some (.cells #[a, b, c, d, e] t (0, 0))) :
    ∃ c' d' e', w.heap[x]? = some (.cells #[a, b, c', d', e'] t (0, 0)) := by
  unfold S3 at h
  subst h
  exact ⟨_, _, _, SW_at _ _ _ hx⟩
theorem S3_o {k : Nat} {o : Obj} (h : S3 W x u2 u3 u4 D w) (hk : k ≠ x) (ho : W.heap[k]? = some o) : w.heap[k]? = some o := by
  unfold S3 at h
  subst h
  exact (SW_block _ _ _ k hk).trans ho
end
end Go.Proofs.Seat7
end
section
namespace Go.Proofs.Seat7
open Go.RowKit Go.Proofs.Seat4
set_option maxRecDepth 100000 in
set_option maxHeartbeats 1000000 in
theorem rcheck10 (l : List Mt) (b off cap : Nat) (w : World) (hb : b < w.heap.size) (hl : l.length ≤ 500) (hrow : LAt ME w b off l) :
    Calls Tryz.prog 10 #[.slice (some ⟨b, off, none⟩) l.length cap] w fun e w' => e = .returned (.int .i64 (chkR l l 0)) ∧ Below w.heap.size w w' := by
  have Hrow := Lib.hid hrow
  clear hrow
  have hl2 : ((500 : Int) < (l.length : Int)) = False := by simp; omega
  go_enter Tryz.func10, Tryz.ntmps10
  go_wp2
  go_loopw [3] (fun v wr => ∃ k : Nat, k ≤ l.length ∧ v = .int .i64 k ∧ chkR l (l.drop k) k = chkR l l 0 ∧ Below w.heap.size w wr) (fun v _ => l.length - (intOf v).toNat)
  case atStart => exact ⟨0, Nat.zero_le _, rfl, by simp, Below.refl _ _⟩
  case round =>
    obtain ⟨k, hk, rfl, hchk, hbw⟩ := hrel
    by_cases hlt : k < l.length
    · rw [chkR_at l k hlt] at hchk
      have hr : Row w b (off + k * 5) (mtCells l[k]) := Hrow.out k hlt
      have hr' : Row wr b (off + k * 5) (mtCells l[k]) := hr.below hbw hb
      generalize hM : l[k] = M at *
      have HM := Lib.hid hM
      have Hchk := Lib.hid hchk
      have hsz := hbw.size
      have Hbw := Lib.hid hbw
      clear hM hchk hr hbw
      go_upto_region 7 with ((with_reducible refine wpList_load_agg (o := ⟨some 17, .load 32 (.tmp 16), _, _, _, none⟩) rfl 32 _ rfl b (off + k * 5) ?_ _ hr' _ Tryz.underlying32 rfl ?_ ?_); (focus rfl); (focus kernel_rfl); simp only [mtCells])
      obtain ⟨W1, hW1⟩ : ∃ W1, W1 = wr.alloc (.cells #[.string ⟨M.name.toArray⟩, .int .i64 M.index, .int .i64 M.count, .int .i64 M.sum, .int .i64 M.mx] 32) := ⟨_, rfl⟩
      rw [← hW1]
      have cM : Row W1 wr.heap.size 0 (mtCells M) := by rw [hW1]; exact Row.new wr #[.string ⟨M.name.toArray⟩, .int .i64 M.index, .int .i64 M.count, .int .i64 M.sum, .int .i64 M.mx] 32 _ rfl
      have hb1 : Below w.heap.size w W1 := by rw [hW1]; exact Hbw.out.alloc hsz _
      have hz1 : W1.heap.size = wr.heap.size + 1 := by rw [hW1]; simp
      generalize hB : wr.heap.size = B at *
      have Hb1 := Lib.hid hb1
      have CM := Lib.hid cM
      have HB := Lib.hid hB
      clear hW1 hb1 hr' hB
      have f0 : W1.cell? ⟨B, 0, none⟩ = some (.string ⟨M.name.toArray⟩) := by simpa using cM 0 _ rfl
      have f1 : W1.cell? ⟨B, 1, none⟩ = some (.int .i64 M.index) := by simpa using cM 1 _ rfl
      have f2 : W1.cell? ⟨B, 2, none⟩ = some (.int .i64 M.count) := by simpa using cM 2 _ rfl
      have f3 : W1.cell? ⟨B, 3, none⟩ = some (.int .i64 M.sum) := by simpa using cM 3 _ rfl
      have f4 : W1.cell? ⟨B, 4, none⟩ = some (.int .i64 M.mx) := by simpa using cM 4 _ rfl
      have hbig : b < W1.heap.size := by omega
      have hBB := Lib.hid (show B < W1.heap.size by omega)
      clear cM
      have h21 := isName21 M.name
      rcases Bool.eq_false_or_eq_true (nmL.contains M.name) with hn | hn
      · rw [hn] at h21
        have H21 := Lib.hid h21
        clear h21
        rcases Bool.eq_false_or_eq_true (rngB M) with hg | hg
        · obtain ⟨⟨q1, q2⟩, ⟨q3, q4⟩, ⟨q5, q6⟩, q7, q8⟩ : (-1 ≤ M.index ∧ M.index ≤ 1099511627776) ∧ (1 ≤ M.count ∧ M.count ≤ 1099511627776) ∧ (-1152921504606846976 ≤ M.sum ∧ M.sum ≤ 1152921504606846976) ∧ (-1099511627776 ≤ M.mx ∧ M.mx ≤ 1099511627776) := by
            unfold rngB wi at hg
            simp only [Bool.and_eq_true, decide_eq_true_eq] at hg
            exact ⟨hg.1.1.1, hg.1.1.2, hg.1.2, hg.2⟩
          rcases Nat.eq_zero_or_pos k with rfl | hk0
          · have hz : chk1 l 0 M = 0 := by unfold chk1; rw [hn, hg]; simp
            have Hz := Lib.hid hz
            clear hz
            go_upto_region 11 with (go_at_call 21; refine (H21.out _).mono ?_; rintro e w' ⟨rfl, rfl⟩)
            refine wp_region_det (by kernel_rfl) (by kernel_rfl) (fun wx => Below W1.heap.size W1 wx) ((Below.refl _ _).drew) ?_
            iterate 12
              apply wpDet_cons
              · intro wx hx
                go_wp2_with fail
                exact ⟨rfl, rfl, hx⟩
              go_frame
            intro w3 hx
            have hb3 : Below w.heap.size w w3 := Hb1.out.trans (below_mono hx Hb1.out.size)
            clear hx
            go_wp2_with fail
            go_roundw
            case rel => exact ⟨0 + 1, by omega, by go_num, by have h := Hchk.out; rwa [if_pos Hz.out] at h, hb3⟩
            case measure => simp [intOf]; omega
          · obtain ⟨k', rfl⟩ : ∃ k', k = k' + 1 := ⟨k - 1, by omega⟩
            have hp : Row W1 b (off + k' * 5) (mtCells (l[k']'(by omega))) := (Hrow.out k' (by omega)).below Hb1.out hb
            have hP : l.getD (k' + 1 - 1) default = l[k']'(by omega) := by simp [List.getD_eq_getElem?_getD, show k' < l.length from by omega]
            generalize hPP : (l[k']'(by omega)) = P at hp hP
            have HP := Lib.hid hP
            have Hp := Lib.hid hp
            clear hP hp hPP
            have i1 : (k' : Int) < (l.length : Int) := by omega
            have h0 : (0 : Int) < (k' : Int) + 1 := by omega
            rcases Bool.eq_false_or_eq_true (lessM P M) with hc0 | hc0
            · have hless := less20 P M
              rw [hc0] at hless
              have Hless := Lib.hid hless
              have hz : chk1 l (k' + 1) M = 0 := by unfold chk1; rw [hn, hg, HP.out, if_neg (by simp), if_neg (by simp), if_neg (by rw [lessM_iff] at hc0; have := (cfM_neg P M).2 hc0; omega)]
              have Hz := Lib.hid hz
              clear hz hless
              go_upto_region 11 with (go_at_call 21; refine (H21.out _).mono ?_; rintro e w' ⟨rfl, rfl⟩)
              refine wp_region_det (by kernel_rfl) (by kernel_rfl) (fun wx => Below W1.heap.size W1 wx) ((Below.refl _ _).drew) ?_
              iterate 12
                apply wpDet_cons
                · intro wx hx
                  have gP := Hp.out.below hx hbig
                  have gM := CM.out.below hx hBB.out
                  simp only [mtCells] at gP gM
                  first
                    | ((with_reducible refine wpList_load_aggW (o := ⟨some 67, .load 32 (.tmp 66), _, _, _, _⟩) ?_ 32 _ rfl b (off + k' * 5) ?_ _ gP _ Tryz.underlying32 rfl ?_ ?_); (focus rfl); (focus rfl); (focus kernel_rfl); exact ⟨rfl, rfl, hx⟩)
                    | ((with_reducible refine wpList_load_aggW (o := ⟨some 68, .load 32 (.tmp 4), _, _, _, _⟩) ?_ 32 _ rfl B 0 ?_ _ gM _ Tryz.underlying32 rfl ?_ ?_); (focus rfl); (focus rfl); (focus kernel_rfl); exact ⟨rfl, rfl, hx⟩)
                    | (go_wp2_with (go_at_call 20; refine (Hless.out _).mono ?_; rintro e w' ⟨rfl, hbk⟩)
                       first
                         | exact ⟨rfl, rfl, hx⟩
                         | exact ⟨rfl, rfl, hx.trans (below_mono hbk hx.size)⟩)
                go_frame
              intro w3 hx
              have hb3 : Below w.heap.size w w3 := Hb1.out.trans (below_mono hx Hb1.out.size)
              clear hx
              go_wp2_with fail
              go_roundw
              case rel => exact ⟨k' + 1 + 1, by omega, by go_num, by have h := Hchk.out; rwa [if_pos Hz.out] at h, hb3⟩
              case measure => simp [intOf]; omega
            · have hless := less20 P M
              rw [hc0] at hless
              have Hless := Lib.hid hless
              have hz : chk1 l (k' + 1) M = 9 := by
                unfold chk1
                rw [hn, hg, HP.out, if_neg (by simp), if_neg (by simp)]
                refine if_pos ⟨by omega, ?_⟩
                apply Int.not_lt.1
                intro h
                have := (lessM_iff P M).2 ((cfM_neg P M).1 h)
                rw [hc0] at this
                cases this
              have hz2 : chkR l l 0 = 9 := by have h := Hchk.out; rw [hz, if_neg (by decide)] at h; exact h.symm
              have Hz2 := Lib.hid hz2
              clear hz hz2 hless
              go_upto_region 11 with (go_at_call 21; refine (H21.out _).mono ?_; rintro e w' ⟨rfl, rfl⟩)
              refine wp_region_det (by kernel_rfl) (by kernel_rfl) (fun wx => Below W1.heap.size W1 wx) ((Below.refl _ _).drew) ?_
              iterate 12
                apply wpDet_cons
                · intro wx hx
                  have gP := Hp.out.below hx hbig
                  have gM := CM.out.below hx hBB.out
                  simp only [mtCells] at gP gM
                  first
                    | ((with_reducible refine wpList_load_aggW (o := ⟨some 67, .load 32 (.tmp 66), _, _, _, _⟩) ?_ 32 _ rfl b (off + k' * 5) ?_ _ gP _ Tryz.underlying32 rfl ?_ ?_); (focus rfl); (focus rfl); (focus kernel_rfl); exact ⟨rfl, rfl, hx⟩)
                    | ((with_reducible refine wpList_load_aggW (o := ⟨some 68, .load 32 (.tmp 4), _, _, _, _⟩) ?_ 32 _ rfl B 0 ?_ _ gM _ Tryz.underlying32 rfl ?_ ?_); (focus rfl); (focus rfl); (focus kernel_rfl); exact ⟨rfl, rfl, hx⟩)
                    | (go_wp2_with (go_at_call 20; refine (Hless.out _).mono ?_; rintro e w' ⟨rfl, hbk⟩)
                       first
                         | exact ⟨rfl, rfl, hx⟩
                         | exact ⟨rfl, rfl, hx.trans (below_mono hbk hx.size)⟩)
                go_frame
              intro w3 hx
              have hb3 : Below w.heap.size w w3 := Hb1.out.trans (below_mono hx Hb1.out.size)
              clear hx
              go_wp2_with fail
              go_ret
              exact ⟨by rw [Hz2.out]; rfl, hb3⟩
        · have hz : chk1 l k M = 2 := by unfold chk1; rw [hn, hg]; simp
          have hz2' : chkR l l 0 = 2 := by have h := Hchk.out; rw [hz, if_neg (by decide)] at h; exact h.symm
          have Hz2 := Lib.hid hz2'
          have hbad : ¬ ((-1 ≤ M.index ∧ M.index ≤ 1099511627776) ∧ (1 ≤ M.count ∧ M.count ≤ 1099511627776) ∧ (-1152921504606846976 ≤ M.sum ∧ M.sum ≤ 1152921504606846976) ∧ (-1099511627776 ≤ M.mx ∧ M.mx ≤ 1099511627776)) := by
            intro h
            have : rngB M = true := by
              unfold rngB wi
              simp only [Bool.and_eq_true, decide_eq_true_eq]
              exact ⟨⟨⟨h.1, h.2.1⟩, h.2.2.1⟩, h.2.2.2⟩
            rw [hg] at this
            cases this
          have Hbad := Lib.hid hbad
          clear hz hz2' hg hbad
          go_wp2_with (go_at_call 21; refine (H21.out _).mono ?_; rintro e w' ⟨rfl, rfl⟩)
          all_goals first
            | (go_ret; exact ⟨by rw [Hz2.out]; rfl, Hb1.out⟩)
            | (exfalso; have := Hbad.out; omega)
      · rw [hn] at h21
        have H21 := Lib.hid h21
        clear h21
        have hz : chk1 l k M = 5 := by unfold chk1; rw [hn]; simp
        have hz2' : chkR l l 0 = 5 := by have h := Hchk.out; rw [hz, if_neg (by decide)] at h; exact h.symm
        have Hz2 := Lib.hid hz2'
        clear hz hz2'
        go_wp2_with (go_at_call 21; refine (H21.out _).mono ?_; rintro e w' ⟨rfl, rfl⟩)
        go_ret
        exact ⟨by rw [Hz2.out]; rfl, Hb1.out⟩
    · have hk' : k = l.length := by have := hk; omega
      have hz2' : chkR l l 0 = 0 := by rw [← hchk, hk', List.drop_length]; rfl
      have Hz2 := Lib.hid hz2'
      have Hbw := Lib.hid hbw
      clear hz2' hchk hbw
      go_wp2_with fail
      go_ret
      exact ⟨by rw [Hz2.out]; rfl, Hbw.out⟩
end Go.Proofs.Seat7
end
section
namespace Go.Proofs.Seat7
open Go.RowKit Go.Proofs.Seat4
set_option maxRecDepth 100000 in
theorem rcheck_big (A : Option Addr) (n cap : Nat) (hn : 500 < n) (w : World) : Calls Tryz.prog 10 #[.slice A n cap] w fun e w' => e = .returned (.int .i64 4) ∧ w' = w := by
  have h : (500 : Int) < (n : Int) := by omega
  go_enter Tryz.func10, Tryz.ntmps10
  go_wp2_with fail
  go_ret
  exact ⟨rfl, rfl⟩
set_option maxRecDepth 100000 in
theorem rcheck_nil (A : Option Addr) (cap : Nat) (w : World) : Calls Tryz.prog 10 #[.slice A 0 cap] w fun e w' => e = .returned (.int .i64 0) ∧ w' = w := by
  go_enter Tryz.func10, Tryz.ntmps10
  go_wp2
  refine wp_loop_rounds 1 ?_
  rw [rounds_succ]
  go_wp2_with fail
  go_ret
  exact ⟨rfl, rfl⟩
theorem rcheck (l : List Mt) (v : Value) (w : World) (hv : MtV w v l) : Calls Tryz.prog 10 #[v] w fun e w' => e = .returned (.int .i64 (chk l)) ∧ Below w.heap.size w w' := by
  by_cases hb : 500 < l.length
  · obtain ⟨A, c, rfl, _, _⟩ := hv
    refine (rcheck_big A _ c hb w).mono fun e w' ⟨h1, h2⟩ => ⟨?_, by rw [h2]; exact Below.refl _ _⟩
    rw [h1]; unfold chk; rw [if_pos hb]
  · rcases hv.split with ⟨A, c, rfl, rfl⟩ | ⟨b, off, cap, rfl, hcap, hbw, hrow⟩
    · exact (rcheck_nil A c w).mono fun e w' ⟨h1, h2⟩ => ⟨h1, by rw [h2]; exact Below.refl _ _⟩
    · refine (rcheck10 l b off cap w hbw (by omega) hrow).mono fun e w' ⟨h1, h2⟩ => ⟨?_, h2⟩
      rw [h1]; unfold chk; rw [if_neg hb]
end Go.Proofs.Seat7
end
section
namespace Go.Proofs.Seat7
open Go.RowKit Go.Proofs.Seat4 Av
def sh32 : Sh := .agg [.s, .i, .i, .i, .i]
theorem shT32 : shT Tryz.prog 32 = some sh32 := by kernel_rfl
theorem gd32 : Tryz.prog.eqGuardType Tryz.prog.depth 32 = false := by kernel_rfl
theorem mt_eq (x y : Mt) : x = y ↔ x.name = y.name ∧ x.index = y.index ∧ x.count = y.count ∧ x.sum = y.sum ∧ x.mx = y.mx := by
  cases x; cases y; simp
theorem eqs_mt (x y : Mt) : eqsh sh32 (.agg (mtAV x)) (.agg (mtAV y)) = some (decide (x = y)) := by
  simp only [eqsh, sh32, mtAV]
  have h : decide (x = y) = (x.name == y.name && (x.index == y.index && (x.count == y.count && (x.sum == y.sum && x.mx == y.mx)))) := by
    rw [Bool.eq_iff_iff]
    simp [mt_eq x y]
  rw [h]
  simp only [eql, eqk]
  cases x.name == y.name <;> cases x.index == y.index <;> cases x.count == y.count <;> cases x.sum == y.sum <;> cases x.mx == y.mx <;> rfl
section
variable {ops : Array Oper} {rest : List Oper} {o : Oper} {a : Act} {w : World} {Q : Exit → Act → World → Prop}
theorem wpList_ne (hg : o.guard = none) (x y : Operand) (ty : TypeId) (hop : o.op = .binOp .neq 32 x y ty) (X Y : Mt) (hx : a.eval x = .agg (mtCells X).toArray) (hy : a.eval y = .agg (mtCells Y).toArray)
    (hK : wpList Tryz.prog ops Q rest (a.put o.dst (.bool (!decide (X = Y)))) w) : wpList Tryz.prog ops Q (o :: rest) a w := by
  refine wpList_plain hg fun K' hK' => ?_
  have h1 : (eqGuard .neq 32 x y (.agg (mtCells X).toArray) (.agg (mtCells Y).toArray)).run Tryz.prog w = .ok () w := run_eqGuardV (m := AM 0) (u := .agg (mtAV X)) (v := .agg (mtAV Y)) gd32 (eqs_mt X Y) w
  have h2 : (binOp .neq 32 (.agg (mtCells X).toArray) (.agg (mtCells Y).toArray)).run Tryz.prog w = .ok (.bool (!decide (X = Y))) w := (run_eqOp (m := AM 0) (x := .agg (mtAV X)) (y := .agg (mtAV Y)) shT32 (eqs_mt X Y) w).2
  unfold Oper.wp
  simp only [execOp, hop, hx, hy, Sem.run_bind, h1, h2, Result.andThen_ok, Sem.run_pure]
  exact hK' _ _ hK
end
set_option maxRecDepth 100000 in
set_option maxHeartbeats 1000000 in
theorem same9 (a b : List Mt) (va vb : Value) (w : World) (ha : LV ME w va a) (hb : LV ME w vb b) (hla : a.length ≤ 100000) :
    Calls Tryz.prog 9 #[va, vb] w fun e w' => e = .returned (.bool (decide (a = b))) ∧ Below w.heap.size w w' := by
  obtain ⟨A1, c1, rfl, _, hr1⟩ := ha
  obtain ⟨A2, c2, rfl, _, hr2⟩ := hb
  by_cases hlen : a.length = b.length
  · have Hr1 := Lib.hid hr1
    have Hr2 := Lib.hid hr2
    rw [hlen] at hla
    rw [hlen]
    clear hr1 hr2
    go_enter Tryz.func9, Tryz.ntmps9
    go_wp2
    go_loopw [5] (fun v wr => ∃ k : Nat, k ≤ b.length ∧ v = .int .i64 k ∧ a.take k = b.take k ∧ Below w.heap.size w wr) (fun v _ => b.length - (intOf v).toNat)
    case atStart => exact ⟨0, Nat.zero_le _, rfl, rfl, Below.refl _ _⟩
    case round =>
      obtain ⟨k, hk, rfl, htk, hbw⟩ := hrel
      by_cases hlt : k < b.length
      · have hlt' : k < a.length := by omega
        obtain ⟨g1, o1, rfl, hg1, hat1⟩ := Hr1.out (fun e => by rw [e] at hlt'; exact absurd hlt' (Nat.not_lt_zero _))
        obtain ⟨g2, o2, rfl, hg2, hat2⟩ := Hr2.out (fun e => by rw [e] at hlt; exact absurd hlt (Nat.not_lt_zero _))
        have r1 : Row wr g1 (o1 + k * 5) (mtCells a[k]) := (hat1 k hlt').below hbw hg1
        have r2 : Row wr g2 (o2 + k * 5) (mtCells b[k]) := (hat2 k hlt).below hbw hg2
        have s1 := take_snoc a k hlt'
        have s2 := take_snoc b k hlt
        have hne : a[k] ≠ b[k] → a ≠ b := fun h e => h (by subst e; rfl)
        generalize hX : a[k] = X at *
        generalize hY : b[k] = Y at *
        have hq1 : g1 < wr.heap.size := Nat.lt_of_lt_of_le hg1 hbw.size
        have hq2 : g2 < wr.heap.size := Nat.lt_of_lt_of_le hg2 hbw.size
        have R1 := Lib.hid r1
        have R2 := Lib.hid r2
        have S1 := Lib.hid s1
        have S2 := Lib.hid s2
        have Hne := Lib.hid hne
        have Hbw := Lib.hid hbw
        have Htk := Lib.hid htk
        clear r1 r2 s1 s2 hne hbw htk hat1 hat2 hX hY
        go_upto_region 6 with fail
        refine wp_region_det (by kernel_rfl) (by kernel_rfl) (fun wx => Below wr.heap.size wr wx) ((Below.refl _ _).drew) ?_
        iterate 9
          apply wpDet_cons
          · intro wx hx
            have p1 := R1.out.below hx hq1
            have p2 := R2.out.below hx hq2
            first
              | ((with_reducible refine wpList_load_aggW (o := ⟨some 20, .load 32 (.tmp 19), _, _, _, _⟩) ?_ 32 _ rfl g1 (o1 + k * 5) ?_ _ p1 _ Tryz.underlying32 rfl ?_ ?_); (focus rfl); (focus rfl); (focus kernel_rfl); exact ⟨rfl, rfl, hx⟩)
              | ((with_reducible refine wpList_load_aggW (o := ⟨some 24, .load 32 (.tmp 23), _, _, _, _⟩) ?_ 32 _ rfl g2 (o2 + k * 5) ?_ _ p2 _ Tryz.underlying32 rfl ?_ ?_); (focus rfl); (focus rfl); (focus kernel_rfl); exact ⟨rfl, rfl, hx⟩)
              | ((with_reducible refine wpList_ne (o := ⟨some 25, .binOp .neq 32 (.tmp 20) (.tmp 24) _, _, _, _, none⟩) rfl _ _ _ rfl X Y ?_ ?_ ?_); (focus rfl); (focus rfl); exact ⟨rfl, rfl, hx⟩)
              | (go_wp2_with fail
                 exact ⟨rfl, rfl, hx⟩)
          go_frame
        intro w3 hx
        have hb3 : Below w.heap.size w w3 := Hbw.out.trans (below_mono hx Hbw.out.size)
        clear hx
        by_cases hXY : X = Y
        · simp only [hXY, decide_true, Bool.not_true]
          go_wp2_with fail
          refine ⟨⟨k + 1, hlt, by simp, ?_, hb3⟩, by simp [intOf]; omega⟩
          rw [S1.out, S2.out, Htk.out, hXY]
        · simp only [hXY, decide_false, Bool.not_false]
          go_wp2_with fail
          go_ret
          exact ⟨by rw [decide_eq_false (Hne.out hXY)]; rfl, hb3⟩
      · obtain rfl : k = b.length := by omega
        go_wp2
        go_ret
        rw [List.take_length, ← hlen, List.take_length] at htk
        exact ⟨by rw [decide_eq_true htk]; rfl, hbw⟩
  · go_enter Tryz.func9, Tryz.ntmps9
    go_wp2
    go_ret
    exact ⟨by rw [decide_eq_false (fun e => hlen (by rw [e]))]; rfl, Below.refl _ _⟩
end Go.Proofs.Seat7
end
section
namespace Go.Proofs.Seat7
open Go.RowKit Go.Proofs.Seat4
def greatM (l : List Mt) : Bool := (decide (40 < l.length) && decide (l.length ≤ 500)) || (l.take 40).any fun m => decide (40 < m.name.length)
set_option maxRecDepth 100000 in
set_option maxHeartbeats 1000000 in
theorem great5 (l : List Mt) (v : Value) (w : World) (hl : LV ME w v l) : Calls Tryz.prog 5 #[v] w fun e w' => e = .returned (.bool (greatM l)) ∧ Below w.heap.size w w' := by
  obtain ⟨A, c, rfl, _, hr⟩ := hl
  by_cases h1 : (40 : Int) < (l.length : Int)
  · by_cases h2 : (l.length : Int) ≤ 500
    · have hg : greatM l = true := by
        unfold greatM
        rw [show decide (40 < l.length) = true from decide_eq_true (by omega), show decide (l.length ≤ 500) = true from decide_eq_true (by omega)]
        rfl
      rw [hg]
      clear hr
      go_enter Tryz.func5, Tryz.ntmps5
      go_wp2
      go_ret
      exact ⟨rfl, Below.refl _ _⟩
    · have hg : greatM l = (l.take 40).any fun m => decide (40 < m.name.length) := by
        unfold greatM
        rw [show (decide (40 < l.length) && decide (l.length ≤ 500)) = false from by simp; omega]
        rfl
      rw [hg]
      have Hr := Lib.hid hr
      clear hr hg
      go_enter Tryz.func5, Tryz.ntmps5
      go_wp2
      go_loopw [3] (fun v wr => ∃ k : Nat, k ≤ l.length ∧ k ≤ 40 ∧ v = .int .i64 k ∧ ((l.take k).any fun m => decide (40 < m.name.length)) = false ∧ w = wr) (fun v _ => l.length - (intOf v).toNat)
      case atStart => exact ⟨0, Nat.zero_le _, Nat.zero_le _, rfl, rfl, rfl⟩
      case round =>
        obtain ⟨k, hk, hk40, rfl, hov, rfl⟩ := hrel
        by_cases hlt : k < l.length
        · by_cases hl4 : k < 40
          · obtain ⟨g, off, rfl, hgb, hat⟩ := Hr.out (fun e => by rw [e] at hlt; exact absurd hlt (Nat.not_lt_zero _))
            have hsn := take_snoc l k hlt
            have hrow : Row w g (off + k * 5) (mtCells l[k]) := hat k hlt
            have hmem : (40 < (l[k]).name.length) → ((l.take 40).any fun m => decide (40 < m.name.length)) = true := fun h => List.any_eq_true.2 ⟨l[k], by rw [List.mem_take_iff_getElem]; exact ⟨k, by omega, rfl⟩, decide_eq_true h⟩
            generalize hM : l[k] = M at *
            have q0 : w.cell? ⟨g, off + k * 5, none⟩ = some (.string ⟨M.name.toArray⟩) := by simpa using hrow 0 _ rfl
            have Hsn := Lib.hid hsn
            have Hov := Lib.hid hov
            have Hmem := Lib.hid hmem
            clear hrow hat hsn hov hM hmem
            by_cases hn : (40 : Int) < (M.name.length : Int)
            · go_wp2
              go_ret
              exact ⟨by rw [Hmem.out (by omega)]; rfl, Below.refl _ _⟩
            · go_wp2
              refine ⟨⟨k + 1, hlt, hl4, by simp, ?_⟩, by simp [intOf]; omega⟩
              rw [Hsn.out, List.any_append, Hov.out]
              simp
              omega
          · have h40 : k = 40 := by omega
            subst h40
            go_wp2
            go_ret
            exact ⟨by rw [hov]; rfl, Below.refl _ _⟩
        · obtain rfl : k = l.length := by omega
          rw [List.take_length] at hov
          have hov' : ((l.take 40).any fun m => decide (40 < m.name.length)) = false := by rw [List.take_of_length_le hk40]; exact hov
          go_wp2
          go_ret
          exact ⟨by rw [hov']; rfl, Below.refl _ _⟩
  · have hg : greatM l = (l.take 40).any fun m => decide (40 < m.name.length) := by
      unfold greatM
      rw [show (decide (40 < l.length) && decide (l.length ≤ 500)) = false from by simp; omega]
      rfl
    rw [hg]
    have Hr := Lib.hid hr
    clear hr hg
    go_enter Tryz.func5, Tryz.ntmps5
    go_wp2
    go_loopw [3] (fun v wr => ∃ k : Nat, k ≤ l.length ∧ k ≤ 40 ∧ v = .int .i64 k ∧ ((l.take k).any fun m => decide (40 < m.name.length)) = false ∧ w = wr) (fun v _ => l.length - (intOf v).toNat)
    case atStart => exact ⟨0, Nat.zero_le _, Nat.zero_le _, rfl, rfl, rfl⟩
    case round =>
      obtain ⟨k, hk, hk40, rfl, hov, rfl⟩ := hrel
      by_cases hlt : k < l.length
      · by_cases hl4 : k < 40
        · obtain ⟨g, off, rfl, hgb, hat⟩ := Hr.out (fun e => by rw [e] at hlt; exact absurd hlt (Nat.not_lt_zero _))
          have hsn := take_snoc l k hlt
          have hrow : Row w g (off + k * 5) (mtCells l[k]) := hat k hlt
          have hmem : (40 < (l[k]).name.length) → ((l.take 40).any fun m => decide (40 < m.name.length)) = true := fun h => List.any_eq_true.2 ⟨l[k], by rw [List.mem_take_iff_getElem]; exact ⟨k, by omega, rfl⟩, decide_eq_true h⟩
          generalize hM : l[k] = M at *
          have q0 : w.cell? ⟨g, off + k * 5, none⟩ = some (.string ⟨M.name.toArray⟩) := by simpa using hrow 0 _ rfl
          have Hsn := Lib.hid hsn
          have Hov := Lib.hid hov
          have Hmem := Lib.hid hmem
          clear hrow hat hsn hov hM hmem
          by_cases hn : (40 : Int) < (M.name.length : Int)
          · go_wp2
            go_ret
            exact ⟨by rw [Hmem.out (by omega)]; rfl, Below.refl _ _⟩
          · go_wp2
            refine ⟨⟨k + 1, hlt, hl4, by simp, ?_⟩, by simp [intOf]; omega⟩
            rw [Hsn.out, List.any_append, Hov.out]
            simp
            omega
        · have h40 : k = 40 := by omega
          omega
      · obtain rfl : k = l.length := by omega
        rw [List.take_length] at hov
        have hov' : ((l.take 40).any fun m => decide (40 < m.name.length)) = false := by rw [List.take_of_length_le hk40]; exact hov
        go_wp2
        go_ret
        exact ⟨by rw [hov']; rfl, Below.refl _ _⟩
end Go.Proofs.Seat7
end
section
namespace Go.Proofs.Seat4
open Go.RowKit
open Go.Proofs
set_option maxHeartbeats 800000 in
theorem run1_idle (p : Addr) (w : World) :
    CallsDIn Fence.wide 0 Tryz.prog 399 #[.pointer (some p)] .returning w fun e u' w' => e = .returned (.tuple #[]) ∧ u' = .returning ∧ w' = w := by
  refine callsDIn_of_wpSIn Tryz.func399 rfl trivial fun c₀ cs hu => ?_
  simp only [Tryz.ntmps399, List.size_toArray, List.length_cons, List.length_nil, Nat.reduceAdd, Nat.reduceSub, Array.replicate_succ, Array.replicate_zero, List.push_toArray, List.append_toArray, List.nil_append, List.cons_append]
  apply wpSIn_seq
  apply wpSIn_region
  simp [wpOpsSIn, go_sem, recoverD, hu, Tryz.ntmps399, Exit.thenS]
  refine wpSIn_of_wpIn rfl ?_
  gi_wp2
  cases c₀
  simp_all [bodyPostS, results, Tryz.results399]
theorem ta1 (x y z : Int) (w : World) : (Instr.typeAssert (.iface 451 (.agg #[.int .i64 x, .int .i64 y, .int .i64 z])) 20 449 true).run Tryz.prog w = .ok (.tuple #[.int .i64 0, .bool false]) w := by kernel_rfl
theorem ta2 (x y z : Int) (w : World) : (Instr.typeAssert (.iface 451 (.agg #[.int .i64 x, .int .i64 y, .int .i64 z])) 20 451 true).run Tryz.prog w = .ok (.tuple #[.agg #[.int .i64 x, .int .i64 y, .int .i64 z], .bool true]) w := by kernel_rfl
set_option maxHeartbeats 800000 in
theorem run1_stop (b o : Nat) (x y z : Int) (w : World) (v0 v1 v2 : Value) (h0 : w.cell? ⟨b, o, none⟩ = some v0) (h1 : w.cell? ⟨b, o + 1, none⟩ = some v1) (h2 : w.cell? ⟨b, o + 2, none⟩ = some v2)
    (z0 : w.frozen? ⟨b, o, none⟩ = false) (z1 : w.frozen? ⟨b, o + 1, none⟩ = false) (z2 : w.frozen? ⟨b, o + 2, none⟩ = false) (hb : b < w.heap.size) :
    CallsDIn Fence.wide 0 Tryz.prog 399 #[.pointer (some ⟨b, o, none⟩)] (.panicking [{ v := .iface 451 (.agg #[.int .i64 x, .int .i64 y, .int .i64 z]), recovered := false }]) w fun e u' w' => e = .returned (.tuple #[]) ∧
      u' = .panicking [{ v := .iface 451 (.agg #[.int .i64 x, .int .i64 y, .int .i64 z]), recovered := true }] ∧ w' = (w.setCells b o [.int .i64 x, .int .i64 y, .int .i64 z]).alloc (.cells #[.int .i64 x, .int .i64 y, .int .i64 z] 451) := by
  refine callsDIn_of_wpSIn Tryz.func399 rfl trivial fun c₀ cs hu => ?_
  simp only [Tryz.ntmps399, List.size_toArray, List.length_cons, List.length_nil, Nat.reduceAdd, Nat.reduceSub, Array.replicate_succ, Array.replicate_zero, List.push_toArray, List.append_toArray, List.nil_append, List.cons_append]
  apply wpSIn_seq
  apply wpSIn_region
  simp [wpOpsSIn, go_sem, recoverD, hu, Tryz.ntmps399, Exit.thenS]
  refine wpSIn_of_wpIn rfl ?_
  have hta := ta1 x y z
  have htb := ta2 x y z
  generalize hQ : bodyPostS Tryz.prog _ _ _ _ = Q
  have HQ := Lib.hid hQ
  clear hQ
  gi_wp2
  cases c₀
  rw [← HQ.out]
  simp_all [bodyPostS, results, Tryz.results399, World.setCells]
theorem stepAlloc {ri : Nat → Option Av.RInfo} {m : Av.M} {N : Av.Pos → Prop} {lim B : Nat} {H : Av.AH} {w : World} (h : Av.Rel ri m N N lim B H w) (ob : Obj) : Av.Step ri m N lim B H w m N H (w.alloc ob) :=
  ⟨h.world (fun b o hb ho => Av.getElem?_push_lt ((h.obj b o hb ho).lt)) (by rw [Av.alloc_size]; have := h.base; omega), Av.Agree.refl _ _, fun _ x => x, fun _ x => .inl x, (Below.refl _ _).alloc h.base _, fun _ _ x _ => x, Nat.le_refl _, Nat.le_refl _, fun x h1 h2 => absurd h2 (Nat.not_lt.2 h1), Av.Ext.refl _⟩
open Av in
noncomputable def dhR : DHook := fun lim xs u h k => Bool.rec (motive := fun _ => R CO) (.er [200]) ((lget xs 0).unPtr (fun b o => Option.rec (motive := fun _ => R CO) (k none h) (fun v => v.unIfc (fun t x =>
    Bool.rec (motive := fun _ => R CO) (.er [201]) (x.unAgg (fun l => (lget l 0).unInt (fun a => (lget l 1).unInt (fun b' => (lget l 2).unInt (fun c => Bool.rec (motive := fun _ => R CO) (.er [202]) (h.write lim b o [.int a, .int b', .int c] (fun h' => k none h')) (Nat.beq (llen l) 3)) (.er [202])) (.er [202])) (.er [202])) (.er [202])) (Nat.beq t 451)) (.er [201])) u) (.er [200])) (Nat.beq (llen xs) 1)
open Av in
theorem dhR_ok {ri : Nat → Option RInfo} : DhOK Tryz.prog ri 399 dhR := by
  intro m N lim B H w xs u k co hR hx hu h
  rcases bool_ok h with ⟨h1, h⟩ | ⟨_, h⟩
  · rw [llen_eq] at h1
    have h1 := beq_of h1
    match xs, h1, hx, h with
    | [a], _, hx, h =>
      rcases AV.unPtr_ok (show (lget [a] 0).unPtr _ _ = _ from h) with ⟨b, o, rfl, h⟩ | ⟨_, h⟩
      · refine ⟨run_callFunc Tryz.func399 rfl rfl, ?_⟩
        cases u with
        | none =>
          refine (run1_idle _ w).mono fun e u' w' hp => ?_
          obtain ⟨rfl, rfl, rfl⟩ := hp
          exact ⟨_, none, H, m, N, rfl, Step.refl hR, fun v hv => (by cases hv), rfl, h⟩
        | some v =>
          rcases AV.unIfc_ok (show AV.unIfc v _ _ = _ from h) with ⟨t, x, rfl, h⟩ | h
          · rcases bool_ok h with ⟨h2, h⟩ | ⟨_, h⟩
            · have h2 := beq_of h2
              subst h2
              rcases AV.unAgg_ok h with ⟨l, rfl, h⟩ | ⟨_, h⟩
              · rcases AV.unInt_ok h with ⟨a, e1, h⟩ | ⟨_, h⟩
                · rcases AV.unInt_ok h with ⟨b', e2, h⟩ | ⟨_, h⟩
                  · rcases AV.unInt_ok h with ⟨c, e3, h⟩ | ⟨_, h⟩
                    · rcases bool_ok h with ⟨h3, h⟩ | ⟨_, h⟩
                      · rw [llen_eq] at h3
                        have h3 := beq_of h3
                        match l, h3, e1, e2, e3 with
                        | [l0, l1, l2], _, e1, e2, e3 =>
                          cases (show l0 = _ from e1)
                          cases (show l1 = _ from e2)
                          cases (show l2 = _ from e3)
                          obtain ⟨l, ty, root, ab, g, birth, w1, w2, w3, w4⟩ := write_ok h
                          have hN : N b := hx.1
                          have hob := hR.obj b _ hN w1
                          have w3' : o + 3 ≤ l.length := w3
                          have g0 : w.cell? ⟨m.ad b, m.off b + o, none⟩ = some (conc m l[o]) := cell_of hob (List.getElem?_eq_getElem (by omega))
                          have g1 : w.cell? ⟨m.ad b, m.off b + o + 1, none⟩ = some (conc m l[o + 1]) := by rw [Nat.add_assoc]; exact cell_of hob (List.getElem?_eq_getElem (by omega))
                          have g2 : w.cell? ⟨m.ad b, m.off b + o + 2, none⟩ = some (conc m l[o + 2]) := by rw [Nat.add_assoc]; exact cell_of hob (List.getElem?_eq_getElem (by omega))
                          have y0 : w.frozen? ⟨m.ad b, m.off b + o, none⟩ = false := frozen_of hob (by omega)
                          have y1 : w.frozen? ⟨m.ad b, m.off b + o + 1, none⟩ = false := by rw [Nat.add_assoc]; exact frozen_of hob (by omega)
                          have y2 : w.frozen? ⟨m.ad b, m.off b + o + 2, none⟩ = false := by rw [Nat.add_assoc]; exact frozen_of hob (by omega)
                          refine CallsDIn.mono (run1_stop (m.ad b) (m.off b + o) a b' c w _ _ _ g0 g1 g2 y0 y1 y2 hob.lt) fun e u' w' hp => ?_
                          obtain ⟨rfl, rfl, rfl⟩ := hp
                          have s1 := Step.wrote hR (o := o) (vs := [.int a, .int b', .int c]) hN w1 w2 w3 (fun x hx => by
                            rcases List.mem_cons.1 hx with rfl | hx
                            · exact ⟨rfl, trivial⟩
                            · rcases List.mem_cons.1 hx with rfl | hx
                              · exact ⟨rfl, trivial⟩
                              · rcases List.mem_cons.1 hx with rfl | hx
                                · exact ⟨rfl, trivial⟩
                                · cases hx)
                          exact ⟨_, none, _, m, N, rfl, s1.trans (stepAlloc s1.rel _), fun v hv => (by cases hv), rfl, w4⟩
                      · cases h
                    · cases h
                  · cases h
                · cases h
              · cases h
            · cases h
          · cases h
      · cases h
  · cases h
end Go.Proofs.Seat4
end
section
namespace AvT
open Go Go.Proofs Av
open Go.Proofs.Seat7 (mtAV mtsOf esOf sortT ascT goodT textK chk mtCells)
section
variable {ri : Nat → Option RInfo} {m : M} {N : Pos → Prop} {lim B : Nat} {H : AH} {w w' : World}
theorem rel_newAt (h : Rel ri m N N lim B H w) {o : AObj} {g c : Nat} (hb : o.birth = H.cnt) (hr : ∀ l ty root ab g birth, o = .cells l ty root ab g birth → root = H.nx)
    (hw : RowKit.Below w.heap.size w w') (hg : w.heap.size ≤ g) (ho : LObj ri (m.set H.nx g 0 c) (more N H.nx) H.nx w' o) :
    Rel ri (m.set H.nx g 0 c) (more N H.nx) (more N H.nx) lim B (H.fresh o) w' := by
  have hnx := h.nx
  have ha : Agree N m (m.set H.nx g 0 c) := Agree.set hnx m _ _ _
  have hne : ∀ b, N b → b ≠ H.nx := fun b hb e => hnx (e ▸ hb)
  have hold : ∀ b x, N b → PT.get b (H.fresh o).bl = some x → PT.get b H.bl = some x := fun b x hb hx => by rwa [fresh_bl, if_neg (hne b hb)] at hx
  have hlt : ∀ b x, N b → PT.get b H.bl = some x → m.ad b < w.heap.size := fun b x hb hx => (h.obj b x hb hx).lt
  refine ⟨fun b hb => ?_, fun b hb => hb, fun b x hb hx => ?_, fun b x hb hx hl => ?_, fun b b' x x' hb hb' hx hx' hne' had => ?_, h.wf.fresh hb hr, ?_⟩
  · rw [fresh_nx, Pos.num_succ]
    rcases hb with hb | rfl
    · have := h.lt b hb; omega
    · omega
  · rcases hb with hb | rfl
    · have hx' := hold b x hb hx
      exact (h.obj b x hb hx').keep hb ha (fun _ y => .inl y) (hw.block _ (hlt b x hb hx'))
    · rw [fresh_bl, if_pos rfl] at hx
      cases hx
      exact ho
  · rcases hb with hb | rfl
    · rw [ha.ad b hb]
      exact h.perm b x hb (hold b x hb hx) hl
    · rw [M.set_ad]; exact Nat.le_trans h.base hg
  · rcases hb with hb | rfl
    · rcases hb' with hb' | rfl
      · rw [ha.ad b hb, ha.ad b' hb'] at had
        obtain ⟨l, ty, root, ab, g, birth, l', ty', ab', g', birth', f1, f2, f6⟩ := h.apart b b' x x' hb hb' (hold b x hb hx) (hold b' x' hb' hx') hne' had
        refine ⟨l, ty, root, ab, g, birth, l', ty', ab', g', birth', ?_, ?_, ?_⟩
        · rw [fresh_bl, if_neg (hne b hb)]; exact f1
        · rw [fresh_bl, if_neg (hne b' hb')]; exact f2
        · rw [ha.off b hb, ha.off b' hb']; exact f6
      · rw [ha.ad b hb, M.set_ad] at had
        have := hlt b x hb (hold b x hb hx)
        omega
    · rcases hb' with hb' | rfl
      · rw [ha.ad b' hb', M.set_ad] at had
        have := hlt b' x' hb' (hold b' x' hb' hx')
        omega
      · exact absurd rfl hne'
  · exact Nat.le_trans h.base hw.size
theorem step_newAt (h : Rel ri m N N lim B H w) {l : List AV} {ty gz g c : Nat} {cs : Array Value} {fz : Nat × Nat} (hw : RowKit.Below w.heap.size w w') (hg : w.heap.size ≤ g) (ho : w'.heap[g]? = some (.cells cs ty fz))
    (hcs : ∀ (i : Nat) (x : AV), l[i]? = some x → cs[i]? = some (conc m x)) (hl : ∀ x ∈ l, sc x = true ∧ okV m N x)
    (hfz : ∀ i, i < cs.size → ¬ (fz.1 ≤ i ∧ i < fz.2)) (hgz : gz ≠ 0 → c * gz ≤ cs.size ∧ l.length ≤ c * gz) :
    Step ri m N lim B H w (m.set H.nx g 0 c) (more N H.nx) (newCells H l ty gz) w' := by
  have ha : Agree N m (m.set H.nx g 0 c) := Agree.set h.nx m _ _ _
  rw [newCells_eq]
  have hrel := rel_newAt (g := g) (c := c) h (o := .cells l ty H.nx 0 gz H.cnt) rfl (fun _ _ _ _ _ _ e => by cases e; rfl) hw hg ⟨cs, fz, by rw [M.set_ad]; exact ho, fun i x hx => by rw [M.set_off, Nat.zero_add, hcs i x hx, conc_agree ha x (hl x (List.mem_of_getElem? hx)).2],
    fun x hx => ⟨(hl x hx).1, okV_agree ha (fun _ y => .inl y) x (hl x hx).2⟩, hfz, fun hg' => by rw [M.set_off, M.set_cap, Nat.zero_add]; exact hgz hg'⟩
  refine ⟨hrel, ha, fun x hx => .inl hx, fun x hx => ?_, ⟨hw.os, hw.tape, hw.output, hw.size, fun k hk => hw.block k (Nat.lt_of_lt_of_le hk h.base)⟩, Keep.fresh h.wf _ lim, ?_, ?_, fun x h1 h2 => ?_, Ext.fresh H rfl⟩
  · rcases hx with hx | rfl
    · exact .inl hx
    · exact .inr ⟨Nat.le_refl _, by rw [M.set_ad]; exact Nat.le_trans h.base hg⟩
  · rw [fresh_nx, Pos.num_succ]; omega
  · rw [fresh_cnt]; omega
  · rw [fresh_nx, Pos.num_succ] at h2
    exact .inr (Pos.num_inj (by omega))
end
theorem step_below {ri : Nat → Option RInfo} {m : M} {N : Pos → Prop} {lim B : Nat} {H : AH} {w w' : World} (h : Rel ri m N N lim B H w) (hw : RowKit.Below w.heap.size w w') : Step ri m N lim B H w m N H w' :=
  ⟨h.world (fun b o hb ho => hw.block _ ((h.obj b o hb ho).lt)) (Nat.le_trans h.base hw.size), Agree.refl _ _, fun _ x => x, fun _ x => .inl x, hw.mono h.base, fun _ _ x _ => x, Nat.le_refl _, Nat.le_refl _, fun x h1 h2 => absurd h2 (Nat.not_lt.2 h1), Ext.refl _⟩
noncomputable def hkS : Hook := fun _ xs h => List.rec (motive := fun _ => R CO) (.er [207]) (fun x r _ => List.rec (motive := fun _ => R CO) (x.unMap (.er [204]) (fun b => h.mapOf b (fun es clock _ =>
   Option.rec (motive := fun _ => R CO) (.er [209]) (fun ms => Bool.rec (motive := fun _ => R CO) (.er [206]) (.ok (.ret (.su h.nx 0 es.length 0) (newCells h ((sortT ms).flatMap mtAV) 32 5)))
     (band (Nat.beq clock es.length) (band (Nat.ble 1 es.length) (band (Nat.ble es.length 100) (ascT (sortT ms)))))) (esOf es 0)) (.er [203])) (.er [204])) (fun _ _ _ => .er [208]) r) xs
theorem hkS_ok {ri : Nat → Option RInfo} : HkOK Tryz.prog ri 18 hkS := by
  intro m N lim B H w xs co hR hx hk
  match xs, hx, hk with
  | [], _, hk => cases hk
  | _ :: _ :: _, _, hk => cases hk
  | [x], hx, hk =>
    change x.unMap _ _ _ = _ at hk
    rcases AV.unMap_ok hk with ⟨_, h⟩ | ⟨b, rfl, h⟩ | h
    · cases h
    · obtain ⟨es, clock, birth, hb, h⟩ := mapOf_ok h
      cases hes : esOf es 0 with
      | none => rw [hes] at h; cases h
      | some ms =>
        rw [hes] at h
        change Bool.rec (motive := fun _ => R CO) _ _ _ = _ at h
        cases ht : band (Nat.beq clock es.length) (band (Nat.ble 1 es.length) (band (Nat.ble es.length 100) (ascT (sortT ms)))) with
        | false => rw [ht] at h; cases h
        | true =>
          rw [ht] at h
          cases h
          obtain ⟨h1, ht⟩ := and_of ht
          obtain ⟨h2, ht⟩ := and_of ht
          obtain ⟨h3, h4⟩ := and_of ht
          have e1 := Nat.eq_of_beq_eq_true h1
          have e2 := Nat.le_of_ble_eq_true h2
          have e3 := Nat.le_of_ble_eq_true h3
          obtain ⟨d, g1, g2, g3⟩ := Go.Proofs.Seat7.esOf_ok m es 0 ms hes
          have hN : N b := hx.1
          have hobj := (hR.obj b _ hN hb).1
          rw [g1, e1] at hobj
          have hM : Go.Proofs.Seat4.MapIs w (m.ad b) (d.map Go.Proofs.Seat7.kmKV) := by
            show _ = some _
            rw [List.length_map, g3]
            exact hobj
          have hc := Go.Proofs.Seat7.sorted18 d (m.ad b) w hM (by omega)
          refine ⟨enters_of Tryz.func18 (by kernel_rfl) rfl _ _, callsIn_wide.2 (hc.mono fun e w' hp => ?_)⟩
          obtain ⟨v, D, rfl, p1, p2, p3, p6⟩ := hp
          rw [g2] at p1
          obtain rfl := Go.Proofs.Seat7.sorted_eq p1 p2 h4
          have hlen2 : (sortT ms).length = es.length := by
            rw [p1.length_eq, ← g2, List.length_map, g3]
          have hlen : ((sortT ms).flatMap mtAV).length = es.length * 5 := by
            rw [Go.Proofs.Seat7.flatN_len 5 _ (fun _ => rfl), hlen2]
          have hmap : (sortT ms).flatMap mtCells = ((sortT ms).flatMap mtAV).map (conc m) := by
            rw [List.map_flatMap]
            rfl
          rcases p3.2 with ⟨_, h0⟩ | ⟨g, cap, cur, rfl, q1, q2, q3, q4, q5, q6⟩
          · rw [List.length_map] at h0; omega
          · rw [List.length_map, g3] at q3 q6
            have hst := step_newAt hR (l := (sortT ms).flatMap mtAV) (ty := 32) (gz := 5) (c := cap) p6 q1 q2 (fun i x hi => ?_) (fun x hi => ?_) (fun i _ => by simp) (fun _ => ⟨by omega, by rw [hlen]; omega⟩)
            · refine ⟨_, _, hst, ⟨.inr rfl, ?_⟩, ?_⟩
              · rw [M.set_cap]; omega
              · simp only [conc, M.set_ad, M.set_off, M.set_cap, List.length_map, g3, Nat.sub_zero]
            · have hi' : i < es.length * 5 := by rw [← hlen]; exact (List.getElem?_eq_some_iff.1 hi).1
              have q7 : (cur.toList.take (es.length * 5))[i]? = some (conc m x) := by rw [q6, hmap, List.getElem?_map, hi]; rfl
              rw [List.getElem?_take, if_pos hi', Array.getElem?_toList] at q7
              exact q7
            · obtain ⟨a, _, ha⟩ := List.mem_flatMap.1 hi
              simp only [mtAV, List.mem_cons, List.not_mem_nil, or_false] at ha
              rcases ha with rfl | rfl | rfl | rfl | rfl <;> exact ⟨rfl, trivial⟩
    · cases h
noncomputable def goP (h : AH) (b : Pos) (o n : Nat) (q : Bool) : R CO := h.read b o (n * 5) fun l => Option.rec (motive := fun _ => R CO) (.er [215]) (fun ms => Bool.rec (motive := fun _ => R CO) (.er [216]) (.ok (.ret (.tup [.str (textK ms), .int (.ofNat 0)]) h))
   (band q (band (Nat.beq ms.length n) (band (Nat.ble n 100) (band (Nat.ble (textK ms).length 1000000) (band (goodT ms) (decide (chk ms = 0)))))))) (mtsOf l)
noncomputable def hkP : Hook := fun _ xs h => List.rec (motive := fun _ => R CO) (.er [217]) (fun x r _ => List.rec (motive := fun _ => R CO) (x.unSl (.er [214]) (fun b o n c => goP h b o n (Nat.ble n c)) (fun b o n _ => goP h b o n true) (.er [214])) (fun _ _ _ => .er [218]) r) xs
theorem goP_ok {ri : Nat → Option RInfo} {m : M} {N : Pos → Prop} {lim B : Nat} {H : AH} {w : World} {co : CO} {b : Pos} {o n : Nat} {q : Bool} (hR : Rel ri m N N lim B H w) (hN : N b) (h : goP H b o n q = .ok co) (cap : Nat) (hq : q = true → n ≤ cap) :
    CallsIn Fence.wide 0 Tryz.prog 16 #[.slice (some ⟨m.ad b, m.off b + o, none⟩) n cap] w (CoR ri m N lim B H w co) := by
  obtain ⟨l, ty, root, ab, g, birth, hb, h1, h, h2⟩ := read_ok h
  cases hms : mtsOf ((l.drop o).take (n * 5)) with
  | none => rw [hms] at h; cases h
  | some ms =>
    rw [hms] at h
    change Bool.rec (motive := fun _ => R CO) _ _ _ = _ at h
    cases ht : band q (band (Nat.beq ms.length n) (band (Nat.ble n 100) (band (Nat.ble (textK ms).length 1000000) (band (goodT ms) (decide (chk ms = 0)))))) with
    | false => rw [ht] at h; cases h
    | true =>
      rw [ht] at h
      cases h
      obtain ⟨t1, ht⟩ := and_of ht
      obtain ⟨t2, ht⟩ := and_of ht
      obtain ⟨t3, ht⟩ := and_of ht
      obtain ⟨t4, ht⟩ := and_of ht
      obtain ⟨t5, t6⟩ := and_of ht
      have e1 := Nat.eq_of_beq_eq_true t2
      have e2 := Nat.le_of_ble_eq_true t3
      have e3 := Nat.le_of_ble_eq_true t4
      have e4 := of_decide_eq_true t6
      have hl := Go.Proofs.Seat7.mtsOf_ok _ _ hms
      rw [Go.Proofs.Seat7.textK_eq t5] at e3 ⊢
      obtain ⟨cs, fz, c1, c2, c3, c4, c5⟩ := hR.obj b _ hN hb
      have hbl : m.ad b < w.heap.size := (Array.getElem?_eq_some_iff.1 c1).1
      have hrow : Go.Proofs.Seat7.LAt Go.Proofs.Seat7.ME w (m.ad b) (m.off b + o) ms := by
        refine Go.Proofs.Seat7.lAt_of_row fun t v hv => ?_
        have hlen : (Go.Proofs.Seat7.ME.all ms).length = n * 5 := by rw [Go.Proofs.Seat7.Enc.all_len, e1]; rfl
        have ht' : t < n * 5 := by rw [← hlen]; exact (List.getElem?_eq_some_iff.1 hv).1
        have hmap : Go.Proofs.Seat7.ME.all ms = (ms.flatMap mtAV).map (conc m) := by
          rw [List.map_flatMap]
          rfl
        rw [hmap, List.getElem?_map] at hv
        obtain ⟨x, hx, rfl⟩ := Option.map_eq_some_iff.1 hv
        have hx' : l[o + t]? = some x := by
          rw [← hx, ← hl, List.getElem?_take, if_pos ht', List.getElem?_drop]
        have hc := c2 (o + t) _ hx'
        simp only [World.cell?, c1, Nat.add_assoc, hc]
        rfl
      have hcon := Go.Proofs.Seat7.print16 ms (m.ad b) (m.off b + o) cap w hbl (by omega) (by have := hq t1; omega) hrow e4 e3 (fun x hx k hk => Go.Proofs.Seat7.itoaAt_small (Go.Proofs.Seat7.goodT_ok t5 x hx k hk) w)
      rw [e1] at hcon
      refine callsIn_wide.2 (hcon.mono fun e w' hp => ?_)
      obtain ⟨rfl, hbw⟩ := hp
      exact ⟨m, N, step_below hR hbw, ⟨trivial, trivial, trivial⟩, rfl⟩
theorem hkP_ok {ri : Nat → Option RInfo} : HkOK Tryz.prog ri 16 hkP := by
  intro m N lim B H w xs co hR hx hk
  match xs, hx, hk with
  | [], _, hk => cases hk
  | _ :: _ :: _, _, hk => cases hk
  | [x], hx, hk =>
    change x.unSl _ _ _ _ = _ at hk
    rcases AV.unSl_ok hk with ⟨_, h⟩ | ⟨b, o, n, c, rfl, h⟩ | ⟨b, o, n, c, rfl, h⟩ | h
    · cases h
    · exact ⟨enters_of Tryz.func16 (by kernel_rfl) rfl _ _, goP_ok hR hx.1 h c fun hq => Nat.le_of_ble_eq_true hq⟩
    · refine ⟨enters_of Tryz.func16 (by kernel_rfl) rfl _ _, goP_ok hR hx.1.1 h _ fun _ => ?_⟩
      have := hx.1.2
      omega
    · cases h
theorem hks_ok {ri : Nat → Option RInfo} : ∀ x ∈ [(18, hkS), (16, hkP)], HkOK Tryz.prog ri x.1 x.2 := fun x hx => by
  rcases List.mem_cons.1 hx with rfl | hx
  · exact hkS_ok
  · cases List.mem_singleton.1 hx
    exact hkP_ok
end AvT
end
section
namespace Go.Proofs.Seat7
open Go Go.Joins Go.ChangeShapes Go.WideShapes Go.RowKit Go.Deep Go.Proofs.Seat4
open Go.Proofs.YtfekipocjifehaaGreatDoor (Rows.metricsMergeRow)
theorem own : ownKnob Tryz.prog.godebug = none := by kernel_rfl
theorem laidOut : laidOutB Tryz.prog = true := by kernel_rfl
theorem returns_laid_shaped {H : Type} {enc : TypeId × Value → H} {a : Assume} {C : Checked} {os : Os} {f : FuncId} {fn : Func} {s : ChangeSpec} {conds : List PathCond} {apart fresh handsOn again : Bool} {X : World → Array Value → Prop}
    (hX : ∀ (w w' : World) (args : Array Value), w.heap = w'.heap → X w args → X w' args)
    (own : ownKnob C.prog.godebug = none) (started : os.Started) (noInit : C.prog.inits.idxOf? f = none) (hfn : C.prog.funcs[f]? = some fn)
    (witness : ∃ (w : World) (tape : Tape) (i : Input), w.os = os ∧ (w.forCall tape i).Shaped C.prog ∧ i.vars = [] ∧ Input.okWide C.prog (w.forCall tape i) .any w.heap.size f i ∧
      ((s.pre enc C.prog fn conds apart (w.forCall tape i).memory i.args ∧ X (w.forCall tape i).memory i.args) ∧ sizedMet enc C.prog fn (OpenSpec.ofChange s) apart (w.forCall tape i).memory i.args) ∧ a.holds C.prog (lone (Frame.enter C.prog f i.args .normal) [] (w.forCall tape i)))
    (contract : ∀ (W : World) (base : Nat) (args : Array Value) (ds gs : List (DataW H)) (before : List MemPlace),
      (∀ (j : Nat) t v, fn.params[j]? = some t → args[j]? = some v → Value.okWide C.prog W .any base t v) →
      DataW.Whole enc C.prog fn.params.toList s.vars apart W args.toList ds gs before → X W args → W.ShapedOpen C.prog →
      Calls C.prog f args W fun e W' => ∃ v, e = .returned v ∧ s.post enc C.prog fn apart fresh handsOn again W args v W') :
    ReturnsInHanded a C os f .any (fun w args => (s.pre enc C.prog fn conds apart w args ∧ X w args) ∧ sizedMet enc C.prog fn (OpenSpec.ofChange s) apart w args) (s.post enc C.prog fn apart fresh handsOn again) := by
  refine returnsInHanded_of_calls own started noInit witness ?_
  intro w tape i _ hsh _ hok hpre _
  obtain ⟨_, _, _, fn', hfn', _, _, _, _, hval⟩ := hok
  obtain rfl : fn' = fn := Option.some.inj (hfn'.symm.trans hfn)
  obtain ⟨⟨⟨ds, gs, before, hw, _⟩, hx⟩, _⟩ := hpre
  refine (contract (w.forCall tape i) w.heap.size i.args ds gs before hval (DataW.Whole.of_heap (w' := w.forCall tape i) (by rfl) hw) (hX _ _ _ (by rfl) hx) hsh).mono fun e W' ⟨v, he, hp⟩ => ?_
  subst he
  exact ChangeSpec.post_blind hp
section
variable {H : Type} {enc : TypeId × Value → H} {w : World} {base : Nat} {spare : Nat → Bool} {held : Bool}
def mtData (H : Type) (e : Mt) : DataW H := .agg [.lit (.string e.name), .lit (.int .i64 e.index), .lit (.int .i64 e.count), .lit (.int .i64 e.sum), .lit (.int .i64 e.mx)]
theorem mt_hone : ∃ fs : Array Field, Tryz.prog.underlying 32 = some (.struct fs) ∧ fs.size = 5 ∧ oneCellFields Tryz.prog fs = true ∧ ∀ (j : Nat) (f : Field), fs[j]? = some f → f.type = if j = 0 then 9 else 3 := by
  refine ⟨_, Tryz.underlying32, rfl, by kernel_rfl, ?_⟩
  intro j f h
  match j, h with
  | 0, h => cases h; rfl
  | 1, h => cases h; rfl
  | 2, h => cases h; rfl
  | 3, h => cases h; rfl
  | 4, h => cases h; rfl
  | j + 5, h => simp at h
set_option maxRecDepth 100000 in
theorem trod_mt {fuel : Nat} {cs : List Value} {x : DataW H × List MemPlace} (h : DataW.trod enc Tryz.prog w base spare held fuel 32 cs = some x) : ∃ e : Mt, cs = mtCells e := by
  obtain ⟨fs, hs, hsz8, hone, hty⟩ := mt_hone
  have hC : Tryz.prog.cellsOf 32 = 5 := by kernel_rfl
  obtain ⟨xs, n, _, hx, hcl, hlen, hg⟩ := DataW.trod_struct hs h
  match cs, hcl.trans hC with
  | [c0, c1, c2, c3, c4], _ =>
    match xs, hlen.trans hsz8 with
    | [x0, x1, x2, x3, x4], _ =>
      have get : ∀ (j : Nat) (hj : j < 5) (c : Value) (x : DataW H × List MemPlace), [c0, c1, c2, c3, c4][j]? = some c → [x0, x1, x2, x3, x4][j]? = some x → ∃ f', DataW.trod enc Tryz.prog w base spare held f' (if j = 0 then 9 else 3) [c] = some x := by
        intro j hj c x hc hx
        have hjf : fs[j]? = some (fs[j]'(by omega)) := Array.getElem?_eq_getElem (by omega)
        obtain ⟨ho, hk⟩ := hone_of hone j _ hjf
        have hgj := hg j _ hjf
        rw [ho, hk, hty j _ hjf] at hgj
        have hdt : ([c0, c1, c2, c3, c4].drop j).take 1 = [c] := by
          have hjl : j < [c0, c1, c2, c3, c4].length := hj
          rw [List.drop_eq_getElem_cons hjl]
          rw [List.getElem?_eq_getElem hjl] at hc
          rw [Option.some.inj hc]
          rfl
        rw [hdt, hx] at hgj
        exact ⟨_, hgj⟩
      have key : ∀ (j : Nat) (hj : j < 5) (h0 : j ≠ 0) (c : Value) (x : DataW H × List MemPlace), [c0, c1, c2, c3, c4][j]? = some c → [x0, x1, x2, x3, x4][j]? = some x → ∃ k, c = .int .i64 k := by
        intro j hj h0 c x hc hx
        obtain ⟨f', hf⟩ := get j hj c x hc hx
        rw [if_neg h0] at hf
        obtain ⟨k, e1, _, _⟩ := DataW.trod_int Tryz.underlying3 hf
        exact ⟨k, by simpa using e1⟩
      obtain ⟨f0, hf0⟩ := get 0 (by decide) c0 x0 rfl rfl
      rw [if_pos rfl] at hf0
      obtain ⟨s0, e0, _, _⟩ := DataW.trod_string Tryz.underlying9 hf0
      obtain rfl : c0 = .string s0 := by simpa using e0
      obtain ⟨k1, rfl⟩ := key 1 (by decide) (by decide) c1 x1 rfl rfl
      obtain ⟨k2, rfl⟩ := key 2 (by decide) (by decide) c2 x2 rfl rfl
      obtain ⟨k3, rfl⟩ := key 3 (by decide) (by decide) c3 x3 rfl rfl
      obtain ⟨k4, rfl⟩ := key 4 (by decide) (by decide) c4 x4 rfl rfl
      exact ⟨⟨s0.data.toList, k1, k2, k3, k4⟩, by simp [mtCells]⟩
set_option maxRecDepth 100000 in
theorem open_mts {v : Value} {d : DataW H} {p : List MemPlace} {r : Reach} {b0 : Nat} (hv : Value.okWide Tryz.prog w r b0 22 v) (h : DataW.Trod enc Tryz.prog w base spare held 22 v d p) : ∃ l : List Mt, LV ME w v l ∧ NilOk v := by
  obtain ⟨A0, len0, cap0, rfl⟩ := okWide_slice Tryz.underlying22 hv
  obtain ⟨fuel, hf⟩ := h
  rcases open_slice Tryz.underlying22 hf with ⟨hc, -⟩ | ⟨a, len, cap, m, n, D, Pl, hcs, hb, hl, hm, hmm, hx, hi⟩
  · have hc' : (Value.slice A0 len0 cap0) = .slice none 0 0 := by simpa [Value.cells] using hc
    rw [hc']
    exact ⟨[], LV.nil_ _ _ _ _, fun n c e => by cases e; rfl⟩
  · have hc' : (Value.slice A0 len0 cap0) = .slice (some a) len cap := by simpa [Value.cells] using hcs
    rw [hc']
    have hC : Tryz.prog.cellsOf 32 = 5 := by kernel_rfl
    rw [hC] at hi
    have hlm : len ≤ m := by rw [hmm]; split <;> omega
    have hev : ∀ i, i < len → ∃ e : Mt, w.cells? base (a.add (i * 5)) 5 = some (mtCells e) := by
      intro i hil
      obtain ⟨cs', h1, h2⟩ := hi i (by omega)
      obtain ⟨e, rfl⟩ := trod_mt h2
      exact ⟨e, h1⟩
    obtain ⟨f, hf2⟩ := choose_lt hev
    refine ⟨(List.range len).map f, ⟨some a, cap, by simp, by simpa using hl, fun hne => ?_⟩, fun n c e => by cases e⟩
    have h0 : 0 < len := by
      rcases Nat.eq_zero_or_pos len with h | h
      · subst h; exact absurd rfl hne
      · exact h
    have hcell : ∀ i, i < len → ∀ j v, (mtCells (f i))[j]? = some v → w.cell? (a.add (i * 5 + j)) = some v := by
      intro i hil j v hj
      obtain ⟨_, hlen, hat⟩ := World.cells?_some (hf2 i hil)
      have hj8 : j < 5 := by
        have := (List.getElem?_eq_some_iff.1 hj).1
        simpa [mtCells] using this
      have := hat j hj8
      rw [add_add] at this
      rw [this, hj]
    have hc0 : w.cell? a = some (.string ⟨(f 0).name.toArray⟩) := by
      have := hcell 0 h0 0 _ rfl
      simpa [Addr.add] using this
    have hsp : a.spot = none := by
      unfold World.cell? at hc0
      split at hc0
      · cases hs : a.spot with
        | none => rfl
        | some s => rw [hs] at hc0; simp at hc0
      · cases hc0
    obtain ⟨ab, ao, asp⟩ := a
    obtain rfl : asp = none := hsp
    refine ⟨ab, ao, rfl, World.block_lt_of_cell? w ⟨ab, ao, none⟩ hc0, fun k hk j v hj => ?_⟩
    have hk' : k < len := by simpa using hk
    have hfk : ((List.range len).map f)[k] = f k := by simp
    rw [hfk] at hj
    have := hcell k hk' j v hj
    rw [plain_add] at this
    show w.cell? ⟨ab, ao + k * 5 + j, none⟩ = some v
    rw [Nat.add_assoc]
    exact this
end
end Go.Proofs.Seat7
end
section
namespace Go.Proofs.Clo
open Go
def run (P : Program) : Nat → List FuncId × List FuncId → List FuncId × List FuncId
  | 0, s => s
  | _ + 1, ([], seen) => ([], seen)
  | k + 1, (f :: todo, seen) => if seen.contains f then run P k (todo, seen) else run P k ((P.funcs[f]?).elim [] P.leadsTo ++ todo, f :: seen)
theorem via_run (P : Program) : ∀ (k n : Nat) (todo seen : List FuncId), P.closureVia (k + n) todo seen = P.closureVia n (run P k (todo, seen)).1 (run P k (todo, seen)).2
  | 0, n, todo, seen => by rw [Nat.zero_add]; rfl
  | k + 1, n, [], seen => by
    have h : ∀ n, P.closureVia n [] seen = seen.reverse := fun n => by cases n <;> rfl
    show P.closureVia (k + 1 + n) [] seen = P.closureVia n [] seen
    rw [h, h]
  | k + 1, n, f :: todo, seen => by
    rw [show k + 1 + n = (k + n) + 1 from by omega]
    show (if seen.contains f then P.closureVia (k + n) todo seen else P.closureVia (k + n) ((P.funcs[f]?).elim [] P.leadsTo ++ todo) (f :: seen)) = P.closureVia n (if seen.contains f then run P k (todo, seen) else run P k ((P.funcs[f]?).elim [] P.leadsTo ++ todo, f :: seen)).1 (if seen.contains f then run P k (todo, seen) else run P k ((P.funcs[f]?).elim [] P.leadsTo ++ todo, f :: seen)).2
    split
    · exact via_run P k n todo seen
    · exact via_run P k n _ _
theorem run_add (P : Program) : ∀ (a b : Nat) (s : List FuncId × List FuncId), run P (a + b) s = run P b (run P a s)
  | 0, b, s => by rw [Nat.zero_add]; rfl
  | a + 1, b, ([], seen) => by
    have h : ∀ n, run P n ([], seen) = ([], seen) := fun n => by cases n <;> rfl
    rw [h, h, h]
  | a + 1, b, (f :: todo, seen) => by
    rw [show a + 1 + b = (a + b) + 1 from by omega]
    show (if seen.contains f then run P (a + b) (todo, seen) else run P (a + b) ((P.funcs[f]?).elim [] P.leadsTo ++ todo, f :: seen)) = run P b (if seen.contains f then run P a (todo, seen) else run P a ((P.funcs[f]?).elim [] P.leadsTo ++ todo, f :: seen))
    split
    · exact run_add P a b _
    · exact run_add P a b _
theorem via_end (P : Program) (k fuel f : Nat) (seen : List FuncId) (h : run P k ([f], []) = ([], seen)) (hk : Nat.ble k fuel = true) : P.closureVia fuel [f] [] = seen.reverse := by
  obtain ⟨n, rfl⟩ : ∃ n, fuel = k + n := ⟨fuel - k, by have := Nat.le_of_ble_eq_true hk; omega⟩
  rw [via_run, h]
  cases n <;> rfl
end Go.Proofs.Clo
end
section
namespace Go.Proofs.Seat7
open Go
theorem goes_none {P : Program} (h : P.funcs.any Func.goes = false) (f : FuncId) : P.goes f = false := by
  unfold Program.goes
  rw [h, Bool.and_false, Bool.or_false, List.any_eq_false]
  intro g _ hg
  cases hf : P.funcs[g]? with
  | none => rw [hf] at hg; cases hg
  | some fn =>
    rw [hf] at hg
    have h1 : P.funcs.any Func.goes = true := Array.any_eq_true'.2 ⟨fn, Array.mem_of_getElem? hf, hg⟩
    rw [h] at h1
    cases h1
theorem goesBy_none {P : Program} (c : OpenClaim) (h : P.funcs.any Func.goes = false) : false = c.goesBy P := by
  have hg : P.goes = fun _ => false := funext (goes_none h)
  unfold OpenClaim.goesBy Program.goesAt Program.goesFrom
  rw [hg]
  cases P.funcNamed c.func <;> cases c.start <;> simp
end Go.Proofs.Seat7
end

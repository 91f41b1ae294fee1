/- A part of the proof. -/
import Derived.Test.YtdimfodgmaelhaaGreatDoorPbe
import Derived.Test.YtdimfodgmaelhaaGreatDoorPbb
import Derived.Test.YtdimfodgmaelhaaGreatDoorPbq
import Derived.Test.YtdimfodgmaelhaaGreatDoorPbg
set_option linter.all false
set_option linter.all false
namespace Go.Proofs.Seat9
open Go.RowKit Go.Proofs.Seat4
set_option maxRecDepth 100000 in
set_option maxHeartbeats 1000000 in
theorem chart5n (l : List Sp) (v : Value) (kind : Int) (w : World) (hv : SpV w v l) (hl : l.length ≤ 40) (c1 : ¬ chk l = 0) : Calls Tryz.prog 5 #[v, .int .i64 kind] w (ChartP l kind w) := by
 have hba : Below w.heap.size w (w.alloc (.cells #[.int .i64 kind] 3)) := (Below.refl _ _).alloc (Nat.le_refl _) _
 have hv1 : SpV (w.alloc (.cells #[.int .i64 kind] 3)) v l := hv.below hba
 have Hck := Lib.hid (check7 l v (w.alloc (.cells #[.int .i64 kind] 3)) hv1 (by omega))
 have hE : chartE l kind = 1 := by unfold chartE; rw [if_pos c1]
 have hT : chartT l kind = [] := by unfold chartT; rw [hE]; rfl
 have hne : (chk l != 0) = true := by simpa using c1
 have HE := Lib.hid hE
 have HT := Lib.hid hT
 have Hba := Lib.hid hba
 clear hE hT c1 hba hv1 hv
 go_enter Tryz.func5, Tryz.ntmps5
 go_wp2_with fail
 refine Hck.out.mono ?_
 rintro e w1 ⟨rfl, hb1⟩
 have Hb1 := Lib.hid hb1
 clear hb1
 go_wp2
 go_ret2
 exact chartP_of HE.out HT.out (Hba.out.trans (below_mono Hb1.out (by simp)))
theorem chart5b (l : List Sp) (v : Value) (kind : Int) (w : World) (hE : Env w) (hv : SpV w v l) (hl : l.length ≤ 40) : Calls Tryz.prog 5 #[v, .int .i64 kind] w (ChartP l kind w) := by
 by_cases c1 : chk l = 0
 ·refine chart5 l v kind w hv hl ?_
  intro x hx n hn W hW
  have h1 : x ∈ l := (List.mem_filter.1 hx).1
  obtain ⟨b1, b2, b3, b4⟩ := valid_small (chk_valid confP l l 0 c1 _ h1)
  exact itoa21 n W (hE.below hW) (by rcases hn with rfl | rfl <;> omega) (by rcases hn with rfl | rfl <;> omega)
 ·exact chart5n l v kind w hv hl c1
set_option maxRecDepth 100000 in
set_option maxHeartbeats 2000000 in
theorem timelineChecks3 (l : List Sp) (v : Value) (kind step : Int) (w : World) (hE : Env w) (hv : SpV w v l) :
 Calls Tryz.prog 3 #[v, .int .i64 kind, .int .i64 step] w fun e w' => e = .returned (.bool true) ∧ Below w.heap.size w w' := by
 by_cases hl : l.length ≤ 40
 ·obtain ⟨T, hT⟩ : ∃ T, (chartT l kind).toArray = T := ⟨_, rfl⟩
  obtain ⟨C, hC⟩ : ∃ C, chartE l kind = C := ⟨_, rfl⟩
  obtain ⟨D, hD⟩ : ∃ D, chk l = D := ⟨_, rfl⟩
  have h5 := chart5b l v kind w hE hv hl
  have h6 := fun W (hb : Below w.heap.size w W) => rchart6 l v kind W (hv.below hb) hl
  have h7 := fun W (hb : Below w.heap.size w W) => check7 l v W (hv.below hb) (by omega)
  have h8 := fun W (hb : Below w.heap.size w W) => rcheck8 l v W (hv.below hb) (by omega)
  have h10 := fun W (hb : Below w.heap.size w W) => act10 l v kind step W (hv.below hb) (by omega)
  have h11 := fun W (hb : Below w.heap.size w W) => act11 l v kind step W (hv.below hb) (by omega)
  have hal := actR_len kind step l 0
  unfold ChartP at h5 h6
  rw [hT, hC] at h5 h6
  rw [hD] at h7 h8
  obtain ⟨A, cap, rfl, -, -⟩ := hv
  have hl' : ¬ (40 : Int) < (l.length : Int) := by omega
  have H5 := Lib.hid h5
  have H6 := Lib.hid (show ∃ P : Prop, P = _ ∧ P from ⟨_, rfl, h6⟩)
  have H7 := Lib.hid (show ∃ P : Prop, P = _ ∧ P from ⟨_, rfl, h7⟩)
  have H8 := Lib.hid (show ∃ P : Prop, P = _ ∧ P from ⟨_, rfl, h8⟩)
  have H10 := Lib.hid (show ∃ P : Prop, P = _ ∧ P from ⟨_, rfl, h10⟩)
  have H11 := Lib.hid (show ∃ P : Prop, P = _ ∧ P from ⟨_, rfl, h11⟩)
  have Hal := Lib.hid hal
  clear h5 h6 h7 h8 h10 h11 hal hT hC hD hE
  go_enter Tryz.func3, Tryz.ntmps3
  go_wp2_with fail
  refine H5.out.mono ?_
  rintro e w1 ⟨rfl, hb1⟩
  have Hb1 := Lib.hid hb1
  clear hb1
  go_wp2_with fail
  obtain ⟨P, rfl, hP6⟩ := H6.out
  refine (hP6 w1 Hb1.out).mono ?_
  clear hP6
  rintro e w2 ⟨rfl, hb2⟩
  have Hb2 := Lib.hid (Hb1.out.trans (below_mono hb2 Hb1.out.size))
  clear hb2
  go_wp2_with fail
  obtain ⟨P, rfl, hP7⟩ := H7.out
  refine (hP7 w2 Hb2.out).mono ?_
  clear hP7
  rintro e w3 ⟨rfl, hb3⟩
  have Hb3 := Lib.hid (Hb2.out.trans (below_mono hb3 Hb2.out.size))
  clear hb3
  go_wp2_with fail
  obtain ⟨P, rfl, hP8⟩ := H8.out
  refine (hP8 w3 Hb3.out).mono ?_
  clear hP8
  rintro e w4 ⟨rfl, hb4⟩
  have Hb4 := Lib.hid (Hb3.out.trans (below_mono hb4 Hb3.out.size))
  clear hb4
  go_wp2_with fail
  obtain ⟨P, rfl, hP10⟩ := H10.out
  refine (hP10 w4 Hb4.out).mono ?_
  clear hP10
  rintro e w5 ⟨va, rfl, hownA, hb5⟩
  have Hb5 := Lib.hid (Hb4.out.trans (below_mono hb5 Hb4.out.size))
  have Ha := Lib.hid (lv_ints hownA)
  clear hb5 hownA
  go_wp2_with fail
  obtain ⟨P, rfl, hP11⟩ := H11.out
  refine (hP11 w5 Hb5.out).mono ?_
  clear hP11
  rintro e w6 ⟨vb, rfl, hownB, hb6⟩
  have Hb6 := Lib.hid (Hb5.out.trans (below_mono hb6 Hb5.out.size))
  have Ha6 := Lib.hid (Ha.out.below hb6)
  have Hbb := Lib.hid (lv_ints hownB)
  clear hb6 hownB
  go_wp2_with fail
  refine (eq9 (actR kind step l 0) va vb w6 Ha6.out Hbb.out (Nat.le_trans Hal.out (by omega))).mono ?_
  rintro e w7 ⟨rfl, hb7⟩
  have Hb7 := Lib.hid (Hb6.out.trans (below_mono hb7 Hb6.out.size))
  clear hb7
  go_wp2_with fail
  refine (AvT.anchor w7).mono ?_
  rintro e w8 ⟨rfl, hb8⟩
  have Hb8 := Lib.hid (Hb7.out.trans (below_mono hb8 Hb7.out.size))
  clear hb8
  go_wp2
  go_ret
  exact ⟨rfl, Hb8.out⟩
 ·obtain ⟨A, cap, rfl, -, -⟩ := hv
  have hl' : (40 : Int) < (l.length : Int) := by omega
  clear hE
  go_enter Tryz.func3, Tryz.ntmps3
  go_wp2_with fail
  refine (AvT.anchor w).mono ?_
  rintro e w1 ⟨rfl, hb1⟩
  go_wp2
  go_ret
  exact ⟨rfl, hb1⟩
end Go.Proofs.Seat9

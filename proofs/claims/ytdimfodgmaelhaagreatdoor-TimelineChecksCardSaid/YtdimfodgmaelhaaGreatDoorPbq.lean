/- A part of the proof. -/
import Derived.Test.YtdimfodgmaelhaaGreatDoorPbl
import Derived.Test.YtdimfodgmaelhaaGreatDoorPbm
import Derived.Test.YtdimfodgmaelhaaGreatDoorPbn
import Derived.Test.YtdimfodgmaelhaaGreatDoorPbo
import Derived.Test.YtdimfodgmaelhaaGreatDoorPbp
set_option linter.all false
namespace AvT
open Go Go.Proofs Av Go.RowKit
theorem allI : ∀ e ∈ [sI], entB e0 33 e = true := by
 intro e he
 simp only [List.mem_cons, List.not_mem_nil, or_false] at he
 subst he
 exact sI_ok
theorem allS : ∀ e ∈ [sS0, sS1, sS2, sS3, sS4, sS5, sS6], entB e0 35 e = true := by
 intro e he
 simp only [List.mem_cons, List.not_mem_nil, or_false] at he
 rcases he with rfl | rfl | rfl | rfl | rfl | rfl | rfl
 ·exact sS0_ok
 ·exact sS1_ok
 ·exact sS2_ok
 ·exact sS3_ok
 ·exact sS4_ok
 ·exact sS5_ok
 ·exact sS6_ok
theorem allF : ∀ e ∈ [sF0, sF1, sF2, sF3, sF4, sF5, sF6], entB e1 217 e = true := by
 intro e he
 simp only [List.mem_cons, List.not_mem_nil, or_false] at he
 rcases he with rfl | rfl | rfl | rfl | rfl | rfl | rfl
 ·exact sF0_ok
 ·exact sF1_ok
 ·exact sF2_ok
 ·exact sF3_ok
 ·exact sF4_ok
 ·exact sF5_ok
 ·exact sF6_ok
theorem dhs_ok : ∀ g q, hkOf dhs g = some q → DhOK Tryz.prog ri g q := hkOf_ok (K := DhOK Tryz.prog ri) fun x hx => by
 cases List.mem_singleton.1 hx
 exact Go.Proofs.Seat4.dhR_ok
theorem e0_ok : HdOK Tryz.prog ri e0 := hdN_ok (drawn_ok (by kernel_rfl)) (tab_ok fs_ok rs_ok (hkOf_ok (K := HkOK Tryz.prog ri) hks_ok58) dhs_ok) 200
theorem e1_ok : HdOK Tryz.prog ri e1 := hdN_ok (drawn_ok (by kernel_rfl)) (tab_ok fs_ok rs_ok (hkOf_ok (K := HkOK Tryz.prog ri) fun x hx => by
 rcases List.mem_cons.1 hx with rfl | hx
 ·exact memo_ok e0_ok allS
 ·exact hks_ok58 x hx) dhs_ok) 200
theorem e2_ok : HdOK Tryz.prog ri e2 := hdN_ok (drawn_ok (by kernel_rfl)) (tab_ok fs_ok rs_ok (hkOf_ok (K := HkOK Tryz.prog ri) fun x hx => by
 rcases List.mem_cons.1 hx with rfl | hx
 ·exact memo_ok e0_ok allI
 ·rcases List.mem_cons.1 hx with rfl | hx
  ·exact memo_ok e0_ok allS
  ·rcases List.mem_cons.1 hx with rfl | hx
   ·exact memo_ok e1_ok allF
   ·exact hks_ok58 x hx) dhs_ok) 200
theorem e3_ok : HdOK Tryz.prog ri e3 := hdN_ok (drawn_ok (by kernel_rfl)) (tab_ok fs_ok rs_ok (hkOf_ok (K := HkOK Tryz.prog ri) fun x hx => by
 rcases List.mem_cons.1 hx with rfl | hx
 ·exact hkSp_ok (drawn_ok (by kernel_rfl)) (by kernel_rfl) dhs_ok e2_ok
 ·rcases List.mem_cons.1 hx with rfl | hx
  ·exact memo_ok e0_ok allI
  ·rcases List.mem_cons.1 hx with rfl | hx
   ·exact memo_ok e0_ok allS
   ·rcases List.mem_cons.1 hx with rfl | hx
    ·exact memo_ok e1_ok allF
    ·exact hks_ok58 x hx) dhs_ok) 200
theorem anchor (w : World) : Calls Tryz.prog 4 #[] w (fun e w' => e = .returned (.bool true) ∧ Below w.heap.size w w') := callsIn_wide.1 (anchor_in e3_ok aw_true w).2
end AvT

/- A part of the proof. -/
import Derived.Test.YtnpljilhnnkbaaaGreatDoorPbn
import Derived.Test.YtnpljilhnnkbaaaGreatDoorPbo
import Derived.Test.YtnpljilhnnkbaaaGreatDoorPbp
import Derived.Test.YtnpljilhnnkbaaaGreatDoorPbq
import Derived.Test.YtnpljilhnnkbaaaGreatDoorPbr
import Derived.Test.YtnpljilhnnkbaaaGreatDoorPbs
set_option linter.all false
namespace AvT
open Go Go.Proofs Av Go.RowKit
theorem allI : ∀ e ∈ [mI], entB e0 57 e = true := by
  intro e he
  simp only [List.mem_cons, List.not_mem_nil, or_false] at he
  subst he
  exact mI_ok
theorem allS : ∀ e ∈ [mS0, mS1, mS2, mS3, mS4, mS5, mS6, mS7], entB e0 91 e = true := by
  intro e he
  simp only [List.mem_cons, List.not_mem_nil, or_false] at he
  rcases he with rfl | rfl | rfl | rfl | rfl | rfl | rfl | rfl
  · exact mS0_ok
  · exact mS1_ok
  · exact mS2_ok
  · exact mS3_ok
  · exact mS4_ok
  · exact mS5_ok
  · exact mS6_ok
  · exact mS7_ok
theorem allF : ∀ e ∈ ([] : List Ent), entB e1 25 e = true := fun e he => by cases he
theorem dhs_ok : ∀ g q, hkOf dhs g = some q → DhOK Tryz.prog ri g q := hkOf_ok (K := DhOK Tryz.prog ri) fun x hx => by
  cases List.mem_singleton.1 hx
  exact Go.Proofs.Seat4.dhR_ok
theorem e0_ok : HdOK Tryz.prog ri e0 := hdN_ok (drawn_ok (by kernel_rfl)) (tab_ok fs_ok rs_ok (hkOf_ok (K := HkOK Tryz.prog ri) hks_ok) dhs_ok) 200
theorem e1_ok : HdOK Tryz.prog ri e1 := hdN_ok (drawn_ok (by kernel_rfl)) (tab_ok fs_ok rs_ok (hkOf_ok (K := HkOK Tryz.prog ri) fun x hx => by
  rcases List.mem_cons.1 hx with rfl | hx
  · exact memo_ok e0_ok allS
  · exact hks_ok x hx) dhs_ok) 200
theorem e2_ok : HdOK Tryz.prog ri e2 := hdN_ok (drawn_ok (by kernel_rfl)) (tab_ok fs_ok rs_ok (hkOf_ok (K := HkOK Tryz.prog ri) fun x hx => by
  rcases List.mem_cons.1 hx with rfl | hx
  · exact memo_ok e0_ok allI
  · rcases List.mem_cons.1 hx with rfl | hx
    · exact memo_ok e0_ok allS
    · exact hks_ok x hx) dhs_ok) 200
theorem anchor (w : World) : Calls Tryz.prog 6 #[] w (fun e w' => e = .returned (.bool true) ∧ Below w.heap.size w w') := callsIn_wide.1 (anchor_in e2_ok aw_true w).2
end AvT

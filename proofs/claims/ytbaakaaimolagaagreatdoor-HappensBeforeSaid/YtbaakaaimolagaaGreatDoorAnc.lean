/- A part of the proof that nurserylaw36.HappensBefore returns true for every input. -/
import Derived.Test.YtbaakaaimolagaaGreatDoorEnb
import Derived.Test.YtbaakaaimolagaaGreatDoorEnc
import Derived.Test.YtbaakaaimolagaaGreatDoorEnd
import Derived.Test.YtbaakaaimolagaaGreatDoorEne
import Derived.Test.YtbaakaaimolagaaGreatDoorEnf
import Derived.Test.YtbaakaaimolagaaGreatDoorEng
import Derived.Test.YtbaakaaimolagaaGreatDoorEnh
import Derived.Test.YtbaakaaimolagaaGreatDoorEni
namespace AvT
open Go Go.Proofs Av Go.RowKit
theorem allI : ∀ e ∈ [eI, yI], entB e0 24 e = true := by
  intro e he
  simp only [List.mem_cons, List.not_mem_nil, or_false] at he
  rcases he with rfl | rfl
  · exact eI_ok
  · exact yI_ok
theorem allS : ∀ e ∈ [eS0, eS1, eS2, eS3, eS4, yS0, yS1, yS2, yS3, yS4], entB e0 26 e = true := by
  intro e he
  simp only [List.mem_cons, List.not_mem_nil, or_false] at he
  rcases he with rfl | rfl | rfl | rfl | rfl | rfl | rfl | rfl | rfl | rfl
  · exact eS0_ok
  · exact eS1_ok
  · exact eS2_ok
  · exact eS3_ok
  · exact eS4_ok
  · exact yS0_ok
  · exact yS1_ok
  · exact yS2_ok
  · exact yS3_ok
  · exact yS4_ok
theorem allF : ∀ e ∈ [eF0, eF1, eF2, eF3, eF4, yF0, yF1, yF2, yF3, yF4], entB e1 25 e = true := by
  intro e he
  simp only [List.mem_cons, List.not_mem_nil, or_false] at he
  rcases he with rfl | rfl | rfl | rfl | rfl | rfl | rfl | rfl | rfl | rfl
  · exact eF0_ok
  · exact eF1_ok
  · exact eF2_ok
  · exact eF3_ok
  · exact eF4_ok
  · exact yF0_ok
  · exact yF1_ok
  · exact yF2_ok
  · exact yF3_ok
  · exact yF4_ok
theorem dhs_ok : ∀ g q, hkOf dhs g = some q → DhOK Tryz.prog ri g q := hkOf_ok (K := DhOK Tryz.prog ri) fun x hx => by
  cases List.mem_singleton.1 hx
  exact Go.Proofs.Seat4.dhR_ok
theorem e0_ok : HdOK Tryz.prog ri e0 := hdN_ok (drawn_ok (by kernel_rfl)) (tab_ok fs_ok rs_ok (hkOf_ok (K := HkOK Tryz.prog ri) hks_ok) dhs_ok) 200
theorem e1_ok : HdOK Tryz.prog ri e1 := hdN_ok (drawn_ok (by kernel_rfl)) (tab_ok fs_ok rs_ok (hkOf_ok (K := HkOK Tryz.prog ri) fun x hx => by
  rcases List.mem_cons.1 hx with rfl | hx
  · exact memo_ok e0_ok allS
  · exact hks_ok x hx) dhs_ok) 200
theorem e2_ok : HdOK Tryz.prog ri e2 := hdN_ok (drawn_ok (by kernel_rfl)) (tab_ok fs_ok rs_ok (hkOf_ok (K := HkOK Tryz.prog ri) fun x hx => by
  rcases List.mem_cons.1 hx with rfl | hx
  · exact memo_ok e0_ok allI
  · rcases List.mem_cons.1 hx with rfl | hx
    · exact memo_ok e0_ok allS
    · rcases List.mem_cons.1 hx with rfl | hx
      · exact memo_ok e1_ok allF
      · exact hks_ok x hx) dhs_ok) 200
theorem anchor (w : World) : Calls Tryz.prog 6 #[] w (fun e w' => e = .returned (.bool true) ∧ Below w.heap.size w w') := callsIn_wide.1 (anchor_in e2_ok aw_true w).2
end AvT

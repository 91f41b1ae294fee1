/- The law's example: the program answers as the chapter says. -/
import Derived.Test.YtgeclafcbgocgaaDoorTxt
import Derived.Test.YtgeclafcbgocgaaDoorBef
import Derived.Test.YtgeclafcbgocgaaDoorPar
import Derived.Test.YtgeclafcbgocgaaDoorEql
import Derived.Test.YtgeclafcbgocgaaDoorHpo
namespace Go.Proofs.YtgeclafcbgocgaaDoor
open Go.RowKit
def awL : List Cl := [⟨1, 2, 5, 7, 0, 2⟩, ⟨2, 1, 0, 0, 1, -1⟩]
def awS : List UInt8 := [49, 32, 98, 101, 103, 105, 110, 32, 50, 32, 53, 10, 50, 32, 98, 101, 103, 105, 110, 32, 49, 32, 48, 10, 49, 32, 101, 110, 100, 32, 55, 10]
theorem awL_chk : chkH awL = 0 := by decide +kernel
theorem awL_text : textH awL = awS := by decide +kernel
theorem awL_textG : textG awL = awS := by decide +kernel
theorem awL_bef : befR awL = [] := by decide +kernel
theorem awL_pend : pendI awL 2 = [1] := by decide +kernel
theorem awL_read : RdTo awS [] 0 (awL, 0) := by
  obtain ⟨r, hr⟩ := rdTo_exist awS [] 0
  have hr' := hr
  rw [← awL_textG] at hr'
  rw [read_back (hist_iff.1 awL_chk) hr'] at hr
  exact hr
set_option maxRecDepth 100000 in
set_option maxHeartbeats 2000000 in
theorem awake9 (w : World) (hE : Env w) : Calls Tryd.prog 9 #[] w (YPost w) := by
  go_enter Tryd.func9, Tryd.ntmps9
  go_wp2_with fail
  have hE1 := hE.alloc (.cells (clsCells awL).toArray 32)
  have hB1 : Below w.heap.size w (w.alloc (.cells (clsCells awL).toArray 32)) := (Below.refl _ _).alloc (Nat.le_refl _) _
  have hL1 : ClV (w.alloc (.cells (clsCells awL).toArray 32)) (.slice (some ⟨w.heap.size, 0, none⟩) awL.length 2) awL := LV.mk_ (by decide) (by simp) (lAt_of_row (Row.new _ _ _ _ rfl))
  simp only [clsCells, Enc.all, awL, List.flatMap_cons, List.flatMap_nil, CE, clCells, List.cons_append, List.nil_append, List.append_nil, List.length_cons, List.length_nil, Nat.zero_add, Nat.reduceAdd] at hE1 hB1
  have e1 : (clsCells awL).toArray = #[.int .i64 1, .int .i64 2, .int .i64 5, .int .i64 7, .int .i64 0, .int .i64 2, .int .i64 2, .int .i64 1, .int .i64 0, .int .i64 0, .int .i64 1, .int .i64 (-1)] := rfl
  rw [e1] at hL1
  rw [show awL.length = 2 from rfl] at hL1
  generalize w.alloc (.cells #[.int .i64 1, .int .i64 2, .int .i64 5, .int .i64 7, .int .i64 0, .int .i64 2, .int .i64 2, .int .i64 1, .int .i64 0, .int .i64 0, .int .i64 1, .int .i64 (-1)] 32) = W at *
  clear e1
  have n0 := text10 awL _ W hE1 hL1 (by decide)
  rw [awL_text, awL_chk] at n0
  refine n0.mono ?_
  rintro e w1 ⟨rfl, hb1⟩
  have hE2 := hE1.below hb1
  have hL2 := hL1.below hb1
  have hB2 := hB1.trans (hb1.mono hB1.size)
  clear n0 hb1 hE1 hL1 hB1
  go_wp2_with fail
  have n0 := parse12 awS w1 hE2 (by decide) (awL, 0) awL_read
  unfold awS at n0
  refine n0.mono ?_
  rintro e w2 ⟨v2, rfl, hv2, hb2⟩
  have hE3 := hE2.below hb2
  have hL3 := hL2.below hb2
  have hB3 := hB2.trans (hb2.mono hB2.size)
  clear n0 hb2 hE2 hL2 hB2
  go_wp2_with fail
  have n0 := before17 awL _ w2 hL3 (by decide)
  rw [awL_bef, awL_chk] at n0
  refine n0.mono ?_
  rintro e w3 ⟨v3, rfl, hv3, hb3⟩
  obtain ⟨A3, c3, rfl⟩ := own_slice hv3
  have hE4 := hE3.below hb3
  have hL4 := hL3.below hb3
  have hv4 := hv2.below hb3
  have hB4 := hB3.trans (hb3.mono hB3.size)
  clear n0 hb3 hE3 hL3 hB3 hv3 hv2
  unfold awS strV
  go_wp2_with fail
  have n0 := equal14 awL _ _ w3 hv4 hL4 (by decide)
  refine n0.mono ?_
  rintro e w4 ⟨rfl, hb4⟩
  have hL5 := hL4.below hb4
  have hB5 := hB4.trans (hb4.mono hB4.size)
  clear n0 hb4 hL4 hB4 hv4 hE4
  go_wp2_with fail
  have n0 := pending21 awL _ w4 hL5 (by decide)
  rw [show awL.length = 2 from rfl, awL_pend] at n0
  refine n0.mono ?_
  rintro e w5 ⟨v5, rfl, hv5, hb5⟩
  have hB6 := hB5.trans (hb5.mono hB5.size)
  have hI := lv_own hv5
  clear n0 hb5 hL5 hB5 hv5
  go_wp2_with fail
  have hI2 := hI.below ((Below.refl _ _).alloc (Nat.le_refl _) (.cells #[.int .i64 1] 3))
  have hJ2 : LV IE (w5.alloc (.cells #[.int .i64 1] 3)) (.slice (some ⟨w5.heap.size, 0, none⟩) 1 1) [1] := LV.mk_ (E := IE) (l := [(1 : Int)]) (b := w5.heap.size) (off := 0) (cap := 1) (by decide) (by simp) (lAt_of_row (Row.new _ _ _ _ rfl))
  have hB7 := hB6.alloc hB6.size (.cells #[.int .i64 1] 3)
  have n0 := equal20 [1] _ _ _ hI2 hJ2 (by decide)
  refine n0.mono ?_
  rintro e w6 ⟨rfl, hb6⟩
  have hB8 := hB7.trans (hb6.mono hB7.size)
  clear n0 hI hI2 hJ2 hB7 hb6 hB6
  go_wp2_with fail
  go_ret
  exact ⟨rfl, hB8⟩
end Go.Proofs.YtgeclafcbgocgaaDoor

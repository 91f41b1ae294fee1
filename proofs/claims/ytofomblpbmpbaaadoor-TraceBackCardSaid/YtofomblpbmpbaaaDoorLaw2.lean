/- The law of there and back: what the program reads off its own text is the event; what it reads it writes. -/
import Derived.Test.YtofomblpbmpbaaaDoorLaw1
namespace Go.Proofs.YtofomblpbmpbaaaDoor
open Go.RowKit
theorem parseR_cases (s : List UInt8) (o : Option Ev) : (∃ x, parseR o s = (x, 0) ∧ evErr x = 0 ∧ textB x = s) ∨ parseR o s = (zeroEv, 3) := by
  unfold parseR
  cases o with
  | none => exact .inr rfl
  | some e =>
    by_cases h : evErr e = 0 ∧ textB e = s
    · exact .inl ⟨e, if_pos h, h⟩
    · exact .inr (if_neg h)
theorem textR_ok (v : Ev) (h : evErr v = 0) : textR v = textB v := by
  unfold textR
  rw [if_pos h]
set_option maxRecDepth 100000 in
set_option maxHeartbeats 4000000 in
theorem traceBack4 (v : Ev) (s : List UInt8) (w : World) (hE : Env w) : Calls Tryd.prog 4 #[.agg (evCells v).toArray, .string ⟨s.toArray⟩] w (LPost w) := by
  have hE1 := hE.alloc (.cells (evCells v).toArray 23)
  unfold evCells at hE1 ⊢
  go_enter Tryd.func4, Tryd.ntmps4
  go_wp2_with fail
  refine (text12 v _ hE1).mono ?_
  rintro e w1 ⟨rfl, hb1⟩
  have hv1 : EvAt w1 w.heap.size v := by
    unfold EvAt
    rw [hb1.block _ (by simp)]
    exact Array.getElem?_push_size
  have hE2 := hE1.below hb1
  have hB : Below w.heap.size w w1 := ((Below.refl _ _).alloc (Nat.le_refl _) _).trans (hb1.mono (by simp))
  clear hb1 hE1
  by_cases hok : evErr v = 0
  · rw [textR_ok v hok, hok]
    have hlen := text_len v hok
    go_wp2_with fail
    have n0 := parse14 (textB v) w1 hE2 (by omega)
    unfold PPost at n0
    rw [parse_back v hok] at n0
    refine n0.mono ?_
    rintro e w2 ⟨rfl, hb2⟩
    have hv2 := hv1.below hb2 hv1.lt
    obtain ⟨q0, q1, q2, q3, q4, q5, q6, q7⟩ := hv2.cells
    have hEn := (hE2.below hb2).alloc (.cells (evCells v).toArray 23)
    have hBn := (hB.trans (hb2.mono hB.size)).alloc (hB.trans (hb2.mono hB.size)).size (.cells (evCells v).toArray 23)
    have hlt := hv2.lt
    clear n0 hb2 hv1 hv2 hE2 hB hok hlen
    unfold evCells at hEn hBn ⊢
    by_cases hs : 200 < s.length
    · go_wp2_with fail
      refine (awake11 _ hEn).mono ?_
      rintro e wa ⟨rfl, hba⟩
      go_wp2_with fail
      go_ret
      exact ⟨rfl, hBn.trans (hba.mono hBn.size)⟩
    · go_wp2_with fail
      have n0 := parse14 s _ hEn (by omega)
      unfold PPost at n0
      rcases parseR_cases s (pParse s) with ⟨x, hr, hx1, hx2⟩ | hr
      · rw [hr] at n0
        refine n0.mono ?_
        rintro e wp ⟨rfl, hbp⟩
        have hE5 := (hEn.below hbp).alloc (.cells (evCells x).toArray 23)
        have hB5 := (hBn.trans (hbp.mono hBn.size)).alloc (hBn.trans (hbp.mono hBn.size)).size (.cells (evCells x).toArray 23)
        have n1 := text12 x _ hE5
        unfold TextPost at n1
        rw [textR_ok x hx1, hx2, hx1] at n1
        clear n0 hr hx1 hx2
        unfold evCells at n1 hE5 hB5 ⊢
        go_wp2_with fail
        refine n1.mono ?_
        rintro e wq ⟨rfl, hbq⟩
        have hE6 := hE5.below hbq
        have hB6 := hB5.trans (hbq.mono hB5.size)
        clear n1 hbq hE5 hB5
        go_wp2_with fail
        refine (awake11 _ hE6).mono ?_
        rintro e wa ⟨rfl, hba⟩
        go_wp2_with fail
        go_ret
        exact ⟨rfl, hB6.trans (hba.mono hB6.size)⟩
      · rw [hr] at n0
        refine n0.mono ?_
        rintro e wp ⟨rfl, hbp⟩
        have hE5 := (hEn.below hbp).alloc (.cells (evCells zeroEv).toArray 23)
        have hB5 := (hBn.trans (hbp.mono hBn.size)).alloc (hBn.trans (hbp.mono hBn.size)).size (.cells (evCells zeroEv).toArray 23)
        clear n0 hr
        unfold evCells zeroEv at hE5 hB5 ⊢
        go_wp2_with fail
        refine (awake11 _ hE5).mono ?_
        rintro e wa ⟨rfl, hba⟩
        go_wp2_with fail
        go_ret
        exact ⟨rfl, hB5.trans (hba.mono hB5.size)⟩
  · have h1 : (evErr v == 0) = false := by simpa using hok
    have hEn := hE2
    have hBn := hB
    clear hE2 hB hok hv1
    generalize textR v = tx at *
    generalize evErr v = er at *
    by_cases hs : 200 < s.length
    · go_wp2_with fail
      refine (awake11 _ hEn).mono ?_
      rintro e wa ⟨rfl, hba⟩
      go_wp2_with fail
      go_ret
      exact ⟨rfl, hBn.trans (hba.mono hBn.size)⟩
    · go_wp2_with fail
      have n0 := parse14 s _ hEn (by omega)
      unfold PPost at n0
      rcases parseR_cases s (pParse s) with ⟨x, hr, hx1, hx2⟩ | hr
      · rw [hr] at n0
        refine n0.mono ?_
        rintro e wp ⟨rfl, hbp⟩
        have hE5 := (hEn.below hbp).alloc (.cells (evCells x).toArray 23)
        have hB5 := (hBn.trans (hbp.mono hBn.size)).alloc (hBn.trans (hbp.mono hBn.size)).size (.cells (evCells x).toArray 23)
        have n1 := text12 x _ hE5
        unfold TextPost at n1
        rw [textR_ok x hx1, hx2, hx1] at n1
        clear n0 hr hx1 hx2
        unfold evCells at n1 hE5 hB5 ⊢
        go_wp2_with fail
        refine n1.mono ?_
        rintro e wq ⟨rfl, hbq⟩
        have hE6 := hE5.below hbq
        have hB6 := hB5.trans (hbq.mono hB5.size)
        clear n1 hbq hE5 hB5
        go_wp2_with fail
        refine (awake11 _ hE6).mono ?_
        rintro e wa ⟨rfl, hba⟩
        go_wp2_with fail
        go_ret
        exact ⟨rfl, hB6.trans (hba.mono hB6.size)⟩
      · rw [hr] at n0
        refine n0.mono ?_
        rintro e wp ⟨rfl, hbp⟩
        have hE5 := (hEn.below hbp).alloc (.cells (evCells zeroEv).toArray 23)
        have hB5 := (hBn.trans (hbp.mono hBn.size)).alloc (hBn.trans (hbp.mono hBn.size)).size (.cells (evCells zeroEv).toArray 23)
        clear n0 hr
        unfold evCells zeroEv at hE5 hB5 ⊢
        go_wp2_with fail
        refine (awake11 _ hE5).mono ?_
        rintro e wa ⟨rfl, hba⟩
        go_wp2_with fail
        go_ret
        exact ⟨rfl, hB5.trans (hba.mono hB5.size)⟩
end Go.Proofs.YtofomblpbmpbaaaDoor

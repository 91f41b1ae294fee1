/- A part of the proof. -/
import Derived.Test.YtnpljilhnnkbaaaGreatDoorPbk
import Derived.Test.YtnpljilhnnkbaaaGreatDoorPbj
import Derived.Test.YtnpljilhnnkbaaaGreatDoorPbs
set_option linter.all false
namespace Go.Proofs.Seat8
open Go.RowKit Go.Proofs.Seat4
theorem great_len {l : List Mt} (h : greatM l = false) (hl : l.length ≤ 500) : l.length ≤ 40 := by
  unfold greatM at h
  simp only [Bool.or_eq_false_iff, Bool.and_eq_false_iff, decide_eq_false_iff_not] at h
  omega
theorem awakeB {B : Nat} {w w1 : World} (hB : B ≤ w1.heap.size) (h : Below B w w1) : Calls Tryz.prog 6 #[] w1 fun e w' => e = .returned (.bool true) ∧ Below B w w' :=
  (AvT.anchor w1).mono fun _ _ ⟨h1, h2⟩ => ⟨h1, h.trans (below_mono h2 hB)⟩
theorem chk_nil : chk [] = 0 := by
  unfold chk
  rw [if_neg (by simp)]
  rfl
theorem parseY {s : List UInt8} {l : List Mt} (w : World) (hE : Env w) (hs : s.length ≤ 100000) (hR : parseR s = some l) : Calls Tryz.prog 8 #[.string ⟨s.toArray⟩] w fun e w' => ∃ v, e = .returned (.tuple #[v, .int .i64 0]) ∧ LV ME w' v l ∧ Below w.heap.size w w' :=
  (parse8 s w hE hs).mono fun e w' ⟨v, h1, h2⟩ => by
    rw [hR] at h2
    exact ⟨v, h2.1, h2.2, h1⟩
theorem parseN {s : List UInt8} (w : World) (hE : Env w) (hs : s.length ≤ 100000) (hR : parseR s = none) : Calls Tryz.prog 8 #[.string ⟨s.toArray⟩] w fun e w' => ∃ A c, e = .returned (.tuple #[.slice A 0 c, .int .i64 3]) ∧ Below w.heap.size w w' :=
  (parse8 s w hE hs).mono fun e w' ⟨v, h1, h2⟩ => by
    rw [hR] at h2
    obtain ⟨A, c, rfl, -⟩ := h2.2
    exact ⟨A, c, h2.1, h1⟩
theorem printY {l : List Mt} (v : Value) (w : World) (hE : Env w) (hv : LV ME w v l) (hc : chk l = 0) : Calls Tryz.prog 7 #[v] w fun e w' => e = .returned (.tuple #[.string ⟨(textT l).toArray⟩, .int .i64 0]) ∧ Below w.heap.size w w' :=
  (print7 l v w hE hv).mono fun e w' ⟨t, h1, h2, _, h4⟩ => by
    rw [hc] at h1
    rw [h2 hc] at h1
    exact ⟨h1, h4⟩
theorem printN {l : List Mt} (v : Value) (w : World) (hE : Env w) (hv : LV ME w v l) (hc : chk l ≠ 0) : Calls Tryz.prog 7 #[v] w fun e w' => e = .returned (.tuple #[.string ⟨#[]⟩, .int .i64 (chk l)]) ∧ Below w.heap.size w w' :=
  (print7 l v w hE hv).mono fun e w' ⟨t, h1, _, h3, h4⟩ => by
    rw [h3 hc] at h1
    exact ⟨h1, h4⟩
set_option maxRecDepth 100000 in
set_option maxHeartbeats 2000000 in
theorem texts_no (l : List Mt) (v : Value) (s : List UInt8) (w : World) (hv : LV ME w v l) (hno : greatM l = true ∨ (greatM l = false ∧ (600 : Int) < s.length)) :
    Calls Tryz.prog 3 #[v, .string ⟨s.toArray⟩] w fun e w' => e = .returned (.bool true) ∧ Below w.heap.size w w' := by
  have Hg := Lib.hid (fun w1 (h1 : Below w.heap.size w w1) => (great5 l v w1 (hv.below h1)).mono fun e w' ⟨h2, h3⟩ => (⟨h2, h1.trans (below_mono h3 h1.size)⟩ : e = _ ∧ Below w.heap.size w w'))
  have Haw := Lib.hid (fun w1 (h1 : Below w.heap.size w w1) => awakeB h1.size h1)
  have hb0 : Below w.heap.size w w := Below.refl _ _
  clear hv
  generalize greatM l = g at *
  rcases hno with rfl | ⟨rfl, h6⟩ <;>
  · go_enter Tryz.func3, Tryz.ntmps3
    go_wp2_with (first
      | (go_at_call 5; (with_reducible refine Calls.mono (Hg.out _ (by assumption)) ?_); rintro e w1 ⟨rfl, hb1⟩)
      | (go_at_call 6; refine (Haw.out _ (by assumption)).mono ?_; rintro e w1 ⟨rfl, hb1⟩))
    go_ret
    exact ⟨rfl, by assumption⟩
set_option maxRecDepth 100000 in
set_option maxHeartbeats 2000000 in
theorem texts_yes (l : List Mt) (v : Value) (s : List UInt8) (w : World) (hE : Env w) (hv : LV ME w v l) (g : greatM l = false) (hs : s.length ≤ 600) :
    Calls Tryz.prog 3 #[v, .string ⟨s.toArray⟩] w fun e w' => e = .returned (.bool true) ∧ Below w.heap.size w w' := by
  have Hg := Lib.hid (fun w1 (h1 : Below w.heap.size w w1) => (great5 l v w1 (hv.below h1)).mono fun e w' ⟨h2, h3⟩ => (⟨h2, h1.trans (below_mono h3 h1.size)⟩ : e = _ ∧ Below w.heap.size w w'))
  have Haw := Lib.hid (fun w1 (h1 : Below w.heap.size w w1) => awakeB h1.size h1)
  have hb0 : Below w.heap.size w w := Below.refl _ _
  have hs2 : s.length ≤ 100000 := by omega
  have h600 : ¬ (600 : Int) < s.length := by omega
  rw [g] at Hg
  by_cases hc : chk l = 0
  · have hl := great_len g (chk_len hc)
    have htl : (textT l).length ≤ 100000 := by have := text_len (chk_one hc); omega
    have hp1 := fun w1 (h1 : Below w.heap.size w w1) => printY v w1 (hE.below h1) (hv.below h1) hc
    have hq1 := fun w1 (h1 : Below w.heap.size w w1) => parseY w1 (hE.below h1) htl (parse_text hc)
    have hck := fun w1 (h1 : Below w.heap.size w w1) => check l v w1 (hv.below h1)
    have hsm := fun v2 w1 (h1 : Below w.heap.size w w1) (h2 : LV ME w1 v2 l) => same9 l l v v2 w1 (hv.below h1) h2 (by omega)
    simp only [decide_true] at hsm
    rw [hc] at hck
    have Hp1 := Lib.hid hp1
    have Hq1 := Lib.hid hq1
    have Hck := Lib.hid hck
    have Hsm := Lib.hid hsm
    clear hp1 hq1 hck hsm hv g hl htl hc
    go_enter Tryz.func3, Tryz.ntmps3
    go_upto_region 7 with (first
      | (go_at_call 5; refine Calls.mono (Hg.out _ hb0) ?_; rintro e w1 ⟨rfl, hb1⟩)
      | (go_at_call 7; refine Calls.mono (Hp1.out _ hb1) ?_; rintro e w2 ⟨rfl, b2⟩; have hb2 := hb1.trans (below_mono b2 hb1.size))
      | (go_at_call 8; refine Calls.mono (Hq1.out _ hb2) ?_; rintro e w3 ⟨v3, rfl, l3, b3⟩; have hb3 := hb2.trans (below_mono b3 hb2.size))
      | (go_at_call 9; refine Calls.mono (Hck.out _ hb3) ?_; rintro e w4 ⟨rfl, b4⟩; have hb4a := hb3.trans (below_mono b4 hb3.size); have l4 := l3.below b4)
      | (go_at_call 10; refine Calls.mono (Hsm.out v3 _ hb4a l4) ?_; rintro e w5 ⟨rfl, b5⟩; have hb4 := hb4a.trans (below_mono b5 hb4a.size)))
    have B4 := Lib.hid hb4
    clear hb4
    cases hR : parseR s with
    | none =>
      have hq2 := fun w1 (h1 : Below w.heap.size w w1) => parseN w1 (hE.below h1) hs2 hR
      have Hq2 := Lib.hid hq2
      clear hq2 hR
      go_wp2_with (first
        | (go_at_call 8; refine Calls.mono (Hq2.out _ B4.out) ?_; rintro e w5 ⟨A, c, rfl, b5⟩; have hb5 := B4.out.trans (below_mono b5 B4.out.size))
        | (go_at_call 6; refine (Haw.out _ hb5).mono ?_; rintro e w6 ⟨rfl, hb6⟩))
      go_ret
      exact ⟨rfl, hb6⟩
    | some m =>
      obtain ⟨hcm, htm⟩ := parse_some hR
      have hq2 := fun w1 (h1 : Below w.heap.size w w1) => parseY w1 (hE.below h1) hs2 hR
      have hp2 := fun v2 w1 (h1 : Below w.heap.size w w1) (h2 : LV ME w1 v2 m) => printY v2 w1 (hE.below h1) h2 hcm
      have Hq2 := Lib.hid hq2
      have Hp2 := Lib.hid hp2
      have heq : (textT m == s) = true := by simpa using htm
      clear hq2 hp2 hR hcm htm
      go_wp2_with (first
        | (go_at_call 8; refine Calls.mono (Hq2.out _ B4.out) ?_; rintro e w5 ⟨v2, rfl, l5, b5⟩; have hb5 := B4.out.trans (below_mono b5 B4.out.size))
        | (go_at_call 7; refine Calls.mono (Hp2.out v2 _ hb5 l5) ?_; rintro e w6 ⟨rfl, b6⟩; have hb6 := hb5.trans (below_mono b6 hb5.size))
        | (go_at_call 6; refine (Haw.out _ hb6).mono ?_; rintro e w7 ⟨rfl, hb7⟩))
      go_ret
      exact ⟨rfl, hb7⟩
  · have hp1 := fun w1 (h1 : Below w.heap.size w w1) => printN v w1 (hE.below h1) (hv.below h1) hc
    have hq1 := fun w1 (h1 : Below w.heap.size w w1) => parseY (s := []) (l := []) w1 (hE.below h1) (by simp) (parse_text chk_nil)
    have hck := fun w1 (h1 : Below w.heap.size w w1) => check l v w1 (hv.below h1)
    have Hp1 := Lib.hid hp1
    have Hq1 := Lib.hid hq1
    have Hck := Lib.hid hck
    clear hp1 hq1 hck hv g
    generalize chk l = n at *
    have hne : (n == 0) = false := by simpa using hc
    go_enter Tryz.func3, Tryz.ntmps3
    go_upto_region 7 with (first
      | (go_at_call 5; refine Calls.mono (Hg.out _ hb0) ?_; rintro e w1 ⟨rfl, hb1⟩)
      | (go_at_call 7; refine Calls.mono (Hp1.out _ hb1) ?_; rintro e w2 ⟨rfl, b2⟩; have hb2 := hb1.trans (below_mono b2 hb1.size))
      | (go_at_call 8; refine Calls.mono (Hq1.out _ hb2) ?_; rintro e w3 ⟨v3, rfl, l3, b3⟩; have hb3 := hb2.trans (below_mono b3 hb2.size))
      | (go_at_call 9; refine Calls.mono (Hck.out _ hb3) ?_; rintro e w4 ⟨rfl, b4⟩; have hb4 := hb3.trans (below_mono b4 hb3.size)))
    have B4 := Lib.hid hb4
    clear hb4
    cases hR : parseR s with
    | none =>
      have hq2 := fun w1 (h1 : Below w.heap.size w w1) => parseN w1 (hE.below h1) hs2 hR
      have Hq2 := Lib.hid hq2
      clear hq2 hR
      go_wp2_with (first
        | (go_at_call 8; refine Calls.mono (Hq2.out _ B4.out) ?_; rintro e w5 ⟨A, c, rfl, b5⟩; have hb5 := B4.out.trans (below_mono b5 B4.out.size))
        | (go_at_call 6; refine (Haw.out _ hb5).mono ?_; rintro e w6 ⟨rfl, hb6⟩))
      go_ret
      exact ⟨rfl, hb6⟩
    | some m =>
      obtain ⟨hcm, htm⟩ := parse_some hR
      have hq2 := fun w1 (h1 : Below w.heap.size w w1) => parseY w1 (hE.below h1) hs2 hR
      have hp2 := fun v2 w1 (h1 : Below w.heap.size w w1) (h2 : LV ME w1 v2 m) => printY v2 w1 (hE.below h1) h2 hcm
      have Hq2 := Lib.hid hq2
      have Hp2 := Lib.hid hp2
      have heq : (textT m == s) = true := by simpa using htm
      clear hq2 hp2 hR hcm htm
      go_wp2_with (first
        | (go_at_call 8; refine Calls.mono (Hq2.out _ B4.out) ?_; rintro e w5 ⟨v2, rfl, l5, b5⟩; have hb5 := B4.out.trans (below_mono b5 B4.out.size))
        | (go_at_call 7; refine Calls.mono (Hp2.out v2 _ hb5 l5) ?_; rintro e w6 ⟨rfl, b6⟩; have hb6 := hb5.trans (below_mono b6 hb5.size))
        | (go_at_call 6; refine (Haw.out _ hb6).mono ?_; rintro e w7 ⟨rfl, hb7⟩))
      go_ret
      exact ⟨rfl, hb7⟩
theorem metricsTexts3 (l : List Mt) (v : Value) (s : List UInt8) (w : World) (hE : Env w) (hv : LV ME w v l) :
    Calls Tryz.prog 3 #[v, .string ⟨s.toArray⟩] w fun e w' => e = .returned (.bool true) ∧ Below w.heap.size w w' := by
  cases g : greatM l with
  | true => exact texts_no l v s w hv (.inl g)
  | false =>
    by_cases hs : s.length ≤ 600
    · exact texts_yes l v s w hE hv g hs
    · exact texts_no l v s w hv (.inr ⟨g, by omega⟩)
end Go.Proofs.Seat8

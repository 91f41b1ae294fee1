/- A part of the proof. -/
import Derived.Test.YtfekipocjifehaaGreatDoorPat
import Derived.Test.YtfekipocjifehaaGreatDoorPas
import Derived.Deep.Cut
set_option linter.all false
namespace Go.Proofs.Seat7
open Go.RowKit Go.Proofs.Seat4
def mrg : List Mt → List Mt → List Mt
  | [], b => b
  | x :: a, [] => x :: a
  | x :: a, y :: b => if lessM x y = true then x :: mrg a (y :: b) else if lessM y x = true then y :: mrg (x :: a) b else comb x y :: mrg a b
termination_by a b => a.length + b.length
theorem mrg_nil (a : List Mt) : mrg a [] = a := by cases a <;> simp [mrg]
theorem mrg_a {a b : List Mt} {i k : Nat} (hi : i < a.length) (hk : k < b.length) (h : lessM a[i] b[k] = true) : mrg (a.drop i) (b.drop k) = a[i] :: mrg (a.drop (i + 1)) (b.drop k) := by
  rw [List.drop_eq_getElem_cons hi, List.drop_eq_getElem_cons hk]
  conv => lhs; rw [mrg]
  rw [if_pos h]
theorem mrg_b {a b : List Mt} {i k : Nat} (hi : i < a.length) (hk : k < b.length) (h : lessM a[i] b[k] = false) (h2 : lessM b[k] a[i] = true) : mrg (a.drop i) (b.drop k) = b[k] :: mrg (a.drop i) (b.drop (k + 1)) := by
  rw [List.drop_eq_getElem_cons hi, List.drop_eq_getElem_cons hk]
  conv => lhs; rw [mrg]
  rw [if_neg (by rw [h]; decide), if_pos h2]
theorem mrg_c {a b : List Mt} {i k : Nat} (hi : i < a.length) (hk : k < b.length) (h : lessM a[i] b[k] = false) (h2 : lessM b[k] a[i] = false) : mrg (a.drop i) (b.drop k) = comb a[i] b[k] :: mrg (a.drop (i + 1)) (b.drop (k + 1)) := by
  rw [List.drop_eq_getElem_cons hi, List.drop_eq_getElem_cons hk]
  conv => lhs; rw [mrg]
  rw [if_neg (by rw [h]; decide), if_neg (by rw [h2]; decide)]
theorem mrg_a0 {a b : List Mt} {i : Nat} (hi : i < a.length) : mrg (a.drop i) (b.drop b.length) = a[i] :: mrg (a.drop (i + 1)) (b.drop b.length) := by
  rw [List.drop_length, mrg_nil, mrg_nil, List.drop_eq_getElem_cons hi]
theorem mrg_b0 {a b : List Mt} {k : Nat} (hk : k < b.length) : mrg (a.drop a.length) (b.drop k) = b[k] :: mrg (a.drop a.length) (b.drop (k + 1)) := by
  rw [List.drop_length, List.drop_eq_getElem_cons hk]
  simp [mrg]
theorem chkR_rng (l : List Mt) : ∀ (r : List Mt) (i : Nat), chkR l r i = 0 → ∀ m ∈ r, rngB m = true
  | [], _, _ => by simp
  | m :: r, i, h => by
    unfold chkR at h
    by_cases h1 : chk1 l i m = 0
    · rw [if_pos h1] at h
      intro x hx
      rcases List.mem_cons.1 hx with rfl | hx
      · unfold chk1 at h1
        split at h1
        · cases h1
        · split at h1
          · cases h1
          · rename_i h9; simpa using h9
      · exact chkR_rng l r _ h x hx
    · rw [if_neg h1] at h
      exact absurd h h1
theorem chk_len {l : List Mt} (h : chk l = 0) : l.length ≤ 500 := by
  unfold chk at h
  split at h
  · cases h
  · omega
theorem chk_rng {l : List Mt} (h : chk l = 0) : ∀ m ∈ l, rngB m = true := by
  have := chk_len h
  unfold chk at h
  rw [if_neg (by omega)] at h
  exact chkR_rng l l 0 h
theorem rng_over {m : Mt} (h : rngB m = true) : overM m = false := by
  simp only [rngB, wi, Bool.and_eq_true, decide_eq_true_eq] at h
  simp only [overM, wi, Bool.or_eq_false_iff, decide_eq_false_iff_not, Bool.not_eq_false', decide_eq_true_eq]
  omega
theorem overM_iff (m : Mt) : overM m = true ↔ 1099511627776 < m.count ∨ m.sum < -1152921504606846976 ∨ 1152921504606846976 < m.sum := by
  simp only [overM, wi, Bool.or_eq_true, decide_eq_true_eq, Bool.not_eq_true', decide_eq_false_iff_not]
  omega
theorem over_no {m : Mt} (h : ¬ (1099511627776 < m.count ∨ m.sum < -1152921504606846976 ∨ 1152921504606846976 < m.sum)) : overM m = false := by
  cases e : overM m with
  | false => rfl
  | true => exact absurd ((overM_iff m).1 e) h
def RPost (a b : List Mt) (w : World) (e : Ending) (w' : World) : Prop :=
  Below w.heap.size w w' ∧ ∃ v,
  if chk a = 0 ∧ chk b = 0 then (if (mrg a b).any overM = true then e = .returned (.tuple #[v, .int .i64 14]) ∧ LV ME w' v [] else e = .returned (.tuple #[v, .int .i64 0]) ∧ LV ME w' v (mrg a b))
  else e = .returned (.tuple #[v, .int .i64 1]) ∧ LV ME w' v []
structure RK (a b : List Mt) (w wr : World) (o : Value) (i k : Nat) (P : List Mt) : Prop where
  hi : i ≤ a.length
  hk : k ≤ b.length
  own : wr.ownsRow w.heap.size 32 5 o P.length (P.flatMap mtCells)
  rest : P ++ mrg (a.drop i) (b.drop k) = mrg a b
  small : P.any overM = false
  len : P.length ≤ i + k
  below : Below w.heap.size w wr
theorem RK.fst {a b : List Mt} {w wr w2 : World} {o o' : Value} {i k : Nat} {P : List Mt} (h : RK a b w wr o i k P) (hi : i < a.length) (hr : rngB a[i] = true) (hm : mrg (a.drop i) (b.drop k) = a[i] :: mrg (a.drop (i + 1)) (b.drop k))
    (hown : w2.ownsRow w.heap.size 32 5 o' (P.length + 1) (P.flatMap mtCells ++ mtCells a[i])) (hb : Below w.heap.size w w2) : RK a b w w2 o' (i + 1) k (P ++ [a[i]]) :=
  ⟨hi, h.hk, by simpa using hown, by rw [← h.rest, hm]; simp, by rw [List.any_append, h.small]; simp [rng_over hr], by have := h.len; simp; omega, hb⟩
theorem RK.snd {a b : List Mt} {w wr w2 : World} {o o' : Value} {i k : Nat} {P : List Mt} (h : RK a b w wr o i k P) (hk : k < b.length) (hr : rngB b[k] = true) (hm : mrg (a.drop i) (b.drop k) = b[k] :: mrg (a.drop i) (b.drop (k + 1)))
    (hown : w2.ownsRow w.heap.size 32 5 o' (P.length + 1) (P.flatMap mtCells ++ mtCells b[k])) (hb : Below w.heap.size w w2) : RK a b w w2 o' i (k + 1) (P ++ [b[k]]) :=
  ⟨h.hi, hk, by simpa using hown, by rw [← h.rest, hm]; simp, by rw [List.any_append, h.small]; simp [rng_over hr], by have := h.len; simp; omega, hb⟩
theorem RK.both {a b : List Mt} {w wr w2 : World} {o o' : Value} {i k : Nat} {P : List Mt} (h : RK a b w wr o i k P) (hi : i < a.length) (hk : k < b.length) (hr : overM (comb a[i] b[k]) = false) (hm : mrg (a.drop i) (b.drop k) = comb a[i] b[k] :: mrg (a.drop (i + 1)) (b.drop (k + 1)))
    (hown : w2.ownsRow w.heap.size 32 5 o' (P.length + 1) (P.flatMap mtCells ++ mtCells (comb a[i] b[k]))) (hb : Below w.heap.size w w2) : RK a b w w2 o' (i + 1) (k + 1) (P ++ [comb a[i] b[k]]) :=
  ⟨hi, hk, by simpa using hown, by rw [← h.rest, hm]; simp, by rw [List.any_append, h.small]; simp [hr], by have := h.len; simp; omega, hb⟩
set_option maxRecDepth 100000 in
set_option maxHeartbeats 2000000 in
theorem rmerge8 (a b : List Mt) (va vb : Value) (w : World) (ha : LV ME w va a) (hb : LV ME w vb b) (hlen : chk a = 0 → chk b = 0 → a.length + b.length ≤ 500) :
    Calls Tryz.prog 8 #[va, vb] w (RPost a b w) := by
  have Hcka := Lib.hid (rcheck a va w ha)
  have Hckb := Lib.hid (fun w1 (h1 : Below w.heap.size w w1) => rcheck b vb w1 (hb.below h1))
  obtain ⟨A1, c1, hva, _, hr1⟩ := ha
  obtain ⟨A2, c2, hvb, _, hr2⟩ := hb
  subst hva hvb
  have Hr1 := Lib.hid hr1
  have Hr2 := Lib.hid hr2
  have Hlen := Lib.hid hlen
  clear hr1 hr2 hlen
  by_cases ca : chk a = 0
  · by_cases cb : chk b = 0
    · rw [ca] at Hcka
      rw [cb] at Hckb
      go_enter Tryz.func8, Tryz.ntmps8
      go_upto_region 3 with (go_at_call 10; first | (with_reducible refine Calls.mono Hcka.out ?_; rintro e w1 ⟨rfl, hb1⟩) | (with_reducible refine Calls.mono (Hckb.out _ hb1) ?_; rintro e w2 ⟨rfl, hb2⟩))
      have hbw := hb1.trans (below_mono hb2 hb1.size)
      have hsz := hbw.size
      have Hbw := Lib.hid hbw
      clear hbw hb1 hb2 Hcka Hckb
      go_upto_region 4 with fail
      go_upto_region 5 with fail
      have hk0 : RK a b w (w2.alloc (.cells #[] 32)) (.slice (some ⟨w2.heap.size, 0, none⟩) 0 0) 0 0 [] :=
        ⟨Nat.zero_le _, Nat.zero_le _, World.ownsRow_made w2 #[] 0 hsz (Nat.zero_le _) rfl, rfl, rfl, Nat.le_refl _, Hbw.out.alloc hsz _⟩
      have hlen := Hlen.out ca cb
      have hck1 := chk_rng ca
      have hck2 := chk_rng cb
      have Hc1 := Lib.hid hck1
      have Hc2 := Lib.hid hck2
      have Hk0 := Lib.hid hk0
      clear hck1 hck2 hk0 Hlen Hbw
      go_loopw [6, 7, 8] (fun o iv kv wr => ∃ (i k : Nat) (P : List Mt), iv = .int .i64 i ∧ kv = .int .i64 k ∧ RK a b w wr o i k P) (fun _ iv kv _ => (a.length - (intOf iv).toNat) + (b.length - (intOf kv).toNat))
      case atStart => exact ⟨0, 0, [], rfl, rfl, Hk0.out⟩
      case round =>
        obtain ⟨i, k, P, rfl, rfl, hK⟩ := hrel
        have hPl := hK.len
        have hi := hK.hi
        have hk := hK.hk
        have hsw := hK.below.size
        have HK := Lib.hid hK
        clear Hk0 hK
        by_cases hia : i < a.length
        · obtain ⟨g1, o1, rfl, hg1, hat1⟩ := Hr1.out (fun e => by rw [e] at hia; exact absurd hia (Nat.not_lt_zero _))
          have r1 : Row wr g1 (o1 + i * 5) (mtCells a[i]) := (hat1 i hia).below HK.out.below hg1
          have hg1' : g1 < wr.heap.size := Nat.lt_of_lt_of_le hg1 hsw
          have hrx := Hc1.out a[i] (List.getElem_mem hia)
          by_cases hkb : k < b.length
          · obtain ⟨g2, o2, rfl, hg2, hat2⟩ := Hr2.out (fun e => by rw [e] at hkb; exact absurd hkb (Nat.not_lt_zero _))
            have r2 : Row wr g2 (o2 + k * 5) (mtCells b[k]) := (hat2 k hkb).below HK.out.below hg2
            have hg2' : g2 < wr.heap.size := Nat.lt_of_lt_of_le hg2 hsw
            have hry := Hc2.out b[k] (List.getElem_mem hkb)
            have i1 : (k : Int) < (b.length : Int) := by omega
            have i2 : (i : Int) < (a.length : Int) := by omega
            have i3 : ((k : Int) == (b.length : Int)) = false := by simp; omega
            have i4 : ((i : Int) == (a.length : Int)) = false := by simp; omega
            rcases Bool.eq_false_or_eq_true (lessM a[i] b[k]) with hl1 | hl1
            · have hfst := fun w2 o' h1 h2 => HK.out.fst (w2 := w2) (o' := o') hia hrx (mrg_a hia hkb hl1) h1 h2
              have Hfst := Lib.hid hfst
              have hless := less20 a[i] b[k]
              rw [hl1] at hless
              have Hless := Lib.hid hless
              generalize hX : a[i] = X at *
              generalize hY : b[k] = Y at *
              have R1 := Lib.hid r1
              have R2 := Lib.hid r2
              clear r1 r2 hfst hat1 hat2 hrx hry hX hY hless hl1
              go_upto_region 15 with fail
              refine wp_region_det (by kernel_rfl) (by kernel_rfl) (fun wx => Below wr.heap.size wr wx) ((Below.refl _ _).drew) ?_
              iterate 22
                apply wpDet_cons
                · intro wx hx
                  have p1 := R1.out.below hx hg1'
                  have p2 := R2.out.below hx hg2'
                  simp only [mtCells] at p1 p2
                  first
                    | ((with_reducible refine wpList_load_aggW (o := ⟨some 97, .load 32 (.tmp 96), _, _, _, _⟩) ?_ 32 _ rfl g1 (o1 + i * 5) ?_ _ p1 _ Tryz.underlying32 rfl ?_ ?_); (focus rfl); (focus rfl); (focus kernel_rfl); exact ⟨rfl, rfl, hx⟩)
                    | ((with_reducible refine wpList_load_aggW (o := ⟨some 101, .load 32 (.tmp 100), _, _, _, _⟩) ?_ 32 _ rfl g2 (o2 + k * 5) ?_ _ p2 _ Tryz.underlying32 rfl ?_ ?_); (focus rfl); (focus rfl); (focus kernel_rfl); exact ⟨rfl, rfl, hx⟩)
                    | (go_wp2_with (go_at_call 20; refine (Hless.out _).mono ?_; rintro e w' ⟨rfl, hbk⟩)
                       first
                         | exact ⟨rfl, rfl, hx⟩
                         | exact ⟨rfl, rfl, hx.trans (below_mono hbk hx.size)⟩)
                go_frame
              intro wx hx
              have r1 := R1.out.below hx hg1'
              have hownx := own_below HK.out.own hx
              have hbx := HK.out.below.trans (below_mono hx hsw)
              have hsx := hbx.size
              have Hox := Lib.hid hownx
              have Hbx := Lib.hid hbx
              clear hx hownx hbx
              go_upto_region 17 with (first | ((with_reducible refine wpList_load_agg (o := ⟨some 109, .load 32 (.tmp 108), _, _, _, none⟩) rfl 32 _ rfl g1 (o1 + i * 5) ?_ _ r1 _ Tryz.underlying32 rfl ?_ ?_); (focus rfl); (focus kernel_rfl); simp only [mtCells]) | (at_builtin; refine wpList_app rfl _ _ 22 rfl w.heap.size 32 5 48 TM _ _ _ rfl (Hox.out.alloc _) wx.heap.size (mtCells X) rfl rfl (Row.new _ _ _ _ rfl) (mtCells_one _) (by omega) (by omega) (by simp; omega) ?_; intro v' w3 hown3 hgr))
              go_wp2
              refine ⟨⟨i + 1, _, _, by simp, rfl, Hfst.out _ _ hown3 ((Hbx.out.alloc hsx _).grown hgr (by simp; omega) (fun j hj => (Hox.out.lt j hj).1))⟩, by simp [intOf]; omega⟩
            · rcases Bool.eq_false_or_eq_true (lessM b[k] a[i]) with hl2 | hl2
              · have hsnd := fun w2 o' h1 h2 => HK.out.snd (w2 := w2) (o' := o') hkb hry (mrg_b hia hkb hl1 hl2) h1 h2
                have Hsnd := Lib.hid hsnd
                have hless := less20 a[i] b[k]
                rw [hl1] at hless
                have Hless := Lib.hid hless
                have hless2 := less20 b[k] a[i]
                rw [hl2] at hless2
                have Hless2 := Lib.hid hless2
                generalize hX : a[i] = X at *
                generalize hY : b[k] = Y at *
                have R1 := Lib.hid r1
                have R2 := Lib.hid r2
                clear r1 r2 hsnd hat1 hat2 hrx hry hX hY hless hless2 hl1 hl2
                go_upto_region 15 with fail
                refine wp_region_det (by kernel_rfl) (by kernel_rfl) (fun wx => Below wr.heap.size wr wx) ((Below.refl _ _).drew) ?_
                iterate 22
                  apply wpDet_cons
                  · intro wx hx
                    have p1 := R1.out.below hx hg1'
                    have p2 := R2.out.below hx hg2'
                    simp only [mtCells] at p1 p2
                    first
                      | ((with_reducible refine wpList_load_aggW (o := ⟨some 97, .load 32 (.tmp 96), _, _, _, _⟩) ?_ 32 _ rfl g1 (o1 + i * 5) ?_ _ p1 _ Tryz.underlying32 rfl ?_ ?_); (focus rfl); (focus rfl); (focus kernel_rfl); exact ⟨rfl, rfl, hx⟩)
                      | ((with_reducible refine wpList_load_aggW (o := ⟨some 101, .load 32 (.tmp 100), _, _, _, _⟩) ?_ 32 _ rfl g2 (o2 + k * 5) ?_ _ p2 _ Tryz.underlying32 rfl ?_ ?_); (focus rfl); (focus rfl); (focus kernel_rfl); exact ⟨rfl, rfl, hx⟩)
                      | (go_wp2_with (go_at_call 20; refine (Hless.out _).mono ?_; rintro e w' ⟨rfl, hbk⟩)
                         first
                           | exact ⟨rfl, rfl, hx⟩
                           | exact ⟨rfl, rfl, hx.trans (below_mono hbk hx.size)⟩)
                  go_frame
                intro wx hx
                go_upto_region 18 with fail
                refine wp_region_det (by kernel_rfl) (by kernel_rfl) (fun wy => Below wr.heap.size wr wy) hx.drew ?_
                iterate 16
                  apply wpDet_cons
                  · intro wx hx
                    have p1 := R1.out.below hx hg1'
                    have p2 := R2.out.below hx hg2'
                    simp only [mtCells] at p1 p2
                    first
                      | ((with_reducible refine wpList_load_aggW (o := ⟨some 127, .load 32 (.tmp 126), _, _, _, _⟩) ?_ 32 _ rfl g1 (o1 + i * 5) ?_ _ p1 _ Tryz.underlying32 rfl ?_ ?_); (focus rfl); (focus rfl); (focus kernel_rfl); exact ⟨rfl, rfl, hx⟩)
                      | ((with_reducible refine wpList_load_aggW (o := ⟨some 123, .load 32 (.tmp 122), _, _, _, _⟩) ?_ 32 _ rfl g2 (o2 + k * 5) ?_ _ p2 _ Tryz.underlying32 rfl ?_ ?_); (focus rfl); (focus rfl); (focus kernel_rfl); exact ⟨rfl, rfl, hx⟩)
                      | (go_wp2_with (go_at_call 20; refine (Hless2.out _).mono ?_; rintro e w' ⟨rfl, hbk⟩)
                         first
                           | exact ⟨rfl, rfl, hx⟩
                           | exact ⟨rfl, rfl, hx.trans (below_mono hbk hx.size)⟩)
                  go_frame
                clear hx
                intro wx hx
                have r2 := R2.out.below hx hg2'
                have hownx := own_below HK.out.own hx
                have hbx := HK.out.below.trans (below_mono hx hsw)
                have hsx := hbx.size
                have Hox := Lib.hid hownx
                have Hbx := Lib.hid hbx
                clear hx hownx hbx
                go_upto_region 20 with (first | ((with_reducible refine wpList_load_agg (o := ⟨some 134, .load 32 (.tmp 133), _, _, _, none⟩) rfl 32 _ rfl g2 (o2 + k * 5) ?_ _ r2 _ Tryz.underlying32 rfl ?_ ?_); (focus rfl); (focus kernel_rfl); simp only [mtCells]) | (at_builtin; refine wpList_app rfl _ _ 22 rfl w.heap.size 32 5 48 TM _ _ _ rfl (Hox.out.alloc _) wx.heap.size (mtCells Y) rfl rfl (Row.new _ _ _ _ rfl) (mtCells_one _) (by omega) (by omega) (by simp; omega) ?_; intro v' w3 hown3 hgr))
                go_wp2
                refine ⟨⟨_, k + 1, _, rfl, by simp, Hsnd.out _ _ hown3 ((Hbx.out.alloc hsx _).grown hgr (by simp; omega) (fun j hj => (Hox.out.lt j hj).1))⟩, by simp [intOf]; omega⟩
              · have hc := mrg_c hia hkb hl1 hl2
                have hboth := fun w2 o' ho h1 h2 => HK.out.both (w2 := w2) (o' := o') hia hkb ho hc h1 h2
                have hover : overM (comb a[i] b[k]) = true → (mrg a b).any overM = true := fun ho => by
                  rw [← HK.out.rest, hc]
                  simp [ho]
                have Hboth := Lib.hid hboth
                have Hover := Lib.hid hover
                clear hc hboth hover
                have hless := less20 a[i] b[k]
                rw [hl1] at hless
                have Hless := Lib.hid hless
                have hless2 := less20 b[k] a[i]
                rw [hl2] at hless2
                have Hless2 := Lib.hid hless2
                generalize hX : a[i] = X at *
                generalize hY : b[k] = Y at *
                have R1 := Lib.hid r1
                have R2 := Lib.hid r2
                simp only [rngB, wi, Bool.and_eq_true, decide_eq_true_eq] at hrx hry
                obtain ⟨⟨⟨_, n1, n2⟩, n3, n4⟩, n5, n6⟩ := hrx
                obtain ⟨⟨⟨_, n7, n8⟩, n9, n10⟩, n11, n12⟩ := hry
                clear r1 r2 hat1 hat2 hX hY hless hless2 hl1 hl2
                go_upto_region 15 with fail
                refine wp_region_det (by kernel_rfl) (by kernel_rfl) (fun wx => Below wr.heap.size wr wx) ((Below.refl _ _).drew) ?_
                iterate 22
                  apply wpDet_cons
                  · intro wx hx
                    have p1 := R1.out.below hx hg1'
                    have p2 := R2.out.below hx hg2'
                    simp only [mtCells] at p1 p2
                    first
                      | ((with_reducible refine wpList_load_aggW (o := ⟨some 97, .load 32 (.tmp 96), _, _, _, _⟩) ?_ 32 _ rfl g1 (o1 + i * 5) ?_ _ p1 _ Tryz.underlying32 rfl ?_ ?_); (focus rfl); (focus rfl); (focus kernel_rfl); exact ⟨rfl, rfl, hx⟩)
                      | ((with_reducible refine wpList_load_aggW (o := ⟨some 101, .load 32 (.tmp 100), _, _, _, _⟩) ?_ 32 _ rfl g2 (o2 + k * 5) ?_ _ p2 _ Tryz.underlying32 rfl ?_ ?_); (focus rfl); (focus rfl); (focus kernel_rfl); exact ⟨rfl, rfl, hx⟩)
                      | (go_wp2_with (go_at_call 20; refine (Hless.out _).mono ?_; rintro e w' ⟨rfl, hbk⟩)
                         first
                           | exact ⟨rfl, rfl, hx⟩
                           | exact ⟨rfl, rfl, hx.trans (below_mono hbk hx.size)⟩)
                  go_frame
                intro wx hx
                go_upto_region 18 with fail
                refine wp_region_det (by kernel_rfl) (by kernel_rfl) (fun wy => Below wr.heap.size wr wy) hx.drew ?_
                iterate 16
                  apply wpDet_cons
                  · intro wx hx
                    have p1 := R1.out.below hx hg1'
                    have p2 := R2.out.below hx hg2'
                    simp only [mtCells] at p1 p2
                    first
                      | ((with_reducible refine wpList_load_aggW (o := ⟨some 127, .load 32 (.tmp 126), _, _, _, _⟩) ?_ 32 _ rfl g1 (o1 + i * 5) ?_ _ p1 _ Tryz.underlying32 rfl ?_ ?_); (focus rfl); (focus rfl); (focus kernel_rfl); exact ⟨rfl, rfl, hx⟩)
                      | ((with_reducible refine wpList_load_aggW (o := ⟨some 123, .load 32 (.tmp 122), _, _, _, _⟩) ?_ 32 _ rfl g2 (o2 + k * 5) ?_ _ p2 _ Tryz.underlying32 rfl ?_ ?_); (focus rfl); (focus rfl); (focus kernel_rfl); exact ⟨rfl, rfl, hx⟩)
                      | (go_wp2_with (go_at_call 20; refine (Hless2.out _).mono ?_; rintro e w' ⟨rfl, hbk⟩)
                         first
                           | exact ⟨rfl, rfl, hx⟩
                           | exact ⟨rfl, rfl, hx.trans (below_mono hbk hx.size)⟩)
                  go_frame
                clear hx
                intro wx hx
                have r1 := R1.out.below hx hg1'
                have r2 := R2.out.below hx hg2'
                have hxs := hx.size
                have hownx := own_below HK.out.own hx
                have hbx := HK.out.below.trans (below_mono hx hsw)
                have hsx := hbx.size
                have Hox := Lib.hid hownx
                have Hbx := Lib.hid hbx
                have R2x := Lib.hid r2
                clear hx hownx hbx r2
                go_upto_region 7 with ((with_reducible refine wpList_load_agg (o := ⟨some 33, .load 32 (.tmp 32), _, _, _, none⟩) rfl 32 _ rfl g1 (o1 + i * 5) ?_ _ r1 _ Tryz.underlying32 rfl ?_ ?_); (focus rfl); (focus kernel_rfl); simp only [mtCells])
                have hx7 : (wx.alloc (.cells #[.string ⟨X.name.toArray⟩, .int .i64 X.index, .int .i64 X.count, .int .i64 X.sum, .int .i64 X.mx] 32)).heap[wx.heap.size]? = some (.cells #[.string ⟨X.name.toArray⟩, .int .i64 X.index, .int .i64 X.count, .int .i64 X.sum, .int .i64 X.mx] 32 (0, 0)) := heap_alloc_new wx _
                have hb7 : Below wx.heap.size wx (wx.alloc (.cells #[.string ⟨X.name.toArray⟩, .int .i64 X.index, .int .i64 X.count, .int .i64 X.sum, .int .i64 X.mx] 32)) := (Below.refl _ _).alloc (Nat.le_refl _) _
                have hs7 : (wx.alloc (.cells #[.string ⟨X.name.toArray⟩, .int .i64 X.index, .int .i64 X.count, .int .i64 X.sum, .int .i64 X.mx] 32)).heap.size = wx.heap.size + 1 := by simp
                generalize (wx.alloc (.cells #[.string ⟨X.name.toArray⟩, .int .i64 X.index, .int .i64 X.count, .int .i64 X.sum, .int .i64 X.mx] 32)) = W7 at *
                have hg2x : g2 < wx.heap.size := Nat.lt_of_lt_of_le hg2' hxs
                have HX7 := Lib.hid hx7
                have HB7 := Lib.hid hb7
                have HS7 := Lib.hid hs7
                clear hx7 hb7 hs7 r1
                have f7 : W7.drew.frozen? ⟨wx.heap.size, 2, none⟩ = false := Lib.frozen_of_heap (w := W7.drew) HX7.out 2
                have c7 : W7.drew.cell? ⟨wx.heap.size, 2, none⟩ = some (.int .i64 X.count) := by rw [Lib.cell_of_heap (w := W7.drew) HX7.out]; rfl
                have d7 : W7.drew.cell? ⟨g2, o2 + k * 5 + 2, none⟩ = some (.int .i64 Y.count) := (R2x.out.below HB7.out.drew hg2x) 2 _ rfl
                refine wp_region_tail 9 (by kernel_rfl) (by kernel_rfl) (fun W' => W7.drew = W') rfl ?_
                iterate 9
                  apply wpDetT_cons
                  · rintro _ rfl
                    go_wp2
                    exact ⟨rfl, rfl, rfl⟩
                  go_frame
                rintro _ rfl
                go_upto_region 8 with fail
                have hx : ((W7.setCell ⟨wx.heap.size, 2, none⟩ (.int .i64 (X.count + Y.count))).drew).heap[wx.heap.size]? = _ := SW_at (W := W7) (u2 := (.int .i64 (X.count + Y.count))) (u3 := (.int .i64 (X.sum + Y.sum))) (u4 := (.int .i64 (max X.mx Y.mx))) true false false HX7.out
                have hb : Below wx.heap.size wx ((W7.setCell ⟨wx.heap.size, 2, none⟩ (.int .i64 (X.count + Y.count))).drew) := (SW_bx (W := W7) (u2 := (.int .i64 (X.count + Y.count))) (u3 := (.int .i64 (X.sum + Y.sum))) (u4 := (.int .i64 (max X.mx Y.mx))) (b1 := true) (b2 := false) (b3 := false) HB7.out (Nat.le_refl _)).drew
                have hs : ((W7.setCell ⟨wx.heap.size, 2, none⟩ (.int .i64 (X.count + Y.count))).drew).heap.size = wx.heap.size + 1 := (SW_size (W := W7) (x := wx.heap.size) (u2 := (.int .i64 (X.count + Y.count))) (u3 := (.int .i64 (X.sum + Y.sum))) (u4 := (.int .i64 (max X.mx Y.mx))) true false false).trans HS7.out
                simp only [cond_true, cond_false] at hx
                generalize ((W7.setCell ⟨wx.heap.size, 2, none⟩ (.int .i64 (X.count + Y.count))).drew) = W8 at *
                have HX8 := Lib.hid hx
                have HB8 := Lib.hid hb
                have HS8 := Lib.hid hs
                clear hx hb hs f7 c7 d7 HX7 HB7 HS7
                have f8 : W8.drew.frozen? ⟨wx.heap.size, 3, none⟩ = false := Lib.frozen_of_heap (w := W8.drew) HX8.out 3
                have c8 : W8.drew.cell? ⟨wx.heap.size, 3, none⟩ = some (.int .i64 X.sum) := by rw [Lib.cell_of_heap (w := W8.drew) HX8.out]; rfl
                have d8 : W8.drew.cell? ⟨g2, o2 + k * 5 + 3, none⟩ = some (.int .i64 Y.sum) := (R2x.out.below HB8.out.drew hg2x) 3 _ rfl
                refine wp_region_tail 9 (by kernel_rfl) (by kernel_rfl) (fun W' => W8.drew = W') rfl ?_
                iterate 9
                  apply wpDetT_cons
                  · rintro _ rfl
                    go_wp2
                    exact ⟨rfl, rfl, rfl⟩
                  go_frame
                rintro _ rfl
                go_upto_region 9 with fail
                have hx : ((W8.setCell ⟨wx.heap.size, 3, none⟩ (.int .i64 (X.sum + Y.sum))).drew).heap[wx.heap.size]? = _ := SW_at (W := W8) (u2 := (.int .i64 (X.count + Y.count))) (u3 := (.int .i64 (X.sum + Y.sum))) (u4 := (.int .i64 (max X.mx Y.mx))) false true false HX8.out
                have hb : Below wx.heap.size wx ((W8.setCell ⟨wx.heap.size, 3, none⟩ (.int .i64 (X.sum + Y.sum))).drew) := (SW_bx (W := W8) (u2 := (.int .i64 (X.count + Y.count))) (u3 := (.int .i64 (X.sum + Y.sum))) (u4 := (.int .i64 (max X.mx Y.mx))) (b1 := false) (b2 := true) (b3 := false) HB8.out (Nat.le_refl _)).drew
                have hs : ((W8.setCell ⟨wx.heap.size, 3, none⟩ (.int .i64 (X.sum + Y.sum))).drew).heap.size = wx.heap.size + 1 := (SW_size (W := W8) (x := wx.heap.size) (u2 := (.int .i64 (X.count + Y.count))) (u3 := (.int .i64 (X.sum + Y.sum))) (u4 := (.int .i64 (max X.mx Y.mx))) false true false).trans HS8.out
                simp only [cond_true, cond_false] at hx
                generalize ((W8.setCell ⟨wx.heap.size, 3, none⟩ (.int .i64 (X.sum + Y.sum))).drew) = W9 at *
                have HX9 := Lib.hid hx
                have HB9 := Lib.hid hb
                have HS9 := Lib.hid hs
                clear hx hb hs f8 c8 d8 HX8 HB8 HS8
                have f9 : W9.drew.frozen? ⟨wx.heap.size, 4, none⟩ = false := Lib.frozen_of_heap (w := W9.drew) HX9.out 4
                have c9 : W9.drew.cell? ⟨wx.heap.size, 4, none⟩ = some (.int .i64 X.mx) := by rw [Lib.cell_of_heap (w := W9.drew) HX9.out]; rfl
                have d9 : W9.drew.cell? ⟨g2, o2 + k * 5 + 4, none⟩ = some (.int .i64 Y.mx) := (R2x.out.below HB9.out.drew hg2x) 4 _ rfl
                refine wp_region_tail 9 (by kernel_rfl) (by kernel_rfl) (fun W' => W9.drew = W') rfl ?_
                iterate 9
                  apply wpDetT_cons
                  · rintro _ rfl
                    go_wp2
                    exact ⟨rfl, rfl, rfl⟩
                  go_frame
                rintro _ rfl
                go_upto_region 10 with fail
                have hx : ((W9.setCell ⟨wx.heap.size, 4, none⟩ (.int .i64 (max X.mx Y.mx))).drew).heap[wx.heap.size]? = _ := SW_at (W := W9) (u2 := (.int .i64 (X.count + Y.count))) (u3 := (.int .i64 (X.sum + Y.sum))) (u4 := (.int .i64 (max X.mx Y.mx))) false false true HX9.out
                have hb : Below wx.heap.size wx ((W9.setCell ⟨wx.heap.size, 4, none⟩ (.int .i64 (max X.mx Y.mx))).drew) := (SW_bx (W := W9) (u2 := (.int .i64 (X.count + Y.count))) (u3 := (.int .i64 (X.sum + Y.sum))) (u4 := (.int .i64 (max X.mx Y.mx))) (b1 := false) (b2 := false) (b3 := true) HB9.out (Nat.le_refl _)).drew
                have hs : ((W9.setCell ⟨wx.heap.size, 4, none⟩ (.int .i64 (max X.mx Y.mx))).drew).heap.size = wx.heap.size + 1 := (SW_size (W := W9) (x := wx.heap.size) (u2 := (.int .i64 (X.count + Y.count))) (u3 := (.int .i64 (X.sum + Y.sum))) (u4 := (.int .i64 (max X.mx Y.mx))) false false true).trans HS9.out
                simp only [cond_true, cond_false] at hx
                generalize ((W9.setCell ⟨wx.heap.size, 4, none⟩ (.int .i64 (max X.mx Y.mx))).drew) = W10 at *
                have HX10 := Lib.hid hx
                have HB10 := Lib.hid hb
                have HS10 := Lib.hid hs
                clear hx hb hs f9 c9 d9 HX9 HB9 HS9
                have e2 : W10.cell? ⟨wx.heap.size, 2, none⟩ = some (.int .i64 (X.count + Y.count)) := by rw [Lib.cell_of_heap HX10.out]; rfl
                have e3 : W10.cell? ⟨wx.heap.size, 3, none⟩ = some (.int .i64 (X.sum + Y.sum)) := by rw [Lib.cell_of_heap HX10.out]; rfl
                have hrw : Row W10 wx.heap.size 0 (mtCells (comb X Y)) := row_of_heap HX10.out
                have hs10 := HS10.out
                by_cases h1 : (1099511627776 : Int) < X.count + Y.count
                · go_wp2
                  go_ret2
                  refine ⟨(Hbx.out.trans (below_mono HB10.out hsx)).alloc (by rw [HS10.out]; omega) _, .slice (some ⟨wx.heap.size + 1, 0, none⟩) 0 0, ?_⟩
                  rw [if_pos ⟨ca, cb⟩, if_pos (Hover.out ((overM_iff _).2 (by simp only [comb]; omega)))]
                  exact ⟨rfl, LV.nil_ _ _ _ _⟩
                by_cases h2 : X.sum + Y.sum < (-1152921504606846976 : Int)
                · go_wp2
                  go_ret2
                  refine ⟨(Hbx.out.trans (below_mono HB10.out hsx)).alloc (by rw [HS10.out]; omega) _, .slice (some ⟨wx.heap.size + 1, 0, none⟩) 0 0, ?_⟩
                  rw [if_pos ⟨ca, cb⟩, if_pos (Hover.out ((overM_iff _).2 (by simp only [comb]; omega)))]
                  exact ⟨rfl, LV.nil_ _ _ _ _⟩
                by_cases h3 : (1152921504606846976 : Int) < X.sum + Y.sum
                · go_wp2
                  go_ret2
                  refine ⟨(Hbx.out.trans (below_mono HB10.out hsx)).alloc (by rw [HS10.out]; omega) _, .slice (some ⟨wx.heap.size + 1, 0, none⟩) 0 0, ?_⟩
                  rw [if_pos ⟨ca, cb⟩, if_pos (Hover.out ((overM_iff _).2 (by simp only [comb]; omega)))]
                  exact ⟨rfl, LV.nil_ _ _ _ _⟩
                have hox := own_below Hox.out HB10.out
                have hno : overM (comb X Y) = false := over_no (fun h => by simp only [comb] at h; omega)
                have Hno := Lib.hid hno
                have HOx := Lib.hid hox
                clear hno hox
                go_upto_region 12 with fail
                go_upto_region 13 with (first | ((with_reducible refine wpList_load_agg (o := ⟨some 76, .load 32 (.tmp 9), _, _, _, none⟩) rfl 32 _ rfl wx.heap.size 0 ?_ _ hrw _ Tryz.underlying32 rfl ?_ ?_); (focus rfl); (focus kernel_rfl); simp only [mtCells, comb]) | (at_builtin; refine wpList_app rfl _ _ 22 rfl w.heap.size 32 5 48 TM _ _ _ rfl (HOx.out.alloc _) (wx.heap.size + 1) (mtCells (comb X Y)) rfl rfl (Row.new _ _ _ _ hs10.symm) (mtCells_one _) (by omega) (by omega) (by simp; omega) ?_; intro v' w3 hown3 hgr))
                have hbf : Below w.heap.size w w3 := ((Hbx.out.trans (below_mono HB10.out hsx)).alloc (by rw [hs10]; omega) _).grown hgr (by simp; omega) (fun j hj => (HOx.out.lt j hj).1)
                go_wp2
                refine ⟨⟨i + 1, k + 1, _, by simp, by simp, Hboth.out _ _ Hno.out hown3 hbf⟩, by simp [intOf]; omega⟩
          · obtain rfl : k = b.length := by omega
            have hfst := fun w2 o' h1 h2 => HK.out.fst (w2 := w2) (o' := o') hia hrx (mrg_a0 hia) h1 h2
            have Hfst := Lib.hid hfst
            generalize hX : a[i] = X at *
            have R1 := Lib.hid r1
            clear r1 hfst hat1 hrx hX
            go_upto_region 15 with fail
            refine wp_region_det (by kernel_rfl) (by kernel_rfl) (fun wx => Below wr.heap.size wr wx) ((Below.refl _ _).drew) ?_
            iterate 22
              apply wpDet_cons
              · intro wx hx
                go_wp2_with fail
                exact ⟨rfl, rfl, hx⟩
              go_frame
            intro wx hx
            have r1 := R1.out.below hx hg1'
            have hownx := own_below HK.out.own hx
            have hbx := HK.out.below.trans (below_mono hx hsw)
            have hsx := hbx.size
            have Hox := Lib.hid hownx
            have Hbx := Lib.hid hbx
            clear hx hownx hbx
            go_upto_region 17 with (first | ((with_reducible refine wpList_load_agg (o := ⟨some 109, .load 32 (.tmp 108), _, _, _, none⟩) rfl 32 _ rfl g1 (o1 + i * 5) ?_ _ r1 _ Tryz.underlying32 rfl ?_ ?_); (focus rfl); (focus kernel_rfl); simp only [mtCells]) | (at_builtin; refine wpList_app rfl _ _ 22 rfl w.heap.size 32 5 48 TM _ _ _ rfl (Hox.out.alloc _) wx.heap.size (mtCells X) rfl rfl (Row.new _ _ _ _ rfl) (mtCells_one _) (by omega) (by omega) (by simp; omega) ?_; intro v' w3 hown3 hgr))
            go_wp2
            refine ⟨⟨i + 1, _, _, by simp, rfl, Hfst.out _ _ hown3 ((Hbx.out.alloc hsx _).grown hgr (by simp; omega) (fun j hj => (Hox.out.lt j hj).1))⟩, by simp [intOf]; omega⟩
        · obtain rfl : i = a.length := by omega
          by_cases hkb : k < b.length
          · obtain ⟨g2, o2, rfl, hg2, hat2⟩ := Hr2.out (fun e => by rw [e] at hkb; exact absurd hkb (Nat.not_lt_zero _))
            have r2 : Row wr g2 (o2 + k * 5) (mtCells b[k]) := (hat2 k hkb).below HK.out.below hg2
            have hg2' : g2 < wr.heap.size := Nat.lt_of_lt_of_le hg2 hsw
            have hry := Hc2.out b[k] (List.getElem_mem hkb)
            have i1 : (k : Int) < (b.length : Int) := by omega
            have i3 : ((k : Int) == (b.length : Int)) = false := by simp; omega
            have hsnd := fun w2 o' h1 h2 => HK.out.snd (w2 := w2) (o' := o') hkb hry (mrg_b0 hkb) h1 h2
            have Hsnd := Lib.hid hsnd
            generalize hY : b[k] = Y at *
            have R2 := Lib.hid r2
            clear r2 hsnd hat2 hry hY
            go_upto_region 15 with fail
            refine wp_region_det (by kernel_rfl) (by kernel_rfl) (fun wx => Below wr.heap.size wr wx) ((Below.refl _ _).drew) ?_
            iterate 22
              apply wpDet_cons
              · intro wx hx
                go_wp2_with fail
                exact ⟨rfl, rfl, hx⟩
              go_frame
            intro wx hx
            go_upto_region 18 with fail
            refine wp_region_det (by kernel_rfl) (by kernel_rfl) (fun wy => Below wr.heap.size wr wy) hx.drew ?_
            iterate 16
              apply wpDet_cons
              · intro wx hx
                go_wp2_with fail
                exact ⟨rfl, rfl, hx⟩
              go_frame
            clear hx
            intro wx hx
            have r2 := R2.out.below hx hg2'
            have hownx := own_below HK.out.own hx
            have hbx := HK.out.below.trans (below_mono hx hsw)
            have hsx := hbx.size
            have Hox := Lib.hid hownx
            have Hbx := Lib.hid hbx
            clear hx hownx hbx
            go_upto_region 20 with (first | ((with_reducible refine wpList_load_agg (o := ⟨some 134, .load 32 (.tmp 133), _, _, _, none⟩) rfl 32 _ rfl g2 (o2 + k * 5) ?_ _ r2 _ Tryz.underlying32 rfl ?_ ?_); (focus rfl); (focus kernel_rfl); simp only [mtCells]) | (at_builtin; refine wpList_app rfl _ _ 22 rfl w.heap.size 32 5 48 TM _ _ _ rfl (Hox.out.alloc _) wx.heap.size (mtCells Y) rfl rfl (Row.new _ _ _ _ rfl) (mtCells_one _) (by omega) (by omega) (by simp; omega) ?_; intro v' w3 hown3 hgr))
            go_wp2
            refine ⟨⟨_, k + 1, _, rfl, by simp, Hsnd.out _ _ hown3 ((Hbx.out.alloc hsx _).grown hgr (by simp; omega) (fun j hj => (Hox.out.lt j hj).1))⟩, by simp [intOf]; omega⟩
          · obtain rfl : k = b.length := by omega
            have hP : P = mrg a b := by
              have := HK.out.rest
              rw [List.drop_length, List.drop_length, mrg_nil, List.append_nil] at this
              exact this
            have HP := Lib.hid hP
            clear hP
            have hown := HK.out.own
            have hsm := HK.out.small
            have hbl := HK.out.below
            rcases ownsRow_row hown with ⟨rfl, h0, -⟩ | ⟨g, cap, rfl, -, hg, hcap, hrow⟩
            · go_wp2
              go_ret2
              refine ⟨hbl, .slice none 0 0, ?_⟩
              rw [if_pos ⟨ca, cb⟩, ← HP.out, if_neg (by rw [hsm]; decide)]
              exact ⟨rfl, lv_own hown⟩
            · have h5 : P.length ≤ 500 := by omega
              go_wp2
              all_goals
                first
                  | (exfalso; omega)
                  | (go_ret2
                     refine ⟨hbl, .slice (some ⟨g, 0, none⟩) P.length cap, ?_⟩
                     rw [if_pos ⟨ca, cb⟩, ← HP.out, if_neg (by rw [hsm]; decide)]
                     exact ⟨rfl, lv_own hown⟩)
    · rw [ca] at Hcka
      go_enter Tryz.func8, Tryz.ntmps8
      go_wp2_with (go_at_call 10; first | (with_reducible refine Calls.mono Hcka.out ?_; rintro e w1 ⟨rfl, hb1⟩) | (with_reducible refine Calls.mono (Hckb.out _ hb1) ?_; rintro e w2 ⟨rfl, hb2⟩))
      have hbw := hb1.trans (below_mono hb2 hb1.size)
      go_ret2
      refine ⟨hbw.alloc hbw.size _, .slice (some ⟨w2.heap.size, 0, none⟩) 0 0, ?_⟩
      rw [if_neg (fun h => cb h.2)]
      exact ⟨rfl, LV.nil_ _ _ _ _⟩
  · go_enter Tryz.func8, Tryz.ntmps8
    go_wp2_with (go_at_call 10; with_reducible refine Calls.mono Hcka.out ?_; rintro e w1 ⟨rfl, hb1⟩)
    go_ret2
    refine ⟨hb1.alloc hb1.size _, .slice (some ⟨w1.heap.size, 0, none⟩) 0 0, ?_⟩
    rw [if_neg (fun h => ca h.1)]
    exact ⟨rfl, LV.nil_ _ _ _ _⟩
end Go.Proofs.Seat7

/- A part of the proof. -/
import Derived.Test.YtdimfodgmaelhaaGreatDoorPbb
import Derived.Deep.Cut
set_option linter.all false
set_option linter.all false
namespace Go.Proofs.Seat9
open Go.RowKit Go.Proofs.Seat4
def ItoaAt (w : World) (l : List Sp) : Prop := ∀ x ∈ l, ∀ n, (n = x.task ∨ n = x.index) → ∀ W, Below w.heap.size w W → Calls Tryz.prog 21 #[.int .i64 n] W fun e w' => e = .returned (.string ⟨(Lib.itoa n).toArray⟩) ∧ Below W.heap.size W w'
def ChartP (l : List Sp) (kind : Int) (w : World) (e : Ending) (w' : World) : Prop := e = .returned (.tuple #[.string ⟨(chartT l kind).toArray⟩, .int .i64 (chartE l kind)]) ∧ Below w.heap.size w w'
theorem chartP_of {l : List Sp} {kind : Int} {w w' : World} {t : List UInt8} {c : Int} (h1 : chartE l kind = c) (h2 : chartT l kind = t) (hb : Below w.heap.size w w') : ChartP l kind w (.returned (.tuple #[.string ⟨t.toArray⟩, .int .i64 c])) w' := ⟨by rw [h1, h2], hb⟩
def headS (x : Sp) : List UInt8 := Lib.itoa x.task ++ [32] ++ Lib.itoa x.index ++ [32]
theorem cat2 (l r : List UInt8) : (ByteArray.mk l.toArray) ++ (ByteArray.mk r.toArray) = ByteArray.mk (l ++ r).toArray := by
 rw [ByteArray.ext_iff]
 simp
theorem headB (x : Sp) : (ByteArray.mk (Lib.itoa x.task).toArray ++ ByteArray.mk #[32] ++ ByteArray.mk (Lib.itoa x.index).toArray ++ ByteArray.mk #[32]) = ByteArray.mk (headS x).toArray := by
 rw [show (#[32] : Array UInt8) = ([32] : List UInt8).toArray from rfl, cat2, cat2, cat2]
 rfl
theorem valid_small {x : Sp} (h : validS x = true) : -1 ≤ x.task ∧ x.task ≤ 15 ∧ 0 ≤ x.index ∧ x.index ≤ 31 := by
 unfold validS at h
 simp only [Bool.and_eq_true, Bool.or_eq_true, beq_iff_eq] at h
 obtain ⟨⟨⟨⟨⟨⟨h1, h2⟩, h3⟩, h4⟩, h5⟩, h6⟩, h7⟩ := h
 simp only [wi, decide_eq_true_eq] at h2 h4
 have h8 : x.task = -1 ∨ (0 ≤ x.task ∧ x.task ≤ 15) := by
  rcases h4 with h4 | h4
  ·rw [h4] at h3; exact .inl (of_decide_eq_true h3.symm)
  ·exact .inr h4
 have h9 : 0 ≤ loI x.kind := by unfold loI; split <;> omega
 have h10 : hiI x.kind ≤ 31 := by unfold hiI; split <;> (first | omega | (split <;> omega))
 omega
theorem own17 {l : List Sp} {w w3 : World} {e : Ending} (h : CloneP l w e w3) (hl : l.length ≤ 1000000) (kind : Int) (b : Nat) (hb : w.cell? ⟨b, 0, none⟩ = some (.int .i64 kind)) (hbl : b < w.heap.size) :
 ∃ v', e = .returned v' ∧ Calls Tryz.prog 17 #[v', .func (.func 19) #[] #[.pointer (some ⟨b, 0, none⟩)]] w3 fun e w' => Below w.heap.size w3 w' ∧ ∃ v'', e = .returned v'' ∧ SpV w' v'' (mine kind l) := by
 obtain ⟨hb3, h⟩ := h
 have hc3 : w3.cell? ⟨b, 0, none⟩ = some (.int .i64 kind) := (hb3.cell (p := ⟨b, 0, none⟩) hbl).trans hb
 rcases h with ⟨A, c, rfl, rfl⟩ | ⟨g, c, rfl, hown⟩
 ·refine ⟨_, rfl, (delfn17e A c kind b w3 hc3 (by have := hb3.size; omega)).mono ?_⟩
  rintro e w' ⟨h1, rfl⟩
  exact ⟨below_mono h1 hb3.size, _, rfl, LV.nil_ _ _ _ _⟩
 ·refine ⟨_, rfl, (delfn17 l w.heap.size g c kind b w3 hl hown hc3 hbl hb3.size).mono ?_⟩
  rintro e w' ⟨h1, c', rfl, h2, h3, h4⟩
  exact ⟨h1, _, rfl, LV.mk_ h2 h3 h4⟩
set_option maxRecDepth 100000 in
set_option maxHeartbeats 4000000 in
theorem chart5 (l : List Sp) (v : Value) (kind : Int) (w : World) (hv : SpV w v l) (hl : l.length ≤ 40) (hit : ItoaAt w (mine kind l)) : Calls Tryz.prog 5 #[v, .int .i64 kind] w (ChartP l kind w) := by
 have hba : Below w.heap.size w (w.alloc (.cells #[.int .i64 kind] 3)) := (Below.refl _ _).alloc (Nat.le_refl _) _
 have hv1 : SpV (w.alloc (.cells #[.int .i64 kind] 3)) v l := hv.below hba
 have hck := check7 l v (w.alloc (.cells #[.int .i64 kind] 3)) hv1 (by omega)
 have Hck := Lib.hid hck
 have Hv := Lib.hid hv
 have Hit := Lib.hid (show ∃ P : Prop, P = ItoaAt w (mine kind l) ∧ P from ⟨_, rfl, hit⟩)
 have Hba := Lib.hid hba
 clear hv hit hba hv1 hck
 have hkc : (w.alloc (.cells #[.int .i64 kind] 3)).cell? ⟨w.heap.size, 0, none⟩ = some (.int .i64 kind) := cell_heap (heap_alloc_new w _) 0
 have Hkc := Lib.hid hkc
 clear hkc
 by_cases c1 : chk l = 0
 ·rw [c1] at Hck
  by_cases c2 : wi kind 1 4 = true
  ·have hwi := fun W => within16 kind 1 4 W
   rw [c2] at hwi
   have Hwi := Lib.hid hwi
   clear hwi
   have C1 := Lib.hid c1
   have C2 := Lib.hid c2
   clear c1 c2
   go_enter Tryz.func5, Tryz.ntmps5
   go_wp2_with fail
   refine Hck.out.mono ?_
   rintro e w1 ⟨rfl, hb1⟩
   have hk1 : w1.cell? ⟨w.heap.size, 0, none⟩ = some (.int .i64 kind) := (hb1.cell (p := ⟨w.heap.size, 0, none⟩) (by simp)).trans Hkc.out
   have hw1 : Below w.heap.size w w1 := Hba.out.trans (below_mono hb1 (by simp))
   have hs1 : w.heap.size < w1.heap.size := by have := hb1.size; simp at this; omega
   have hv1 : SpV w1 v l := Hv.out.below hw1
   have Hw1 := Lib.hid hw1
   have Hv1 := Lib.hid hv1
   clear hb1 hw1 hv1
   go_wp2_with fail
   refine (Hwi.out _).mono ?_
   rintro e w2 ⟨rfl, rfl⟩
   go_wp2_with fail
   refine (clone18v l v w1 Hv1.out (by omega)).mono ?_
   intro e w3 hcl
   obtain ⟨v', rfl, hdel⟩ := own17 hcl (by omega) kind w.heap.size hk1 hs1
   have hb3 := hcl.1
   have hw3 : Below w.heap.size w w3 := Hw1.out.trans (below_mono hb3 (by omega))
   have Hw3 := Lib.hid hw3
   have hs3 := hb3.size
   have Hdel := Lib.hid hdel
   clear hcl hb3 hw3 hdel
   go_wp2_with fail
   refine Hdel.out.mono ?_
   rintro e w4 ⟨hb4, v4, rfl, hv4⟩
   have hw4 : Below w.heap.size w w4 := Hw3.out.trans (below_mono hb4 (by omega))
   have hs4 : w.heap.size < w4.heap.size := by have := hb4.size; omega
   have hml : (mine kind l).length ≤ 40 := Nat.le_trans (mine_len kind l) hl
   have Hw4 := Lib.hid hw4
   obtain ⟨Mi, hMi⟩ : ∃ Mi, mine kind l = Mi := ⟨_, rfl⟩
   rw [hMi] at hv4 hml
   have HMi := Lib.hid hMi
   obtain ⟨A4, c4, rfl, hc4, hlie⟩ := hv4
   have Hlie := Lib.hid (show ∃ P : Prop, P = (Mi ≠ [] → ∃ b off, A4 = some ⟨b, off, none⟩ ∧ b < w4.heap.size ∧ LAt SE w4 b off Mi) ∧ P from ⟨_, rfl, hlie⟩)
   clear hMi hlie hb4 hw4 Hdel Hw3 hs3 hk1
   go_wp2
   go_loopw [7, 26] (fun nv iv wr => ∃ k : Nat, k ≤ Mi.length ∧ iv = .int .i64 k ∧ nv = .int .i64 (lastS (Mi.take k)) ∧ Below w4.heap.size w4 wr) (fun _ iv _ => Mi.length - (intOf iv).toNat)
   case atStart => exact ⟨0, Nat.zero_le _, rfl, rfl, Below.refl _ _⟩
   case round =>
    obtain ⟨k, hk, rfl, rfl, hbr⟩ := hrel
    by_cases hlt : k < Mi.length
    ·obtain ⟨P, rfl, hP⟩ := Hlie.out
     obtain ⟨b4, off4, rfl, hb4, hrow⟩ := hP (by intro e; subst e; simp at hlt)
     have hr' : Row wr b4 (off4 + k * 7) (spCells Mi[k]) := (hrow k hlt).below hbr hb4
     have hnext : lastS (Mi.take (k + 1)) = lastF (lastS (Mi.take k)) Mi[k] := lastS_take Mi k hlt
     generalize hN : lastS (Mi.take k) = n at *
     generalize hN2 : lastS (Mi.take (k + 1)) = n2 at *
     generalize hM : Mi[k] = M at *
     have HN2 := Lib.hid hN2
     have Hbr := Lib.hid hbr
     have Hnext := Lib.hid hnext
     have rM : Row (wr.alloc (.cells #[.int .i64 M.kind, .int .i64 M.task, .int .i64 M.index, .int .i64 M.from_, .int .i64 M.to_, .int .i64 M.start, .int .i64 M.end_] 46)) wr.heap.size 0 (spCells M) := Row.new wr _ _ _ rfl
     clear hN hN2 hM hP hbr hrow hnext Hlie
     go_wp2_with ((with_reducible refine wpList_load_agg (o := ⟨some 29, .load 46 (.tmp 28), _, _, _, none⟩) rfl 46 _ rfl b4 (off4 + k * 7) ?_ _ hr' _ Tryz.underlying46 rfl ?_ ?_); (focus rfl); (focus kernel_rfl); simp only [spCells])
     refine ⟨⟨k + 1, hlt, by simp, ?_, Hbr.out.alloc Hbr.out.size _⟩, by simp [intOf]; omega⟩
     rw [HN2.out, Hnext.out]
     unfold lastF
     simp only [Int.max_def]
     congr 1
     split <;> split <;> (first | omega | (split <;> omega))
    ·have hkk : k = Mi.length := by omega
     subst hkk
     rw [List.take_of_length_le (Nat.le_refl _)]
     by_cases c3 : 200 < lastS Mi
     ·have hE : chartE l kind = 4 := by unfold chartE; rw [if_neg (by simp [C1.out]), if_neg (by simp [C2.out]), HMi.out, if_pos c3]
      have hT : chartT l kind = [] := by unfold chartT; rw [hE]; rfl
      have HE := Lib.hid hE
      have HT := Lib.hid hT
      clear hE hT
      go_wp2
      go_ret2
      exact chartP_of HE.out HT.out (Hw4.out.trans (below_mono hbr (by omega)))
     ·have hE : chartE l kind = 0 := by unfold chartE; rw [if_neg (by simp [C1.out]), if_neg (by simp [C2.out]), HMi.out, if_neg c3]
      have hT : chartT l kind = textS ((lastS Mi).toNat + 1) Mi := by unfold chartT; rw [hE, HMi.out]; rfl
      have HE := Lib.hid hE
      have HT := Lib.hid hT
      have hge : 0 ≤ lastS Mi := last_ge Mi 0
      obtain ⟨N, hN⟩ : ∃ N : Nat, lastS Mi = N := ⟨(lastS Mi).toNat, by omega⟩
      have HN := Lib.hid hN
      rw [hN] at c3 ⊢
      clear hE hT hge hN
      have Hbr := Lib.hid hbr
      clear hbr
      go_wp2
      have hB : IsB (wr.alloc (.cells #[.pointer none, .slice none 0 0] 55)) wr.heap.size (wr.heap.size + 1) [] := IsB.new _ _ (fun _ => True) (heap_alloc_new wr _) _ (by omega) (by simp)
      have hb6 : Below w4.heap.size w4 (wr.alloc (.cells #[.pointer none, .slice none 0 0] 55)) := Hbr.out.alloc Hbr.out.size _
      have hNB : w4.heap.size ≤ wr.heap.size := Hbr.out.size
      generalize hW : wr.alloc (.cells #[.pointer none, .slice none 0 0] 55) = W at *
      generalize hbk : wr.heap.size = Bk at *
      have HB := Lib.hid hB
      have Hb6 := Lib.hid hb6
      clear hB hb6 hW hbk Hbr
      go_loopw [41] (fun iv wq => ∃ k : Nat, k ≤ Mi.length ∧ iv = .int .i64 k ∧ IsB wq Bk (Bk + 1) (textS (N + 1) (Mi.take k)) ∧ Below w4.heap.size w4 wq) (fun iv _ => Mi.length - (intOf iv).toNat)
      case atStart => exact ⟨0, Nat.zero_le _, rfl, HB.out, Hb6.out⟩
      case round =>
       obtain ⟨k, hk, rfl, hB, hbw⟩ := hrel
       clear HB Hb6
       by_cases hlt : k < Mi.length
       ·have hmem : Mi[k] ∈ Mi := List.getElem_mem hlt
        have hsubM : ∀ y, y ∈ Mi → y ∈ mine kind l := fun y hy => by rw [HMi.out]; exact hy
        have hval : validS Mi[k] = true := by
         have h1 : Mi[k] ∈ l := (List.mem_filter.1 (hsubM _ hmem)).1
         exact chk_valid confP l l 0 C1.out _ h1
        have hItT : ∀ W, Below w.heap.size w W → Calls Tryz.prog 21 #[.int .i64 Mi[k].task] W fun e w' => e = .returned (.string ⟨(Lib.itoa Mi[k].task).toArray⟩) ∧ Below W.heap.size W w' := fun W hW => by
         obtain ⟨P, rfl, hP⟩ := Hit.out
         exact hP Mi[k] (hsubM _ hmem) _ (.inl rfl) W hW
        have hItI : ∀ W, Below w.heap.size w W → Calls Tryz.prog 21 #[.int .i64 Mi[k].index] W fun e w' => e = .returned (.string ⟨(Lib.itoa Mi[k].index).toArray⟩) ∧ Below W.heap.size W w' := fun W hW => by
         obtain ⟨P, rfl, hP⟩ := Hit.out
         exact hP Mi[k] (hsubM _ hmem) _ (.inr rfl) W hW
        obtain ⟨P, rfl, hP⟩ := Hlie.out
        obtain ⟨b4, off4, rfl, hb4, hrow⟩ := hP (by intro e; subst e; simp at hlt)
        have hr' : Row wr b4 (off4 + k * 7) (spCells Mi[k]) := (hrow k hlt).below hbw hb4
        have hT := textS_take (N + 1) Mi k hlt
        have hTl := textS_le (N + 1) Mi (k + 1)
        have hsh : ∀ x ∈ Mi, (Lib.itoa x.task).length ≤ 21 ∧ (Lib.itoa x.index).length ≤ 21 := fun x hx => by
         have h1 : x ∈ l := (List.mem_filter.1 (hsubM x hx)).1
         obtain ⟨b1, b2, b3, b4⟩ := valid_small (chk_valid confP l l 0 C1.out _ h1)
         exact ⟨Lib.itoa_length_le _ (by omega) (by omega), Lib.itoa_length_le _ (by omega) (by omega)⟩
        have hTm : (textS (N + 1) Mi).length ≤ 40 * (45 + (N + 1)) := Nat.le_trans (textS_len _ _ hsh) (Nat.mul_le_mul hml (Nat.le_refl _))
        rw [hT, List.length_append] at hTl
        have hl1 : (Lib.itoa Mi[k].task).length ≤ 21 ∧ (Lib.itoa Mi[k].index).length ≤ 21 := hsh _ hmem
        generalize hM : Mi[k] = M at *
        generalize hX : textS (N + 1) (Mi.take k) = X at *
        have HB := Lib.hid hB
        have hsz := hbw.size
        have Hbw := Lib.hid hbw
        have HTx := Lib.hid hT
        have HTl := Lib.hid hTl
        have HTm := Lib.hid hTm
        have HItT := Lib.hid (show ∃ P : Prop, P = (∀ W, Below w.heap.size w W → Calls Tryz.prog 21 #[.int .i64 M.task] W fun e w' => e = .returned (.string ⟨(Lib.itoa M.task).toArray⟩) ∧ Below W.heap.size W w') ∧ P from ⟨_, rfl, hItT⟩)
        have HItI := Lib.hid (show ∃ P : Prop, P = (∀ W, Below w.heap.size w W → Calls Tryz.prog 21 #[.int .i64 M.index] W fun e w' => e = .returned (.string ⟨(Lib.itoa M.index).toArray⟩) ∧ Below W.heap.size W w') ∧ P from ⟨_, rfl, hItI⟩)
        clear hsubM hsh hM hX hB hbw hT hTl hTm hItT hItI hP hrow hmem Hlie Hit HE HT hval
        go_upto_region 18 with ((with_reducible refine wpList_load_agg (o := ⟨some 44, .load 46 (.tmp 43), _, _, _, none⟩) rfl 46 _ rfl b4 (off4 + k * 7) ?_ _ hr' _ Tryz.underlying46 rfl ?_ ?_); (focus rfl); (focus kernel_rfl); simp only [spCells])
        have hXn : (wr.alloc (.cells #[.int .i64 M.kind, .int .i64 M.task, .int .i64 M.index, .int .i64 M.from_, .int .i64 M.to_, .int .i64 M.start, .int .i64 M.end_] 46)).heap[wr.heap.size]? = some (.cells #[.int .i64 M.kind, .int .i64 M.task, .int .i64 M.index, .int .i64 M.from_, .int .i64 M.to_, .int .i64 M.start, .int .i64 M.end_] 46 (0, 0)) := heap_alloc_new wr _
        have hb2 : Below w4.heap.size w4 (wr.alloc (.cells #[.int .i64 M.kind, .int .i64 M.task, .int .i64 M.index, .int .i64 M.from_, .int .i64 M.to_, .int .i64 M.start, .int .i64 M.end_] 46)) := Hbw.out.alloc hsz _
        have hB2 := HB.out.keep ((Below.refl wr.heap.size wr).alloc (Nat.le_refl _) (.cells #[.int .i64 M.kind, .int .i64 M.task, .int .i64 M.index, .int .i64 M.from_, .int .i64 M.to_, .int .i64 M.start, .int .i64 M.end_] 46))
        have hBY : Bk < wr.heap.size := Nat.lt_of_lt_of_le HB.out.1 HB.out.2.1
        have hs2 : wr.heap.size < (wr.alloc (.cells #[.int .i64 M.kind, .int .i64 M.task, .int .i64 M.index, .int .i64 M.from_, .int .i64 M.to_, .int .i64 M.start, .int .i64 M.end_] 46)).heap.size := heap_lt hXn
        have hsw2 : w4.heap.size ≤ (wr.alloc (.cells #[.int .i64 M.kind, .int .i64 M.task, .int .i64 M.index, .int .i64 M.from_, .int .i64 M.to_, .int .i64 M.start, .int .i64 M.end_] 46)).heap.size := hb2.size
        generalize wr.alloc (.cells #[.int .i64 M.kind, .int .i64 M.task, .int .i64 M.index, .int .i64 M.from_, .int .i64 M.to_, .int .i64 M.start, .int .i64 M.end_] 46) = W2 at *
        generalize hY : wr.heap.size = Y at *
        have Hb2 := Lib.hid hb2
        have HB2 := Lib.hid hB2
        have HXn := Lib.hid hXn
        have q1 : ¬ 9223372036854775807 < (Lib.itoa M.task).length + 1 := by omega
        have q2 : ¬ 9223372036854775807 < (Lib.itoa M.task).length + 1 + (Lib.itoa M.index).length := by omega
        have q3 : ¬ 9223372036854775807 < (Lib.itoa M.task).length + 1 + (Lib.itoa M.index).length + 1 := by omega
        clear hb2 hB2 hXn hY Hbw HB hr'
        refine wp_region_tail 9 (by kernel_rfl) (by kernel_rfl) (fun W => Below W2.heap.size W2 W) ((Below.refl _ _).drew) ?_
        iterate 9
         apply wpDetT_cons
         ·intro wx hx
          have c1 : wx.cell? ⟨Y, 1, none⟩ = some (.int .i64 M.task) := (hx.cell (p := ⟨Y, 1, none⟩) hs2).trans (by rw [cell_heap HXn.out]; rfl)
          have c2 : wx.cell? ⟨Y, 2, none⟩ = some (.int .i64 M.index) := (hx.cell (p := ⟨Y, 2, none⟩) hs2).trans (by rw [cell_heap HXn.out]; rfl)
          have hwx : Below w.heap.size w wx := Hw4.out.trans (below_mono (Hb2.out.trans (below_mono hx hsw2)) (by omega))
          obtain ⟨P1, rfl, hP1⟩ := HItT.out
          have hT1 := hP1 wx hwx
          obtain ⟨P2, rfl, hP2⟩ := HItI.out
          have hT2 := hP2 wx hwx
          have HT1 := Lib.hid hT1
          have HT2 := Lib.hid hT2
          have Hx := Lib.hid hx
          clear hP1 hP2 hwx hT1 hT2 hx
          go_wp2_with (go_at_call 21; first | (refine HT1.out.mono ?_; rintro e w' ⟨rfl, hbk⟩) | (refine HT2.out.mono ?_; rintro e w' ⟨rfl, hbk⟩))
          first | exact ⟨rfl, rfl, Hx.out⟩ | exact ⟨rfl, rfl, Hx.out.trans (below_mono hbk Hx.out.size)⟩
         go_frame
        intro wx hx
        have hBx := HB2.out.keep hx
        have hbx : Below w4.heap.size w4 wx := Hb2.out.trans (below_mono hx hsw2)
        have hXx := (hx.block Y hs2).trans HXn.out
        have hh := headB M
        have hhl : X.length + (headS M).length ≤ 1048576 := by
         have h1 := HTl.out
         have h2 := HTm.out
         have h3 : (lineS (N + 1) M).length = (headS M).length + (N + 1) + 1 := by simp [lineS, headS, cellsS_len]; omega
         omega
        rw [hh]
        have HBx := Lib.hid hBx
        have Hbx := Lib.hid hbx
        have HXx := Lib.hid hXx
        clear hBx hbx hXx hx hh HB2 Hb2 HXn HItT HItI
        go_wp2_with (go_at_call 20; refine (writeString30 Bk (Bk + 1) X (headS M) wx HBx.out hhl).mono ?_; rintro e w3 ⟨rfl, hB3, hb3⟩)
        have hX3 := hb3.kept _ _ _ _ (by omega : Y ≠ Bk) (by decide) HXx.out
        have hb33 : Below w4.heap.size w4 w3 := Hbx.out.trans (below_mono (hb3.below (by omega)) hNB)
        have HB3 := Lib.hid hB3.isB
        have Hb33 := Lib.hid hb33
        have HX3 := Lib.hid hX3
        clear hB3 hb3 hX3 hb33 HBx Hbx HXx
        go_loopw [57] (fun jv wq => ∃ j : Nat, j ≤ N + 1 ∧ jv = .int .i64 j ∧ IsB wq Bk (Bk + 1) (X ++ headS M ++ cellsS M j) ∧ Below w4.heap.size w4 wq ∧ wq.heap[Y]? = some (.cells #[.int .i64 M.kind, .int .i64 M.task, .int .i64 M.index, .int .i64 M.from_, .int .i64 M.to_, .int .i64 M.start, .int .i64 M.end_] 46 (0, 0))) (fun jv _ => N + 1 - (intOf jv).toNat)
        case atStart => exact ⟨0, Nat.zero_le _, rfl, by simpa [cellsS] using HB3.out, Hb33.out, HX3.out⟩
        case round =>
         obtain ⟨j, hj, rfl, hBj, hbj, hYj⟩ := hrel
         clear HB3 Hb33 HX3
         by_cases h4 : j < N + 1
         ·have rMj : Row wr Y 0 (spCells M) := fun t v ht => by
           rw [Nat.zero_add, cell_heap hYj]
           show (spCells M).toArray[t]? = _
           rw [List.getElem?_toArray]; exact ht
          have hjl : (X ++ headS M ++ cellsS M j).length + 1 ≤ 1048576 := by
           have h1 := HTl.out
           have h2 := HTm.out
           have h3 : (lineS (N + 1) M).length = (headS M).length + (N + 1) + 1 := by simp [lineS, headS, cellsS_len]; omega
           simp only [List.length_append, cellsS_len]
           omega
          have hj4 : (j : Int) < (N : Int) + 1 := by omega
          rcases Bool.eq_false_or_eq_true (contS M j) with hq | hq
          ·have hcall := contains22 M j wr
           rw [hq] at hcall
           have Hq := Lib.hid hq
           have Hcall := Lib.hid hcall
           have HBj := Lib.hid hBj
           have Hbj := Lib.hid hbj
           have HYj := Lib.hid hYj
           clear hq hcall hBj hbj hYj
           go_wp2_with (first
            | ((with_reducible refine wpList_load_agg (o := ⟨some 60, .load 46 (.tmp 12), _, _, _, none⟩) rfl 46 _ rfl Y 0 ?_ _ rMj _ Tryz.underlying46 rfl ?_ ?_); (focus rfl); (focus kernel_rfl); simp only [spCells])
            | (go_at_call 22; refine Hcall.out.mono ?_; rintro e w5 ⟨rfl, hb5⟩)
            | (go_at_call 23; refine Calls.mono (writeByte32 Bk (Bk + 1) (X ++ headS M ++ cellsS M j) 35 w5 (HBj.out.keep hb5) hjl) ?_; rintro e w6 ⟨rfl, hB6, hb6⟩))
           refine ⟨⟨j + 1, h4, by simp, ?_, ?_, ?_⟩, ?_⟩
           ·have h9 := hB6.isB
            have e1 : cellS M j = 35 := by unfold cellS; rw [Hq.out]; rfl
            rw [cellsS_succ, e1, ← List.append_assoc]
            exact h9
           ·exact Hbj.out.trans ((below_mono hb5 Hbj.out.size).trans (below_mono (hb6.below (by omega)) hNB))
           ·exact hb6.kept _ _ _ _ (by omega) (by decide) ((hb5.block Y (heap_lt HYj.out)).trans HYj.out)
           ·simp [intOf]; omega
          ·have hcall := contains22 M j wr
           rw [hq] at hcall
           have Hq := Lib.hid hq
           have Hcall := Lib.hid hcall
           have HBj := Lib.hid hBj
           have Hbj := Lib.hid hbj
           have HYj := Lib.hid hYj
           clear hq hcall hBj hbj hYj
           go_wp2_with (first
            | ((with_reducible refine wpList_load_agg (o := ⟨some 60, .load 46 (.tmp 12), _, _, _, none⟩) rfl 46 _ rfl Y 0 ?_ _ rMj _ Tryz.underlying46 rfl ?_ ?_); (focus rfl); (focus kernel_rfl); simp only [spCells])
            | (go_at_call 22; refine Hcall.out.mono ?_; rintro e w5 ⟨rfl, hb5⟩)
            | (go_at_call 23; refine Calls.mono (writeByte32 Bk (Bk + 1) (X ++ headS M ++ cellsS M j) 46 w5 (HBj.out.keep hb5) hjl) ?_; rintro e w6 ⟨rfl, hB6, hb6⟩))
           refine ⟨⟨j + 1, h4, by simp, ?_, ?_, ?_⟩, ?_⟩
           ·have h9 := hB6.isB
            have e1 : cellS M j = 46 := by unfold cellS; rw [Hq.out]; rfl
            rw [cellsS_succ, e1, ← List.append_assoc]
            exact h9
           ·exact Hbj.out.trans ((below_mono hb5 Hbj.out.size).trans (below_mono (hb6.below (by omega)) hNB))
           ·exact hb6.kept _ _ _ _ (by omega) (by decide) ((hb5.block Y (heap_lt HYj.out)).trans HYj.out)
           ·simp [intOf]; omega
         ·have hjN : j = N + 1 := by omega
          subst hjN
          have hjl : (X ++ headS M ++ cellsS M (N + 1)).length + 1 ≤ 1048576 := by
           have h1 := HTl.out
           have h2 := HTm.out
           have h3 : (lineS (N + 1) M).length = (headS M).length + (N + 1) + 1 := by simp [lineS, headS, cellsS_len]; omega
           simp only [List.length_append, cellsS_len]
           omega
          have HBj := Lib.hid hBj
          have Hbj := Lib.hid hbj
          clear hBj hbj hYj
          go_wp2_with (go_at_call 23; refine Calls.mono (writeByte32 Bk (Bk + 1) (X ++ headS M ++ cellsS M (N + 1)) 10 wr HBj.out hjl) ?_; rintro e w6 ⟨rfl, hB6, hb6⟩)
          refine ⟨⟨k + 1, hlt, by simp, ?_, ?_⟩, ?_⟩
          ·have h9 := hB6.isB
           rw [HTx.out]
           simpa [lineS, headS] using h9
          ·exact Hbj.out.trans (below_mono (hb6.below (by omega)) hNB)
          ·simp [intOf]; omega
       ·have hkk : k = Mi.length := by omega
        subst hkk
        rw [List.take_of_length_le (Nat.le_refl _)] at hB
        have HBB := Lib.hid hB
        have Hbw := Lib.hid hbw
        clear hB hbw
        go_wp2_with (go_at_call 24; refine (string33 Bk (Bk + 1) (textS (N + 1) Mi) _ HBB.out).mono ?_; rintro e w9 ⟨rfl, hb9⟩)
        go_ret2
        have e2 : (lastS Mi).toNat = N := by rw [HN.out]; rfl
        refine chartP_of HE.out (by rw [HT.out, e2]) ?_
        exact Hw4.out.trans (below_mono (Hbw.out.trans (below_mono hb9 hNB)) (by omega))
  ·have c2' : wi kind 1 4 = false := by simpa using c2
   have hE : chartE l kind = 8 := by unfold chartE; rw [if_neg (by simp [c1]), if_pos c2']
   have hT : chartT l kind = [] := by unfold chartT; rw [hE]; rfl
   have HE := Lib.hid hE
   have HT := Lib.hid hT
   have hwi := fun W => within16 kind 1 4 W
   rw [c2'] at hwi
   have Hwi := Lib.hid hwi
   clear hE hT hwi c2 c2' c1
   go_enter Tryz.func5, Tryz.ntmps5
   go_wp2_with fail
   refine Hck.out.mono ?_
   rintro e w1 ⟨rfl, hb1⟩
   have hk1 : w1.cell? ⟨w.heap.size, 0, none⟩ = some (.int .i64 kind) := (hb1.cell (p := ⟨w.heap.size, 0, none⟩) (by simp)).trans Hkc.out
   have Hb1 := Lib.hid hb1
   clear hb1
   go_wp2_with fail
   refine (Hwi.out _).mono ?_
   rintro e w2 ⟨rfl, rfl⟩
   go_wp2
   go_ret2
   exact chartP_of HE.out HT.out (Hba.out.trans (below_mono Hb1.out (by simp)))
 ·have hE : chartE l kind = 1 := by unfold chartE; rw [if_pos c1]
  have hT : chartT l kind = [] := by unfold chartT; rw [hE]; rfl
  have hne : (chk l != 0) = true := by simpa using c1
  have HE := Lib.hid hE
  have HT := Lib.hid hT
  clear hE hT c1
  go_enter Tryz.func5, Tryz.ntmps5
  go_wp2_with fail
  refine Hck.out.mono ?_
  rintro e w1 ⟨rfl, hb1⟩
  have Hb1 := Lib.hid hb1
  clear hb1
  go_wp2
  go_ret2
  exact chartP_of HE.out HT.out (Hba.out.trans (below_mono Hb1.out (by simp)))
end Go.Proofs.Seat9

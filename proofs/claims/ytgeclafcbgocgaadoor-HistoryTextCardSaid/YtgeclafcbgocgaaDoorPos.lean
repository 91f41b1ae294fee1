/- The positions of the marks, by the program. -/
import Derived.Test.YtgeclafcbgocgaaDoorTak
namespace Go.Proofs.YtgeclafcbgocgaaDoor
open Go.RowKit
/-- How many calls have ended. -/
def cntE (l : List Cl) : Nat := (l.filter (fun x => x.end_ != -1)).length
theorem cntE_le (l : List Cl) : cntE l ≤ l.length := List.length_filter_le _ _
theorem marks_len (l : List Cl) : (marks l).length = l.length + cntE l := by
  induction l with
  | nil => rfl
  | cons x l ih =>
    have h1 : marks (x :: l) = marksOf x ++ marks l := by simp [marks]
    rw [h1, List.length_append, ih]
    unfold cntE marksOf
    rw [List.filter_cons]
    by_cases h : x.end_ = -1
    · have h2 : (x.end_ != -1) = false := by simp [h]
      simp only [h, if_true, h2, Bool.false_eq_true, if_false, List.length_cons, List.length_nil, bne_self_eq_false]
      omega
    · have h2 : (x.end_ != -1) = true := by simp [h]
      rw [if_neg h, h2]
      simp only [if_true, List.length_cons, List.length_nil]
      omega
theorem cntE_hit (l : List Cl) (k : Nat) (h : k < l.length) (ht : (l[k].end_ != -1) = true) : cntE (l.take (k + 1)) = cntE (l.take k) + 1 := by
  unfold cntE
  rw [take_snoc l k h, List.filter_append, List.length_append]
  simp [ht]
theorem cntE_miss (l : List Cl) (k : Nat) (h : k < l.length) (ht : (l[k].end_ != -1) = false) : cntE (l.take (k + 1)) = cntE (l.take k) := by
  unfold cntE
  rw [take_snoc l k h, List.filter_append, List.length_append]
  simp [ht]
theorem marks_take (l : List Cl) (k : Nat) (h : k < l.length) : marks (l.take (k + 1)) = marks (l.take k) ++ marksOf l[k] := by
  unfold marks; rw [take_snoc l k h, List.flatMap_append, List.flatMap_cons, List.flatMap_nil, List.append_nil]
theorem marks_drop (l : List Cl) (k : Nat) (h : k < l.length) : marks (l.drop k) = marksOf l[k] ++ marks (l.drop (k + 1)) := by
  unfold marks; rw [List.drop_eq_getElem_cons h, List.flatMap_cons]
theorem posF_cons_no {n : Nat} {k : Int} {ks d : List Int} (h : (n : Int) ≤ k ∨ k ∈ d) : posF n (k :: ks) d = false := by rw [posF, if_pos h]
theorem posF_cons_yes {n : Nat} {k : Int} {ks d : List Int} (h : ¬ ((n : Int) ≤ k ∨ k ∈ d)) : posF n (k :: ks) d = posF n ks (d ++ [k]) := by rw [posF, if_neg h]
theorem SeenS.below {w w' : World} {Bn Bs Sb n : Nat} {d : List Int} (h : SeenS w Bn Bs Sb n d) (hb : Below w.heap.size w w') : SeenS w' Bn Bs Sb n d := by
  have k : ∀ i, i < w.heap.size → w'.heap[i]? = w.heap[i]? := fun i hi => hb.block i hi
  exact ⟨(k _ (Array.getElem?_eq_some_iff.1 h.n_).1).trans h.n_, (k _ (Array.getElem?_eq_some_iff.1 h.s_).1).trans h.s_, (k _ (Array.getElem?_eq_some_iff.1 h.d_).1).trans h.d_, h.ns, h.ss⟩
set_option maxRecDepth 100000 in
set_option maxHeartbeats 4000000 in
theorem positions35 (l : List Cl) (v : Value) (w : World) (hv : ClV w v l) (hl : l.length ≤ 65536) (hn : ∀ k ∈ marks l, 0 ≤ k) :
    Calls Tryd.prog 35 #[v] w fun e w' => e = .returned (.bool (posOk l)) ∧ Below w.heap.size w w' := by
  have hmf : ∀ fn first cap w, (Instr.makeFunc fn first cap).run Tryd.prog w = .ok (.func fn first cap) w := fun _ _ _ _ => rfl
  rcases hv.split with ⟨A, c, rfl, rfl⟩ | ⟨b, off, cap, rfl, hcap, hbw, hrow⟩
  · have hmk : ∀ W, (Instr.makeSlice 91 (.int .i64 0) (.int .i64 0)).run Tryd.prog W = .ok (.slice (some ⟨W.heap.size, 0, none⟩) 0 0) (W.alloc (.cells #[] 4)) := fun W => mk91 W 0 (by omega)
    have hp0 : posOk [] = true := rfl
    rw [hp0]
    clear hv hn hp0
    go_enter Tryd.func35, Tryd.ntmps35
    go_wp2_with fail
    refine wp_loop_rounds 1 ?_
    rw [rounds_succ]
    go_wp2_with fail
    refine wp_loop_rounds 1 ?_
    rw [rounds_succ]
    go_wp2_with fail
    go_ret
    exact ⟨rfl, (((Below.refl _ _).alloc (Nat.le_refl _) _).alloc (by simp) _).alloc (by simp; omega) _⟩
  · clear hv
    have Hn := Lib.hid hn
    clear hn
    go_enter Tryd.func35, Tryd.ntmps35
    go_wp2_with fail
    go_loopw [14] (fun i wr => ∃ k : Nat, k ≤ l.length ∧ i = .int .i64 k ∧ wr.heap[w.heap.size]? = some (.cells #[.int .i64 ((l.length + cntE (l.take k) : Nat) : Int)] 3 (0, 0)) ∧ Below w.heap.size w wr) (fun i _ => l.length - (intOf i).toNat)
    case atStart => exact ⟨0, Nat.zero_le _, rfl, heap_alloc_new _ _, (Below.refl _ _).alloc (Nat.le_refl _) _⟩
    case round =>
      obtain ⟨k, hk, rfl, hcel, hb⟩ := hrel
      have hsz := hb.size
      have hcn := cell_heap hcel 0
      have hfn := frozen_heap hcel 0
      have hblk : w.heap.size < wr.heap.size := (Array.getElem?_eq_some_iff.1 hcel).1
      by_cases hlt : k < l.length
      · have hr' : Row wr b (off + k * 6) (clCells l[k]) := (hrow k hlt).below hb hbw
        have hle : cntE (l.take k) ≤ k := Nat.le_trans (cntE_le _) (List.length_take_le _ _)
        rcases Bool.eq_false_or_eq_true (l[k].end_ != -1) with ht | ht
        · have Hs := Lib.hid (cntE_hit l k hlt ht)
          go_wp2_with ((with_reducible refine wpList_load_agg (o := ⟨some 17, .load 32 (.tmp 16), _, _, _, none⟩) rfl 32 _ rfl b (off + k * 6) ?_ _ hr' _ Tryd.underlying32 rfl ?_ ?_); (focus rfl); (focus kernel_rfl); simp only [clCells])
          go_roundw
          case rel =>
            refine ⟨k + 1, by omega, by go_num, ?_, (hb.setCell (by exact Nat.le_refl _) _).alloc (by simpa [World.setCell] using hsz) _⟩
            rw [heap_alloc_lt _ _ (by simpa [World.setCell] using hblk), setCell_heap hcel 0 _, Hs.out]
            rfl
          case measure => simp [intOf]; omega
        · have Hs := Lib.hid (cntE_miss l k hlt ht)
          go_wp2_with ((with_reducible refine wpList_load_agg (o := ⟨some 17, .load 32 (.tmp 16), _, _, _, none⟩) rfl 32 _ rfl b (off + k * 6) ?_ _ hr' _ Tryd.underlying32 rfl ?_ ?_); (focus rfl); (focus kernel_rfl); simp only [clCells])
          go_roundw
          case rel =>
            refine ⟨k + 1, by omega, by go_num, ?_, hb.alloc hsz _⟩
            rw [heap_alloc_lt _ _ hblk, hcel, Hs.out]
          case measure => simp [intOf]; omega
      · have hk' : k = l.length := by omega
        subst hk'
        have hml := marks_len l
        have hle := cntE_le l
        have Hml := Lib.hid hml
        rw [List.take_length, ← hml] at hcel hcn
        obtain ⟨n, hnn⟩ : ∃ n, n = (marks l).length := ⟨_, rfl⟩
        have hnl : n ≤ 1000000 := by omega
        rw [← hnn] at hcel hcn
        have Hnn := Lib.hid hnn
        clear hml hnn hle
        have hmk := mk91 wr n hnl
        have hS0 : SeenS ((wr.alloc (.cells (seenL n []).toArray 4)).alloc (.cells #[.slice (some ⟨wr.heap.size, 0, none⟩) n n] 91)) w.heap.size (wr.heap.size + 1) wr.heap.size n [] := by
          refine ⟨?_, ?_, ?_, by omega, by omega⟩
          · rw [heap_alloc_lt _ _ (by simp; omega), heap_alloc_lt _ _ hblk]; exact hcel
          · have := heap_alloc_new (wr.alloc (.cells (seenL n []).toArray 4)) (.cells #[.slice (some ⟨wr.heap.size, 0, none⟩) n n] 91)
            simpa using this
          · rw [heap_alloc_lt _ _ (by simp)]; exact heap_alloc_new _ _
        have hb0 : Below w.heap.size w ((wr.alloc (.cells (seenL n []).toArray 4)).alloc (.cells #[.slice (some ⟨wr.heap.size, 0, none⟩) n n] 91)) := (hb.alloc hsz _).alloc (by simp; omega) _
        have HS0 := Lib.hid hS0
        have Hb0 := Lib.hid hb0
        clear hS0 hb0 hcel hb hk hlt
        go_wp2_with fail
        obtain ⟨wm, hwm⟩ : ∃ x, x = wr := ⟨_, rfl⟩
        subst hwm
        go_loopw [29] (fun i wr => ∃ k : Nat, k ≤ l.length ∧ i = .int .i64 k ∧ SeenS wr w.heap.size (wm.heap.size + 1) wm.heap.size n (marks (l.take k)) ∧ Hid (posOk l = posF n (marks (l.drop k)) (marks (l.take k))) ∧ Below w.heap.size w wr ∧ wm.heap.size + 2 ≤ wr.heap.size) (fun i _ => l.length - (intOf i).toNat)
        case atStart => exact ⟨0, Nat.zero_le _, rfl, HS0.out, by unfold posOk Hid; rw [← Hnn.out]; rfl, Hb0.out, by simp⟩
        case round =>
          obtain ⟨k, hk, rfl, hS, hQ, hb, hq2⟩ := hrel
          clear hcn hmk hfn
          by_cases hlt : k < l.length
          · have hr' : Row wr b (off + k * 6) (clCells l[k]) := (hrow k hlt).below hb hbw
            have hsz2 := hb.size
            have hb0 : 0 ≤ l[k].begin_ := Hn.out _ (mem_marks.2 ⟨l[k], List.getElem_mem hlt, .inl rfl⟩)
            have hS1 := hS.below (((Below.refl wr.heap.size wr).alloc (Nat.le_refl _) (.cells (clCells l[k]).toArray 32)))
            have hQ1 := hQ.out
            rw [marks_drop l k hlt] at hQ1
            have HS1 := Lib.hid hS1
            have HQ1 := Lib.hid hQ1
            have Hb := Lib.hid (hb.alloc hsz2 (.cells (clCells l[k]).toArray 32))
            have HM := Lib.hid (marks_take l k hlt)
            have hbe : (marksOf l[k] = [l[k].begin_] ∧ (l[k].end_ != -1) = false) ∨ (marksOf l[k] = [l[k].begin_, l[k].end_] ∧ (l[k].end_ != -1) = true ∧ 0 ≤ l[k].end_) := by
              unfold marksOf
              by_cases he : l[k].end_ = -1
              · exact .inl ⟨if_pos he, by simp [he]⟩
              · exact .inr ⟨if_neg he, by simpa using he, Hn.out _ (mem_marks.2 ⟨l[k], List.getElem_mem hlt, .inr ⟨he, rfl⟩⟩)⟩
            clear hS hQ hS1 hQ1 hb
            go_wp2_with ((with_reducible refine wpList_load_agg (o := ⟨some 32, .load 32 (.tmp 31), _, _, _, none⟩) rfl 32 _ rfl b (off + k * 6) ?_ _ hr' _ Tryd.underlying32 rfl ?_ ?_); (focus rfl); (focus kernel_rfl); simp only [clCells])
            refine (take54 _ _ _ _ n w.heap.size _ _ HS1.out hb0 (by omega)).mono ?_
            rintro e w1 (⟨hno, rfl, rfl⟩ | ⟨hyes, rfl, hS2, hb2, hfr⟩)
            · have hfin : posOk l = false := by
                rw [HQ1.out]
                rcases hbe with ⟨e1, -⟩ | ⟨e1, -⟩
                · rw [e1]; exact posF_cons_no hno
                · rw [e1]; exact posF_cons_no hno
              have HF := Lib.hid hfin
              clear hfin hbe hno
              go_wp2_with fail
              go_ret
              exact ⟨congrArg (fun b => Ending.returned (Value.bool b)) HF.out.symm, Hb.out⟩
            · have hx : w1.heap[wr.heap.size]? = some (.cells (clCells l[k]).toArray 32 (0, 0)) := (hfr _ (by omega)).trans (heap_alloc_new _ _)
              have hx5 : w1.cell? ⟨wr.heap.size, 5, none⟩ = some (.int .i64 l[k].end_) := cell_heap hx 5
              have hsz3 := hb2.size
              rcases hbe with ⟨e1, e2⟩ | ⟨e1, e2, e3⟩
              · have hS3 : SeenS w1 w.heap.size (wm.heap.size + 1) wm.heap.size n (marks (l.take (k + 1))) := by rw [HM.out, e1]; exact hS2
                have hQ3 : posOk l = posF n (marks (l.drop (k + 1))) (marks (l.take (k + 1))) := by rw [HQ1.out, HM.out, e1]; exact posF_cons_yes hyes
                have Hb3 := Lib.hid (Hb.out.trans hb2)
                have HS3 := Lib.hid hS3
                have HQ3 := Lib.hid hQ3
                clear hS2 hS3 hQ3 hb2 hfr hyes e1 hx
                go_wp2_with fail
                go_roundw
                case rel => exact ⟨k + 1, by omega, by go_num, HS3.out, HQ3, Hb3.out, by simp at hsz3; omega⟩
                case measure => simp [intOf]; omega
              · have hQ2 : posOk l = posF n (l[k].end_ :: marks (l.drop (k + 1))) (marks (l.take k) ++ [l[k].begin_]) := by rw [HQ1.out, e1]; exact posF_cons_yes hyes
                have HQ2 := Lib.hid hQ2
                have Hb3 := Lib.hid (Hb.out.trans hb2)
                have HS2 := Lib.hid hS2
                have HE1 := Lib.hid e1
                clear hQ2 hb2 hfr hyes hS2 e1 hx
                go_wp2_with fail
                refine (take54 _ _ _ _ n w.heap.size _ _ HS2.out e3 (by omega)).mono ?_
                rintro e w2 (⟨hno, rfl, rfl⟩ | ⟨hyes, rfl, hS4, hb4, hfr⟩)
                · have hfin : posOk l = false := by
                    rw [HQ2.out]; exact posF_cons_no hno
                  have HF := Lib.hid hfin
                  clear hfin hno
                  go_wp2_with fail
                  go_ret
                  exact ⟨congrArg (fun b => Ending.returned (Value.bool b)) HF.out.symm, Hb3.out⟩
                · have hS3 : SeenS w2 w.heap.size (wm.heap.size + 1) wm.heap.size n (marks (l.take (k + 1))) := by rw [HM.out, HE1.out]; simpa using hS4
                  have hQ3 : posOk l = posF n (marks (l.drop (k + 1))) (marks (l.take (k + 1))) := by rw [HQ2.out, HM.out, HE1.out, posF_cons_yes hyes]; simp
                  have hsz4 := hb4.size
                  have Hb5 := Lib.hid (Hb3.out.trans hb4)
                  have HS3 := Lib.hid hS3
                  have HQ3 := Lib.hid hQ3
                  clear hS4 hS3 hQ3 hb4 hfr hyes
                  go_wp2_with fail
                  go_roundw
                  case rel => exact ⟨k + 1, by omega, by go_num, HS3.out, HQ3, Hb5.out, by simp at hsz3; omega⟩
                  case measure => simp [intOf]; omega
          · have hk' : k = l.length := by omega
            subst hk'
            have hfin : posOk l = true := by
              rw [hQ.out, List.drop_length]; rfl
            have HF := Lib.hid hfin
            have Hb := Lib.hid hb
            clear hQ hS hfin hb
            go_wp2_with fail
            go_ret
            exact ⟨congrArg (fun b => Ending.returned (Value.bool b)) HF.out.symm, Hb.out⟩
end Go.Proofs.YtgeclafcbgocgaaDoor

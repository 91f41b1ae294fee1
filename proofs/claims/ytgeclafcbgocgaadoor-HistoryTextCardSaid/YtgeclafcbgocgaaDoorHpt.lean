/- The program's text of a history is the reference's: plain laws. -/
import Derived.Test.YtgeclafcbgocgaaDoorTxt
import Derived.Test.YtgeclafcbgocgaaDoorHpe
namespace Go.Proofs.YtgeclafcbgocgaaDoor
theorem bLine_mk (x : Cl) : bLine x = mkText ⟨x.task, x.method, x.arg, false⟩ ++ [10] := by simp [bLine, mkText, wB]
theorem eLine_mk (x : Cl) : eLine x = mkText ⟨x.task, 0, x.result, true⟩ ++ [10] := by simp [eLine, mkText, wE]
theorem foldl_putL : ∀ (l : List Cl) (a : List (List UInt8)), (∀ v : Int, (marks l).count v ≤ 1) → (∀ v ∈ marks l, 0 ≤ v ∧ v < (a.length : Int)) → ∀ n : Nat, (l.foldl putL a).getD n [] = if (n : Int) ∈ marks l then lineAt l n else a.getD n []
  | [], a, _, _, n => by simp [marks]
  | x :: l, a, h1, h2, n => by
    have e : marks (x :: l) = marksOf x ++ marks l := by simp [marks]
    rw [e] at h1 h2
    have ih := foldl_putL l (putL a x) (fun v => by have := h1 v; rw [List.count_append] at this; omega) (fun v hv => by rw [putL_len]; exact h2 v (by simp [hv])) n
    rw [List.foldl_cons, ih, e]
    have hl : lineAt (x :: l) n = lineOf x n ++ lineAt l n := rfl
    have hcn := h1 (n : Int)
    rw [List.count_append] at hcn
    by_cases hm : (n : Int) ∈ marks l
    · have hx : (n : Int) ∉ marksOf x := fun hx => by
        have := List.count_pos_iff.2 hm
        have := List.count_pos_iff.2 hx
        omega
      rw [if_pos hm, if_pos (by simp [hm]), hl, lineOf_none hx (by omega)]
      rfl
    · rw [if_neg hm]
      have hB := h2 x.begin_ (by simp [begin_mem])
      by_cases hx : (n : Int) ∈ marksOf x
      · rw [if_pos (by simp [hx]), hl, lineAt_none hm (by omega), List.append_nil]
        have hcx := h1 x.begin_
        rw [List.count_append] at hcx
        unfold putL lineOf
        by_cases he : x.end_ = -1
        · have mx : marksOf x = [x.begin_] := by unfold marksOf; rw [if_pos he]
          rw [mx] at hx
          have hb : (n : Int) = x.begin_ := by simpa using hx
          rw [if_pos he, if_pos hb.symm, if_neg (by omega), bLine_mk, List.append_nil, ← hb]
          rw [List.getD_eq_getElem?_getD]
          have : n < a.length := by omega
          simp [this]
        · have mx : marksOf x = [x.begin_, x.end_] := by unfold marksOf; rw [if_neg he]
          have hE := h2 x.end_ (by simp [end_mem he])
          have hne : x.begin_ ≠ x.end_ := by
            intro e2
            rw [mx, ← e2] at hcx
            simp at hcx
            omega
          rw [mx] at hx
          rw [if_neg he, bLine_mk, eLine_mk]
          rw [List.getD_eq_getElem?_getD]
          have hnl : n < a.length := by
            simp at hx
            rcases hx with hx | hx <;> omega
          rcases (by simpa using hx : (n : Int) = x.begin_ ∨ (n : Int) = x.end_) with hb | hb
          · rw [if_pos hb.symm, if_neg (by omega), ← hb]
            have : x.end_.toNat ≠ n := by omega
            rw [List.getElem?_set_ne this]
            simp [hnl]
          · rw [if_neg (by omega), if_pos hb.symm, ← hb]
            simp [hnl]
      · rw [if_neg (by simp [hx, hm])]
        unfold putL
        have hbn : x.begin_.toNat ≠ n := fun e2 => hx (by
          have : x.begin_ = (n : Int) := by omega
          rw [← this]; exact begin_mem x)
        by_cases he : x.end_ = -1
        · rw [if_pos he, List.getD_eq_getElem?_getD, List.getElem?_set_ne hbn, List.getD_eq_getElem?_getD]
        · have hE := h2 x.end_ (by simp [end_mem he])
          have hen : x.end_.toNat ≠ n := fun e2 => hx (by
            have : x.end_ = (n : Int) := by omega
            rw [← this]; exact end_mem he)
          rw [if_neg he, List.getD_eq_getElem?_getD, List.getElem?_set_ne hen, List.getElem?_set_ne hbn, List.getD_eq_getElem?_getD]
theorem textN_flat (l : List Cl) : ∀ N, ((List.range N).map (fun n : Nat => lineAt l (n : Int))).flatten = textN l N
  | 0 => rfl
  | N + 1 => by
    rw [List.range_succ, List.map_append, List.flatten_append, textN_flat l N]
    simp [textN]
theorem textB_eq {l : List Cl} (h : Hist l) : textB l = textG l := by
  unfold textB textG
  rw [← textN_flat]
  congr 1
  have h2 : ∀ v ∈ marks l, 0 ≤ v ∧ v < ((List.replicate (2 * l.length) ([] : List UInt8)).length : Int) := by
    intro v hv
    have := h.bound v hv
    have := marks_two l
    rw [List.length_replicate]
    omega
  have key : ∀ n : Nat, (linesOf l (2 * l.length)).getD n [] = _ := foldl_putL l (List.replicate (2 * l.length) []) h.one h2
  refine List.ext_getElem (by rw [linesOf_len]; simp) fun n h3 h4 => ?_
  have h5 := key n
  rw [List.getD_eq_getElem?_getD, List.getElem?_eq_getElem h3] at h5
  have h6 : (linesOf l (2 * l.length))[n] = if (n : Int) ∈ marks l then lineAt l n else (List.replicate (2 * l.length) ([] : List UInt8)).getD n [] := h5
  rw [h6, List.getElem_map, List.getElem_range]
  by_cases hm : (n : Int) ∈ marks l
  · rw [if_pos hm]
  · rw [if_neg hm, lineAt_none hm (by omega)]
    simp [List.getD_eq_getElem?_getD, List.getElem?_replicate]
    split <;> rfl
theorem textH_hist {l : List Cl} (h : Hist l) : textH l = textG l := by
  unfold textH
  rw [if_pos (hist_iff.2 h), textB_eq h]
theorem textB_short {l : List Cl} (h : Hist l) : (textB l).length ≤ 2 * l.length * 100 := by
  have h1 := flatten_le (linesOf l (2 * l.length)) (linesOf_short _ l h.rng)
  rw [linesOf_len] at h1
  exact h1
end Go.Proofs.YtgeclafcbgocgaaDoor

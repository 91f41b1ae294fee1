/- The program's Parse. -/
import Derived.Test.YtofomblpbmpbaaaDoorRd
import Derived.Test.YtofomblpbmpbaaaDoorKin
import Derived.Deep.CutRange
namespace Go.Proofs.YtofomblpbmpbaaaDoor
open Go.RowKit
theorem par_at (L : List (List UInt8)) (i : Nat) (h : i < L.length) : (L.map strV)[i]? = some (strV (L.getD i [])) := by
  simp [List.getElem?_map, List.getD_eq_getElem?_getD, List.getElem?_eq_getElem h]
theorem PS.part {w0 w : World} {R E K g : Nat} {ev : Ev} {ok : Bool} {ps : List (List UInt8)} (h : PS w0 w R E K g ev ok ps) (i : Nat) (hi : i < ps.length) : w.cell? ⟨g, i, none⟩ = some (.string ⟨(ps.getD i []).toArray⟩) := by
  have := h.row i (strV (ps.getD i [])) (par_at ps i hi)
  rwa [Nat.zero_add] at this
theorem split45' (s : List UInt8) (w : World) (hE : Env w) (hs : s.length ≤ 1048576) :
    Calls Tryd.prog 45 #[.string ⟨s.toArray⟩, .string ⟨#[32]⟩] w fun e w' => ∃ g, e = .returned (.slice (some ⟨g, 0, none⟩) (splitA 32 [] s).length (splitA 32 [] s).length) ∧ w.heap.size ≤ g ∧ g < w'.heap.size ∧ Row w' g 0 ((splitA 32 [] s).map strV) ∧ Below w.heap.size w w' := by
  refine (split45 s [32] w hE hs (by simp)).mono ?_
  rintro e w' ⟨N, rfl, rfl, rfl⟩
  refine ⟨w.heap.size, ?_, Nat.le_refl _, by simp, ?_, (Below.refl _ _).alloc (Nat.le_refl _) _⟩
  · rw [← countB_len 32 s]
  · have h := Row.new w ((Lib.splitB ⟨#[32]⟩ 0 (Lib.countB ⟨s.toArray⟩ ⟨#[32]⟩) ⟨s.toArray⟩).map Value.string).toArray 9 w.heap.size rfl
    rw [List.toList_toArray, splitB_cells 32 s] at h
    rw [splitB_cells 32 s]
    exact h
def stO (ok : Bool) (ev : Ev) : Option Ev := if ok = true then some ev else none
theorem pStepO {ev : Ev} {ok : Bool} {part : List UInt8} {n : Int} (h1 : (Lib.cut part [61]).1 = nmO) (h2 : ∀ m, atoiO (Lib.cut part [61]).2.1 = some m → n = m) : pStep (stO ok ev) part = stO (ok && (atoiO (Lib.cut part [61]).2.1).isSome) (setF ev 4 n) := by
  unfold pStep stO
  cases ok
  · simp
  · cases ha : atoiO (Lib.cut part [61]).2.1 with
    | none => simp [ha]
    | some m => rw [h2 m ha]; simp [ha, h1, setF]
theorem pStepS {ev : Ev} {ok : Bool} {part : List UInt8} {n : Int} (h1 : (Lib.cut part [61]).1 = nmS) (h2 : ∀ m, atoiO (Lib.cut part [61]).2.1 = some m → n = m) : pStep (stO ok ev) part = stO (ok && (atoiO (Lib.cut part [61]).2.1).isSome) (setF ev 5 n) := by
  unfold pStep stO
  have e1 : nmS ≠ nmO := by decide
  cases ok
  · simp
  · cases ha : atoiO (Lib.cut part [61]).2.1 with
    | none => simp [ha]
    | some m => rw [h2 m ha]; simp [ha, h1, setF, e1]
theorem pStepV {ev : Ev} {ok : Bool} {part : List UInt8} {n : Int} (h1 : (Lib.cut part [61]).1 = nmV) (h2 : ∀ m, atoiO (Lib.cut part [61]).2.1 = some m → n = m) : pStep (stO ok ev) part = stO (ok && (atoiO (Lib.cut part [61]).2.1).isSome) (setF ev 6 n) := by
  unfold pStep stO
  have e1 : nmV ≠ nmO := by decide
  have e2 : nmV ≠ nmS := by decide
  cases ok
  · simp
  · cases ha : atoiO (Lib.cut part [61]).2.1 with
    | none => simp [ha]
    | some m => rw [h2 m ha]; simp [ha, h1, setF, e1, e2]
theorem pStepR {ev : Ev} {ok : Bool} {part : List UInt8} {n : Int} (h1 : (Lib.cut part [61]).1 = nmR) (h2 : ∀ m, atoiO (Lib.cut part [61]).2.1 = some m → n = m) : pStep (stO ok ev) part = stO (ok && (atoiO (Lib.cut part [61]).2.1).isSome) (setF ev 7 n) := by
  unfold pStep stO
  have e1 : nmR ≠ nmO := by decide
  have e2 : nmR ≠ nmS := by decide
  have e3 : nmR ≠ nmV := by decide
  cases ok
  · simp
  · cases ha : atoiO (Lib.cut part [61]).2.1 with
    | none => simp [ha]
    | some m => rw [h2 m ha]; simp [ha, h1, setF, e1, e2, e3]
theorem pStepX {ev : Ev} {ok : Bool} {part : List UInt8} (h1 : (Lib.cut part [61]).1 ≠ nmO) (h2 : (Lib.cut part [61]).1 ≠ nmS) (h3 : (Lib.cut part [61]).1 ≠ nmV) (h4 : (Lib.cut part [61]).1 ≠ nmR) : pStep (stO ok ev) part = stO false ev := by
  unfold pStep stO
  cases ok
  · simp
  · cases ha : atoiO (Lib.cut part [61]).2.1 with
    | none => simp [ha]
    | some m => simp [ha, h1, h2, h3, h4]
theorem pfold_next {ps : List (List UInt8)} {st st' F : Option Ev} {j : Nat} (hj : j < ps.length) (h : (ps.drop j).foldl pStep st = F) (he : pStep st (ps.getD j []) = st') : (ps.drop (j + 1)).foldl pStep st' = F := by
  rw [List.drop_eq_getElem_cons hj, List.foldl_cons] at h
  have : ps.getD j [] = ps[j] := by simp [List.getD_eq_getElem?_getD, List.getElem?_eq_getElem hj]
  rw [← he, this]
  exact h
theorem pHead_eq {ps : List (List UInt8)} {a b c k : Int} (hk : kindOf (ps.getD 3 []) = k) (ha : ∀ m, atoiO (ps.getD 0 []) = some m → a = m) (hb : ∀ m, atoiO (ps.getD 1 []) = some m → b = m) (hc : ∀ m, atoiO (ps.getD 2 []) = some m → c = m) :
    pHead ps = stO (true && (atoiO (ps.getD 0 [])).isSome && (atoiO (ps.getD 1 [])).isSome && (atoiO (ps.getD 2 [])).isSome) (setF (setF (setF { zeroEv with kind := k, object := -1, scope := -1, other := -1 } 0 a) 1 b) 2 c) := by
  unfold pHead stO
  cases h0 : atoiO (ps.getD 0 []) with
  | none => simp
  | some x =>
    cases h1 : atoiO (ps.getD 1 []) with
    | none => simp
    | some y =>
      cases h2 : atoiO (ps.getD 2 []) with
      | none => simp
      | some z =>
        rw [ha x h0, hb y h1, hc z h2]
        simp only [hk]
        rfl
theorem pParse_short {s : List UInt8} (h : (splitA 32 [] s).length < 4) : parseR (pParse s) s = (zeroEv, 3) := by
  unfold pParse
  rw [if_pos h]
  rfl
theorem pParse_long {s : List UInt8} (h : ¬ (splitA 32 [] s).length < 4) : pParse s = ((splitA 32 [] s).drop 4).foldl pStep (pHead (splitA 32 [] s)) := by
  unfold pParse
  rw [if_neg h]
theorem pt_len (c : UInt8) : ∀ (s p x : List UInt8), x ∈ splitA c p s → x.length ≤ p.length + s.length
  | [], p, x, h => by
    simp only [splitA, List.mem_singleton] at h
    subst h
    simp
  | y :: r, p, x, h => by
    rw [splitA] at h
    split at h
    · rcases List.mem_cons.1 h with rfl | h
      · simp
      · have := pt_len c r [] x h
        simp at this ⊢
        omega
    · have := pt_len c r (p ++ [y]) x h
      simp at this ⊢
      omega
theorem pt_count (c : UInt8) : ∀ (s p : List UInt8), (splitA c p s).length ≤ s.length + 1
  | [], p => by simp [splitA]
  | y :: r, p => by
    rw [splitA]
    split
    · have := pt_count c r []
      simp
      omega
    · have := pt_count c r (p ++ [y])
      simp
      omega
theorem pt_mem (L : List (List UInt8)) (i : Nat) (h : i < L.length) : L.getD i [] ∈ L := by
  simp [List.getD_eq_getElem?_getD, List.getElem?_eq_getElem h]
theorem cut_len (s : List UInt8) : (Lib.cut s [61]).2.1.length ≤ s.length := by
  unfold Lib.cut
  split
  · simp
  · simp
def PPost (s : List UInt8) (w : World) (e : Ending) (w' : World) : Prop := e = .returned (.tuple #[.agg (evCells (parseR (pParse s) s).1).toArray, .int .i64 (parseR (pParse s) s).2]) ∧ Below w.heap.size w w'
set_option maxRecDepth 100000 in
set_option maxHeartbeats 4000000 in
theorem parse14 (s : List UInt8) (w : World) (hE : Env w) (hs : s.length ≤ 100000) : Calls Tryd.prog 14 #[.string ⟨s.toArray⟩] w (PPost s w) := by
  have hmf : ∀ fn first cap w, (Instr.makeFunc fn first cap).run Tryd.prog w = .ok (.func fn first cap) w := fun _ _ _ _ => rfl
  have hE0 := hE.alloc (.cells (evCells zeroEv).toArray 23)
  go_enter Tryd.func14, Tryd.ntmps14
  go_wp2_with fail
  refine (split45' s _ hE0 (by omega)).mono ?_
  rintro e w1 ⟨g, rfl, hg0, hg1, hrow, hb1⟩
  have hR : w1.heap[w.heap.size]? = some (.cells (evCells zeroEv).toArray 23 (0, 0)) := by
    rw [hb1.block _ (by simp)]
    exact Array.getElem?_push_size
  have hE1 := hE0.below hb1
  have hb1' : Below w.heap.size w w1 := ((Below.refl _ _).alloc (Nat.le_refl _) _).trans (hb1.mono (by simp))
  have hR' : EvAt w1 w.heap.size zeroEv := hR
  have hgR : w.heap.size < g := by simp at hg0; omega
  have htop := hE.top
  clear hR hb1 hE0 hE hg0
  have hlong := @pParse_long s
  have hshort := @pParse_short s
  have hpl : ∀ x ∈ splitA 32 [] s, x.length ≤ s.length := fun x hx => by have := pt_len 32 s [] x hx; simp at this; omega
  have hpn := pt_count 32 s []
  generalize splitA 32 [] s = ps at *
  have Hrow := Lib.hid hrow
  clear hrow
  by_cases hlen : ps.length < 4
  · have Hr := Lib.hid (hshort hlen)
    clear hshort hlong
    go_wp2_with ((with_reducible refine wpList_storeEv (o := ⟨none, .store 23 (.tmp 2) (.tmp 20), _, _, _, none⟩) rfl _ _ rfl w.heap.size zeroEv zeroEv ?_ ?_ hR' ?_); (focus rfl); (focus rfl); intro w2 h2 ho hs2 hb2; clear ho hs2)
    refine bodyPost_ret (v := .tuple #[.agg (evCells zeroEv).toArray, .int .i64 3]) (by simp [results, Tryd.results14, go_sem, evCells, zeroEv, h2.cells]) rfl ⟨by rw [Hr.out], hb2 _ _ hb1' (Nat.le_refl _)⟩
  · have Hlong := Lib.hid (hlong hlen)
    have hl2 : 4 ≤ ps.length := by omega
    clear hlong hshort hlen
    have c3 : w1.cell? ⟨g, 3, none⟩ = some (.string ⟨(ps.getD 3 []).toArray⟩) := by
      have := Hrow.out 3 (strV (ps.getD 3 [])) (par_at ps 3 (by omega))
      rwa [Nat.zero_add] at this
    generalize hp3 : ps.getD 3 [] = p3 at *
    go_wp2_with fail
    refine (kind46 p3 w1).mono ?_
    rintro e w2 ⟨rfl, hb2⟩
    generalize hk : kindOf p3 = k
    rw [← hp3] at hk
    have Hk := Lib.hid hk
    clear hk hp3 c3
    go_upto_region 7 with ((with_reducible refine wpList_storeEv (o := ⟨none, .store 23 (.tmp 5) (.tmp 25), _, _, _, none⟩) rfl _ _ rfl w2.heap.size zeroEv { zeroEv with kind := k, object := -1, scope := -1, other := -1 } ?_ ?_ ?_ ?_); (focus rfl); (focus rfl); (focus exact Array.getElem?_push_size); intro w3 h3 ho hs3 hb3; have hbb := hb3 w2.heap.size w2 ((Below.refl _ _).alloc (Nat.le_refl _) _) (Nat.le_refl _); have hs3' : w2.heap.size < w3.heap.size := h3.lt; clear ho hs3 hb3)
    have hbw : Below w1.heap.size w1 w3 := hb2.trans (hbb.mono hb2.size)
    have hb4 : Below w3.heap.size w3 (w3.alloc (.cells #[.bool true] 4)) := (Below.refl _ _).alloc (Nat.le_refl _) _
    have z1 := hR'.lt
    have z2 := hb1'.size
    have z3 := hb2.size
    have z4 := hbw.size
    have z5 := hb4.size
    have ps0 : PS w (w3.alloc (.cells #[.bool true] 4)) w.heap.size w2.heap.size w3.heap.size g { zeroEv with kind := k, object := -1, scope := -1, other := -1 } true ps :=
      ⟨((hE1.below hb2).below hbb).alloc _, (hR'.below hbw z1).below hb4 (by omega), h3.below hb4 h3.lt, Array.getElem?_push_size, (Hrow.out.below hbw hg1).below hb4 (by omega), (hb1'.trans (hbw.mono z2)).alloc (by omega) _, htop, by omega, by omega, Nat.le_refl _, by omega, by omega, by omega, by omega, by omega, by omega⟩
    clear hR' hb1' hE1 hb2 h3 hbb hbw hb4 z1 z2 z3 z4 z5 hs3' hgR hg1 Hrow
    generalize w3.alloc (.cells #[.bool true] 4) = w4 at *
    generalize w3.heap.size = K at *
    generalize w2.heap.size = E at *
    have c0 := ps0.part 0 (by omega)
    have Ps := Lib.hid ps0
    clear ps0
    go_wp2_with fail
    refine (read47 w w4 _ E K g _ true ps Ps.out 0 (by decide) (ps.getD 0 []) (by have := hpl _ (pt_mem ps 0 (by omega)); omega)).mono ?_
    rintro e w5 ⟨rfl, a, ha, ps0⟩
    clear Ps c0
    have c0 := ps0.part 1 (by omega)
    have Ps := Lib.hid ps0
    have Ha := Lib.hid ha
    clear ps0 ha
    go_wp2_with fail
    refine (read47 w w5 _ E K g _ _ ps Ps.out 1 (by decide) (ps.getD 1 []) (by have := hpl _ (pt_mem ps 1 (by omega)); omega)).mono ?_
    rintro e w6 ⟨rfl, b, hb, ps0⟩
    clear Ps c0
    have c0 := ps0.part 2 (by omega)
    have Ps := Lib.hid ps0
    have Hb := Lib.hid hb
    clear ps0 hb
    go_wp2_with fail
    refine (read47 w w6 _ E K g _ _ ps Ps.out 2 (by decide) (ps.getD 2 []) (by have := hpl _ (pt_mem ps 2 (by omega)); omega)).mono ?_
    rintro e w7 ⟨rfl, c, hc, ps0⟩
    clear Ps c0
    have hhead := pHead_eq Hk.out Ha.out Hb.out hc
    have hpp := Hlong.out
    rw [hhead] at hpp
    clear Hlong Hk Ha Hb hc hhead
    generalize hev : setF (setF (setF { zeroEv with kind := k, object := -1, scope := -1, other := -1 } 0 a) 1 b) 2 c = ev0 at *
    generalize hok : (true && (atoiO (ps.getD 0 [])).isSome && (atoiO (ps.getD 1 [])).isSome && (atoiO (ps.getD 2 [])).isSome) = ok0 at *
    clear hev hok
    have Hpp := Lib.hid hpp
    have Ps := Lib.hid ps0
    clear hpp ps0
    go_wp2_with fail
    all_goals
      go_loopw [48] (fun i wr => ∃ (j : Nat) (ev : Ev) (ok : Bool), j + 4 ≤ ps.length ∧ i = .int .i64 j ∧ PS w wr w.heap.size E K g ev ok ps ∧ Hid ((ps.drop (4 + j)).foldl pStep (stO ok ev) = pParse s)) (fun i _ => ps.length - (intOf i).toNat)
      case atStart => exact ⟨0, ev0, ok0, by omega, rfl, Ps.out, Lib.hid Hpp.out.symm⟩
      case round =>
        clear Ps Hpp
        obtain ⟨j, ev, ok, hj, rfl, ps1, hfold⟩ := hrel
        by_cases hlt : j + 4 < ps.length
        · first
            | (exfalso; omega)
            | (have cj := ps1.part (4 + j) (by omega)
               have hpj := hpl _ (pt_mem ps (4 + j) (by omega))
               generalize hpart : ps.getD (4 + j) [] = part at *
               have hE := ps1.env
               have Hpart := Lib.hid hpart
               have Ps := Lib.hid ps1
               clear hpart ps1
               go_wp2_with fail
               refine (cut49 part [61] wr hE (by omega)).mono ?_
               rintro e w8 ⟨rfl, hb8⟩
               have hvl := cut_len part
               have ps1 := Ps.out.keep hb8
               clear Ps hb8 cj hE
               have Ps := Lib.hid ps1
               clear ps1
               obtain ⟨nm, hnmx⟩ : ∃ nm, (Lib.cut part [61]).1 = nm := ⟨_, rfl⟩
               obtain ⟨vl, hvlx⟩ : ∃ vl, (Lib.cut part [61]).2.1 = vl := ⟨_, rfl⟩
               obtain ⟨fd, hfd⟩ : ∃ fd, (Lib.cut part [61]).2.2 = fd := ⟨_, rfl⟩
               rw [hvlx] at hvl
               rw [hnmx, hvlx, hfd]
               have Hnmx := Lib.hid hnmx
               have Hvlx := Lib.hid hvlx
               clear hnmx hvlx hfd
               by_cases tO : (nm == [111, 98, 106, 101, 99, 116]) = true
               · have hnm : nm = nmO := beq_iff_eq.1 tO
                 have Hnm := Lib.hid hnm
                 clear hnm
                 go_wp2_with fail
                 refine (read47 w w8 _ E K g _ _ ps Ps.out 4 (by decide) vl (by omega)).mono ?_
                 rintro e w9 ⟨rfl, n, hn, ps0⟩
                 have hstep : pStep (stO ok ev) part = stO (ok && (atoiO vl).isSome) (setF ev 4 n) := by
                   have := pStepO (ev := ev) (ok := ok) (part := part) (n := n) (Hnmx.out.trans Hnm.out) (by rw [Hvlx.out]; exact hn)
                   rwa [Hvlx.out] at this
                 have hnext : Hid ((ps.drop (4 + (j + 1))).foldl pStep (stO (ok && (atoiO vl).isSome) (setF ev 4 n)) = pParse s) := Lib.hid (pfold_next (j := 4 + j) (by omega) hfold.out (by rw [Hpart.out]; exact hstep))
                 have Ps2 := Lib.hid ps0
                 clear Ps ps0 hn hstep
                 go_wp2_with fail
                 go_roundw
                 case rel => exact ⟨j + 1, _, _, by omega, by go_num, Ps2.out, hnext⟩
                 case measure => simp [intOf]; omega
               · have tO' : (nm == [111, 98, 106, 101, 99, 116]) = false := by simpa using tO
                 have xO : nm ≠ nmO := fun e => tO (beq_iff_eq.2 e)
                 have XO := Lib.hid xO
                 clear tO xO
                 by_cases tS : (nm == [115, 99, 111, 112, 101]) = true
                 · have hnm : nm = nmS := beq_iff_eq.1 tS
                   have Hnm := Lib.hid hnm
                   clear hnm
                   go_wp2_with fail
                   refine (read47 w w8 _ E K g _ _ ps Ps.out 5 (by decide) vl (by omega)).mono ?_
                   rintro e w9 ⟨rfl, n, hn, ps0⟩
                   have hstep : pStep (stO ok ev) part = stO (ok && (atoiO vl).isSome) (setF ev 5 n) := by
                     have := pStepS (ev := ev) (ok := ok) (part := part) (n := n) (Hnmx.out.trans Hnm.out) (by rw [Hvlx.out]; exact hn)
                     rwa [Hvlx.out] at this
                   have hnext : Hid ((ps.drop (4 + (j + 1))).foldl pStep (stO (ok && (atoiO vl).isSome) (setF ev 5 n)) = pParse s) := Lib.hid (pfold_next (j := 4 + j) (by omega) hfold.out (by rw [Hpart.out]; exact hstep))
                   have Ps2 := Lib.hid ps0
                   clear Ps ps0 hn hstep
                   go_wp2_with fail
                   go_roundw
                   case rel => exact ⟨j + 1, _, _, by omega, by go_num, Ps2.out, hnext⟩
                   case measure => simp [intOf]; omega
                 · have tS' : (nm == [115, 99, 111, 112, 101]) = false := by simpa using tS
                   have xS : nm ≠ nmS := fun e => tS (beq_iff_eq.2 e)
                   have XS := Lib.hid xS
                   clear tS xS
                   by_cases tV : (nm == [118, 97, 108, 117, 101]) = true
                   · have hnm : nm = nmV := beq_iff_eq.1 tV
                     have Hnm := Lib.hid hnm
                     clear hnm
                     go_wp2_with fail
                     refine (read47 w w8 _ E K g _ _ ps Ps.out 6 (by decide) vl (by omega)).mono ?_
                     rintro e w9 ⟨rfl, n, hn, ps0⟩
                     have hstep : pStep (stO ok ev) part = stO (ok && (atoiO vl).isSome) (setF ev 6 n) := by
                       have := pStepV (ev := ev) (ok := ok) (part := part) (n := n) (Hnmx.out.trans Hnm.out) (by rw [Hvlx.out]; exact hn)
                       rwa [Hvlx.out] at this
                     have hnext : Hid ((ps.drop (4 + (j + 1))).foldl pStep (stO (ok && (atoiO vl).isSome) (setF ev 6 n)) = pParse s) := Lib.hid (pfold_next (j := 4 + j) (by omega) hfold.out (by rw [Hpart.out]; exact hstep))
                     have Ps2 := Lib.hid ps0
                     clear Ps ps0 hn hstep
                     go_wp2_with fail
                     go_roundw
                     case rel => exact ⟨j + 1, _, _, by omega, by go_num, Ps2.out, hnext⟩
                     case measure => simp [intOf]; omega
                   · have tV' : (nm == [118, 97, 108, 117, 101]) = false := by simpa using tV
                     have xV : nm ≠ nmV := fun e => tV (beq_iff_eq.2 e)
                     have XV := Lib.hid xV
                     clear tV xV
                     by_cases tR : (nm == [111, 116, 104, 101, 114]) = true
                     · have hnm : nm = nmR := beq_iff_eq.1 tR
                       have Hnm := Lib.hid hnm
                       clear hnm
                       go_wp2_with fail
                       refine (read47 w w8 _ E K g _ _ ps Ps.out 7 (by decide) vl (by omega)).mono ?_
                       rintro e w9 ⟨rfl, n, hn, ps0⟩
                       have hstep : pStep (stO ok ev) part = stO (ok && (atoiO vl).isSome) (setF ev 7 n) := by
                         have := pStepR (ev := ev) (ok := ok) (part := part) (n := n) (Hnmx.out.trans Hnm.out) (by rw [Hvlx.out]; exact hn)
                         rwa [Hvlx.out] at this
                       have hnext : Hid ((ps.drop (4 + (j + 1))).foldl pStep (stO (ok && (atoiO vl).isSome) (setF ev 7 n)) = pParse s) := Lib.hid (pfold_next (j := 4 + j) (by omega) hfold.out (by rw [Hpart.out]; exact hstep))
                       have Ps2 := Lib.hid ps0
                       clear Ps ps0 hn hstep
                       go_wp2_with fail
                       go_roundw
                       case rel => exact ⟨j + 1, _, _, by omega, by go_num, Ps2.out, hnext⟩
                       case measure => simp [intOf]; omega
                     · have tR' : (nm == [111, 116, 104, 101, 114]) = false := by simpa using tR
                       have xR : nm ≠ nmR := fun e => tR (beq_iff_eq.2 e)
                       have XR := Lib.hid xR
                       clear tR xR
                       have q0 := cell_heap Ps.out.okc 0
                       have f0 := frozen_heap Ps.out.okc 0
                       have hstep : pStep (stO ok ev) part = stO false ev := pStepX (by rw [Hnmx.out]; exact XO.out) (by rw [Hnmx.out]; exact XS.out) (by rw [Hnmx.out]; exact XV.out) (by rw [Hnmx.out]; exact XR.out)
                       have hnext : Hid ((ps.drop (4 + (j + 1))).foldl pStep (stO false ev) = pParse s) := Lib.hid (pfold_next (j := 4 + j) (by omega) hfold.out (by rw [Hpart.out]; exact hstep))
                       clear hstep
                       go_wp2_with fail
                       go_roundw
                       case rel => exact ⟨j + 1, _, _, by omega, by go_num, Ps.out.setK false, hnext⟩
                       case measure => simp [intOf]; omega)
        · have hj' : 4 + j = ps.length := by omega
          have hfin : pParse s = stO ok ev := by
            have := hfold.out
            rw [hj', List.drop_length] at this
            exact this.symm
          have Hfin := Lib.hid hfin
          have Ps := Lib.hid ps1
          clear hfold hfin ps1 hj'
          go_wp2_with ((with_reducible refine wpList_load_agg (o := ⟨some 85, .load 23 (.tmp 5), _, _, _, none⟩) rfl 23 _ rfl E 0 ?_ (evCells ev) Ps.out.evt.row _ Tryd.underlying23 rfl (by kernel_rfl) ?_); (focus rfl))
          obtain ⟨er, hEr⟩ : ∃ er, evErr ev = er := ⟨_, rfl⟩
          obtain ⟨tx, hTx⟩ : ∃ tx, textR ev = tx := ⟨_, rfl⟩
          have n0 := text12 ev wr Ps.out.env
          unfold TextPost at n0
          rw [hEr, hTx] at n0
          refine n0.mono ?_
          rintro e wz ⟨rfl, hbz⟩
          have rs := Ps.out.keep hbz
          clear n0 hbz Ps
          have htx : er = 0 → tx = textB ev := by
            intro h
            rw [← hTx]
            unfold textR
            rw [if_pos (hEr.trans h)]
          have hpr : parseR (pParse s) s = if ok = true ∧ er = 0 ∧ textB ev = s then (ev, 0) else (zeroEv, 3) := by
            rw [Hfin.out, ← hEr]
            cases ok
            · rfl
            · by_cases hc : evErr ev = 0 ∧ textB ev = s
              · rw [if_pos ⟨rfl, hc⟩]
                exact if_pos hc
              · rw [if_neg (fun h => hc h.2)]
                exact if_neg hc
          have Hpr := Lib.hid hpr
          have Htx := Lib.hid htx
          clear hEr hTx hpr htx Hfin
          have hres := rs.res
          have hbl := rs.below
          have hrow := rs.evt.row
          have q0 := cell_heap rs.okc 0
          clear rs
          cases ok
          · have Hr := Lib.hid (show parseR (pParse s) s = (zeroEv, 3) by rw [Hpr.out, if_neg (fun hc => by cases hc.1)])
            clear Hpr Htx
            go_wp2_with ((with_reducible refine wpList_storeEv (o := ⟨none, .store 23 (.tmp 2) (.tmp 100), _, _, _, none⟩) rfl _ _ rfl w.heap.size zeroEv zeroEv ?_ ?_ hres ?_); (focus rfl); (focus rfl); intro w2 h2 ho hs2 hb2; clear ho hs2)
            refine bodyPost_ret (v := .tuple #[.agg (evCells zeroEv).toArray, .int .i64 3]) (by simp [results, Tryd.results14, go_sem, evCells, zeroEv, h2.cells]) rfl ⟨by rw [Hr.out], hb2 _ _ hbl (Nat.le_refl _)⟩
          · by_cases h1 : er = 0
            · subst h1
              by_cases h2 : (tx == s) = true
              · have h2' : (tx != s) = false := by simpa using h2
                have hts : tx = s := by simpa using h2
                have Hr := Lib.hid (show parseR (pParse s) s = (ev, 0) by rw [Hpr.out, if_pos ⟨rfl, rfl, (Htx.out rfl).symm.trans hts⟩])
                clear hts Hpr Htx
                go_wp2_with (first | ((with_reducible refine wpList_load_agg (o := ⟨some 101, .load 23 (.tmp 5), _, _, _, none⟩) rfl 23 _ rfl E 0 ?_ (evCells ev) hrow _ Tryd.underlying23 rfl (by kernel_rfl) ?_); (focus rfl)) | ((with_reducible refine wpList_storeEv (o := ⟨none, .store 23 (.tmp 2) (.tmp 101), _, _, _, none⟩) rfl _ _ rfl w.heap.size zeroEv ev ?_ ?_ hres ?_); (focus rfl); (focus rfl); intro w2 h2 ho hs2 hb2; clear ho hs2))
                refine bodyPost_ret (v := .tuple #[.agg (evCells ev).toArray, .int .i64 0]) (by simp [results, Tryd.results14, go_sem, evCells, h2.cells]) rfl ⟨by rw [Hr.out], hb2 _ _ hbl (Nat.le_refl _)⟩
              · have h2' : (tx != s) = true := by simpa using h2
                have hts : tx ≠ s := by simpa using h2
                have Hr := Lib.hid (show parseR (pParse s) s = (zeroEv, 3) by rw [Hpr.out, if_neg (fun hc => hts ((Htx.out rfl).trans hc.2.2))])
                clear hts Hpr Htx
                go_wp2_with ((with_reducible refine wpList_storeEv (o := ⟨none, .store 23 (.tmp 2) (.tmp 100), _, _, _, none⟩) rfl _ _ rfl w.heap.size zeroEv zeroEv ?_ ?_ hres ?_); (focus rfl); (focus rfl); intro w2 h2 ho hs2 hb2; clear ho hs2)
                refine bodyPost_ret (v := .tuple #[.agg (evCells zeroEv).toArray, .int .i64 3]) (by simp [results, Tryd.results14, go_sem, evCells, zeroEv, h2.cells]) rfl ⟨by rw [Hr.out], hb2 _ _ hbl (Nat.le_refl _)⟩
            · have h1' : (er == 0) = false := by simpa using h1
              have h1'' : (er != 0) = true := by simpa using h1
              have Hr := Lib.hid (show parseR (pParse s) s = (zeroEv, 3) by rw [Hpr.out, if_neg (fun hc => h1 hc.2.1)])
              clear Hpr Htx h1
              go_wp2_with ((with_reducible refine wpList_storeEv (o := ⟨none, .store 23 (.tmp 2) (.tmp 100), _, _, _, none⟩) rfl _ _ rfl w.heap.size zeroEv zeroEv ?_ ?_ hres ?_); (focus rfl); (focus rfl); intro w2 h2 ho hs2 hb2; clear ho hs2)
              refine bodyPost_ret (v := .tuple #[.agg (evCells zeroEv).toArray, .int .i64 3]) (by simp [results, Tryd.results14, go_sem, evCells, zeroEv, h2.cells]) rfl ⟨by rw [Hr.out], hb2 _ _ hbl (Nat.le_refl _)⟩
end Go.Proofs.YtofomblpbmpbaaaDoor

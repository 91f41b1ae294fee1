/- The reference's Parse. -/
import Derived.Test.YtofomblpbmpbaaaDoorEvB
import Derived.Deep.CutRange
namespace Go.Proofs.YtofomblpbmpbaaaDoor
open Go.RowKit
/-- While the reference parses: the result's block R, the event's block E, the parts at block g. -/
structure RS (w0 w : World) (R E g : Nat) (ev : Ev) (ps : List (List UInt8)) : Prop where
  res : EvAt w R zeroEv
  evt : EvAt w E ev
  row : Row w g 0 (ps.map strV)
  below : Below w0.heap.size w0 w
  r0 : w0.heap.size ≤ R
  e0 : w0.heap.size ≤ E
  g0 : g < w.heap.size
  re : R ≠ E
  ge : g ≠ E
theorem RS.keep {w0 w w' : World} {R E g : Nat} {ev : Ev} {ps : List (List UInt8)} (h : RS w0 w R E g ev ps) (hb : Below w.heap.size w w') : RS w0 w' R E g ev ps :=
  ⟨h.res.below hb h.res.lt, h.evt.below hb h.evt.lt, h.row.below hb h.g0, h.below.trans (hb.mono h.below.size), h.r0, h.e0, Nat.lt_of_lt_of_le h.g0 hb.size, h.re, h.ge⟩
theorem RS.set {w0 w : World} {R E g : Nat} {ev ev' : Ev} {ps : List (List UInt8)} (h : RS w0 w R E g ev ps) (j : Nat) (v : Value) (he : EvAt (w.setCell ⟨E, j, none⟩ v) E ev') : RS w0 (w.setCell ⟨E, j, none⟩ v) R E g ev' ps :=
  ⟨h.res.other h.re v, he, fun i u hu => (World.cell?_setCell_other _ _ _ _ (by simp; intro e; exact absurd e.symm h.ge)).trans (h.row i u hu), h.below.setCell h.e0 v, h.r0, h.e0, by simpa [World.setCell] using h.g0, h.re, h.ge⟩
theorem RS.frozen {w0 w : World} {R E g : Nat} {ev : Ev} {ps : List (List UInt8)} (h : RS w0 w R E g ev ps) (j : Nat) : w.frozen? ⟨E, j, none⟩ = false := frozen_heap h.evt j
def RPost (s : List UInt8) (w : World) (e : Ending) (w' : World) : Prop := e = .returned (.tuple #[.agg (evCells (parseR (rParse s) s).1).toArray, .int .i64 (parseR (rParse s) s).2]) ∧ Below w.heap.size w w'
theorem part_at (L : List (List UInt8)) (i : Nat) (h : i < L.length) : (L.map strV)[i]? = some (strV (L.getD i [])) := by
  simp [List.getElem?_map, List.getD_eq_getElem?_getD, List.getElem?_eq_getElem h]
theorem part_mem (L : List (List UInt8)) (i : Nat) (h : i < L.length) : L.getD i [] ∈ L := by
  simp [List.getD_eq_getElem?_getD, List.getElem?_eq_getElem h]
theorem RS.part {w0 w : World} {R E g : Nat} {ev : Ev} {ps : List (List UInt8)} (h : RS w0 w R E g ev ps) (i : Nat) (hi : i < ps.length) : w.cell? ⟨g, i, none⟩ = some (.string ⟨(ps.getD i []).toArray⟩) := by
  have := h.row i (strV (ps.getD i [])) (part_at ps i hi)
  rwa [Nat.zero_add] at this
theorem part_len (c : UInt8) : ∀ (s p x : List UInt8), x ∈ splitA c p s → x.length ≤ p.length + s.length
  | [], p, x, h => by
    simp only [splitA, List.mem_singleton] at h
    subst h
    simp
  | y :: r, p, x, h => by
    rw [splitA] at h
    split at h
    · rcases List.mem_cons.1 h with rfl | h
      · simp
      · have := part_len c r [] x h
        simp at this ⊢
        omega
    · have := part_len c r (p ++ [y]) x h
      simp at this ⊢
      omega
theorem part_count (c : UInt8) : ∀ (s p : List UInt8), (splitA c p s).length ≤ s.length + 1
  | [], p => by simp [splitA]
  | y :: r, p => by
    rw [splitA]
    split
    · have := part_count c r []
      simp
      omega
    · have := part_count c r (p ++ [y])
      simp
      omega
theorem rParse_short {s : List UInt8} (h : 200 < s.length ∨ (splitA 32 [] s).length < 4) : parseR (rParse s) s = (zeroEv, 3) := by
  unfold rParse
  rw [if_pos h]
  rfl
theorem rParse_long {s : List UInt8} (a b c : Int) (oa ob oc : Bool) (h1 : s.length ≤ 200) (h2 : 4 ≤ (splitA 32 [] s).length) (ha : numR ((splitA 32 [] s).getD 0 []) = (a, oa)) (hb : numR ((splitA 32 [] s).getD 1 []) = (b, ob)) (hc : numR ((splitA 32 [] s).getD 2 []) = (c, oc)) :
    rParse s = if oa = false ∨ ob = false ∨ oc = false then none else some (((splitA 32 [] s).drop 4).foldl rStep { step := a, time := b, task := c, kind := kindR ((splitA 32 [] s).getD 3 []) 212, object := -1, scope := -1, value := 0, other := -1 }) := by
  unfold rParse
  rw [if_neg (by omega)]
  simp only [ha, hb, hc]
theorem RS.ev_eq {w0 w : World} {R E g : Nat} {ev ev' : Ev} {ps : List (List UInt8)} (h : RS w0 w R E g ev ps) (e : ev = ev') : RS w0 w R E g ev' ps := e ▸ h
theorem behindRS {w0 w : World} {R E g : Nat} {ev : Ev} {ps : List (List UInt8)} (part word : List UInt8) (h : RS w0 w R E g ev ps) {n : Int} {o : Bool} (hn : behindR part word = (n, o)) (hs : part.length ≤ 100000) (hw : word.length ≤ 100) :
    Calls Tryd.prog 52 #[.string ⟨part.toArray⟩, .string ⟨word.toArray⟩] w fun e w' => e = .returned (.tuple #[.int .i64 n, .bool o]) ∧ RS w0 w' R E g ev ps := by
  refine (behind52 part word w hs hw).mono ?_
  rintro e w' ⟨rfl, hb⟩
  rw [hn]
  exact ⟨rfl, h.keep hb⟩
theorem fold_next {ps : List (List UInt8)} {ev ev' F : Ev} {j : Nat} (hj : j < ps.length) (h : (ps.drop j).foldl rStep ev = F) (he : rStep ev (ps.getD j []) = ev') : (ps.drop (j + 1)).foldl rStep ev' = F := by
  rw [List.drop_eq_getElem_cons hj, List.foldl_cons] at h
  have : ps.getD j [] = ps[j] := by simp [List.getD_eq_getElem?_getD, List.getElem?_eq_getElem hj]
  rw [← he, this]
  exact h
theorem kindR_hit {p : List UInt8} {n : Nat} (h1 : wordOf ((n : Int) + 1) ≠ []) (h2 : wordOf ((n : Int) + 1) = p) : kindR p (n + 1) = (n : Int) + 1 := if_pos ⟨h1, h2⟩
theorem kindR_miss {p : List UInt8} {n : Nat} (h : ¬ (wordOf ((n : Int) + 1) ≠ [] ∧ wordOf ((n : Int) + 1) = p)) : kindR p (n + 1) = kindR p n := if_neg h
set_option maxRecDepth 100000 in
set_option maxHeartbeats 4000000 in
theorem rparse15 (s : List UInt8) (w : World) (hs : s.length ≤ 100000) : Calls Tryd.prog 15 #[.string ⟨s.toArray⟩] w (RPost s w) := by
  go_enter Tryd.func15, Tryd.ntmps15
  go_wp2_with fail
  refine (fields50 s _ hs).mono ?_
  rintro e w1 ⟨v, rfl, hown, hb1⟩
  have hne : (splitA 32 [] s).length ≠ 0 := by
    intro e
    exact splitA_ne 32 s [] (List.eq_nil_of_length_eq_zero e)
  rcases ownsRow_row hown with ⟨-, h0, -⟩ | ⟨g, cap, rfl, hg0, hg1, hcap, hrow⟩
  · exact absurd h0 hne
  clear hown hg0
  have hR : w1.heap[w.heap.size]? = some (.cells (evCells zeroEv).toArray 23 (0, 0)) := by
    rw [hb1.block _ (by simp)]
    exact Array.getElem?_push_size
  have hb1' : Below w.heap.size w w1 := ((Below.refl _ _).alloc (Nat.le_refl _) _).trans (hb1.mono (by simp))
  have hR' : EvAt w1 w.heap.size zeroEv := hR
  clear hR hb1
  have hlong := @rParse_long s
  have hshort := @rParse_short s
  have hpl : ∀ x ∈ splitA 32 [] s, x.length ≤ s.length := fun x hx => by have := part_len 32 s [] x hx; simp at this; omega
  have hpn := part_count 32 s []
  generalize splitA 32 [] s = ps at *
  have Hlong := Lib.hid hlong
  have Hrow := Lib.hid hrow
  clear hrow hlong
  by_cases hlen : 200 < s.length ∨ ps.length < 4
  · have hr := hshort hlen
    have Hr := Lib.hid hr
    clear hr hshort
    by_cases h1 : 200 < s.length
    · go_wp2_with ((with_reducible refine wpList_storeEv (o := ⟨none, .store 23 (.tmp 2) (.tmp 35), _, _, _, none⟩) rfl _ _ rfl w.heap.size zeroEv zeroEv ?_ ?_ hR' ?_); (focus rfl); (focus rfl); intro w2 h2 ho hs2 hb2; clear ho hs2)
      refine bodyPost_ret (v := .tuple #[.agg (evCells zeroEv).toArray, .int .i64 3]) (by simp [results, Tryd.results15, go_sem, evCells, zeroEv, h2.cells]) rfl ⟨by rw [Hr.out], hb2 _ _ hb1' (Nat.le_refl _)⟩
    · have h2 : ps.length < 4 := by omega
      go_wp2_with ((with_reducible refine wpList_storeEv (o := ⟨none, .store 23 (.tmp 2) (.tmp 35), _, _, _, none⟩) rfl _ _ rfl w.heap.size zeroEv zeroEv ?_ ?_ hR' ?_); (focus rfl); (focus rfl); intro w2 h2 ho hs2 hb2; clear ho hs2)
      refine bodyPost_ret (v := .tuple #[.agg (evCells zeroEv).toArray, .int .i64 3]) (by simp [results, Tryd.results15, go_sem, evCells, zeroEv, h2.cells]) rfl ⟨by rw [Hr.out], hb2 _ _ hb1' (Nat.le_refl _)⟩
  · have hl1 : s.length ≤ 200 := by omega
    have hl2 : 4 ≤ ps.length := by omega
    clear hlen hshort hne
    obtain ⟨a, oa, hA⟩ : ∃ a oa, numR (ps.getD 0 []) = (a, oa) := ⟨_, _, rfl⟩
    obtain ⟨b, ob, hB⟩ : ∃ a oa, numR (ps.getD 1 []) = (a, oa) := ⟨_, _, rfl⟩
    obtain ⟨c, oc, hC⟩ : ∃ a oa, numR (ps.getD 2 []) = (a, oa) := ⟨_, _, rfl⟩
    have hlong := Hlong.out a b c oa ob oc hl1 hl2 hA hB hC
    have HL := Lib.hid hlong
    clear hlong Hlong
    go_wp2_with ((with_reducible refine wpList_storeEv (o := ⟨none, .store 23 (.tmp 5) (.tmp 36), _, _, _, none⟩) rfl _ _ rfl w1.heap.size zeroEv { zeroEv with object := -1, scope := -1, other := -1 } ?_ ?_ ?_ ?_); (focus rfl); (focus rfl); (focus exact Array.getElem?_push_size); intro w2 h2 ho hs2 hb2; have hbb := hb2 w1.heap.size w1 ((Below.refl _ _).alloc (Nat.le_refl _) _) (Nat.le_refl _); have rs : RS w w2 w.heap.size w1.heap.size g _ ps := ⟨hR'.below hbb hR'.lt, h2, Hrow.out.below hbb hg1, hb1'.trans (hbb.mono hb1'.size), Nat.le_refl _, hb1'.size, Nat.lt_of_lt_of_le hg1 hbb.size, Nat.ne_of_lt hR'.lt, Nat.ne_of_lt hg1⟩; have c0 := rs.part 0 (by omega); have Rs := Lib.hid rs; clear rs h2 ho hs2 hb2 hbb)
    have n0 := number51 (ps.getD 0 []) w2 (by have := hpl _ (part_mem ps 0 (by omega)); omega)
    rw [hA] at n0
    refine n0.mono ?_
    rintro e w3 ⟨rfl, hb3⟩
    have rs := Rs.out.keep hb3
    have c1 := rs.part 1 (by omega)
    clear Rs hb3 c0 n0 hR' hb1'
    have Rs := Lib.hid rs
    clear rs
    go_wp2_with fail
    have n0 := number51 (ps.getD 1 []) w3 (by have := hpl _ (part_mem ps 1 (by omega)); omega)
    rw [hB] at n0
    refine n0.mono ?_
    rintro e w4 ⟨rfl, hb3⟩
    have rs := Rs.out.keep hb3
    have c2 := rs.part 2 (by omega)
    clear Rs hb3 c1 n0
    have Rs := Lib.hid rs
    clear rs
    go_wp2_with fail
    have n0 := number51 (ps.getD 2 []) w4 (by have := hpl _ (part_mem ps 2 (by omega)); omega)
    rw [hC] at n0
    refine n0.mono ?_
    rintro e w5 ⟨rfl, hb3⟩
    have rs := Rs.out.keep hb3
    have c3 := rs.part 3 (by omega)
    clear Rs hb3 c2 n0
    generalize w1.heap.size = E at *
    by_cases hok : oa = true ∧ ob = true ∧ oc = true
    · obtain ⟨rfl, rfl, rfl⟩ := hok
      have hr := HL.out
      rw [if_neg (by simp)] at hr
      have HR := Lib.hid hr
      clear hr HL hA hB hC
      obtain ⟨q0, q1, q2, q3, q4, q5, q6, q7⟩ := rs.evt.cells
      have f0 := rs.frozen 0
      have f1 := rs.frozen 1
      have f2 := rs.frozen 2
      have rs1 := rs.set 0 (.int .i64 a) (EvAt.set0 rs.evt a)
      have rs2 := rs1.set 1 (.int .i64 b) (EvAt.set1 rs1.evt b)
      have rs3 := rs2.set 2 (.int .i64 c) (EvAt.set2 rs2.evt c)
      have Rs := Lib.hid (show RS w _ w.heap.size E g { step := a, time := b, task := c, kind := kindR (ps.getD 3 []) 0, object := -1, scope := -1, value := 0, other := -1 } ps from rs3)
      clear rs rs1 rs2 rs3 c3
      generalize hp3 : ps.getD 3 [] = p3 at *
      have HP3 := Lib.hid hp3
      clear hp3
      go_wp2_with fail
      go_loopw [12] (fun k wr => ∃ n : Nat, n ≤ 212 ∧ k = .int .i64 ((n : Int) + 1) ∧ RS w wr w.heap.size E g { step := a, time := b, task := c, kind := kindR p3 n, object := -1, scope := -1, value := 0, other := -1 } ps) (fun k _ => 213 - (intOf k).toNat)
      case atStart => exact ⟨0, by omega, rfl, Rs.out⟩
      case round =>
        obtain ⟨n, hn, rfl, rs⟩ := hrel
        clear Rs q0 q1 q2 q3 q4 q5 q6 q7 f0 f1 f2
        by_cases hlt : n < 212
        · have Rs := Lib.hid rs
          clear rs
          go_wp2_with fail
          refine (word44 _ _).mono ?_
          rintro e wx ⟨rfl, hbx⟩
          have rs := Rs.out.keep hbx
          clear Rs hbx
          generalize hW : wordOf ((n : Int) + 1) = W at *
          have c3 := rs.part 3 (by omega)
          rw [HP3.out] at c3
          have q3 := rs.evt.cells.2.2.2.1
          have f3 := rs.frozen 3
          have Rs := Lib.hid rs
          have HW := Lib.hid hW
          clear rs hW
          by_cases h1 : (W == []) = true
          · have e1 : kindR p3 (n + 1) = kindR p3 n := kindR_miss (fun hc => hc.1 (HW.out.trans (by simpa using h1)))
            rw [← e1] at Rs
            have E1 := Lib.hid e1
            clear e1
            go_wp2_with fail
            go_roundw
            case rel => exact ⟨n + 1, by omega, by go_num, Rs.out⟩
            case measure => simp [intOf]; omega
          · have h1' : (W == []) = false := by simpa using h1
            by_cases h2 : (W == p3) = true
            · have e1 : kindR p3 (n + 1) = (n : Int) + 1 := kindR_hit (by rw [HW.out]; simpa using h1) (HW.out.trans (by simpa using h2))
              have E1 := Lib.hid e1
              clear e1 h1
              go_wp2_with fail
              go_roundw
              case rel =>
                refine ⟨n + 1, by omega, by go_num, ?_⟩
                rw [E1.out]
                exact Rs.out.set 3 _ (EvAt.set3 Rs.out.evt _)
              case measure => simp [intOf]; omega
            · have h2' : (W == p3) = false := by simpa using h2
              have e1 : kindR p3 (n + 1) = kindR p3 n := kindR_miss (fun hc => h2 (by rw [← HW.out, hc.2]; simp))
              rw [← e1] at Rs
              have E1 := Lib.hid e1
              clear e1 h1 h2
              go_wp2_with fail
              go_roundw
              case rel => exact ⟨n + 1, by omega, by go_num, Rs.out⟩
              case measure => simp [intOf]; omega
        · have hn' : n = 212 := by omega
          subst hn'
          have Rs := Lib.hid rs
          clear rs
          go_wp2_with fail
          generalize hF : List.foldl rStep { step := a, time := b, task := c, kind := kindR p3 212, object := -1, scope := -1, value := 0, other := -1 } (List.drop 4 ps) = F at *
          go_loopw [14] (fun i wr => ∃ (j : Nat) (ev : Ev), 4 ≤ j ∧ j ≤ ps.length ∧ i = .int .i64 j ∧ RS w wr w.heap.size E g ev ps ∧ Hid ((ps.drop j).foldl rStep ev = F)) (fun i _ => ps.length - (intOf i).toNat)
          case atStart => exact ⟨4, _, by omega, by omega, rfl, Rs.out, Lib.hid hF⟩
          case round =>
            clear Rs hF
            obtain ⟨j, ev, hj4, hj, rfl, rs, hfold⟩ := hrel
            by_cases hlt : j < ps.length
            · have cj := rs.part j hlt
              have hpj := hpl _ (part_mem ps j hlt)
              obtain ⟨n1, o1, h1⟩ : ∃ n o, behindR (ps.getD j []) nmO = (n, o) := ⟨_, _, rfl⟩
              obtain ⟨n2, o2, h2⟩ : ∃ n o, behindR (ps.getD j []) nmS = (n, o) := ⟨_, _, rfl⟩
              obtain ⟨n3, o3, h3⟩ : ∃ n o, behindR (ps.getD j []) nmV = (n, o) := ⟨_, _, rfl⟩
              obtain ⟨n4, o4, h4⟩ : ∃ n o, behindR (ps.getD j []) nmR = (n, o) := ⟨_, _, rfl⟩
              have hnext := fold_next hlt hfold.out (ev' := rSet (rSet (rSet (rSet ev (n1, o1) fun e n => { e with object := n }) (n2, o2) fun e n => { e with scope := n }) (n3, o3) fun e n => { e with value := n }) (n4, o4) fun e n => { e with other := n }) (by unfold rStep; rw [h1, h2, h3, h4])
              generalize hpart : ps.getD j [] = part at *
              have Hpart := Lib.hid hpart
              have Rs := Lib.hid rs
              have Hnext := Lib.hid hnext
              have H1 := Lib.hid h1
              have H2 := Lib.hid h2
              have H3 := Lib.hid h3
              have H4 := Lib.hid h4
              clear hfold rs hnext h1 h2 h3 h4 hpart
              go_wp2_with fail
              refine (behindRS part nmO Rs.out H1.out (by omega) (by decide)).mono ?_
              rintro e wa ⟨rfl, rs⟩
              have cj := rs.part j hlt
              rw [Hpart.out] at cj
              have q4 := rs.evt.cells.2.2.2.2.1
              have f4 := rs.frozen 4
              have Rs' := Lib.hid rs
              clear rs Rs
              go_upto_if 106 with fail
              go_cut [] from 92 to 141 (fun wx => RS w wx w.heap.size E g (rSet ev (n1, o1) fun e n => { e with object := n }) ps)
              case first =>
                cases o1
                · go_wp2_with fail
                  go_meet
                  case rel => exact Rs'.out
                · go_wp2_with fail
                  go_meet
                  case rel => exact Rs'.out.set 4 _ (EvAt.set4 Rs'.out.evt _)
              clear cj q4 f4 Rs'
              generalize rSet ev (n1, o1) (fun e n => { e with object := n }) = ev1 at *
              have cj := hcut.part j hlt
              rw [Hpart.out] at cj
              have Rs := Lib.hid hcut
              clear hcut
              go_wp2_with fail
              refine (behindRS part nmS Rs.out H2.out (by omega) (by decide)).mono ?_
              rintro e wa ⟨rfl, rs⟩
              have q4 := rs.evt.cells.2.2.2.2.2.1
              have f4 := rs.frozen 5
              have Rs' := Lib.hid rs
              clear rs Rs cj
              go_upto_if 117 with fail
              go_cut [] from 92 to 141 (fun wx => RS w wx w.heap.size E g (rSet ev1 (n2, o2) fun e n => { e with scope := n }) ps)
              case first =>
                cases o2
                · go_wp2_with fail
                  go_meet
                  case rel => exact Rs'.out
                · go_wp2_with fail
                  go_meet
                  case rel => exact Rs'.out.set 5 _ (EvAt.set5 Rs'.out.evt _)
              clear q4 f4 Rs'
              generalize rSet ev1 (n2, o2) (fun e n => { e with scope := n }) = ev2 at *
              have cj := hcut.part j hlt
              rw [Hpart.out] at cj
              have Rs := Lib.hid hcut
              clear hcut
              go_wp2_with fail
              refine (behindRS part nmV Rs.out H3.out (by omega) (by decide)).mono ?_
              rintro e wa ⟨rfl, rs⟩
              have q4 := rs.evt.cells.2.2.2.2.2.2.1
              have f4 := rs.frozen 6
              have Rs' := Lib.hid rs
              clear rs Rs cj
              go_upto_if 128 with fail
              go_cut [] from 92 to 141 (fun wx => RS w wx w.heap.size E g (rSet ev2 (n3, o3) fun e n => { e with value := n }) ps)
              case first =>
                cases o3
                · go_wp2_with fail
                  go_meet
                  case rel => exact Rs'.out
                · go_wp2_with fail
                  go_meet
                  case rel => exact Rs'.out.set 6 _ (EvAt.set6 Rs'.out.evt _)
              clear q4 f4 Rs'
              generalize rSet ev2 (n3, o3) (fun e n => { e with value := n }) = ev3 at *
              have cj := hcut.part j hlt
              rw [Hpart.out] at cj
              have Rs := Lib.hid hcut
              clear hcut
              go_wp2_with fail
              refine (behindRS part nmR Rs.out H4.out (by omega) (by decide)).mono ?_
              rintro e wa ⟨rfl, rs⟩
              have q4 := rs.evt.cells.2.2.2.2.2.2.2
              have f4 := rs.frozen 7
              have Rs' := Lib.hid rs
              clear rs Rs cj
              cases o4
              · go_wp2_with fail
                go_roundw
                case rel =>
                  (repeat apply Exists.intro)
                  exact ⟨⟨j + 1, _, by omega, by omega, by go_num, Rs'.out, Hnext⟩, rfl⟩
                case measure => simp [intOf]; omega
              · go_wp2_with fail
                go_roundw
                case rel =>
                  (repeat apply Exists.intro)
                  exact ⟨⟨j + 1, _, by omega, by omega, by go_num, Rs'.out.set 7 _ (EvAt.set7 Rs'.out.evt _), Hnext⟩, rfl⟩
                case measure => simp [intOf]; omega
            · have hj' : j = ps.length := by omega
              subst hj'
              have hev : ev = F := by have := hfold.out; rwa [List.drop_length] at this
              subst hev
              clear hfold hlt
              have Rs := Lib.hid rs
              clear rs
              go_wp2_with ((with_reducible refine wpList_load_agg (o := ⟨some 143, .load 23 (.tmp 5), _, _, _, none⟩) rfl 23 _ rfl E 0 ?_ (evCells ev) Rs.out.evt.row _ Tryd.underlying23 rfl (by kernel_rfl) ?_); (focus rfl))
              obtain ⟨er, hEr⟩ : ∃ er, evErr ev = er := ⟨_, rfl⟩
              obtain ⟨tx, hTx⟩ : ∃ tx, textR ev = tx := ⟨_, rfl⟩
              have n0 := text13 ev wr
              unfold TextPost at n0
              rw [hEr, hTx] at n0
              refine n0.mono ?_
              rintro e wz ⟨rfl, hbz⟩
              have rs := Rs.out.keep hbz
              clear n0 hbz Rs
              have hpr : parseR (rParse s) s = if er = 0 ∧ textB ev = s then (ev, 0) else (zeroEv, 3) := by rw [HR.out, ← hEr]; rfl
              have htx : er = 0 → tx = textB ev := by
                intro h
                rw [← hTx]
                unfold textR
                rw [if_pos (hEr.trans h)]
              have Hpr := Lib.hid hpr
              have Htx := Lib.hid htx
              clear hEr hTx hpr htx
              have hres := rs.res
              have hbl := rs.below
              have hrow := rs.evt.row
              clear rs
              by_cases h1 : er = 0
              · subst h1
                by_cases h2 : (tx == s) = true
                · have h2' : (tx != s) = false := by simpa using h2
                  have hts : tx = s := by simpa using h2
                  have Hr := Lib.hid (show parseR (rParse s) s = (ev, 0) by rw [Hpr.out, if_pos ⟨rfl, (Htx.out rfl).symm.trans hts⟩])
                  clear hts Hpr Htx
                  go_wp2_with (first | ((with_reducible refine wpList_load_agg (o := ⟨some 155, .load 23 (.tmp 5), _, _, _, none⟩) rfl 23 _ rfl E 0 ?_ (evCells ev) hrow _ Tryd.underlying23 rfl (by kernel_rfl) ?_); (focus rfl)) | ((with_reducible refine wpList_storeEv (o := ⟨none, .store 23 (.tmp 2) (.tmp 155), _, _, _, none⟩) rfl _ _ rfl w.heap.size zeroEv ev ?_ ?_ hres ?_); (focus rfl); (focus rfl); intro w2 h2 ho hs2 hb2; clear ho hs2))
                  refine bodyPost_ret (v := .tuple #[.agg (evCells ev).toArray, .int .i64 0]) (by simp [results, Tryd.results15, go_sem, evCells, h2.cells]) rfl ⟨by rw [Hr.out], hb2 _ _ hbl (Nat.le_refl _)⟩
                · have h2' : (tx != s) = true := by simpa using h2
                  have hts : tx ≠ s := by simpa using h2
                  have Hr := Lib.hid (show parseR (rParse s) s = (zeroEv, 3) by rw [Hpr.out, if_neg (fun hc => hts ((Htx.out rfl).trans hc.2))])
                  clear hts Hpr Htx
                  go_wp2_with ((with_reducible refine wpList_storeEv (o := ⟨none, .store 23 (.tmp 2) (.tmp 154), _, _, _, none⟩) rfl _ _ rfl w.heap.size zeroEv zeroEv ?_ ?_ hres ?_); (focus rfl); (focus rfl); intro w2 h2 ho hs2 hb2; clear ho hs2)
                  refine bodyPost_ret (v := .tuple #[.agg (evCells zeroEv).toArray, .int .i64 3]) (by simp [results, Tryd.results15, go_sem, evCells, zeroEv, h2.cells]) rfl ⟨by rw [Hr.out], hb2 _ _ hbl (Nat.le_refl _)⟩
              · have h1' : (er == 0) = false := by simpa using h1
                have h1'' : (er != 0) = true := by simpa using h1
                have Hr := Lib.hid (show parseR (rParse s) s = (zeroEv, 3) by rw [Hpr.out, if_neg (fun hc => h1 hc.1)])
                clear Hpr Htx h1
                go_wp2_with ((with_reducible refine wpList_storeEv (o := ⟨none, .store 23 (.tmp 2) (.tmp 154), _, _, _, none⟩) rfl _ _ rfl w.heap.size zeroEv zeroEv ?_ ?_ hres ?_); (focus rfl); (focus rfl); intro w2 h2 ho hs2 hb2; clear ho hs2)
                refine bodyPost_ret (v := .tuple #[.agg (evCells zeroEv).toArray, .int .i64 3]) (by simp [results, Tryd.results15, go_sem, evCells, zeroEv, h2.cells]) rfl ⟨by rw [Hr.out], hb2 _ _ hbl (Nat.le_refl _)⟩
    · have hr : rParse s = none := by
        rw [HL.out, if_pos]
        cases oa <;> cases ob <;> cases oc <;> simp_all
      have Hr := Lib.hid (show parseR (rParse s) s = (zeroEv, 3) by rw [hr]; rfl)
      clear hr HL
      have hres := rs.res
      have hbl := rs.below
      clear rs
      cases oa <;> cases ob <;> cases oc <;> (first | exact absurd ⟨rfl, rfl, rfl⟩ hok | skip)
      all_goals
        go_wp2_with ((with_reducible refine wpList_storeEv (o := ⟨none, .store 23 (.tmp 2) (.tmp 68), _, _, _, none⟩) rfl _ _ rfl w.heap.size zeroEv zeroEv ?_ ?_ hres ?_); (focus rfl); (focus rfl); intro w2 h2 ho hs2 hb2; clear ho hs2)
        refine bodyPost_ret (v := .tuple #[.agg (evCells zeroEv).toArray, .int .i64 3]) (by simp [results, Tryd.results15, go_sem, evCells, zeroEv, h2.cells]) rfl ⟨by rw [Hr.out], hb2 _ _ hbl (Nat.le_refl _)⟩
end Go.Proofs.YtofomblpbmpbaaaDoor

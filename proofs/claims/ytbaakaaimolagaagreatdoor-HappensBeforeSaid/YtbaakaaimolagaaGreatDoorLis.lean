/- A part of the proof that nurserylaw36.HappensBefore returns true for every input. -/
import Derived.Test.YtbaakaaimolagaaGreatDoorCmp
namespace Go.Proofs.Seat4
open Go.RowKit Go.Sort
theorem TA : ElemT Tryz.prog 61 48 3 24 := ElemT.mk' Tryz.underlying61 (z := .agg #[.int .i64 0, .int .i64 0, .bool false]) (by kernel_rfl) rfl (by omega)
noncomputable def seenAc (d : List Ac) (seen : Array Nat) : List Ac := seen.toList.map fun j => d.getD j default
noncomputable def seenCells (d : List Ac) (seen : Array Nat) : List Value := (seenAc d seen).flatMap acCells
/-- while the map is walked -/
structure KL (w0 w : World) (m r : Nat) (d : List Ac) (seen : Array Nat) (v : Value) : Prop where
  map : MapIs w m (d.map acKV)
  iter : IterIs w r m d.length seen
  own : w.ownsRow (r + 1) 48 3 v seen.size (seenCells d seen)
  nd : seen.toList.Nodup
  lt : ∀ j ∈ seen, j < d.length
  below : RowKit.Below w0.heap.size w0 w
  m0 : m < w0.heap.size
  mr : w0.heap.size ≤ r
theorem own_same {w w' : World} {r e size n : Nat} {v : Value} {xs : List Value} (hs : ∀ i : Nat, i ≠ r → w'.heap[i]? = w.heap[i]?) (h : w.ownsRow (r + 1) e size v n xs) : w'.ownsRow (r + 1) e size v n xs :=
  ⟨h.1, h.2.imp id fun ⟨g, cap, cur, e1, e2, e3, rest⟩ => ⟨g, cap, cur, e1, e2, by rw [hs g (by omega)]; exact e3, rest⟩⟩
theorem nodup_le : ∀ (n : Nat) (l : List Nat), l.Nodup → (∀ j ∈ l, j < n) → l.length ≤ n
  | 0, l, _, h => by
    cases l with
    | nil => simp
    | cons x r => exact absurd (h x (by simp)) (by omega)
  | n + 1, l, hd, h => by
    by_cases hm : n ∈ l
    · have h1 := nodup_le n (l.erase n) (hd.erase n) (fun j hj => by
        have h2 := (hd.mem_erase_iff).1 hj
        have := h j h2.2
        omega)
      rw [List.length_erase_of_mem hm] at h1
      omega
    · have := nodup_le n l hd (fun j hj => by
        have h2 := h j hj
        have h3 : j ≠ n := fun e => hm (e ▸ hj)
        omega)
      omega
theorem seen_le {d : List Ac} {seen : Array Nat} (h1 : seen.toList.Nodup) (h2 : ∀ j ∈ seen, j < d.length) : seen.size ≤ d.length := by
  simpa using nodup_le d.length seen.toList h1 (fun j hj => h2 j (by simpa using hj))
theorem seen_perm {d : List Ac} {seen : Array Nat} (h1 : seen.toList.Nodup) (h2 : ∀ j ∈ seen, j < d.length) (h3 : ∀ j, j < d.length → j ∈ seen) : seen.size = d.length ∧ (seenAc d seen).Perm d := by
  have hp : seen.toList.Perm (List.range d.length) := (List.perm_ext_iff_of_nodup h1 List.nodup_range).2 fun a => by
    rw [List.mem_range]
    exact ⟨fun h => h2 a (by simpa using h), fun h => by simpa using h3 a h⟩
  refine ⟨by simpa using hp.length_eq, ?_⟩
  have h4 : (List.range d.length).map (fun j => d.getD j default) = d := by
    refine List.ext_getElem (by simp) fun i g1 g2 => ?_
    simp [List.getD_eq_getElem?_getD, g2]
  have := hp.map (fun j => d.getD j default)
  rwa [h4] at this
theorem seenCells_push (d : List Ac) (seen : Array Nat) (j : Nat) (A : Ac) (h : d.getD j default = A) : seenCells d (seen.push j) = seenCells d seen ++ acCells A := by
  subst h
  simp [seenCells, seenAc]
/-- the row that was made, as the sort wants it -/
theorem holds_own {w : World} {g : Nat} {cur : Array Value} {e : TypeId} {D : Array Ac} (hg : w.heap[g]? = some (.cells cur e (0, 0))) (ht : cur.toList.take (D.size * 3) = D.toList.flatMap acCells) : HoldsK acCells 3 w g 0 D := by
  intro j hj
  rw [size_flatK] at hj
  have h1 : cur[j]? = some ((flatK acCells 3 D)[j]!) := by
    rw [← flatK_list D j hj, ← ht, List.getElem?_take, if_pos hj]
    simp
  constructor
  · simp [World.cell?, hg, h1]
  · simp [World.frozen?, hg]
theorem below_mono {B B' : Nat} {w w' : World} (h : RowKit.Below B' w w') (hB : B ≤ B') : RowKit.Below B w w' := ⟨h.os, h.tape, h.output, h.size, fun k hk => h.block k (by omega)⟩
theorem below_same {B B' : Nat} {w0 w w' : World} (h : RowKit.Below B w0 w) (hb : RowKit.Below B' w w') (hs : ∀ i : Nat, w'.heap[i]? = w.heap[i]?) : RowKit.Below B w0 w' :=
  ⟨hb.os.trans h.os, hb.tape.trans h.tape, hb.output.trans h.output, Nat.le_trans h.size hb.size, fun k hk => (hs k).trans (h.block k hk)⟩
def ListPost (d : List Ac) (w : World) (e : Ending) (w' : World) : Prop :=
  ∃ g cap cur, e = .returned (.slice (some ⟨g, 0, none⟩) d.length cap) ∧ w'.heap[g]? = some (.cells cur 48 (0, 0)) ∧ w.heap.size ≤ g ∧ d.length ≤ cap ∧ cur.size = cap * 3 ∧
    (∀ t, t < d.length * 3 → cur[t]? = ((sortA d).flatMap acCells)[t]?) ∧ RowKit.Below w.heap.size w w'
/-- behind the sort -/
theorem list_end {d : List Ac} {w w1 : World} {g cap n : Nat} {cur : Array Value} {D D' : Array Ac} {os : Array Obj} (hb : RowKit.Below w.heap.size w w1) (hg : w1.heap[g]? = some (.cells cur 48 (0, 0))) (hgw : w.heap.size ≤ g) (hcap : d.length ≤ cap) (hcur : cur.size = cap * 3)
    (hD : D.toList.Perm d) (hs : D.size = d.length) (ha : ascK ((sortA d).flatMap acAV) = true) (hp : PermIn 0 D.size D D') (ho : SortedIn (ltOf cfA) 0 D.size D') :
    ListPost d w (.returned (.slice (some ⟨g, 0, none⟩) d.length cap)) (sortWorldK acCells 3 w1 g 0 n D' os) := by
  have h1 := sorted_is d D D' hD ha hp ho
  have h2 : D'.size = d.length := hp.1.trans hs
  obtain ⟨cur', c1, c2, c3, c4, c5⟩ := sorted_block w1 g n D' os cur 48 hg (by rw [h2, hcur]; omega)
  refine ⟨g, cap, cur', rfl, c1, hgw, hcap, c2.trans hcur, fun t ht => ?_, ?_⟩
  · rw [c3 t (by omega), h1]
  · refine ⟨?_, ?_, ?_, Nat.le_trans hb.size c5, fun k hk => ?_⟩
    · exact hb.os
    · exact hb.tape
    · exact hb.output
    · rw [c4 k (Nat.lt_of_lt_of_le hk hb.size) (by omega)]
      exact hb.block k hk
theorem done82 {d : List Ac} {w wr w' : World} {m r : Nat} {seen : Array Nat} {v : Value} (ks : KL w wr m r d seen v) (ha : ascK ((sortA d).flatMap acAV) = true) (hd : d.length ≤ 12) (h0 : 0 < d.length)
    (hall : ∀ j, j < d.length → j ∈ seen) (hsame : ∀ i : Nat, w'.heap[i]? = wr.heap[i]?) (hb : RowKit.Below wr.heap.size wr w') :
    ∃ g cap, v = .slice (some ⟨g, 0, none⟩) seen.size cap ∧ Calls Tryz.prog 82 #[.slice (some ⟨g, 0, none⟩) seen.size cap, .func (.func 83) #[] #[]] w' fun e w2 => e = .returned (.tuple #[]) ∧ ListPost d w (.returned (.slice (some ⟨g, 0, none⟩) seen.size cap)) w2 := by
  obtain ⟨hsz, hperm⟩ := seen_perm ks.nd ks.lt hall
  have hbw := below_same ks.below hb hsame
  rcases ks.own.2 with ⟨rfl, h9⟩ | ⟨g, cap, cur, rfl, g1, g2, g3, g4, g5, g6⟩
  · exact absurd h9 (by omega)
  · have hg' := (hsame g).trans g2
    have hDs : (seenAc d seen).toArray.size = seen.size := by simp [seenAc]
    have h6 : cur.toList.take ((seenAc d seen).toArray.size * 3) = (seenAc d seen).toArray.toList.flatMap acCells := by rw [hDs]; exact g6
    have hcon := sort82 g cap (seenAc d seen).toArray w' (holds_own hg' h6) (Array.getElem?_eq_some_iff.1 hg').1 (by rw [hDs, hsz]; exact hd)
    refine ⟨g, cap, rfl, ?_⟩
    have hend : ∀ (D' : Array Ac) (n : Nat) (os : Array Obj), PermIn 0 (seenAc d seen).toArray.size (seenAc d seen).toArray D' → SortedIn (ltOf cfA) 0 (seenAc d seen).toArray.size D' → ListPost d w (.returned (.slice (some ⟨g, 0, none⟩) seen.size cap)) (sortWorldK acCells 3 w' g 0 n D' os) := fun D' n os p1 p2 => by
      rw [hsz]
      exact list_end hbw hg' (by have := ks.mr; omega) (by omega) g5 (by simpa using hperm) (by rw [hDs, hsz]) ha p1 p2
    rw [← hDs]
    rw [← hDs] at hend
    exact hcon.mono fun e w2 ⟨h1, D', n, os, p1, p2, h2⟩ => ⟨h1, by rw [h2]; exact hend D' n os p1 p2⟩
set_option maxRecDepth 100000 in
set_option maxHeartbeats 1000000 in
theorem list54 (d : List Ac) (m : Nat) (w : World) (hm : MapIs w m (d.map acKV)) (hd : d.length ≤ 12) (h0 : 0 < d.length) (ha : ascK ((sortA d).flatMap acAV) = true) :
    Calls Tryz.prog 54 #[.map (some m)] w (ListPost d w) := by
  have Ha := Lib.hid ha
  clear ha
  go_enter Tryz.func54, Tryz.ntmps54
  have hlt := hm.lt
  go_wp2_with ((with_reducible refine wpList_range_mk (o := ⟨some 7, .range 129 (.tmp 6), _, _, _, none⟩) rfl 129 171 4 (.tmp 6) rfl Tryz.underlying129 m ?_ (d.map acKV) hm ?_); (focus rfl); intro hI)
  have ks : KL w (w.alloc (.mapIter (some m) (d.map acKV).length #[] (d.map acKV).length)) m w.heap.size d #[] (.slice none 0 0) :=
    ⟨hm.below ((RowKit.Below.refl _ _).alloc (Nat.le_refl _) _) hlt, by simpa using hI, World.ownsRow_nil _ _ _ _, by simp, by simp, (RowKit.Below.refl _ _).alloc (Nat.le_refl _) _, hlt, Nat.le_refl _⟩
  have Ks := Lib.hid ks
  have Hm := Lib.hid hm
  clear ks hI hm
  generalize hr : w.heap.size = r at *
  have hr' : w.heap.size ≤ r := by omega
  have Hr := Lib.hid hr
  clear hr
  go_frame
  go_loopw [3] (fun v wr => ∃ seen, KL w wr m r d seen v) (fun _ w => leftOf w r d.length)
  case atStart => exact ⟨_, Ks.out⟩
  case round =>
    obtain ⟨seen, ks⟩ := hrel
    clear Ks Hm
    have hM := ks.map
    have hI := ks.iter
    have hlen : (d.map acKV).length = d.length := by simp
    rw [← hlen] at hI
    have Ks := Lib.hid ks
    have HI := Lib.hid hI
    have Hlen := Lib.hid hlen
    clear ks hlen
    go_wp2_with (first | ((with_reducible refine wpList_next_mk (o := ⟨some 8, .next (.tmp 7) false, _, _, _, none⟩) rfl (.tmp 7) rfl r m ?_ (d.map acKV) hM seen hI ?_ ?_); (focus rfl); (focus (intro w' hall hsame hb'; clear hM hI; ((obtain ⟨g, cap, rfl, hcon⟩ := done82 Ks.out Ha.out hd h0 (fun j hj => hall j (by simpa using hj)) hsame hb')); have Hcon := Lib.hid hcon; clear hall hsame hb' hcon; ((go_wp2_with (go_at_call 82; refine Hcon.out.mono ?_; rintro e w2 ⟨rfl, hpost⟩))); go_ret; exact hpost)); intro j hj w' hnew hI' hb' hs' hsame; have hM' := hM.below hb' (Nat.lt_of_lt_of_le Ks.out.m0 Ks.out.mr); clear hM hI; have Hs := Lib.hid hsame; have Hsz := Lib.hid hs'; have Hn := Lib.hid hnew; have Hb := Lib.hid hb'; clear hsame hs' hnew hb'; rw [show (d.map acKV)[j] = acKV (d[j]'(by simpa using hj)) from by simp]; generalize hA : (d[j]'(by simpa using hj)) = A; have HA := Lib.hid hA; clear hA) | ((with_reducible refine wpList_entry_mk (o := ⟨some 10, .entry (.tmp 7), _, _, _, none⟩) rfl (.tmp 7) rfl r m ?_ (d.map acKV) hM' seen j hj hI' ?_); (focus rfl); rw [show (d.map acKV)[j] = acKV (d[j]'(by simpa using hj)) from by simp, HA.out]; have HM' := Lib.hid hM'; clear hM'; have HI' := Lib.hid hI'; clear hI'; simp only [acKV]) | (at_builtin; ((have hown := own_same Hs.out Ks.out.own)); ((have hsz1 : r < w'.heap.size := by (have := Ks.out.iter; have h9 := (Array.getElem?_eq_some_iff.1 this).1; have := Hsz.out; omega))); ((have hle9 := seen_le Ks.out.nd Ks.out.lt)); ((refine wpList_app rfl _ _ 61 rfl (r + 1) 48 3 24 TA _ _ _ rfl ((hown.alloc _).alloc _) (w'.heap.size + 1) (acCells A) rfl rfl (Row.new _ _ _ _ ?_) (acCells_one _) ?_ ?_ ?_ ?_); (focus simp); (focus omega); (focus omega); (focus (simp; omega)); intro v' w1 hown1 hgr1)))
    have hb1 : RowKit.Below (r + 1) w' w1 := (((RowKit.Below.refl (r + 1) w').alloc (by omega) _).alloc (by simp; omega) _).grown hgr1 (by simp; omega) (fun j hj => (hown.lt j hj).1)
    have hI1 : IterIs w1 r m d.length (seen.push j) := by
      have h1 := HI'.out
      rw [Hlen.out] at h1
      exact (hb1.block r (by omega)).trans h1
    have hjd : j < d.length := by have h1 := hj; rwa [Hlen.out] at h1
    go_roundw
    case rel =>
      refine ⟨seen.push j, HM'.out.below hb1 (by omega), hI1, ?_, ?_, ?_, ?_, Ks.out.m0, Ks.out.mr⟩
      · rw [Array.size_push, seenCells_push d seen j A (by rw [← HA.out]; simp [List.getD_eq_getElem?_getD, hjd])]
        exact hown1
      · rw [Array.toList_push, List.nodup_append]
        refine ⟨Ks.out.nd, by simp, fun x hx y hy e => ?_⟩
        subst e
        rw [List.mem_singleton] at hy
        subst hy
        exact Hn.out (by simpa using hx)
      · intro x hx
        rcases Array.mem_push.1 hx with hx | rfl
        · exact Ks.out.lt x hx
        · exact hjd
      · exact (Ks.out.below.trans (below_mono Hb.out Ks.out.mr)).trans (below_mono hb1 (by have := Ks.out.mr; omega))
    case measure => exact leftOf_push (by have h1 := HI.out; rwa [Hlen.out] at h1) hI1 hjd Hn.out
end Go.Proofs.Seat4

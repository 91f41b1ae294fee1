/- line, by the program. -/
import Derived.Test.YtgeclafcbgocgaaDoorEnd
import Derived.Test.YtgeclafcbgocgaaDoorNmb
import Derived.Test.YtgeclafcbgocgaaDoorLns
namespace Go.Proofs.YtgeclafcbgocgaaDoor
open Go.RowKit Go.Maps
theorem split47' (s : List UInt8) (w : World) (hE : Env w) (hs : s.length ≤ 1048576) :
    Calls Tryd.prog 47 #[.string ⟨s.toArray⟩, .string ⟨#[32]⟩] w fun e w' => ∃ g, e = .returned (.slice (some ⟨g, 0, none⟩) (splitA 32 [] s).length (splitA 32 [] s).length) ∧ w.heap.size ≤ g ∧ g < w'.heap.size ∧ Row w' g 0 ((splitA 32 [] s).map strV) ∧ Below w.heap.size w w' := by
  refine (split47 s [32] w hE hs (by simp)).mono ?_
  rintro e w' ⟨N, rfl, rfl, rfl⟩
  refine ⟨w.heap.size, ?_, Nat.le_refl _, by simp, ?_, (Below.refl _ _).alloc (Nat.le_refl _) _⟩
  · rw [← countB_len 32 s]
  · have h := Row.new w ((Lib.splitB ⟨#[32]⟩ 0 (Lib.countB ⟨s.toArray⟩ ⟨#[32]⟩) ⟨s.toArray⟩).map Value.string).toArray 9 w.heap.size rfl
    rw [List.toList_toArray, splitB_cells 32 s] at h
    rw [splitB_cells 32 s]
    exact h
theorem BkS.below {Bk Mb base p : Nat} {c : List Cl} {W W' : World} (h : BkS Bk Mb base c p W) (hb : Below W.heap.size W W') : BkS Bk Mb base c p W' := by
  obtain ⟨v, h1, h2⟩ := h.row
  exact ⟨h.uni, h.len, h.map.below hb, ⟨v, (hb.block _ (Array.getElem?_eq_some_iff.1 h1).1).trans h1, h2.kept (grownBy_below hb) (by cases hq : v.ownBlock with | none => exact .inl rfl | some g => exact .inr (by simp))⟩, Nat.le_trans h.sz hb.size⟩
def LPost (Bk Mb base : Nat) (c : List Cl) (p : Nat) (s : List UInt8) (W : World) (e : Ending) (W' : World) : Prop :=
  e = .returned (.int .i64 (stepL c p s).2) ∧ BkS Bk Mb base (stepL c p s).1 (if (stepL c p s).2 = 0 then p + 1 else p) W' ∧ Frm Bk Mb base W W'
theorem lpost_none {Bk Mb base p : Nat} {c : List Cl} {s : List UInt8} {W W' : World} (hr : readMark s = none) (h : BkS Bk Mb base c p W) (hb : Below W.heap.size W W') : LPost Bk Mb base c p s W (.returned (.int .i64 3)) W' := by
  have e : stepL c p s = (c, 3) := by unfold stepL; rw [hr]
  refine ⟨by rw [e], by rw [e]; exact h.below hb, Frm.below (hb.mono h.sz)⟩
theorem lpost_some {Bk Mb base p : Nat} {c : List Cl} {s : List UInt8} {m : Mk} {e : Ending} {W W1 W' : World} (hr : readMark s = some m) (h : BkS Bk Mb base c p W) (hb : Below W.heap.size W W1) (h2 : BPost Bk Mb base c p m W1 e W') : LPost Bk Mb base c p s W e W' := by
  have e : stepL c p s = bookStep c p m := by unfold stepL; rw [hr]
  obtain ⟨a, b, d⟩ := h2
  refine ⟨by rw [e]; exact a, by rw [e]; exact b, (Frm.below (hb.mono h.sz)).trans d⟩
theorem readMark_a {s : List UInt8} {L : List (List UInt8)} (h : splitA 32 [] s = L) (hn : numO (L.getD 0 []) 0 15 = none) : readMark s = none := by
  unfold readMark
  rw [h]
  split
  · rename_i t u g
    have hn' : numO t 0 15 = none := hn
    split
    · rw [hn']
    · rfl
  · rename_i t u m g
    have hn' : numO t 0 15 = none := hn
    split
    · rw [hn']
    · rfl
  · rfl
theorem readMark_len {s : List UInt8} {L : List (List UInt8)} (h : splitA 32 [] s = L) (h3 : L.length ≠ 3) (h4 : L.length ≠ 4) : readMark s = none := by
  unfold readMark
  rw [h]
  split
  · exact absurd rfl h3
  · exact absurd rfl h4
  · rfl
theorem readMark_3 {s a b c : List UInt8} (h : splitA 32 [] s = [a, b, c]) : readMark s = if b = wE then (match numO a 0 15, numO c (-1099511627776) 1099511627776 with | some t, some g => some ⟨t, 0, g, true⟩ | _, _ => none) else none := by
  unfold readMark
  rw [h]
  rfl
theorem readMark_4 {s a b c d : List UInt8} (h : splitA 32 [] s = [a, b, c, d]) : readMark s = if b = wB then (match numO a 0 15, numO c 0 99, numO d (-1099511627776) 1099511627776 with | some t, some m, some g => some ⟨t, m, g, false⟩ | _, _, _ => none) else none := by
  unfold readMark
  rw [h]
  rfl
theorem splitA_len {s : List UInt8} {L : List (List UInt8)} (h : splitA 32 [] s = L) (i : Nat) : (L.getD i []).length ≤ s.length := by
  have hj := splitA_join 32 s []
  rw [List.nil_append, h] at hj
  rw [← hj]
  clear hj h
  induction L generalizing i with
  | nil => simp
  | cons x L ih =>
    cases L with
    | nil =>
      cases i with
      | zero => exact Nat.le_refl _
      | succ i => simp
    | cons y L =>
      have e : joinA 32 (x :: y :: L) = x ++ 32 :: joinA 32 (y :: L) := rfl
      rw [e, List.length_append, List.length_cons]
      cases i with
      | zero => show x.length ≤ _; omega
      | succ i => have := ih i; show ((y :: L).getD i []).length ≤ _; omega
set_option maxRecDepth 100000 in
set_option maxHeartbeats 4000000 in
theorem line31 (Bk Mb base : Nat) (c : List Cl) (p : Nat) (s : List UInt8) (W : World) (h : BkS Bk Mb base c p W) (hE : Env W) (hs : s.length ≤ 100000) (hp : p ≤ 1000000) (hBk : Bk < base) (hMb : Mb < base) :
    Calls Tryd.prog 31 #[.pointer (some ⟨Bk, 0, none⟩), .string ⟨s.toArray⟩] W (LPost Bk Mb base c p s W) := by
  have H := Lib.hid h
  have hE8 := hE.top
  go_enter Tryd.func31, Tryd.ntmps31
  go_wp2_with fail
  refine (split47' s W hE (by omega)).mono ?_
  rintro e w1 ⟨g, rfl, hg0, hg1, hrow, hb1⟩
  obtain ⟨L, hL⟩ : ∃ L, splitA 32 [] s = L := ⟨_, rfl⟩
  have hne : L ≠ [] := by rw [← hL]; exact splitA_ne 32 s []
  have hlen := splitA_len hL
  have HL := Lib.hid hL
  rw [hL] at hrow ⊢
  have hE1 := hE.below hb1
  have hL1 : 0 < L.length := List.length_pos_iff.2 hne
  have hl0 := hlen 0
  have hc0 : w1.cell? ⟨g, 0, none⟩ = some (.string ⟨(L.getD 0 []).toArray⟩) := by
    have := hrow 0 (strV (L.getD 0 [])) (by simp [List.getD_eq_getElem?_getD, List.getElem?_map, List.getElem?_eq_getElem hL1])
    rwa [Nat.zero_add] at this
  obtain ⟨a0, ha0⟩ : ∃ a, L.getD 0 [] = a := ⟨_, rfl⟩
  rw [ha0] at hc0 hl0
  have Ha0 := Lib.hid ha0
  clear hL h hE ha0
  have Hrow := Lib.hid hrow
  clear hrow
  go_wp2_with fail
  refine (numB48 _ _ _ w1 hE1 (by omega) (by omega) (by omega)).mono ?_
  rintro e w2 ⟨⟨t, ok, rfl, hn⟩, hb2⟩
  have hsz1 := hb1.size
  have hb12 : Below W.heap.size W w2 := hb1.trans (hb2.mono hsz1)
  have hE2 := hE1.below hb2
  have Hrow2 := Lib.hid (Hrow.out.below hb2 hg1)
  have hg2 : g < w2.heap.size := by have := hb2.size; omega
  clear hE1 hc0 Hrow hb2
  cases ok with
  | false =>
    have hr := readMark_a HL.out (by rw [Ha0.out]; exact hn)
    have HP := Lib.hid (lpost_none hr H.out hb12)
    clear hr hn
    go_wp2_with fail
    go_ret
    exact HP.out
  | true =>
    have hn' : numO a0 0 15 = some t := hn
    obtain ⟨-, ht0, ht1⟩ := numO_some hn'
    have Hn := Lib.hid hn'
    clear hn hn'
    have hsh : (L.length ≠ 3 ∧ L.length ≠ 4) ∨ (∃ b c', L = [a0, b, c']) ∨ (∃ b c' d, L = [a0, b, c', d]) := by
      have ha0 := Ha0.out
      rcases L with _ | ⟨x0, _ | ⟨x1, _ | ⟨x2, _ | ⟨x3, _ | ⟨x4, L⟩⟩⟩⟩⟩
      · exact absurd rfl hne
      · exact .inl ⟨by simp, by simp⟩
      · exact .inl ⟨by simp, by simp⟩
      · obtain rfl : x0 = a0 := ha0
        exact .inr (.inl ⟨_, _, rfl⟩)
      · obtain rfl : x0 = a0 := ha0
        exact .inr (.inr ⟨_, _, _, rfl⟩)
      · exact .inl ⟨by simp, by simp⟩
    rcases hsh with ⟨h3, h4⟩ | ⟨b, c', rfl⟩ | ⟨b, c', d, rfl⟩
    · have HP := Lib.hid (lpost_none (readMark_len HL.out h3 h4) H.out hb12)
      have h3' : ((L.length : Int) == 3) = false := by simp; omega
      have h4' : ((L.length : Int) == 4) = false := by simp; omega
      clear h3 h4
      go_wp2_with fail
      go_ret
      exact HP.out
    · have hr := readMark_3 HL.out
      rw [Hn.out] at hr
      have hl2 : c'.length ≤ s.length := hlen 2
      have hc1 : w2.cell? ⟨g, 1, none⟩ = some (.string ⟨b.toArray⟩) := by have := Hrow2.out 1 _ rfl; rwa [Nat.zero_add] at this
      have hc2 : w2.cell? ⟨g, 2, none⟩ = some (.string ⟨c'.toArray⟩) := by have := Hrow2.out 2 _ rfl; rwa [Nat.zero_add] at this
      rcases Bool.eq_false_or_eq_true (b == [101, 110, 100]) with hq | hq
      · have hq' : b = wE := by simpa [wE] using hq
        rw [if_pos hq'] at hr
        have Hr := Lib.hid hr
        clear hr hq'
        go_wp2_with fail
        refine (numB48 _ _ _ w2 hE2 (by omega) (by omega) (by omega)).mono ?_
        rintro e w3 ⟨⟨r, ok, rfl, hn⟩, hb3⟩
        have hb13 : Below W.heap.size W w3 := hb12.trans (hb3.mono hb12.size)
        have Hr2 := Hr.out
        rw [hn] at Hr2
        clear hE2 hb3 hn
        cases ok with
        | false =>
          have HP := Lib.hid (lpost_none Hr2 H.out hb13)
          clear Hr2
          go_wp2_with fail
          go_ret
          exact HP.out
        | true =>
          have HR := Lib.hid Hr2
          clear Hr2
          have hK := H.out.below hb13
          have n1 := end50 Bk Mb base c p t r w3 hK hp hBk hMb ⟨by omega, by omega⟩
          clear hK
          go_wp2_with fail
          refine n1.mono ?_
          rintro e w4 hB
          have hB2 := lpost_some HR.out H.out hb13 hB
          obtain ⟨rfl, -⟩ := id hB
          have HP := Lib.hid hB2
          clear hB hB2 n1
          go_wp2_with fail
          go_ret
          exact HP.out
      · have hq' : b ≠ wE := by simpa [wE] using hq
        rw [if_neg hq'] at hr
        have HP := Lib.hid (lpost_none hr H.out hb12)
        clear hr hq'
        go_wp2_with fail
        go_ret
        exact HP.out
    · have hr := readMark_4 HL.out
      rw [Hn.out] at hr
      have hl2 : c'.length ≤ s.length := hlen 2
      have hl3 : d.length ≤ s.length := hlen 3
      have hc1 : w2.cell? ⟨g, 1, none⟩ = some (.string ⟨b.toArray⟩) := by have := Hrow2.out 1 _ rfl; rwa [Nat.zero_add] at this
      have hc2 : w2.cell? ⟨g, 2, none⟩ = some (.string ⟨c'.toArray⟩) := by have := Hrow2.out 2 _ rfl; rwa [Nat.zero_add] at this
      rcases Bool.eq_false_or_eq_true (b == [98, 101, 103, 105, 110]) with hq | hq
      · have hq' : b = wB := by simpa [wB] using hq
        rw [if_pos hq'] at hr
        have Hr := Lib.hid hr
        clear hr hq'
        go_wp2_with fail
        refine (numB48 _ _ _ w2 hE2 (by omega) (by omega) (by omega)).mono ?_
        rintro e w3 ⟨⟨m, ok1, rfl, hn⟩, hb3⟩
        have hb13 : Below W.heap.size W w3 := hb12.trans (hb3.mono hb12.size)
        have hE3 := hE2.below hb3
        have hc3 : w3.cell? ⟨g, 3, none⟩ = some (.string ⟨d.toArray⟩) := by have := (Hrow2.out.below hb3 hg2) 3 _ rfl; rwa [Nat.zero_add] at this
        have Hr2 := Hr.out
        rw [hn] at Hr2
        have HR2 := Lib.hid Hr2
        clear hE2 hb3 hn hc2 Hr2
        go_wp2_with fail
        refine (numB48 _ _ _ w3 hE3 (by omega) (by omega) (by omega)).mono ?_
        rintro e w4 ⟨⟨r, ok2, rfl, hn⟩, hb4⟩
        have hb14 : Below W.heap.size W w4 := hb13.trans (hb4.mono hb13.size)
        have Hr3 := HR2.out
        rw [hn] at Hr3
        clear hE3 hb4 hn hc3
        cases ok1 with
        | false =>
          have HP := Lib.hid (lpost_none (by rw [Hr3]; rfl) H.out hb14)
          clear Hr3
          go_wp2_with fail
          go_ret
          exact HP.out
        | true =>
          cases ok2 with
          | false =>
            have HP := Lib.hid (lpost_none (by rw [Hr3]; rfl) H.out hb14)
            clear Hr3
            go_wp2_with fail
            go_ret
            exact HP.out
          | true =>
            have HR := Lib.hid Hr3
            clear Hr3
            have hK := H.out.below hb14
            have n1 := begin49 Bk Mb base c p t m r w4 hK hp hBk hMb ⟨by omega, by omega⟩
            clear hK
            go_wp2_with fail
            refine n1.mono ?_
            rintro e w5 hB
            have hB2 := lpost_some HR.out H.out hb14 hB
            obtain ⟨rfl, -⟩ := id hB
            have HP := Lib.hid hB2
            clear hB hB2 n1
            go_wp2_with fail
            go_ret
            exact HP.out
      · have hq' : b ≠ wB := by simpa [wB] using hq
        rw [if_neg hq'] at hr
        have HP := Lib.hid (lpost_none hr H.out hb12)
        clear hr hq'
        go_wp2_with fail
        go_ret
        exact HP.out
end Go.Proofs.YtgeclafcbgocgaaDoor

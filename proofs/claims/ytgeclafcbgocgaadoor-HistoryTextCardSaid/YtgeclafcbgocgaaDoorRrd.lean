/- read, by the reference: the mark of a line. -/
import Derived.Test.YtgeclafcbgocgaaDoorRco
import Derived.Test.YtgeclafcbgocgaaDoorDts
import Derived.Test.YtgeclafcbgocgaaDoorLin
namespace Go.Proofs.YtgeclafcbgocgaaDoor
open Go.RowKit
def zMk : Mk := ⟨0, 0, 0, false⟩
def MkAt (w : World) (b : Nat) (m : Mk) : Prop := w.heap[b]? = some (.cells (mkCells m).toArray 62 (0, 0))
theorem MkAt.below {w w' : World} {b B : Nat} {m : Mk} (h : MkAt w b m) (hb : Below B w w') (hB : b < B) : MkAt w' b m := (hb.block b hB).trans h
theorem MkAt.cells {w : World} {b : Nat} {m : Mk} (h : MkAt w b m) : w.cell? ⟨b, 0, none⟩ = some (.int .i64 m.task) ∧ w.cell? ⟨b, 1, none⟩ = some (.int .i64 m.method) ∧ w.cell? ⟨b, 2, none⟩ = some (.int .i64 m.value) ∧ w.cell? ⟨b, 3, none⟩ = some (.bool m.isEnd) := ⟨cell_heap h 0, cell_heap h 1, cell_heap h 2, cell_heap h 3⟩
/-- A store of a whole mark. -/
theorem wpList_storeMk {ops : Array Oper} {rest : List Oper} {o : Oper} {a : Act} {w : World} {Q : Exit → Act → World → Prop} (hgd : o.guard = none) (x y : Operand) (ho : o.op = .store 62 x y)
    (b : Nat) (e e' : Mk) (hx : a.eval x = .pointer (some ⟨b, 0, none⟩)) (hy : a.eval y = .agg (mkCells e').toArray) (he : MkAt w b e)
    (h : ∀ w', MkAt w' b e' → (∀ B w0, Below B w0 w → B ≤ b → Below B w0 w') → (∀ k, k ≠ b → w'.heap[k]? = w.heap[k]?) → wpList Tryd.prog ops Q rest (a.put o.dst undef) w') : wpList Tryd.prog ops Q (o :: rest) a w :=
  wpList_plain hgd fun _ hK => wp_store_row 62 x y ho b _ hx hy 62 _ he (by kernel_rfl) (by simp [mkCells]) (by simp [mkCells, Value.oneCell']) (hK _ _ (h _ (setRow_heap w b _ _ _ (0, 0) he) (fun B w0 hb hB => hb.trans ⟨rfl, rfl, rfl, by simp [World.setRow], fun k hk => setRow_other w b k _ (by omega)⟩) (fun k hk => setRow_other w b k _ hk)))
def pickM (b : Bool) (x y : Mk) : Mk := match b with | true => x | false => y
def RmPost (s : List UInt8) (w : World) (e : Ending) (w' : World) : Prop := ∃ m ok, e = .returned (.tuple #[.agg (mkCells m).toArray, .bool ok]) ∧ (readMark s = if ok = true then some m else none) ∧ Below w.heap.size w w'
set_option maxRecDepth 100000 in
set_option maxHeartbeats 4000000 in
theorem rread32 (s : List UInt8) (w : World) (hs : s.length ≤ 100000) : Calls Tryd.prog 32 #[.string ⟨s.toArray⟩] w (RmPost s w) := by
  go_enter Tryd.func32, Tryd.ntmps32
  go_wp2_with fail
  refine (words51 s _ hs).mono ?_
  rintro e w1 ⟨v, rfl, hown, hb1⟩
  obtain ⟨L, hL⟩ : ∃ L, splitA 32 [] s = L := ⟨_, rfl⟩
  have hne : L ≠ [] := by rw [← hL]; exact splitA_ne 32 s []
  have hlen := splitA_len hL
  rw [hL] at hown
  rcases ownsRow_row hown with ⟨-, h0, -⟩ | ⟨g, cap, rfl, hg0, hg1, hcap, hrow⟩
  · exact absurd (List.eq_nil_of_length_eq_zero h0) hne
  have hR : MkAt w1 w.heap.size zMk := by
    unfold MkAt
    rw [hb1.block _ (by simp)]
    exact Array.getElem?_push_size
  have hB1 : Below w.heap.size w w1 := ((Below.refl _ _).alloc (Nat.le_refl _) _).trans (hb1.mono (by simp))
  have hNw : w.heap.size < w1.heap.size := (Array.getElem?_eq_some_iff.1 hR).1
  have HL := Lib.hid hL
  have hgN : g ≠ w.heap.size := by have : (w.alloc (.cells (mkCells zMk).toArray 62)).heap.size = w.heap.size + 1 := by simp
                                   have h := hg0; simp at h; omega
  clear hown hb1 hL
  by_cases h3 : L.length < 3
  · have Hr := Lib.hid (readMark_len HL.out (by omega) (by omega))
    go_wp2_with ((with_reducible refine wpList_storeMk (o := ⟨none, .store 62 (.tmp 2) (.tmp 17), _, _, _, none⟩) rfl _ _ rfl w.heap.size zMk zMk ?_ ?_ hR ?_); (focus rfl); (focus rfl); intro w2 h2 hb2 hoth; clear hoth)
    refine bodyPost_ret (v := .tuple #[.agg (mkCells zMk).toArray, .bool false]) (by simp [results, Tryd.results32, go_sem, mkCells, zMk, h2.cells]) rfl ⟨zMk, false, rfl, Hr.out, hb2 _ _ hB1 (Nat.le_refl _)⟩
  · have hc : ∀ j, j < L.length → w1.cell? ⟨g, j, none⟩ = some (.string ⟨(L.getD j []).toArray⟩) := fun j hj => by
      have := hrow j (strV (L.getD j [])) (by simp [List.getD_eq_getElem?_getD, List.getElem?_map, List.getElem?_eq_getElem hj])
      rwa [Nat.zero_add] at this
    have hc0 := hc 0 (by omega)
    have hl0 := hlen 0
    obtain ⟨a, ha⟩ : ∃ a, L.getD 0 [] = a := ⟨_, rfl⟩
    rw [ha] at hc0 hl0
    have Hc := Lib.hid hc
    have Ha := Lib.hid ha
    clear hc hrow ha
    have h3i : decide ((L.length : Int) < 3) = false := decide_eq_false (by omega)
    go_wp2_with fail
    refine (numB52 a 0 15 w1 (by omega)).mono ?_
    rintro e w2 ⟨⟨t, ok, rfl, hn⟩, hb2⟩
    have hB2 := hB1.trans (hb2.mono hB1.size)
    have hR2 := hR.below hb2 hNw
    have hg2 : g < w2.heap.size := Nat.lt_of_lt_of_le hg1 hb2.size
    have hNw2 : w.heap.size < w2.heap.size := Nat.lt_of_lt_of_le hNw hb2.size
    have Hc2 := Lib.hid (show ∀ j, j < L.length → w2.cell? ⟨g, j, none⟩ = some (.string ⟨(L.getD j []).toArray⟩) from fun j hj => (hb2.cell (p := ⟨g, j, none⟩) hg1).trans (Hc.out j hj))
    clear hR hB1 hb2 hc0 Hc hNw hg1
    cases ok with
    | false =>
      have Hr := Lib.hid (readMark_a HL.out (by rw [Ha.out]; exact hn))
      clear hn
      go_wp2_with ((with_reducible refine wpList_storeMk (o := ⟨none, .store 62 (.tmp 2) (.tmp 27), _, _, _, none⟩) rfl _ _ rfl w.heap.size zMk zMk ?_ ?_ hR2 ?_); (focus rfl); (focus rfl); intro w3 h2 hb2 hoth; clear hoth)
      refine bodyPost_ret (v := .tuple #[.agg (mkCells zMk).toArray, .bool false]) (by simp [results, Tryd.results32, go_sem, mkCells, zMk, h2.cells]) rfl ⟨zMk, false, rfl, Hr.out, hb2 _ _ hB2 (Nat.le_refl _)⟩
    | true =>
      have hn' : numO a 0 15 = some t := hn
      have Hn := Lib.hid hn'
      clear hn hn'
      have hsh : (∃ b c', L = [a, b, c']) ∨ (∃ b c' d, L = [a, b, c', d]) ∨ (∃ b c', L.getD 1 [] = b ∧ L.getD 2 [] = c' ∧ 4 < L.length) := by
        have ha0 := Ha.out
        rcases L with _ | ⟨x0, _ | ⟨x1, _ | ⟨x2, _ | ⟨x3, _ | ⟨x4, L⟩⟩⟩⟩⟩
        · exact absurd rfl hne
        · exact absurd (show 1 < 3 by decide) h3
        · exact absurd (show 2 < 3 by decide) h3
        · obtain rfl : x0 = a := ha0
          exact .inl ⟨_, _, rfl⟩
        · obtain rfl : x0 = a := ha0
          exact .inr (.inl ⟨_, _, _, rfl⟩)
        · exact .inr (.inr ⟨_, _, rfl, rfl, by simp⟩)
      rcases hsh with ⟨b, c', rfl⟩ | ⟨b, c', d, rfl⟩ | ⟨b, c', hb', hc', h5⟩
      · have hr := readMark_3 HL.out
        rw [Hn.out] at hr
        have hl2 : c'.length ≤ s.length := hlen 2
        have hc1 : w2.cell? ⟨g, 1, none⟩ = some (.string ⟨b.toArray⟩) := Hc2.out 1 (by simp)
        have hc2 : w2.cell? ⟨g, 2, none⟩ = some (.string ⟨c'.toArray⟩) := Hc2.out 2 (by simp)
        have HR := Lib.hid hr
        clear hr
        go_wp2_with fail
        refine (numB52 c' (-1099511627776) 1099511627776 w2 (by omega)).mono ?_
        rintro e w3 ⟨⟨r, ok, rfl, hn⟩, hb3⟩
        have hB3 := hB2.trans (hb3.mono hB2.size)
        have hR3 := hR2.below hb3 hNw2
        have hc1' : w3.cell? ⟨g, 1, none⟩ = some (.string ⟨b.toArray⟩) := (hb3.cell (p := ⟨g, 1, none⟩) hg2).trans hc1
        have hg3 : g < w3.heap.size := Nat.lt_of_lt_of_le hg2 hb3.size
        have hNw3 : w.heap.size < w3.heap.size := Nat.lt_of_lt_of_le hNw2 hb3.size
        clear hR2 hB2 hb3 hc1 hc2 hg2 hNw2
        cases ok with
        | false =>
          have hn' : numO c' (-1099511627776) 1099511627776 = none := hn
          have Hr := Lib.hid (show readMark s = if false = true then some ⟨t, 0, r, true⟩ else none by rw [HR.out, hn']; split <;> rfl)
          clear hn hn' HR
          go_upto_region 12 with fail
          refine wp_region_detS (by kernel_rfl) 15 (by kernel_rfl) (fun bb wx => wx.cell? ⟨g, 1, none⟩ = some (.string ⟨b.toArray⟩) ∧ MkAt wx w.heap.size (pickM bb ⟨t, 0, r, true⟩ zMk) ∧ Below w.heap.size w wx) ⟨hc1', hR3, hB3.drew⟩ ?_
          iterate 15
            apply wpDetS_cons rfl
            · rintro bb wx ⟨hx1, hx2, hx3⟩
              go_wp2_with fail
              exact ⟨rfl, rfl, hx1, hx2, hx3⟩
            go_frame
          apply wpDetS_at (v := undef) rfl
          · rintro wx ⟨hx1, hx2, hx3⟩
            have hx2' : MkAt wx w.heap.size zMk := hx2
            go_wp2_with ((with_reducible refine wpList_storeMk (o := ⟨none, .store 62 (.tmp 2) (.tmp 68), _, _, _, none⟩) rfl _ _ rfl w.heap.size zMk ⟨t, 0, r, true⟩ ?_ ?_ hx2' ?_); (focus rfl); (focus rfl); intro w5 h2 hb2 hoth)
            refine ⟨rfl, rfl, ?_, h2, hb2 _ _ hx3 (Nat.le_refl _)⟩
            unfold World.cell? at hx1 ⊢
            rw [hoth g hgN]
            exact hx1
          go_frame
          apply wpDetS_cons rfl
          · rintro bb wx ⟨hx1, hx2, hx3⟩
            go_wp2_with fail
            exact ⟨rfl, rfl, hx1, hx2, hx3⟩
          go_frame
          rintro wx ⟨-, h2, hb2⟩
          have h2' : MkAt wx w.heap.size ⟨t, 0, r, true⟩ := h2
          go_wp2_with fail
          refine bodyPost_ret (v := .tuple #[.agg (mkCells ⟨t, 0, r, true⟩).toArray, .bool false]) (by simp [results, Tryd.results32, go_sem, mkCells, h2'.cells]) rfl ⟨⟨t, 0, r, true⟩, false, rfl, Hr.out, hb2⟩
        | true =>
          have hn' : numO c' (-1099511627776) 1099511627776 = some r := hn
          rcases Bool.eq_false_or_eq_true (b == [101, 110, 100]) with hq | hq
          · have Hr := Lib.hid (show readMark s = if true = true then some ⟨t, 0, r, true⟩ else none by rw [HR.out, hn', if_pos (show b = wE by simpa [wE] using hq)]; rfl)
            clear hn hn' HR
            go_upto_region 12 with fail
            refine wp_region_detS (by kernel_rfl) 15 (by kernel_rfl) (fun bb wx => wx.cell? ⟨g, 1, none⟩ = some (.string ⟨b.toArray⟩) ∧ MkAt wx w.heap.size (pickM bb ⟨t, 0, r, true⟩ zMk) ∧ Below w.heap.size w wx) ⟨hc1', hR3, hB3.drew⟩ ?_
            iterate 15
              apply wpDetS_cons rfl
              · rintro bb wx ⟨hx1, hx2, hx3⟩
                go_wp2_with fail
                exact ⟨rfl, rfl, hx1, hx2, hx3⟩
              go_frame
            apply wpDetS_at (v := undef) rfl
            · rintro wx ⟨hx1, hx2, hx3⟩
              have hx2' : MkAt wx w.heap.size zMk := hx2
              go_wp2_with ((with_reducible refine wpList_storeMk (o := ⟨none, .store 62 (.tmp 2) (.tmp 68), _, _, _, none⟩) rfl _ _ rfl w.heap.size zMk ⟨t, 0, r, true⟩ ?_ ?_ hx2' ?_); (focus rfl); (focus rfl); intro w5 h2 hb2 hoth)
              refine ⟨rfl, rfl, ?_, h2, hb2 _ _ hx3 (Nat.le_refl _)⟩
              unfold World.cell? at hx1 ⊢
              rw [hoth g hgN]
              exact hx1
            go_frame
            apply wpDetS_cons rfl
            · rintro bb wx ⟨hx1, hx2, hx3⟩
              go_wp2_with fail
              exact ⟨rfl, rfl, hx1, hx2, hx3⟩
            go_frame
            rintro wx ⟨-, h2, hb2⟩
            have h2' : MkAt wx w.heap.size ⟨t, 0, r, true⟩ := h2
            go_wp2_with fail
            refine bodyPost_ret (v := .tuple #[.agg (mkCells ⟨t, 0, r, true⟩).toArray, .bool true]) (by simp [results, Tryd.results32, go_sem, mkCells, h2'.cells]) rfl ⟨⟨t, 0, r, true⟩, true, rfl, Hr.out, hb2⟩
          · have Hr := Lib.hid (show readMark s = if false = true then some ⟨t, 0, r, true⟩ else none by rw [HR.out, if_neg (show ¬ b = wE by simpa [wE] using hq)]; rfl)
            clear hn hn' HR
            go_upto_region 12 with fail
            refine wp_region_detS (by kernel_rfl) 15 (by kernel_rfl) (fun bb wx => wx.cell? ⟨g, 1, none⟩ = some (.string ⟨b.toArray⟩) ∧ MkAt wx w.heap.size (pickM bb ⟨t, 0, r, true⟩ zMk) ∧ Below w.heap.size w wx) ⟨hc1', hR3, hB3.drew⟩ ?_
            iterate 15
              apply wpDetS_cons rfl
              · rintro bb wx ⟨hx1, hx2, hx3⟩
                go_wp2_with fail
                exact ⟨rfl, rfl, hx1, hx2, hx3⟩
              go_frame
            apply wpDetS_at (v := undef) rfl
            · rintro wx ⟨hx1, hx2, hx3⟩
              have hx2' : MkAt wx w.heap.size zMk := hx2
              go_wp2_with ((with_reducible refine wpList_storeMk (o := ⟨none, .store 62 (.tmp 2) (.tmp 68), _, _, _, none⟩) rfl _ _ rfl w.heap.size zMk ⟨t, 0, r, true⟩ ?_ ?_ hx2' ?_); (focus rfl); (focus rfl); intro w5 h2 hb2 hoth)
              refine ⟨rfl, rfl, ?_, h2, hb2 _ _ hx3 (Nat.le_refl _)⟩
              unfold World.cell? at hx1 ⊢
              rw [hoth g hgN]
              exact hx1
            go_frame
            apply wpDetS_cons rfl
            · rintro bb wx ⟨hx1, hx2, hx3⟩
              go_wp2_with fail
              exact ⟨rfl, rfl, hx1, hx2, hx3⟩
            go_frame
            rintro wx ⟨-, h2, hb2⟩
            have h2' : MkAt wx w.heap.size ⟨t, 0, r, true⟩ := h2
            go_wp2_with fail
            refine bodyPost_ret (v := .tuple #[.agg (mkCells ⟨t, 0, r, true⟩).toArray, .bool false]) (by simp [results, Tryd.results32, go_sem, mkCells, h2'.cells]) rfl ⟨⟨t, 0, r, true⟩, false, rfl, Hr.out, hb2⟩
      · have hr := readMark_4 HL.out
        rw [Hn.out] at hr
        have hl2 : c'.length ≤ s.length := hlen 2
        have hl3 : d.length ≤ s.length := hlen 3
        have hc1 : w2.cell? ⟨g, 1, none⟩ = some (.string ⟨b.toArray⟩) := Hc2.out 1 (by simp)
        have hc2 : w2.cell? ⟨g, 2, none⟩ = some (.string ⟨c'.toArray⟩) := Hc2.out 2 (by simp)
        rcases Bool.eq_false_or_eq_true (b == [98, 101, 103, 105, 110]) with hq | hq
        · rw [if_pos (show b = wB by simpa [wB] using hq)] at hr
          have HR := Lib.hid hr
          clear hr
          go_wp2_with fail
          refine (numB52 c' 0 99 w2 (by omega)).mono ?_
          rintro e w3 ⟨⟨me, ok1, rfl, hn1⟩, hb3⟩
          have hB3 := hB2.trans (hb3.mono hB2.size)
          have hR3 := hR2.below hb3 hNw2
          have hc3 : w3.cell? ⟨g, 3, none⟩ = some (.string ⟨d.toArray⟩) := (hb3.cell (p := ⟨g, 3, none⟩) hg2).trans (Hc2.out 3 (by simp))
          have hNw3 : w.heap.size < w3.heap.size := Nat.lt_of_lt_of_le hNw2 hb3.size
          have Hn1 := Lib.hid hn1
          clear hR2 hB2 hb3 hc1 hc2 hg2 hNw2 hn1
          go_wp2_with fail
          refine (numB52 d (-1099511627776) 1099511627776 w3 (by omega)).mono ?_
          rintro e w4 ⟨⟨ar, ok2, rfl, hn2⟩, hb4⟩
          have hB4 := hB3.trans (hb4.mono hB3.size)
          have hR4 := hR3.below hb4 hNw3
          have Hr := Lib.hid (show readMark s = if (ok1 && ok2) = true then some ⟨t, me, ar, false⟩ else none by rw [HR.out, Hn1.out, hn2]; cases ok1 <;> cases ok2 <;> rfl)
          clear hR3 hB3 hb4 hc3 hNw3 hn2 HR Hn1
          cases ok1 with
          | false =>
            go_wp2_with ((with_reducible refine wpList_storeMk (o := ⟨none, .store 62 (.tmp 2) (.tmp 54), _, _, _, none⟩) rfl _ _ rfl w.heap.size zMk ⟨t, me, ar, false⟩ ?_ ?_ hR4 ?_); (focus rfl); (focus rfl); intro w5 h2 hb2 hoth; clear hoth)
            refine bodyPost_ret (v := .tuple #[.agg (mkCells ⟨t, me, ar, false⟩).toArray, .bool false]) (by simp [results, Tryd.results32, go_sem, mkCells, h2.cells]) rfl ⟨⟨t, me, ar, false⟩, false, rfl, Hr.out, hb2 _ _ hB4 (Nat.le_refl _)⟩
          | true =>
            go_wp2_with ((with_reducible refine wpList_storeMk (o := ⟨none, .store 62 (.tmp 2) (.tmp 54), _, _, _, none⟩) rfl _ _ rfl w.heap.size zMk ⟨t, me, ar, false⟩ ?_ ?_ hR4 ?_); (focus rfl); (focus rfl); intro w5 h2 hb2 hoth; clear hoth)
            refine bodyPost_ret (v := .tuple #[.agg (mkCells ⟨t, me, ar, false⟩).toArray, .bool ok2]) (by simp [results, Tryd.results32, go_sem, mkCells, h2.cells]) rfl ⟨⟨t, me, ar, false⟩, ok2, rfl, Hr.out, hb2 _ _ hB4 (Nat.le_refl _)⟩
        · rw [if_neg (show ¬ b = wB by simpa [wB] using hq)] at hr
          have Hr0 := Lib.hid hr
          clear hr
          go_wp2_with fail
          refine (numB52 c' (-1099511627776) 1099511627776 w2 (by omega)).mono ?_
          rintro e w3 ⟨⟨r, ok, rfl, hn⟩, hb3⟩
          have hB3 := hB2.trans (hb3.mono hB2.size)
          have hR3 := hR2.below hb3 hNw2
          have hc1' : w3.cell? ⟨g, 1, none⟩ = some (.string ⟨b.toArray⟩) := (hb3.cell (p := ⟨g, 1, none⟩) hg2).trans hc1
          have hg3 : g < w3.heap.size := Nat.lt_of_lt_of_le hg2 hb3.size
          have hNw3 : w.heap.size < w3.heap.size := Nat.lt_of_lt_of_le hNw2 hb3.size
          clear hR2 hB2 hb3 hc1 hc2 hg2 hNw2
          have Hr := Lib.hid (show readMark s = if false = true then some ⟨t, 0, r, true⟩ else none from Hr0.out)
          clear hn Hr0
          cases ok with
          | false =>
            go_upto_region 12 with fail
            refine wp_region_detS (by kernel_rfl) 15 (by kernel_rfl) (fun bb wx => wx.cell? ⟨g, 1, none⟩ = some (.string ⟨b.toArray⟩) ∧ MkAt wx w.heap.size (pickM bb ⟨t, 0, r, true⟩ zMk) ∧ Below w.heap.size w wx) ⟨hc1', hR3, hB3.drew⟩ ?_
            iterate 15
              apply wpDetS_cons rfl
              · rintro bb wx ⟨hx1, hx2, hx3⟩
                go_wp2_with fail
                exact ⟨rfl, rfl, hx1, hx2, hx3⟩
              go_frame
            apply wpDetS_at (v := undef) rfl
            · rintro wx ⟨hx1, hx2, hx3⟩
              have hx2' : MkAt wx w.heap.size zMk := hx2
              go_wp2_with ((with_reducible refine wpList_storeMk (o := ⟨none, .store 62 (.tmp 2) (.tmp 68), _, _, _, none⟩) rfl _ _ rfl w.heap.size zMk ⟨t, 0, r, true⟩ ?_ ?_ hx2' ?_); (focus rfl); (focus rfl); intro w5 h2 hb2 hoth)
              refine ⟨rfl, rfl, ?_, h2, hb2 _ _ hx3 (Nat.le_refl _)⟩
              unfold World.cell? at hx1 ⊢
              rw [hoth g hgN]
              exact hx1
            go_frame
            apply wpDetS_cons rfl
            · rintro bb wx ⟨hx1, hx2, hx3⟩
              go_wp2_with fail
              exact ⟨rfl, rfl, hx1, hx2, hx3⟩
            go_frame
            rintro wx ⟨-, h2, hb2⟩
            have h2' : MkAt wx w.heap.size ⟨t, 0, r, true⟩ := h2
            go_wp2_with fail
            refine bodyPost_ret (v := .tuple #[.agg (mkCells ⟨t, 0, r, true⟩).toArray, .bool false]) (by simp [results, Tryd.results32, go_sem, mkCells, h2'.cells]) rfl ⟨⟨t, 0, r, true⟩, false, rfl, Hr.out, hb2⟩
          | true =>
            go_upto_region 12 with fail
            refine wp_region_detS (by kernel_rfl) 15 (by kernel_rfl) (fun bb wx => wx.cell? ⟨g, 1, none⟩ = some (.string ⟨b.toArray⟩) ∧ MkAt wx w.heap.size (pickM bb ⟨t, 0, r, true⟩ zMk) ∧ Below w.heap.size w wx) ⟨hc1', hR3, hB3.drew⟩ ?_
            iterate 15
              apply wpDetS_cons rfl
              · rintro bb wx ⟨hx1, hx2, hx3⟩
                go_wp2_with fail
                exact ⟨rfl, rfl, hx1, hx2, hx3⟩
              go_frame
            apply wpDetS_at (v := undef) rfl
            · rintro wx ⟨hx1, hx2, hx3⟩
              have hx2' : MkAt wx w.heap.size zMk := hx2
              go_wp2_with ((with_reducible refine wpList_storeMk (o := ⟨none, .store 62 (.tmp 2) (.tmp 68), _, _, _, none⟩) rfl _ _ rfl w.heap.size zMk ⟨t, 0, r, true⟩ ?_ ?_ hx2' ?_); (focus rfl); (focus rfl); intro w5 h2 hb2 hoth)
              refine ⟨rfl, rfl, ?_, h2, hb2 _ _ hx3 (Nat.le_refl _)⟩
              unfold World.cell? at hx1 ⊢
              rw [hoth g hgN]
              exact hx1
            go_frame
            apply wpDetS_cons rfl
            · rintro bb wx ⟨hx1, hx2, hx3⟩
              go_wp2_with fail
              exact ⟨rfl, rfl, hx1, hx2, hx3⟩
            go_frame
            rintro wx ⟨-, h2, hb2⟩
            have h2' : MkAt wx w.heap.size ⟨t, 0, r, true⟩ := h2
            go_wp2_with fail
            refine bodyPost_ret (v := .tuple #[.agg (mkCells ⟨t, 0, r, true⟩).toArray, .bool false]) (by simp [results, Tryd.results32, go_sem, mkCells, h2'.cells]) rfl ⟨⟨t, 0, r, true⟩, false, rfl, Hr.out, hb2⟩
      · have hr : readMark s = none := readMark_len HL.out (by omega) (by omega)
        have hl2 : c'.length ≤ s.length := by rw [← hc']; exact hlen 2
        have hc1 : w2.cell? ⟨g, 1, none⟩ = some (.string ⟨b.toArray⟩) := by rw [← hb']; exact Hc2.out 1 (by omega)
        have hc2 : w2.cell? ⟨g, 2, none⟩ = some (.string ⟨c'.toArray⟩) := by rw [← hc']; exact Hc2.out 2 (by omega)
        have h4i : ((L.length : Int) == 4) = false := by simp; omega
        have h3j : ((L.length : Int) == 3) = false := by simp; omega
        have Hr := Lib.hid (show readMark s = if false = true then some ⟨t, 0, 0, true⟩ else none from hr)
        clear hr hb' hc'
        go_wp2_with fail
        refine (numB52 c' (-1099511627776) 1099511627776 w2 (by omega)).mono ?_
        rintro e w3 ⟨⟨r, ok, rfl, hn⟩, hb3⟩
        have hB3 := hB2.trans (hb3.mono hB2.size)
        have hR3 := hR2.below hb3 hNw2
        have hc1' : w3.cell? ⟨g, 1, none⟩ = some (.string ⟨b.toArray⟩) := (hb3.cell (p := ⟨g, 1, none⟩) hg2).trans hc1
        have hg3 : g < w3.heap.size := Nat.lt_of_lt_of_le hg2 hb3.size
        have hNw3 : w.heap.size < w3.heap.size := Nat.lt_of_lt_of_le hNw2 hb3.size
        clear hR2 hB2 hb3 hc1 hc2 hg2 hNw2
        clear hn
        replace Hr := Lib.hid (show readMark s = if false = true then some ⟨t, 0, r, true⟩ else none from Hr.out)
        cases ok with
        | false =>
          go_upto_region 12 with fail
          refine wp_region_detS (by kernel_rfl) 15 (by kernel_rfl) (fun bb wx => wx.cell? ⟨g, 1, none⟩ = some (.string ⟨b.toArray⟩) ∧ MkAt wx w.heap.size (pickM bb ⟨t, 0, r, true⟩ zMk) ∧ Below w.heap.size w wx) ⟨hc1', hR3, hB3.drew⟩ ?_
          iterate 15
            apply wpDetS_cons rfl
            · rintro bb wx ⟨hx1, hx2, hx3⟩
              go_wp2_with fail
              exact ⟨rfl, rfl, hx1, hx2, hx3⟩
            go_frame
          apply wpDetS_at (v := undef) rfl
          · rintro wx ⟨hx1, hx2, hx3⟩
            have hx2' : MkAt wx w.heap.size zMk := hx2
            go_wp2_with ((with_reducible refine wpList_storeMk (o := ⟨none, .store 62 (.tmp 2) (.tmp 68), _, _, _, none⟩) rfl _ _ rfl w.heap.size zMk ⟨t, 0, r, true⟩ ?_ ?_ hx2' ?_); (focus rfl); (focus rfl); intro w5 h2 hb2 hoth)
            refine ⟨rfl, rfl, ?_, h2, hb2 _ _ hx3 (Nat.le_refl _)⟩
            unfold World.cell? at hx1 ⊢
            rw [hoth g hgN]
            exact hx1
          go_frame
          apply wpDetS_cons rfl
          · rintro bb wx ⟨hx1, hx2, hx3⟩
            go_wp2_with fail
            exact ⟨rfl, rfl, hx1, hx2, hx3⟩
          go_frame
          rintro wx ⟨-, h2, hb2⟩
          have h2' : MkAt wx w.heap.size ⟨t, 0, r, true⟩ := h2
          go_wp2_with fail
          refine bodyPost_ret (v := .tuple #[.agg (mkCells ⟨t, 0, r, true⟩).toArray, .bool false]) (by simp [results, Tryd.results32, go_sem, mkCells, h2'.cells]) rfl ⟨⟨t, 0, r, true⟩, false, rfl, Hr.out, hb2⟩
        | true =>
          go_upto_region 12 with fail
          refine wp_region_detS (by kernel_rfl) 15 (by kernel_rfl) (fun bb wx => wx.cell? ⟨g, 1, none⟩ = some (.string ⟨b.toArray⟩) ∧ MkAt wx w.heap.size (pickM bb ⟨t, 0, r, true⟩ zMk) ∧ Below w.heap.size w wx) ⟨hc1', hR3, hB3.drew⟩ ?_
          iterate 15
            apply wpDetS_cons rfl
            · rintro bb wx ⟨hx1, hx2, hx3⟩
              go_wp2_with fail
              exact ⟨rfl, rfl, hx1, hx2, hx3⟩
            go_frame
          apply wpDetS_at (v := undef) rfl
          · rintro wx ⟨hx1, hx2, hx3⟩
            have hx2' : MkAt wx w.heap.size zMk := hx2
            go_wp2_with ((with_reducible refine wpList_storeMk (o := ⟨none, .store 62 (.tmp 2) (.tmp 68), _, _, _, none⟩) rfl _ _ rfl w.heap.size zMk ⟨t, 0, r, true⟩ ?_ ?_ hx2' ?_); (focus rfl); (focus rfl); intro w5 h2 hb2 hoth)
            refine ⟨rfl, rfl, ?_, h2, hb2 _ _ hx3 (Nat.le_refl _)⟩
            unfold World.cell? at hx1 ⊢
            rw [hoth g hgN]
            exact hx1
          go_frame
          apply wpDetS_cons rfl
          · rintro bb wx ⟨hx1, hx2, hx3⟩
            go_wp2_with fail
            exact ⟨rfl, rfl, hx1, hx2, hx3⟩
          go_frame
          rintro wx ⟨-, h2, hb2⟩
          have h2' : MkAt wx w.heap.size ⟨t, 0, r, true⟩ := h2
          go_wp2_with fail
          refine bodyPost_ret (v := .tuple #[.agg (mkCells ⟨t, 0, r, true⟩).toArray, .bool false]) (by simp [results, Tryd.results32, go_sem, mkCells, h2'.cells]) rfl ⟨⟨t, 0, r, true⟩, false, rfl, Hr.out, hb2⟩
end Go.Proofs.YtgeclafcbgocgaaDoor

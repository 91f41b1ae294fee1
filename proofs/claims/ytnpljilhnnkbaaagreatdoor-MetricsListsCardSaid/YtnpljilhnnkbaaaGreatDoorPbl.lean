/- A part of the proof. -/
import Derived.Test.YtnpljilhnnkbaaaGreatDoorPbk
import Derived.Test.YtnpljilhnnkbaaaGreatDoorPbh
set_option linter.all false
namespace Go.Proofs.Seat8
open Go.RowKit Go.Shelf Go.Proofs.Seat4
attribute [local go_sem] Oper.semAt_some
theorem own_slice {w : World} {base e size n : Nat} {v : Value} {xs : List Value} (h : w.ownsRow base e size v n xs) : ∃ A c, v = .slice A n c := by
  rcases h.2 with ⟨rfl, rfl⟩ | ⟨g, cap, cur, rfl, -⟩
  · exact ⟨_, _, rfl⟩
  · exact ⟨_, _, rfl⟩
def AnsOk (s : List UInt8) (w : World) (e : Ending) (w' : World) : Prop := ∃ v, Below w.heap.size w w' ∧ (match parseR s with | some l => e = .returned (.tuple #[v, .int .i64 0]) ∧ LV ME w' v l | none => e = .returned (.tuple #[v, .int .i64 3]) ∧ LV ME w' v [])
def RdJ (w : World) (s : List UInt8) (L : Loop) (t : List UInt8) (W : World) : Prop := ∃ c, RdS w L c t W ∧ RdT t c (readP s 0) ∧ c.length ≤ 500 ∧ t.length ≤ s.length
def RdK (w : World) (s : List UInt8) (L : Loop) (t : List UInt8) (W : World) : Prop := ∃ c, RdS w L c (Lib.cut t [10]).2.1 W ∧ RdT t c (readP s 0) ∧ c.length ≤ 500 ∧ t.length ≤ s.length
def RdJx (w : World) (s : List UInt8) (L : Loop) (W : World) : Prop := RdX w L (.slice none 0 0) 3 W ∧ readP s 0 = none
set_option maxRecDepth 100000 in
set_option maxHeartbeats 4000000 in
theorem parse8 (s : List UInt8) (w : World) (hE : Env w) (hs : s.length ≤ 100000) : Calls Tryz.prog 8 #[.string ⟨s.toArray⟩] w (AnsOk s w) := by
  refine (callsIn_wide (n := 9)).1 ?_
  refine callsIn_of_wp_marks Tryz.func8 rfl trivial ?_ rfl
  simp only [Tryz.ntmps8, List.size_toArray, List.length_cons, List.length_nil, Nat.reduceAdd, Nat.reduceSub, Array.replicate_succ, Array.replicate_zero, List.push_toArray, List.append_toArray, List.nil_append, List.cons_append]
  gi_wp2
  refine ⟨trivial, ?_⟩
  refine (callsIn_wide.2 (lines24 s _)).mono ?_
  rintro e w1 ⟨rfl, rfl⟩
  gi_wp2
  obtain ⟨w4, hw4⟩ : ∃ w4, ((((w.alloc (.cells #[.slice none 0 0] 22)).alloc (.cells #[.int .i64 0] 25)).alloc (.cells #[.slice none 0 0] 22)).alloc (.cells #[.string ⟨s.toArray⟩] 9)) = w4 := ⟨_, rfl⟩
  have hz : w4.heap.size = w.heap.size + 4 := by rw [← hw4]; simp
  have hh0 : ∀ L, RdJ w s L s ((w4.alloc (.deferred (some []))).alloc (.loop L)) := by
    intro L
    have hb : Below w.heap.size w ((w4.alloc (.deferred (some []))).alloc (.loop L)) := by
      rw [← hw4]
      exact ((((((Below.refl _ _).alloc (Nat.le_refl _) _).alloc (by simp) _).alloc (by simp; omega) _).alloc (by simp; omega) _).alloc (by simp; omega) _).alloc (by simp; omega) _
    have h6 := heap6 w (.cells #[.slice none 0 0] 22) (.cells #[.int .i64 0] 25) (.cells #[.slice none 0 0] 22) (.cells #[.string ⟨s.toArray⟩] 9) (.deferred (some [])) (.loop L)
    rw [hw4] at h6
    exact ⟨[], ⟨hb, by simp [hz], h6 0 _ rfl, h6 1 _ rfl, ⟨_, h6 2 _ rfl, World.ownsRow_nil _ _ _ _⟩, h6 3 _ rfl, h6 4 _ rfl, h6 5 _ rfl⟩, by unfold RdT; simp, by simp, Nat.le_refl _⟩
  rw [hw4]
  have Hh0 := Lib.hid hh0
  clear hh0
  refine wpIn_range_lines (Bc := w.heap.size + 3) (N := s.length) (by omega) (by omega) rfl (RdJ w s) (RdK w s) (RdJx w s) ?_ ?_ ?_ ?_ ?_ ?_ ?_ ?_ ?_ s Hh0.out
    (fun t => { tmps := #[.string ⟨s.toArray⟩, undef, .pointer (some ⟨w.heap.size, 0, none⟩), .pointer (some ⟨w.heap.size + 1, 0, none⟩), .pointer (some ⟨w.heap.size + 1 + 1, 0, none⟩), .string ⟨(lineY t).toArray⟩, undef, undef, undef, undef, undef, undef, undef, undef, .string ⟨s.toArray⟩, .func (.func 45) #[] #[.pointer (some ⟨w.heap.size + 1 + 1 + 1, 0, none⟩)], .string ⟨(lineY t).toArray⟩, undef, undef, undef, undef, undef, undef, undef, undef, undef, undef, undef, undef, undef, undef, undef, undef, undef, undef, undef, undef, undef, undef, undef, undef, undef, undef, undef, undef, undef, undef, undef, undef, undef, undef, undef, undef, undef, undef, undef, undef, undef, undef, undef, undef, undef, undef, undef, undef, undef, undef, undef, undef, undef, undef, undef, undef, undef, undef, undef, undef, undef, undef], defers := [] }) ?assign ?body ?done ?stop
  case assign =>
    intro t W K hK
    gi_wp2
    exact hK
  case body =>
    rintro L t W ⟨c, hS, hto, hcl, htl⟩ ht
    have hEW := hE.below hS.blw
    have hal : (Lib.cut t [10]).1.length ≤ 100000 := by
      rcases cut_case t ht with ⟨-, h2⟩ | ⟨a, r, rfl, -, h2⟩
      · rw [h2]; show t.length ≤ _; omega
      · rw [h2]; simp at htl; show a.length ≤ _; omega
    have htrim := fun w1 => trim26 t w1 ht (by omega)
    have hok := fun m (h5 : c.length ≠ 500) hm => rdT_ok (m := m) ht h5 hm hto
    have hbad := fun h5 => rdT_bad ht h5 hto
    obtain ⟨v, hv, hown⟩ := hS.bx
    obtain ⟨A, cap, rfl⟩ := own_slice hown
    have q2 := cell_heap hv 0
    have hrl : (Lib.cut t [10]).2.1.length ≤ s.length := by have := cut_less t ht; omega
    obtain ⟨b1, hb1⟩ : ∃ b, w.heap.size + 1 = b := ⟨_, rfl⟩
    obtain ⟨b2, hb2⟩ : ∃ b, w.heap.size + 1 + 1 = b := ⟨_, rfl⟩
    have n01 : w.heap.size ≠ b1 := by omega
    generalize hline : lineY t = ln at *
    generalize hrest : (Lib.cut t [10]).2.1 = rest at *
    generalize ha : (Lib.cut t [10]).1 = a at *
    rw [show w.heap.size + 2 = b2 from hb2] at q2
    simp only [List.getElem?_toArray, List.getElem?_cons_zero] at q2
    have hsp := fun w1 (hb : Below W.heap.size W w1) => splitW a w1 (hEW.below hb) (by omega)
    have stop : ∀ w5, Below W.heap.size W w5 → w5.cell? ⟨w.heap.size, 0, none⟩ = some (.slice none 0 0) ∧ w5.cell? ⟨b1, 0, none⟩ = some (.int .i64 0) ∧ w5.frozen? ⟨w.heap.size, 0, none⟩ = false ∧ w5.frozen? ⟨b1, 0, none⟩ = false ∧
        RdX w L (.slice none 0 0) 3 ((w5.setCell ⟨w.heap.size, 0, none⟩ (.slice none 0 0)).setCell ⟨b1, 0, none⟩ (.int .i64 3)) := by
      intro w5 hb5
      have hS5 := hS.below hb5
      have hX := hS5.toX (.slice none 0 0) 3
      have q0 := cell_heap hS5.r2 0
      have q1 := cell_heap hS5.r3 0
      have f0 := frozen_heap hS5.r2 0
      have f1 := frozen_heap hS5.r3 0
      rw [hb1] at hX q1 f1
      exact ⟨q0, q1, f0, f1, hX⟩
    have Htrim := Lib.hid htrim
    have Hok := Lib.hid hok
    have Hbad := Lib.hid hbad
    have Hsp := Lib.hid hsp
    have Hstop := Lib.hid stop
    have HS := Lib.hid hS
    have Hown := Lib.hid hown
    have HE := Lib.hid hEW
    have Hb1 := Lib.hid hb1
    have Hb2 := Lib.hid hb2
    have Hv := Lib.hid hv
    clear htrim hok hbad hsp stop hS hown hEW hto ht htl hv hline hrest ha Hh0 hw4
    rw [hz, hb2, hb1]
    clear hb1 hb2 hz
    gi_wp2
    refine ⟨trivial, ?_⟩
    refine (CallsIn.inRound _ (callsIn_wide.2 (Htrim.out _))).mono ?_
    rintro e w1 ⟨rfl, rfl⟩
    gi_wp2
    refine ⟨trivial, ?_⟩
    refine (CallsIn.inRound _ (callsIn_wide.2 (Hsp.out _ (Below.refl _ _)))).mono ?_
    rintro e w1 ⟨g, rfl, hg0, hg1, hrow, hbw⟩
    obtain ⟨WL, hWL⟩ : ∃ WL, splitA 32 [] a = WL := ⟨_, rfl⟩
    rw [hWL] at hrow ⊢
    have hne : WL ≠ [] := by rw [← hWL]; exact splitA_ne 32 a []
    have q2' : w1.cell? ⟨b2, 0, none⟩ = some (.slice A c.length cap) := by
      rw [World.cell?_of_block (a := ⟨b2, 0, none⟩) (hbw.block b2 (by have := HS.out.top; have := Hb2.out; omega))]
      exact q2
    have hx := Hstop.out w1 hbw
    have HWL := Lib.hid hWL
    have Hrow := Lib.hid hrow
    have Hbw := Lib.hid hbw
    clear hWL hrow hbw q2
    by_cases h5 : WL.length = 5
    · by_cases h500 : c.length = 500
      · obtain ⟨q0, q1, f0, f1, hX⟩ := hx
        have HX := Lib.hid hX
        have Hbd := Lib.hid (Hbad.out (.inl h500))
        have h55 : ((c.length : Int) == 500) = true := by simp [h500]
        clear hX h500
        gi_wp2
        exact ⟨HX.out, Hbd.out⟩
      · have h55 : ((c.length : Int) == 500) = false := by simp; omega
        obtain ⟨x0, T, rfl⟩ : ∃ x0 T, WL = x0 :: T := by cases WL with | nil => exact absurd rfl hne | cons x T => exact ⟨x, T, rfl⟩
        have hT : T.length = 4 := by simpa using h5
        have hlen := splitA_len HWL.out
        have Hlen := Lib.hid hlen
        have HT := Lib.hid hT
        have H500 := Lib.hid h500
        rw [h5]
        clear hx hlen hT h500 h5 hne
        gi_wp2
        gi_loopw [7, 31] (fun v7 v31 wr => ∃ ns : List Int, ns.length ≤ 4 ∧ v31 = .int .i64 ns.length ∧ Below w1.heap.size w1 wr ∧ wr.ownsRow w1.heap.size 3 1 v7 ns.length (ns.map (Value.int .i64)) ∧ (∀ j (h : j < ns.length) (h' : j < T.length), numA T[j] = some ns[j])) (fun _ v31 _ => 4 - (intOf v31).toNat)
        case atStart => exact ⟨[], by simp, rfl, Below.refl _ _, World.ownsRow_nil _ _ _ _, fun j h => absurd h (by simp)⟩
        case round =>
          obtain ⟨ns, h4, rfl, hb1w, hnum, hns⟩ := hrel
          by_cases hk : ns.length < 4
          · have hkT : ns.length < T.length := by rw [HT.out]; exact hk
            have hword : wr.cell? ⟨g, 1 + ns.length, none⟩ = some (.string ⟨T[ns.length].toArray⟩) := by
              have := (Hrow.out.below hb1w hg1) (1 + ns.length) (strV T[ns.length]) (by rw [Nat.add_comm]; simp [hkT])
              simpa [strV] using this
            have hat := atoi27 T[ns.length] wr ((HE.out.below Hbw.out).below' hb1w (by have := (HE.out.below Hbw.out).top; omega)) (by have := Hlen.out T[ns.length] (by simp); omega)
            have Hat := Lib.hid hat
            have Hns := Lib.hid hns
            have Hnum := Lib.hid hnum
            have Hb1w := Lib.hid hb1w
            obtain ⟨q0, q1, f0, f1, hX⟩ := Hstop.out wr (Hbw.out.trans (hb1w.mono Hbw.out.size))
            have HX := Lib.hid hX
            clear hat hns hnum hb1w hX
            gi_wp2
            refine ⟨trivial, ?_⟩
            refine (CallsIn.inRound _ (callsIn_wide.2 Hat.out)).mono ?_
            rintro e w2 ⟨n, err, rfl, hai, hb2⟩
            have Hb2w := Lib.hid (Hb1w.out.trans (hb2.mono Hb1w.out.size))
            have Hbn := Lib.hid hb2
            clear Hat q0 q1 f0 f1 HX hb2
            rcases numA_ok hai with ⟨hn, rfl⟩ | ⟨hn, t', p, rfl⟩
            · have Hn := Lib.hid hn
              clear hai hn
              have hnum := Hnum.out.kept (grownBy_below Hbn.out) (by cases hq : u7.ownBlock with | none => exact .inl rfl | some g => exact .inr (by simp))
              have hbs := Hb2w.out.size
              gi_wp2_with (gi_at_builtin; refine wpListIn_one (fun c e => by cases e) rfl (wpList_app rfl _ _ 38 rfl w1.heap.size 3 1 8 TI u7 _ _ rfl (hnum.alloc _) w2.heap.size [.int .i64 n] rfl rfl (Row.new _ _ _ _ rfl) (by intro u hu; simp at hu; subst hu; rfl) (by omega) (by omega) (by simp; omega) ?_); intro v' w3 hown' hgrow; refine ⟨rfl, ?_⟩)
              refine ⟨⟨ns ++ [n], by simp; omega, by simp, ?_, ?_, ?_⟩, by simp [intOf]; omega⟩
              · exact (Hb2w.out.alloc hbs _).grown hgrow (by simp; omega) (fun j hj => (hnum.lt j hj).1)
              · rw [List.length_append, List.map_append]
                exact hown'
              · intro j h h'
                by_cases hj : j < ns.length
                · rw [List.getElem_append_left hj]
                  exact Hns.out j hj h'
                · have e : j = ns.length := by simp at h; omega
                  subst e
                  rw [List.getElem_append_right (Nat.le_refl _)]
                  simpa using Hn.out
            · obtain ⟨q0, q1, f0, f1, hX⟩ := Hstop.out w2 (Hbw.out.trans (Hb2w.out.mono Hbw.out.size))
              have HX := Lib.hid hX
              have Hbd := Lib.hid (Hbad.out (.inr (pLine_bad HWL.out (pNums_none hkT hn))))
              clear hX hn hai
              gi_wp2
              exact ⟨HX.out, Hbd.out⟩
          · have e4 : ns.length = 4 := by omega
            have hpn : pNums T = some ns := pNums_some (by rw [e4, HT.out]) hns
            have hpl := pLine_ok HWL.out HT.out hpn
            have hokm := Hok.out _ H500.out hpl
            obtain ⟨m0, m1, m2, m3, rfl⟩ : ∃ m0 m1 m2 m3, ns = [m0, m1, m2, m3] := by
              match ns, e4 with
              | [m0, m1, m2, m3], _ => exact ⟨m0, m1, m2, m3, rfl⟩
            rcases ownsRow_row hnum with ⟨-, h0, -⟩ | ⟨gn, capn, rfl, hge, hgn, hcapn, hrowN⟩
            · simp at h0
            have hbW := Hbw.out.trans (hb1w.mono Hbw.out.size)
            have cell0 := Hstop.out wr hbW
            have kb2 : wr.cell? ⟨b2, 0, none⟩ = some (.slice A c.length cap) := by
              rw [World.cell?_of_block (a := ⟨b2, 0, none⟩) (hb1w.block b2 (by have := HS.out.top; have := Hb2.out; have := Hbw.out.size; omega))]
              exact q2'
            have kw : wr.cell? ⟨g, 0, none⟩ = some (.string ⟨x0.toArray⟩) := by
              have := (Hrow.out.below hb1w hg1) 0 (strV x0) (by simp)
              simpa [strV] using this
            have kn0 : wr.cell? ⟨gn, 0, none⟩ = some (.int .i64 m0) := by simpa using hrowN 0 (.int .i64 m0) rfl
            have kn1 : wr.cell? ⟨gn, 1, none⟩ = some (.int .i64 m1) := by simpa using hrowN 1 (.int .i64 m1) rfl
            have kn2 : wr.cell? ⟨gn, 2, none⟩ = some (.int .i64 m2) := by simpa using hrowN 2 (.int .i64 m2) rfl
            have kn3 : wr.cell? ⟨gn, 3, none⟩ = some (.int .i64 m3) := by simpa using hrowN 3 (.int .i64 m3) rfl
            have Kc := Lib.hid (show ∀ wx, Below wr.heap.size wr wx → wx.cell? ⟨b2, 0, none⟩ = some (.slice A c.length cap) ∧ wx.cell? ⟨g, 0, none⟩ = some (.string ⟨x0.toArray⟩) ∧ wx.cell? ⟨gn, 0, none⟩ = some (.int .i64 m0) ∧ wx.cell? ⟨gn, 1, none⟩ = some (.int .i64 m1) ∧ wx.cell? ⟨gn, 2, none⟩ = some (.int .i64 m2) ∧ wx.cell? ⟨gn, 3, none⟩ = some (.int .i64 m3) from fun wx hb => by
              have hb2l : b2 < wr.heap.size := by have := HS.out.top; have := Hb2.out; have := hbW.size; omega
              have hgl : g < wr.heap.size := Nat.lt_of_lt_of_le hg1 hb1w.size
              refine ⟨?_, ?_, ?_, ?_, ?_, ?_⟩
              · rw [World.cell?_of_block (a := ⟨b2, 0, none⟩) (hb.block b2 hb2l)]; exact kb2
              · rw [World.cell?_of_block (a := ⟨g, 0, none⟩) (hb.block g hgl)]; exact kw
              · rw [World.cell?_of_block (a := ⟨gn, 0, none⟩) (hb.block gn hgn)]; exact kn0
              · rw [World.cell?_of_block (a := ⟨gn, 1, none⟩) (hb.block gn hgn)]; exact kn1
              · rw [World.cell?_of_block (a := ⟨gn, 2, none⟩) (hb.block gn hgn)]; exact kn2
              · rw [World.cell?_of_block (a := ⟨gn, 3, none⟩) (hb.block gn hgn)]; exact kn3)
            have HbW := Lib.hid hbW
            have Hokm := Lib.hid hokm
            clear hpn hpl hokm hns hnum hb1w hrowN cell0 hbW kb2 kw kn0 kn1 kn2 kn3 e4 h4 hk
            gi_wp2
            refine wpIn_region_GT 18 (by kernel_rfl) (by kernel_rfl) (SA wr (.cells (mtCells (mkM x0 [m0, m1, m2, m3])).toArray 34)) ⟨1, rfl⟩ ?_
            iterate 17
              apply wpDetGT_cons
              · intro D wx hD hC hdep hS0
                obtain ⟨p0, pw, p1, p2, p3, p4⟩ := Kc.out wx hS0.below
                have HS0 := Lib.hid hS0
                clear hS0 hC hdep
                go_wp2_with fail
                exact ⟨rfl, rfl, HS0.out.keep rfl⟩
              go_frame
            apply wpDetGT_cons
            · intro D wx hD hC hdep hS0
              obtain ⟨q, rfl⟩ := hS0.not hD
              have hz : (wr.drewN q).heap.size = wr.heap.size := rfl
              clear hS0 hC hdep
              go_wp2_with fail
              exact ⟨rfl, rfl, SA.make q⟩
            go_frame
            intro D wx hall hS0
            obtain ⟨q, rfl⟩ := hS0.made (hall 17 (by omega))
            clear hS0 hall
            have hbA : Below wr.heap.size wr ((wr.alloc (.cells (mtCells (mkM x0 [m0, m1, m2, m3])).toArray 34)).drewN q) := ((Below.refl _ _).alloc (Nat.le_refl _) _).trans ((below_drewN' _ _).mono (by simp))
            have hbB : Below W.heap.size W ((wr.alloc (.cells (mtCells (mkM x0 [m0, m1, m2, m3])).toArray 34)).drewN q) := HbW.out.trans (hbA.mono HbW.out.size)
            have hown0 := own_below Hown.out hbB
            have hrowM : Row ((wr.alloc (.cells (mtCells (mkM x0 [m0, m1, m2, m3])).toArray 34)).drewN q) wr.heap.size 0 (mtCells (mkM x0 [m0, m1, m2, m3])) := Row.new wr (mtCells (mkM x0 [m0, m1, m2, m3])).toArray 34 wr.heap.size rfl
            have hbase : w.heap.size + 6 ≤ ((wr.alloc (.cells (mtCells (mkM x0 [m0, m1, m2, m3])).toArray 34)).drewN q).heap.size := by have := HS.out.top; have := hbB.size; omega
            have HbB := Lib.hid hbB
            clear hbA hbB
            go_wp2_with (at_builtin; refine wpList_app rfl _ _ 22 rfl (w.heap.size + 6) 34 5 48 TM (.slice A c.length cap) _ _ rfl hown0 wr.heap.size (mtCells (mkM x0 [m0, m1, m2, m3])) rfl rfl hrowM (mtCells_one _) (by omega) (by omega) hbase ?_)
            intro v' w3 hown' hgrow
            have hkeep : ∀ i, i < w.heap.size + 6 → w3.heap[i]? = W.heap[i]? := fun i hi => by
              rw [hgrow.block i (by omega) (fun e => by have := (hown0.lt i e.symm).1; omega), HbB.out.block i (by have := HS.out.top; omega)]
            have hb3 : w3.heap[b2]? = some (.cells #[.slice A c.length cap] 22 (0, 0)) := by
              have := hkeep (w.heap.size + 2) (by omega)
              rw [Hv.out] at this
              rw [← Hb2.out]
              exact this
            have d0 : w3.cell? ⟨b2, 0, none⟩ = some (.slice A c.length cap) := by rw [Lib.cell_of_heap hb3]; rfl
            have f0 : w3.frozen? ⟨b2, 0, none⟩ = false := Lib.frozen_of_heap hb3 0
            have hbel : Below w.heap.size w w3 := (HS.out.blw.trans (HbB.out.mono (by have := HS.out.top; omega))).grown hgrow (by omega) (fun j hj => by have := (hown0.lt j hj).1; omega)
            have hsz3 := hgrow.size
            obtain ⟨A', cap', rfl⟩ := own_slice hown'
            have hstep := HS.out.step (c' := c ++ [mkM x0 [m0, m1, m2, m3]]) hkeep hbel (by omega) (by rw [List.length_append, List.flatMap_append, List.flatMap_singleton]; exact hown')
            have Hstep := Lib.hid hstep
            clear hown0 hrowM hbase hown' hgrow hkeep hb3 hbel hsz3 hstep
            go_wp2_with fail
            refine ⟨rfl, ?_⟩
            have hst := Hstep.out
            rw [show w.heap.size + 2 = b2 from Hb2.out] at hst
            show RdJ w s L rest _
            exact ⟨c ++ [mkM x0 [m0, m1, m2, m3]], hst, Hokm.out, by have := H500.out; simp; omega, hrl⟩
    · obtain ⟨q0, q1, f0, f1, hX⟩ := hx
      have HX := Lib.hid hX
      have Hbd := Lib.hid (Hbad.out (.inr (pLine_len HWL.out h5)))
      have h55 : ((WL.length : Int) != 5) = true := by simp; omega
      clear hX h5
      gi_wp2
      exact ⟨HX.out, Hbd.out⟩
  case done =>
    rintro L W ⟨c, hS, hto, hcl, -⟩
    have hres := rdT_nil hto
    obtain ⟨v, hv, hown⟩ := hS.bx
    have hlv : LV ME W v c := lv_own hown
    have hpr := print7 c v W (hE.below hS.blw) hlv
    unfold PPost at hpr
    have q2 := cell_heap hv 0
    obtain ⟨b2, hb2⟩ : ∃ b, w.heap.size + 1 + 1 = b := ⟨_, rfl⟩
    rw [show w.heap.size + 2 = b2 from hb2] at q2
    simp only [List.getElem?_toArray, List.getElem?_cons_zero] at q2
    obtain ⟨A, cap, rfl⟩ := own_slice hown
    obtain ⟨b1, hb1⟩ : ∃ b, w.heap.size + 1 = b := ⟨_, rfl⟩
    have n01 : w.heap.size ≠ b1 := by omega
    have HS := Lib.hid hS
    have Hres := Lib.hid hres
    have Hown := Lib.hid hown
    have Hpr := Lib.hid hpr
    have HB1 := Lib.hid hb1
    clear hto hv hown hlv hpr hres hS
    rw [hz, hb2, hb1]
    have fin : ∀ (w5 : World) (u : Value) (x : Int), Below W.heap.size W w5 → w5.cell? ⟨b2, 0, none⟩ = some (.slice A c.length cap) ∧ w5.cell? ⟨w.heap.size, 0, none⟩ = some (.slice none 0 0) ∧ w5.cell? ⟨b1, 0, none⟩ = some (.int .i64 0) ∧ w5.frozen? ⟨w.heap.size, 0, none⟩ = false ∧ w5.frozen? ⟨b1, 0, none⟩ = false ∧
        RdX w L u x ((w5.setCell ⟨w.heap.size, 0, none⟩ u).setCell ⟨b1, 0, none⟩ (.int .i64 x)) := by
      intro w5 u x hb5
      have hS5 := HS.out.below hb5
      have hX := hS5.toX u x
      have q0 := cell_heap hS5.r2 0
      have q1 := cell_heap hS5.r3 0
      have f0 := frozen_heap hS5.r2 0
      have f1 := frozen_heap hS5.r3 0
      rw [hb1] at hX q1 f1
      refine ⟨?_, q0, q1, f0, f1, hX⟩
      rw [World.cell?_of_block (a := ⟨b2, 0, none⟩) (hb5.block b2 (by have := HS.out.top; omega))]
      exact q2
    have Hfin := Lib.hid fin
    clear fin hb1 hb2
    by_cases hc : chk c = 0
    · rw [hc] at Hpr
      by_cases ht : textT c = s
      · have hR : parseR s = some c := by unfold parseR; rw [Hres.out]; exact if_pos ⟨hc, ht⟩
        have HR := Lib.hid hR
        clear hR
        gi_wp2
        refine ⟨trivial, ?_⟩
        refine (callsIn_wide.2 Hpr.out).mono ?_
        rintro e w5 ⟨t, rfl, h1, -, hb5⟩
        obtain rfl := h1 trivial
        have hq : (textT c == s) = true := by simpa using ht
        obtain ⟨q2', q0, q1, f0, f1, hX⟩ := Hfin.out w5 (.slice A c.length cap) 0 hb5
        have HX := Lib.hid hX
        have Hb5 := Lib.hid hb5
        clear hX ht hb5 h1 q2
        gi_wp2
        refine ⟨by simp, .inl ⟨_, _, rfl, run_takeDeferred HX.out.df, ?_⟩⟩
        have hX := HX.out
        rw [← HB1.out] at hX
        obtain ⟨c0, c1, hbl⟩ := hX.cells
        rw [HB1.out] at c0 c1 hbl
        refine ⟨.tuple #[.slice A c.length cap, .int .i64 0], ?_, ⟨.slice A c.length cap, hbl, ?_⟩⟩
        · simp [results, Tryz.results8, go_sem, c0, c1]
        · rw [HR.out]
          refine ⟨rfl, lv_own (E := ME) (base := w.heap.size + 6) (e := 34) (size := 5) ?_⟩
          have hb1' := HB1.out
          have g3 : ((w5.setCell ⟨w.heap.size, 0, none⟩ (.slice A c.length cap)).setCell ⟨b1, 0, none⟩ (.int .i64 0)).grownBy (((w5.setCell ⟨w.heap.size, 0, none⟩ (.slice A c.length cap)).setCell ⟨b1, 0, none⟩ (.int .i64 0)).putObj (w.heap.size + 4) (.deferred none)) (some (w.heap.size + 4)) := ⟨rfl, rfl, rfl, by simp, fun i _ hi => World.putObj_heap_other (fun e => hi (by rw [e]))⟩
          exact own_grown (w := w) (own_grown (w := w) (own_grown (w := w) (own_below Hown.out Hb5.out) (setCell_grown _ _ 0 _) (by omega)) (setCell_grown _ _ 0 _) (by omega)) g3 (by omega)
      · have hR : parseR s = none := by unfold parseR; rw [Hres.out]; exact if_neg fun h => ht h.2
        have HR := Lib.hid hR
        clear hR
        gi_wp2
        refine ⟨trivial, ?_⟩
        refine (callsIn_wide.2 Hpr.out).mono ?_
        rintro e w5 ⟨t, rfl, h1, -, hb5⟩
        obtain rfl := h1 trivial
        have hq : (textT c == s) = false := by simpa using ht
        obtain ⟨q2', q0, q1, f0, f1, hX⟩ := Hfin.out w5 (.slice none 0 0) 3 hb5
        have HX := Lib.hid hX
        clear hX ht hb5 h1 q2
        gi_wp2
        refine ⟨by simp, .inl ⟨_, _, rfl, run_takeDeferred HX.out.df, ?_⟩⟩
        have hX := HX.out
        rw [← HB1.out] at hX
        obtain ⟨c0, c1, hbl⟩ := hX.cells
        rw [HB1.out] at c0 c1 hbl
        refine ⟨.tuple #[.slice none 0 0, .int .i64 3], ?_, ⟨.slice none 0 0, hbl, ?_⟩⟩
        · simp [results, Tryz.results8, go_sem, c0, c1]
        · rw [HR.out]
          exact ⟨rfl, LV.nil_ _ _ _ _⟩
    · have hR : parseR s = none := by unfold parseR; rw [Hres.out]; exact if_neg fun h => hc h.1
      have HR := Lib.hid hR
      have hne : (chk c != 0) = true := by simpa using hc
      generalize chk c = n at *
      clear hR
      gi_wp2
      refine ⟨trivial, ?_⟩
      refine (callsIn_wide.2 Hpr.out).mono ?_
      rintro e w5 ⟨t, rfl, -, h2, hb5⟩
      obtain rfl := h2 hc
      obtain ⟨q2', q0, q1, f0, f1, hX⟩ := Hfin.out w5 (.slice none 0 0) 3 hb5
      have HX := Lib.hid hX
      clear hX hb5 h2 q2
      gi_wp2
      refine ⟨by simp, .inl ⟨_, _, rfl, run_takeDeferred HX.out.df, ?_⟩⟩
      have hX := HX.out
      rw [← HB1.out] at hX
      obtain ⟨c0, c1, hbl⟩ := hX.cells
      rw [HB1.out] at c0 c1 hbl
      refine ⟨.tuple #[.slice none 0 0, .int .i64 3], ?_, ⟨.slice none 0 0, hbl, ?_⟩⟩
      · simp [results, Tryz.results8, go_sem, c0, c1]
      · rw [HR.out]
        exact ⟨rfl, LV.nil_ _ _ _ _⟩
  case stop =>
    rintro L W ⟨hX, hri⟩
    rw [hz]
    gi_wp2
    refine ⟨by simp, .inl ⟨_, _, rfl, run_takeDeferred hX.df, ?_⟩⟩
    obtain ⟨c0, c1, hbl⟩ := hX.cells
    refine ⟨.tuple #[.slice none 0 0, .int .i64 3], ?_, ⟨.slice none 0 0, hbl, ?_⟩⟩
    · simp [results, Tryz.results8, go_sem, c0, c1]
    · unfold parseR
      rw [hri]
      exact ⟨rfl, LV.nil_ _ _ _ _⟩
  · intro L t W ⟨c, h, _⟩; rw [hz]; exact h.lp
  · intro L t W ⟨c, h, _⟩; rw [hz]; exact h.lp
  · intro L W ⟨h, _⟩; rw [hz]; exact h.lp
  · intro L L' t W ⟨c, h, h2⟩; rw [hz]; exact ⟨c, h.put L', h2⟩
  · intro L L' t W ⟨c, h, h2⟩; rw [hz]; exact ⟨c, h.put L', h2⟩
  · intro L L' W ⟨h, h2⟩; rw [hz]; exact ⟨h.put L', h2⟩
  · intro L t W ⟨c, h, h2, h3, h4⟩; exact ⟨cell_heap h.cap 0, frozen_heap h.cap 0, h4⟩
  · intro L t W W1 ⟨c, h, h2⟩ hb; exact ⟨c, h.below hb, h2⟩
  · intro L t W ⟨c, h, h2⟩ _; exact ⟨c, h.setCap _, h2⟩
end Go.Proofs.Seat8

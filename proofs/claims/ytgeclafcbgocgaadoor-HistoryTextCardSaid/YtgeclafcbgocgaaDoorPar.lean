/- Parse, by the program. -/
import Derived.Test.YtgeclafcbgocgaaDoorPrs
namespace Go.Proofs.YtgeclafcbgocgaaDoor
open Go.RowKit Go.Shelf Go.Maps
attribute [local go_sem] Oper.semAt_some
theorem own_slice {w : World} {base e size n : Nat} {v : Value} {xs : List Value} (h : w.ownsRow base e size v n xs) : ∃ A c, v = .slice A n c := by
  rcases h.2 with ⟨rfl, rfl⟩ | ⟨g, cap, cur, rfl, -⟩
  · exact ⟨_, _, rfl⟩
  · exact ⟨_, _, rfl⟩
def RdPost (r : List Cl × Int) (w : World) (e : Ending) (w' : World) : Prop := ∃ v, e = .returned (.tuple #[v, .int .i64 r.2]) ∧ ClV w' v r.1 ∧ Below w.heap.size w w'
def RdJ (w : World) (s : List UInt8) (r : List Cl × Int) (L : Loop) (t : List UInt8) (W : World) : Prop := ∃ c p, RdS w L c p t W ∧ RdTo t c p r ∧ p + t.length ≤ s.length
def RdJ' (w : World) (s : List UInt8) (r : List Cl × Int) (L : Loop) (t : List UInt8) (W : World) : Prop := ∃ c p, RdS w L c p t W ∧ RdTo (Lib.cut t [10]).2.1 c p r ∧ p + (Lib.cut t [10]).2.1.length ≤ s.length
def RdJx (w : World) (r : List Cl × Int) (L : Loop) (W : World) : Prop := ∃ x, RdX w L (.slice none 0 0) x W ∧ r = ([], x)
set_option maxRecDepth 100000 in
set_option maxHeartbeats 4000000 in
theorem parse12 (s : List UInt8) (w : World) (hE : Env w) (hs : s.length ≤ 19000) (r : List Cl × Int) (hr : RdTo s [] 0 r) : Calls Tryd.prog 12 #[.string ⟨s.toArray⟩] w (RdPost r w) := by
  have hmk : ∀ W : World, (Instr.makeMap 53 none).run Tryd.prog W = .ok (.map (some W.heap.size)) (W.alloc (.map #[] 0)) := fun W => by simp [Instr.makeMap, run_underlying Tryd.underlying53, go_sem]
  refine (callsIn_wide (n := 9)).1 ?_
  refine callsIn_of_wp_marks Tryd.func12 rfl trivial ?_ rfl
  simp only [Tryd.ntmps12, List.size_toArray, List.length_cons, List.length_nil, Nat.reduceAdd, Nat.reduceSub, Array.replicate_succ, Array.replicate_zero, List.push_toArray, List.append_toArray, List.nil_append, List.cons_append]
  gi_wp2
  refine ⟨trivial, ?_⟩
  refine (callsIn_wide.2 (lines30 s _)).mono ?_
  rintro e w1 ⟨rfl, rfl⟩
  gi_wp2
  obtain ⟨w5, hw5⟩ : ∃ w5, ((((((w.alloc (.cells #[.slice none 0 0] 22)).alloc (.cells #[.int .i64 0] 25)).alloc (.map #[] 0)).alloc (.cells #[.slice none 0 0, .map (some (w.heap.size + 1 + 1)), .int .i64 0] 55)).alloc (.cells #[.pointer (some ⟨w.heap.size + 1 + 1 + 1, 0, none⟩)] 52)).alloc (.cells #[.string ⟨s.toArray⟩] 9)) = w5 := ⟨_, rfl⟩
  have hz : w5.heap.size = w.heap.size + 6 := by rw [← hw5]; simp
  have hh0 : ∀ L, RdJ w s r L s ((w5.alloc (.deferred (some []))).alloc (.loop L)) := by
    intro L
    have hb : Below w.heap.size w ((w5.alloc (.deferred (some []))).alloc (.loop L)) := by
      rw [← hw5]
      exact ((((((((Below.refl _ _).alloc (Nat.le_refl _) _).alloc (by simp) _).alloc (by simp; omega) _).alloc (by simp; omega) _).alloc (by simp; omega) _).alloc (by simp; omega) _).alloc (by simp; omega) _).alloc (by simp; omega) _
    have h8 := heap8 w (.cells #[.slice none 0 0] 22) (.cells #[.int .i64 0] 25) (.map #[] 0) (.cells #[.slice none 0 0, .map (some (w.heap.size + 1 + 1)), .int .i64 0] 55) (.cells #[.pointer (some ⟨w.heap.size + 1 + 1 + 1, 0, none⟩)] 52) (.cells #[.string ⟨s.toArray⟩] 9) (.deferred (some [])) (.loop L)
    rw [hw5] at h8
    have hm : ((w5.alloc (.deferred (some []))).alloc (.loop L)).ownsMap Tryd.prog 3 (plainElem Tryd.prog 3) (w.heap.size + 2) 0 (.map [] : DM) := by
      have h0 := World.ownsMap_made ((w.alloc (.cells #[.slice none 0 0] 22)).alloc (.cells #[.int .i64 0] 25)) Tryd.prog 3 (plainElem (H := Unit) Tryd.prog 3)
      have h1 := (((((h0.alloc (.cells #[.slice none 0 0, .map (some (w.heap.size + 1 + 1)), .int .i64 0] 55)).alloc (.cells #[.pointer (some ⟨w.heap.size + 1 + 1 + 1, 0, none⟩)] 52)).alloc (.cells #[.string ⟨s.toArray⟩] 9)).alloc (.deferred (some []))).alloc (.loop L))
      rw [hw5] at h1
      simpa using h1
    exact ⟨[], 0, ⟨hb, by simp [hz], h8 0 _ rfl, h8 1 _ rfl, ⟨uni_nil, by simp, ⟨_, _, hm, Nat.le_refl _, mapO_nil⟩, ⟨_, h8 3 _ rfl, World.ownsRow_nil _ _ _ _⟩, by simp [hz]⟩, h8 4 _ rfl, h8 5 _ rfl, h8 6 _ rfl, h8 7 _ rfl⟩, hr, by simp⟩
  rw [hw5]
  refine wpIn_range_lines (Bc := w.heap.size + 5) (N := s.length) (by omega) (by omega) rfl (RdJ w s r) (RdJ' w s r) (RdJx w r) ?_ ?_ ?_ ?_ ?_ ?_ ?_ ?_ ?_ ?_ s hh0
    (fun t => { tmps := #[.string ⟨s.toArray⟩, undef, .pointer (some ⟨w.heap.size, 0, none⟩), .pointer (some ⟨w.heap.size + 1, 0, none⟩), .pointer (some ⟨w.heap.size + 1 + 1 + 1 + 1, 0, none⟩), .string ⟨(Lib.cut t [10]).1.toArray⟩, .bool (Lib.cut t [10]).2.2, undef, .map (some (w.heap.size + 1 + 1)), .agg #[.slice none 0 0, .map (some (w.heap.size + 1 + 1)), .int .i64 0], .pointer (some ⟨w.heap.size + 1 + 1 + 1, 0, none⟩), .string ⟨s.toArray⟩, .func (.func 45) #[] #[.pointer (some ⟨w.heap.size + 1 + 1 + 1 + 1 + 1, 0, none⟩)], .string ⟨(Lib.cut t [10]).1.toArray⟩, .bool (Lib.cut t [10]).2.2, undef, undef, undef, undef, undef, undef, undef, undef, undef, undef, undef, undef], defers := [] }) ?assign ?body ?done ?stop
  case assign =>
    intro t W K hK
    gi_wp2
    exact hK
  case body =>
    rintro L t W ⟨c, p, hS, hto, hlen⟩ ht
    have hEW := hE.below hS.blw
    obtain ⟨b1, hb1⟩ : ∃ b, w.heap.size + 1 = b := ⟨_, rfl⟩
    obtain ⟨b4, hb4⟩ : ∃ b, w.heap.size + 1 + 1 + 1 + 1 = b := ⟨_, rfl⟩
    have n01 : w.heap.size ≠ b1 := by omega
    have q0 := cell_heap hS.r2 0
    have q1 := cell_heap hS.r3 0
    have q4 := cell_heap hS.bp 0
    have f0 := frozen_heap hS.r2 0
    have f1 := frozen_heap hS.r3 0
    rw [hb1] at q1 f1
    rw [show w.heap.size + 4 = b4 from hb4] at q4
    simp only [List.getElem?_toArray, List.getElem?_cons_zero] at q0 q1 q4
    rcases cut_case t ht with ⟨hno, hcut⟩ | ⟨a, rst, rfl, hno, hcut⟩
    · rw [hcut]
      have hres := rdTo_open hno ht hto
      have hX := hS.toX (.slice none 0 0) 3
      rw [hb1] at hX
      have HX := Lib.hid hX
      have Hres := Lib.hid hres
      clear hto ht hEW hh0 hw5 hz hr hS hres hno hcut hX hmk
      rw [hb4, hb1]
      clear hb1 hb4
      gi_wp2
      exact ⟨_, HX.out, Hres.out⟩
    · rw [hcut]
      have hp : p ≤ 1000000 := by omega
      have n0 := line31 (w.heap.size + 3) (w.heap.size + 2) (w.heap.size + 8) c p a W hS.bk hEW (by simp at hlen; omega) hp (by omega) (by omega)
      have Hok := Lib.hid fun h0 => rdTo_ok hno h0 hto
      have Hbad := Lib.hid fun h0 => rdTo_bad hno h0 hto
      have HS := Lib.hid hS
      have Hcut := Lib.hid hcut
      have Hb1 := Lib.hid hb1
      clear hto ht hEW hh0 hw5 hz hr hS hno hcut hmk
      rw [hb4, hb1]
      clear hb1 hb4
      unfold LPost at n0
      obtain ⟨er, her⟩ : ∃ er, (stepL c p a).2 = er := ⟨_, rfl⟩
      rw [her] at n0
      have Her := Lib.hid her
      clear her
      by_cases he : er = 0
      · subst he
        gi_wp2
        refine ⟨trivial, ?_⟩
        refine (CallsIn.inRound _ (callsIn_wide.2 n0)).mono ?_
        rintro e w1 ⟨rfl, hbk, hfr⟩
        have hS1 := Lib.hid (HS.out.frm hfr hbk)
        clear n0 hbk hfr q0 q1 q4 f0 f1
        gi_wp2
        refine ⟨_, _, hS1.out, ?_, ?_⟩
        · rw [Hcut.out]
          exact Hok.out Her.out
        · rw [Hcut.out]
          simp at hlen ⊢
          omega
      · have he' : (er != 0) = true := by simpa using he
        have Hres := Lib.hid (Hbad.out (by rw [Her.out]; exact he))
        clear he
        gi_wp2
        refine ⟨trivial, ?_⟩
        refine (CallsIn.inRound _ (callsIn_wide.2 n0)).mono ?_
        rintro e w1 ⟨rfl, hbk, hfr⟩
        have hS1 := HS.out.frm hfr hbk
        have hX := hS1.toX (.slice none 0 0) er
        have hc0 := cell_heap hS1.r2 0
        have hc1 := cell_heap hS1.r3 0
        have hf0 := frozen_heap hS1.r2 0
        have hf1 := frozen_heap hS1.r3 0
        rw [Hb1.out] at hX hc1 hf1
        simp only [List.getElem?_toArray, List.getElem?_cons_zero] at hc0 hc1
        have HX := Lib.hid hX
        clear n0 hbk hfr hS1 hX q0 q1 q4 f0 f1
        gi_wp2
        exact ⟨_, HX.out, by rw [Hres.out, Her.out]⟩
  case done =>
    rintro L W ⟨c, p, hS, hto, hlen⟩
    have hres := rdTo_nil hto
    obtain ⟨v, hv, hown⟩ := hS.bk.row
    have hfin := hS.toX v 0
    have hcl : ClV W v c := lv_own hown
    have htop := hS.top
    have q0 := cell_heap hS.r2 0
    have q1 := cell_heap hS.r3 0
    have q4 := cell_heap hS.bp 0
    have q3 := cell_heap hv 0
    have f0 := frozen_heap hS.r2 0
    have f1 := frozen_heap hS.r3 0
    have hcl2 : ClV (((W.setCell ⟨w.heap.size, 0, none⟩ v).setCell ⟨w.heap.size + 1, 0, none⟩ (.int .i64 0)).putObj (w.heap.size + 6) (.deferred none)) v c := by
      have g1 := setCell_grown W w.heap.size 0 v
      have g2 := setCell_grown (W.setCell ⟨w.heap.size, 0, none⟩ v) (w.heap.size + 1) 0 (.int .i64 0)
      have g3 : ((W.setCell ⟨w.heap.size, 0, none⟩ v).setCell ⟨w.heap.size + 1, 0, none⟩ (.int .i64 0)).grownBy (((W.setCell ⟨w.heap.size, 0, none⟩ v).setCell ⟨w.heap.size + 1, 0, none⟩ (.int .i64 0)).putObj (w.heap.size + 6) (.deferred none)) (some (w.heap.size + 6)) := ⟨rfl, rfl, rfl, by simp, fun i _ hi => World.putObj_heap_other (fun e => hi (by rw [e]))⟩
      have hne : ∀ i, i < w.heap.size + 8 → v.ownBlock ≠ some i := fun i hi e => by have := (hown.lt i e).1; omega
      exact lv_own (((hown.kept g1 (.inr (hne _ (by omega)))).kept g2 (.inr (hne _ (by omega)))).kept g3 (.inr (hne _ (by omega))))
    obtain ⟨A, cap, rfl⟩ := own_slice hown
    have Hfin := Lib.hid hfin
    have Hcl := Lib.hid hcl2
    have Hres := Lib.hid hres
    clear hto hv hown hfin hres hS hh0 hw5 hr hcl hcl2 hmk
    simp only [List.getElem?_toArray, List.getElem?_cons_zero] at q0 q1 q3 q4
    obtain ⟨b1, hb1⟩ : ∃ b, w.heap.size + 1 = b := ⟨_, rfl⟩
    obtain ⟨b3, hb3⟩ : ∃ b, w.heap.size + 3 = b := ⟨_, rfl⟩
    obtain ⟨b4, hb4⟩ : ∃ b, w.heap.size + 1 + 1 + 1 + 1 = b := ⟨_, rfl⟩
    have n01 : w.heap.size ≠ b1 := by omega
    rw [show w.heap.size + 4 = b4 from hb4, hb3] at q4
    rw [hb3] at q3
    rw [hb1] at q1 f1 Hfin Hcl
    rw [hb4, hb1]
    have HB := Lib.hid hb1
    clear hb1 hb3 hb4 htop
    rw [hz]
    gi_wp2
    refine ⟨by simp, .inl ⟨_, _, rfl, run_takeDeferred Hfin.out.df, ?_⟩⟩
    have hX := Hfin.out
    rw [← HB.out] at hX
    obtain ⟨c0, c1, hbl⟩ := hX.cells
    rw [HB.out] at c0 c1 hbl
    refine ⟨.tuple #[.slice A c.length cap, .int .i64 0], ?_, ⟨.slice A c.length cap, ?_, ?_, hbl⟩⟩
    · simp [results, Tryd.results12, go_sem, c0, c1]
    · rw [Hres.out]
    · rw [Hres.out]
      exact Hcl.out
  case stop =>
    rintro L W ⟨x, hX, hri⟩
    rw [hz]
    gi_wp2
    refine ⟨by simp, .inl ⟨_, _, rfl, run_takeDeferred hX.df, ?_⟩⟩
    obtain ⟨c0, c1, hbl⟩ := hX.cells
    refine ⟨.tuple #[.slice none 0 0, .int .i64 x], ?_, ⟨.slice none 0 0, ?_, ?_, hbl⟩⟩
    · simp [results, Tryd.results12, go_sem, c0, c1]
    · rw [hri]
    · rw [hri]
      exact LV.nil_ _ _ _ _
  · intro L t W ⟨c, p, h, _⟩; rw [hz]; exact h.lp
  · intro L t W ⟨c, p, h, _⟩; rw [hz]; exact h.lp
  · intro L W ⟨x, h, _⟩; rw [hz]; exact h.lp
  · intro L L' t W ⟨c, p, h, h2⟩; rw [hz]; exact ⟨c, p, h.put L', h2⟩
  · intro L L' t W ⟨c, p, h, h2⟩; rw [hz]; exact ⟨c, p, h.put L', h2⟩
  · intro L L' W ⟨x, h, h2⟩; rw [hz]; exact ⟨x, h.put L', h2⟩
  · intro L t W ⟨c, p, h, h2, h3⟩; exact ⟨hE.below h.blw, cell_heap h.cap 0, by omega⟩
  · intro L t W W1 ⟨c, p, h, h2⟩ hb; exact ⟨c, p, h.below hb, h2⟩
  · intro L t W ⟨c, p, h, h2⟩; exact ⟨cell_heap h.cap 0, frozen_heap h.cap 0⟩
  · intro L t W ⟨c, p, h, h2⟩ _; exact ⟨c, p, h.setCap _, h2⟩
end Go.Proofs.YtgeclafcbgocgaaDoor

/- collect, by the reference: the marks make the book's calls. -/
import Derived.Test.YtgeclafcbgocgaaDoorPar
import Derived.Test.YtgeclafcbgocgaaDoorHpe
namespace Go.Proofs.YtgeclafcbgocgaaDoor
open Go.RowKit
/-- What the marks make of the calls c at position p. -/
def collF : List Mk → List Cl → Nat → List Cl × Int
  | [], c, _ => (c, 0)
  | m :: ms, c, p => if (bookStep c p m).2 = 0 then collF ms (bookStep c p m).1 (p + 1) else bookStep c p m
theorem collF_snoc {m : Mk} : ∀ (ms : List Mk) (c : List Cl) (p : Nat), (collF ms c p).2 = 0 → collF (ms ++ [m]) c p = bookStep (collF ms c p).1 (p + ms.length) m
  | [], c, p, _ => by
    show (if (bookStep c p m).2 = 0 then ((bookStep c p m).1, 0) else bookStep c p m) = bookStep c (p + 0) m
    rw [Nat.add_zero]
    split
    · rename_i h; exact Prod.ext rfl h.symm
    · rfl
  | a :: ms, c, p, h => by
    have h' : (if (bookStep c p a).2 = 0 then collF ms (bookStep c p a).1 (p + 1) else bookStep c p a).2 = 0 := h
    show (if (bookStep c p a).2 = 0 then collF (ms ++ [m]) (bookStep c p a).1 (p + 1) else bookStep c p a) = bookStep (if (bookStep c p a).2 = 0 then collF ms (bookStep c p a).1 (p + 1) else bookStep c p a).1 (p + (ms.length + 1)) m
    by_cases h0 : (bookStep c p a).2 = 0
    · rw [if_pos h0] at h' ⊢
      rw [if_pos h0, collF_snoc ms _ _ h', show p + 1 + ms.length = p + (ms.length + 1) from by omega]
    · rw [if_neg h0] at h'
      exact absurd h' h0
def mkCells (m : Mk) : List Value := [.int .i64 m.task, .int .i64 m.method, .int .i64 m.value, .bool m.isEnd]
theorem mkCells_one (x : Mk) : ∀ u ∈ mkCells x, u.oneCell' = true := by intro u hu; simp only [mkCells, List.mem_cons, List.not_mem_nil, or_false] at hu; rcases hu with rfl | rfl | rfl | rfl <;> rfl
def ME : Enc Mk := ⟨mkCells, 4, fun _ => rfl, mkCells_one⟩
theorem T60 : ElemT Tryd.prog 60 62 4 32 := ElemT.mk' Tryd.underlying60 (z := .agg #[.int .i64 0, .int .i64 0, .int .i64 0, .bool false]) (by kernel_rfl) rfl (by decide)
def ixV : Option Nat → Int
  | none => -1
  | some i => i
theorem openIx_take (c : List Cl) (t : Int) (j : Nat) (h : j < c.length) : openIx (c.take (j + 1)) t = if c[j].task == t && decide (c[j].end_ < 0) then some j else openIx (c.take j) t := by
  rw [take_snoc c j h, openIx_snoc, List.length_take, Nat.min_eq_left (by omega)]
theorem ixV_nn (o : Option Nat) : decide (0 ≤ ixV o) = o.isSome := by cases o <;> simp [ixV]
def CoPost (r : List Cl × Int) (w : World) (e : Ending) (w' : World) : Prop := ∃ v, e = .returned (.tuple #[v, .int .i64 r.2]) ∧ LV CE w' v r.1 ∧ Below w.heap.size w w'
theorem collF_drop {ms : List Mk} {c : List Cl} {k : Nat} {r : List Cl × Int} (hk : k < ms.length) (h : collF (ms.drop k) c k = r) : ((bookStep c k ms[k]).2 = 0 → collF (ms.drop (k + 1)) (bookStep c k ms[k]).1 (k + 1) = r) ∧ ((bookStep c k ms[k]).2 ≠ 0 → r = bookStep c k ms[k]) := by
  rw [List.drop_eq_getElem_cons hk, collF] at h
  refine ⟨fun h0 => ?_, fun h0 => ?_⟩
  · rw [if_pos h0] at h; exact h
  · rw [if_neg h0] at h; exact h.symm
theorem own_below' {w w' : World} {base e size n : Nat} {v : Value} {xs : List Value} (h : w.ownsRow base e size v n xs) (hb : Below w.heap.size w w') : w'.ownsRow base e size v n xs :=
  h.kept (row := none) ⟨hb.os, hb.tape, hb.output, hb.size, fun k hk _ => hb.block k hk⟩ (by cases v.ownBlock <;> simp)
set_option maxRecDepth 100000 in
set_option maxHeartbeats 4000000 in
theorem rcollect33 (ms : List Mk) (v : Value) (w : World) (hv : LV ME w v ms) (hl : ms.length ≤ 20000) (r : List Cl × Int) (hr : collF ms [] 0 = r) : Calls Tryd.prog 33 #[v] w (CoPost r w) := by
  obtain ⟨A, cap, rfl, hcap, hrr⟩ := hv
  have Hr := Lib.hid hr
  clear hr
  go_enter Tryd.func33, Tryd.ntmps33
  go_wp2_with fail
  go_loopw [4, 5] (fun o i wr => ∃ (k : Nat) (c : List Cl), k ≤ ms.length ∧ i = .int .i64 k ∧ wr.ownsRow w.heap.size 32 6 o c.length (CE.all c) ∧ c.length ≤ 100 ∧ Hid (collF (ms.drop k) c k = r) ∧ Hid (Uni c) ∧ Below w.heap.size w wr) (fun _ i _ => ms.length - (intOf i).toNat)
  case atStart => exact ⟨0, [], Nat.zero_le _, rfl, World.ownsRow_made w #[] 0 (Nat.le_refl _) (by unfold maxLen; omega) rfl, Nat.zero_le _, Hr, uni_nil, (Below.refl _ _).alloc (Nat.le_refl _) _⟩
  case round =>
    obtain ⟨k, c, hk, rfl, hown, hc100, hcf, hU, hb⟩ := hrel
    have hsz := hb.size
    obtain ⟨A4, c4, rfl⟩ := own_slice hown
    by_cases hkt : k < ms.length
    · obtain ⟨b, off, rfl, hbw, hrow⟩ := hrr (fun e => by rw [e] at hkt; simp at hkt)
      have hr' : Row wr b (off + k * 4) (mkCells ms[k]) := (hrow k hkt).below hb hbw
      obtain ⟨hok, hbad⟩ := collF_drop hkt hcf.out
      obtain ⟨m, hm⟩ : ∃ m, ms[k] = m := ⟨_, rfl⟩
      rw [hm] at hr' hok hbad
      have hlen := bookStep_len hc100 k m
      have hun := bookStep_uni hU.out k m
      obtain ⟨m0, m1, m2, m3⟩ := m
      have Hok := Lib.hid hok
      have Hbad := Lib.hid hbad
      have Hlen := Lib.hid hlen
      have Hun := Lib.hid hun
      have Hown := Lib.hid hown
      have Hrow := Lib.hid hrow
      clear hcf hm hok hbad hlen hun hown hrow hrr
      go_upto_region 6 with ((with_reducible refine wpList_load_agg (o := ⟨some 19, .load 62 (.tmp 18), _, _, _, none⟩) rfl 62 _ rfl b (off + k * 4) ?_ _ hr' _ Tryd.underlying62 rfl ?_ ?_); (focus rfl); (focus kernel_rfl); simp only [mkCells])
      have hN : (wr.alloc (.cells #[.int .i64 m0, .int .i64 m1, .int .i64 m2, .bool m3] 62)).heap[wr.heap.size]? = some (.cells #[.int .i64 m0, .int .i64 m1, .int .i64 m2, .bool m3] 62 (0, 0)) := heap_alloc_new _ _
      have hbA := hb.alloc hsz (.cells #[.int .i64 m0, .int .i64 m1, .int .i64 m2, .bool m3] 62)
      have hoA := Hown.out.alloc (.cells #[.int .i64 m0, .int .i64 m1, .int .i64 m2, .bool m3] 62)
      have hNlt : wr.heap.size < (wr.alloc (.cells #[.int .i64 m0, .int .i64 m1, .int .i64 m2, .bool m3] 62)).heap.size := by simp
      have hneN := own_ne hoA hN (by decide)
      have hNw : w.heap.size ≤ wr.heap.size := hsz
      generalize wr.alloc (.cells #[.int .i64 m0, .int .i64 m1, .int .i64 m2, .bool m3] 62) = W0 at *
      generalize wr.heap.size = N at *
      have HN := Lib.hid hN
      have HoA := Lib.hid hoA
      have HcA := Lib.hid (lv_own hoA)
      clear hN hr' hb hoA Hown
      have hsA := hbA.size
      obtain ⟨wm, hwm⟩ : ∃ x, x = wr := ⟨_, rfl⟩
      subst hwm
      go_wp2_with fail
      go_loopw [7, 8] (fun o i wr => ∃ j : Nat, j ≤ c.length ∧ i = .int .i64 j ∧ o = .int .i64 (ixV (openIx (c.take j) m0)) ∧ Below W0.heap.size W0 wr) (fun _ i _ => c.length - (intOf i).toNat)
      case atStart => exact ⟨0, Nat.zero_le _, rfl, by simp [openIx, ixV], Below.refl _ _⟩
      case round =>
        obtain ⟨j, hj, rfl, rfl, hb⟩ := hrel
        by_cases hjt : j < c.length
        · rcases HcA.out.split with ⟨A9, c9, h9, h10⟩ | ⟨g, og, cg, h9, hcg, hgw, hrw⟩
          · rw [h10] at hjt
            simp at hjt
          · injection h9 with h9a h9b h9c
            subst h9a
            have x0 : wr.cell? ⟨g, og + j * 6, none⟩ = some (.int .i64 c[j].task) := ((hrw j hjt).below hb hgw) 0 _ rfl
            have x5 : wr.cell? ⟨g, og + j * 6 + 5, none⟩ = some (.int .i64 c[j].end_) := ((hrw j hjt).below hb hgw) 5 _ rfl
            have y0 : wr.cell? ⟨N, 0, none⟩ = some (.int .i64 m0) := (hb.cell (p := ⟨N, 0, none⟩) hNlt).trans (cell_heap HN.out 0)
            have hgr : g < wr.heap.size := Nat.lt_of_lt_of_le hgw hb.size
            have hNr : N < wr.heap.size := Nat.lt_of_lt_of_le hNlt hb.size
            have hst := openIx_take c m0 j hjt
            obtain ⟨x, hx⟩ : ∃ x, c[j] = x := ⟨_, rfl⟩
            rw [hx] at x0 x5 hst
            obtain ⟨a0, a1, a2, a3, a4, a5⟩ := x
            simp only at x0 x5 hst
            have Hst := Lib.hid hst
            have Hb := Lib.hid hb
            generalize openIx (c.take j) m0 = q at *
            clear hx hst hrw h9b h9c hb
            rcases Bool.eq_false_or_eq_true (a0 == m0) with t1 | t1
            · rcases Bool.eq_false_or_eq_true (decide (a5 < 0)) with t2 | t2
              · have HS := Lib.hid (show openIx (c.take (j + 1)) m0 = some j by rw [Hst.out, t1, t2]; rfl)
                replace t2 := of_decide_eq_true t2
                clear Hst
                go_wp2_with fail
                go_quiet (fail)
                go_wp2_with fail
                go_roundw
                case rel => exact ⟨j + 1, by omega, by go_num, by rw [HS.out]; rfl, Hb.out.dn _⟩
                case measure => simp [intOf]; omega
              · have HS := Lib.hid (show openIx (c.take (j + 1)) m0 = q by rw [Hst.out, t1, t2]; rfl)
                clear Hst
                go_wp2_with fail
                go_quiet (fail)
                go_wp2_with fail
                go_roundw
                case rel => exact ⟨j + 1, by omega, by go_num, by rw [HS.out], Hb.out.dn _⟩
                case measure => simp [intOf]; omega
            · have HS := Lib.hid (show openIx (c.take (j + 1)) m0 = q by rw [Hst.out, t1]; rfl)
              clear Hst
              go_wp2_with fail
              go_quiet (fail)
              go_wp2_with fail
              go_roundw
              case rel => exact ⟨j + 1, by omega, by go_num, by rw [HS.out], Hb.out.dn _⟩
              case measure => simp [intOf]; omega
        · have hj' : j = c.length := by omega
          subst hj'
          rw [List.take_length]
          have hownB := own_below' HoA.out hb
          have hbB := hbA.trans (hb.mono hsA)
          have y0 : wr.cell? ⟨N, 0, none⟩ = some (.int .i64 m0) := (hb.cell (p := ⟨N, 0, none⟩) hNlt).trans (cell_heap HN.out 0)
          have y1 : wr.cell? ⟨N, 1, none⟩ = some (.int .i64 m1) := (hb.cell (p := ⟨N, 1, none⟩) hNlt).trans (cell_heap HN.out 1)
          have y2 : wr.cell? ⟨N, 2, none⟩ = some (.int .i64 m2) := (hb.cell (p := ⟨N, 2, none⟩) hNlt).trans (cell_heap HN.out 2)
          have y3 : wr.cell? ⟨N, 3, none⟩ = some (.bool m3) := (hb.cell (p := ⟨N, 3, none⟩) hNlt).trans (cell_heap HN.out 3)
          have hNr : N < wr.heap.size := Nat.lt_of_lt_of_le hNlt hb.size
          have hsB := hbB.size
          clear hjt hj hb HoA HcA HN
          have hP : ∀ x w', r = (c, x) → LV CE w' (.slice A4 c.length c4) c → Below w.heap.size w w' → CoPost r w (.returned (.tuple #[.slice A4 c.length c4, .int .i64 x])) w' := fun x w' h1 h2 h3 => ⟨_, by rw [h1], by rw [h1]; exact h2, h3⟩
          have HP := Lib.hid hP
          clear hP
          cases hq : openIx c m0 with
          | none =>
            cases m3 with
            | true =>
              have hbs : bookStep c k ⟨m0, m1, m2, true⟩ = (c, 17) := bookStep_closed hq
              have HF := Lib.hid (show r = (c, 17) by rw [Hbad.out (by rw [hbs]; exact (show (17 : Int) ≠ 0 by decide)), hbs])
              have hcl := Lib.hid (lv_own hownB)
              clear hq hbs Hok Hbad Hlen Hun
              unfold ixV
              go_wp2_with fail
              go_ret2
              exact HP.out 17 _ HF.out hcl.out hbB
            | false =>
              by_cases h100 : c.length = 100
              · have hbs : bookStep c k ⟨m0, m1, m2, false⟩ = (c, 4) := bookStep_full hq h100
                have HF := Lib.hid (show r = (c, 4) by rw [Hbad.out (by rw [hbs]; exact (show (4 : Int) ≠ 0 by decide)), hbs])
                have hcl := Lib.hid (lv_own hownB)
                have h1i : ((c.length : Int) == 100) = true := by simp; omega
                clear hq hbs Hok Hbad Hlen Hun
                unfold ixV
                go_wp2_with fail
                go_ret2
                exact HP.out 4 _ HF.out hcl.out hbB
              · have hbs : bookStep c k ⟨m0, m1, m2, false⟩ = (c ++ [⟨m0, m1, m2, 0, k, -1⟩], 0) := bookStep_new hq h100
                have hok := Hok.out (by rw [hbs])
                rw [hbs] at hok
                rw [hbs] at Hun Hlen
                have HK := Lib.hid hok
                have h1i : ((c.length : Int) == 100) = false := by simp; omega
                clear hq hbs Hok Hbad hok
                unfold ixV
                go_wp2_with (at_builtin; refine wpList_app rfl _ _ 22 rfl w.heap.size 32 6 48 T22 _ _ _ rfl (hownB.alloc _) wr.heap.size (clCells ⟨m0, m1, m2, 0, k, -1⟩) rfl rfl (Row.new _ _ _ _ (by simp)) (clCells_one _) (by omega) (by omega) (by simp; omega) ?_; intro v' w6 hown1 hgr1)
                go_roundw
                case rel =>
                  refine ⟨k + 1, c ++ [⟨m0, m1, m2, 0, k, -1⟩], by omega, by go_num, ?_, Hlen.out, HK, Hun, (hbB.alloc hsB _).grown hgr1 (by simp; omega) (fun j hj => (hownB.lt j hj).1)⟩
                  rw [List.length_append, Enc.all_snoc]
                  exact hown1
                case measure => simp [intOf]; omega
          | some i =>
            have hii := (openIx_spec hq).1
            cases m3 with
            | false =>
              have hbs : bookStep c k ⟨m0, m1, m2, false⟩ = (c, 17) := bookStep_open hq
              have HF := Lib.hid (show r = (c, 17) by rw [Hbad.out (by rw [hbs]; exact (show (17 : Int) ≠ 0 by decide)), hbs])
              have hcl := Lib.hid (lv_own hownB)
              have h0i : (0 : Int) ≤ (i : Int) := by omega
              clear hq hbs Hok Hbad Hlen Hun
              unfold ixV
              go_wp2_with fail
              go_ret2
              exact HP.out 17 _ HF.out hcl.out hbB
            | true =>
              have hbs : bookStep c k ⟨m0, m1, m2, true⟩ = (c.set i { c.getD i zCl with end_ := k, result := m2 }, 0) := bookStep_end hq
              have hok := Hok.out (by rw [hbs])
              rw [hbs] at hok
              rw [hbs] at Hun Hlen
              obtain ⟨g, cap4, hA4, hg0, hg1⟩ := hownB.form (by omega)
              injection hA4 with hA4 hA5 hA6
              subst hA4
              have hgb := hownB.lt g rfl
              have st1 := hownB.stored (i * 6 + 5) (.int .i64 (k : Int))
              have st2 := st1.1.stored (i * 6 + 3) (.int .i64 m2)
              have hst2 := st2.1
              rw [← clsCells_end c i hii k m2] at hst2
              have x5 : wr.cell? ⟨g, i * 6 + 5, none⟩ = some (.int .i64 (c[i]).end_) := (hownB.cellAt (i * 6 + 5) (by omega)).trans (clsCells_at _ i 5 hii (by decide))
              have x3 : wr.cell? ⟨g, i * 6 + 3, none⟩ = some (.int .i64 (c[i]).result) := (hownB.cellAt (i * 6 + 3) (by omega)).trans (clsCells_at _ i 3 hii (by decide))
              have z5 := hownB.frozenAt (i * 6 + 5)
              have z3 := hownB.frozenAt (i * 6 + 3)
              have hgN : g ≠ N := fun e => hneN (by rw [← e]; rfl)
              have hrel2 : ∃ (k' : Nat) (c' : List Cl), k' ≤ ms.length ∧ Value.int .i64 ((k : Int) + 1) = .int .i64 k' ∧ ((wr.setCell ⟨g, i * 6 + 5, none⟩ (.int .i64 (k : Int))).setCell ⟨g, i * 6 + 3, none⟩ (.int .i64 m2)).ownsRow w.heap.size 32 6 (.slice (some ⟨g, 0, none⟩) c.length c4) c'.length (CE.all c') ∧ c'.length ≤ 100 ∧ Hid (collF (ms.drop k') c' k' = r) ∧ Hid (Uni c') ∧ Below w.heap.size w ((wr.setCell ⟨g, i * 6 + 5, none⟩ (.int .i64 (k : Int))).setCell ⟨g, i * 6 + 3, none⟩ (.int .i64 m2)) := by
                refine ⟨k + 1, _, by omega, by go_num, ?_, Hlen.out, hok, Hun, (hbB.setCell (by exact hgb.1) _).setCell (by exact hgb.1) _⟩
                rw [List.length_set]
                exact hst2
              have HR := Lib.hid hrel2
              have h0i : (0 : Int) ≤ (i : Int) := by omega
              have hic : (i : Int) < (c.length : Int) := by omega
              have hgw2 : g < wr.heap.size := hgb.2
              clear hq hbs Hok Hbad Hlen Hun hok st1 st2 hst2 hrel2 hownB
              unfold ixV
              go_upto_region 15 with fail
              go_region
              all_goals
                go_wp2_with fail
                go_roundw
                case rel =>
                  obtain ⟨k', c', q1, q2, q3, q4, q5, q6, q7⟩ := HR.out
                  first
                    | exact ⟨k', c', q1, q2, q3, q4, q5, q6, q7⟩
                    | exact ⟨k', c', q1, q2, q3.drew, q4, q5, q6, q7.drew⟩
                case measure => simp [intOf]; omega
    · have hk' : k = ms.length := by omega
      have hcf' := hcf.out
      rw [hk', List.drop_length] at hcf'
      have HF := Lib.hid (show r = (c, 0) from hcf'.symm)
      have hcl := Lib.hid (lv_own hown)
      clear hcf' hcf
      go_wp2_with fail
      go_ret2
      refine ⟨.slice A4 c.length c4, ?_, ?_, hb⟩
      · rw [HF.out]; rfl
      · rw [HF.out]; exact hcl.out
end Go.Proofs.YtgeclafcbgocgaaDoor

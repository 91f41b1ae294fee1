/- Before, by the program. -/
import Derived.Test.YtgeclafcbgocgaaDoorFil
namespace Go.Proofs.YtgeclafcbgocgaaDoor
open Go.RowKit
theorem own_ne {w : World} {base e size n N : Nat} {v : Value} {xs : List Value} {cs : Array Value} {t : TypeId} {fr : Nat × Nat} (h : w.ownsRow base e size v n xs) (hN : w.heap[N]? = some (.cells cs t fr)) (ht : t ≠ e) : v.ownBlock ≠ some N := by
  intro hv
  rcases h.2 with ⟨rfl, -⟩ | ⟨g, cap, cur, rfl, hb, hg, -⟩
  · cases hv
  · have : g = N := by simpa [Value.ownBlock] using hv
    subst this
    rw [hN] at hg
    have := Option.some.inj hg
    injection this with h1 h2 h3
    exact ht h2
def befR (l : List Cl) : List (Int × Int) := if chkH l = 0 then befE l l.length else []
theorem rowE_hit {l : List Cl} {i k : Nat} (h : precedes (l.getD i zCl) (l.getD k zCl) = true) : rowE l i (k + 1) = rowE l i k ++ [((i : Int), (k : Int))] := by rw [rowE, if_pos h]
theorem rowE_miss {l : List Cl} {i k : Nat} (h : precedes (l.getD i zCl) (l.getD k zCl) = false) : rowE l i (k + 1) = rowE l i k := by rw [rowE, if_neg (by rw [h]; simp)]
set_option maxRecDepth 100000 in
set_option maxHeartbeats 4000000 in
theorem before17 (l : List Cl) (v : Value) (w : World) (hv : ClV w v l) (hl : l.length ≤ 65536) :
    Calls Tryd.prog 17 #[v] w fun e w' => ∃ v', e = .returned (.tuple #[v', .int .i64 (chkH l)]) ∧ w'.ownsRow w.heap.size 40 2 v' (befR l).length (EE.all (befR l)) ∧ Below w.heap.size w w' := by
  have n0 := check15 l v w hv hl
  by_cases hc : chkH l = 0
  · have hR : befR l = befE l l.length := if_pos hc
    have hlen : l.length ≤ 100 := (hist_iff.1 hc).len
    rw [hR, hc]
    rw [hc] at n0
    rcases hv.split with ⟨A, c, rfl, rfl⟩ | ⟨b, off, cap, rfl, hcap, hbw, hrow⟩
    · go_enter Tryd.func17, Tryd.ntmps17
      go_wp2_with fail
      refine n0.mono ?_
      rintro e w1 ⟨rfl, hb1⟩
      clear n0
      go_wp2_with fail
      refine wp_loop_rounds 1 ?_
      rw [rounds_succ]
      go_wp2_with fail
      go_ret2
      exact ⟨_, rfl, World.ownsRow_nil _ _ _ _, hb1⟩
    · clear hv hc hR
      go_enter Tryd.func17, Tryd.ntmps17
      go_wp2_with fail
      refine n0.mono ?_
      rintro e w1 ⟨rfl, hb1⟩
      clear n0
      have hs1 := hb1.size
      go_wp2_with fail
      go_loopw [5, 17] (fun v i wr => ∃ k : Nat, k ≤ l.length ∧ i = .int .i64 k ∧ wr.ownsRow w.heap.size 40 2 v (befE l k).length (EE.all (befE l k)) ∧ Below w.heap.size w wr) (fun _ i _ => l.length - (intOf i).toNat)
      case atStart => exact ⟨0, Nat.zero_le _, rfl, World.ownsRow_nil _ _ _ _, hb1⟩
      case round =>
        obtain ⟨k, hk, rfl, hown, hb⟩ := hrel
        have hsz := hb.size
        by_cases hlt : k < l.length
        · have hr' : Row wr b (off + k * 6) (clCells l[k]) := (hrow k hlt).below hb hbw
          have hown0 := hown.alloc (.cells (clCells l[k]).toArray 32)
          have hbN := hb.alloc hsz (.cells (clCells l[k]).toArray 32)
          have hN : (wr.alloc (.cells (clCells l[k]).toArray 32)).heap[wr.heap.size]? = some (.cells (clCells l[k]).toArray 32 (0, 0)) := heap_alloc_new _ _
          have Hown0 := Lib.hid hown0
          have HbN := Lib.hid hbN
          have HN := Lib.hid hN
          clear hown0 hbN hN hown hb
          go_wp2_with ((with_reducible refine wpList_load_agg (o := ⟨some 21, .load 32 (.tmp 20), _, _, _, none⟩) rfl 32 _ rfl b (off + k * 6) ?_ _ hr' _ Tryd.underlying32 rfl ?_ ?_); (focus rfl); (focus kernel_rfl); simp only [clCells])
          obtain ⟨wm, hwm⟩ : ∃ x, x = wr := ⟨_, rfl⟩
          subst hwm
          clear hr'
          have hble := befE_le l k
          have hkk : k * l.length ≤ 10000 := by
            have := Nat.mul_le_mul (show k ≤ 100 by omega) hlen
            omega
          go_loopw [5, 24] (fun v i wr => ∃ j : Nat, j ≤ l.length ∧ i = .int .i64 j ∧ wr.ownsRow w.heap.size 40 2 v (befE l k ++ rowE l k j).length (EE.all (befE l k ++ rowE l k j)) ∧ wr.heap[wm.heap.size]? = some (.cells (clCells l[k]).toArray 32 (0, 0)) ∧ Below w.heap.size w wr) (fun _ i _ => l.length - (intOf i).toNat)
          case atStart => exact ⟨0, Nat.zero_le _, rfl, by rw [show rowE l k 0 = [] from rfl, List.append_nil]; exact Hown0.out, HN.out, HbN.out⟩
          case round =>
            obtain ⟨j, hj, rfl, hown, hN, hb⟩ := hrel
            have hsz2 := hb.size
            by_cases hjt : j < l.length
            · have hr' : Row wr b (off + j * 6) (clCells l[j]) := (hrow j hjt).below hb hbw
              have hc5 : wr.cell? ⟨wm.heap.size, 5, none⟩ = some (.int .i64 l[k].end_) := cell_heap hN 5
              have hNb : wm.heap.size < wr.heap.size := (Array.getElem?_eq_some_iff.1 hN).1
              have hrle := rowE_le l k j
              have hpl : (befE l k ++ rowE l k j).length ≤ 20000 := by rw [List.length_append]; omega
              have hne := own_ne hown hN (by decide)
              have hpre : precedes (l.getD k zCl) (l.getD j zCl) = (l[k].end_ != -1 && decide (l[k].end_ < l[j].begin_)) := by rw [getD_lt l k hlt, getD_lt l j hjt]; rfl
              rcases Bool.eq_false_or_eq_true (l[k].end_ != -1) with ht | ht
              · rcases Bool.eq_false_or_eq_true (decide (l[k].end_ < l[j].begin_)) with ht2 | ht2
                · have ht3 := of_decide_eq_true ht2
                  have Hhit := Lib.hid (rowE_hit (hpre.trans (by rw [ht, ht2]; rfl)))
                  have HN := Lib.hid hN
                  have Hne := Lib.hid hne
                  clear ht2 hpre hN hne
                  go_wp2_with (first | ((with_reducible refine wpList_load_agg (o := ⟨some 28, .load 32 (.tmp 27), _, _, _, none⟩) rfl 32 _ rfl b (off + j * 6) ?_ _ hr' _ Tryd.underlying32 rfl ?_ ?_); (focus rfl); (focus kernel_rfl); simp only [clCells]) | (at_builtin; refine wpList_app rfl _ _ 35 rfl w.heap.size 40 2 16 T35 _ _ _ rfl ((hown.alloc _).alloc _) (wr.heap.size + 1) (edCells ((k : Int), (j : Int))) rfl rfl (Row.new _ _ _ _ (by simp)) (edCells_one _) (by omega) (by omega) (by simp; omega) ?_; intro v' w1 hown1 hgr1))
                  have hgb := hgr1.block wm.heap.size (by simp; omega) (fun e => Hne.out e.symm)
                  have Hgb := Lib.hid hgb
                  clear hgb
                  go_roundw
                  case rel =>
                    refine ⟨j + 1, by omega, by go_num, ?_, ?_, ((hb.alloc hsz2 _).alloc (by simp; omega) _).grown hgr1 (by simp; omega) (fun j hj => (hown.lt j hj).1)⟩
                    · rw [Hhit.out, ← List.append_assoc, List.length_append, Enc.all_snoc]
                      exact hown1
                    · rw [Hgb.out, heap_alloc_lt _ _ (by simp; omega), heap_alloc_lt _ _ hNb]
                      exact HN.out
                  case measure => simp [intOf]; omega
                · have Hhit := Lib.hid (rowE_miss (hpre.trans (by rw [ht, ht2]; rfl)))
                  have ht3 := of_decide_eq_false ht2
                  have HN := Lib.hid hN
                  clear hpre hN hne ht2
                  go_wp2_with ((with_reducible refine wpList_load_agg (o := ⟨some 28, .load 32 (.tmp 27), _, _, _, none⟩) rfl 32 _ rfl b (off + j * 6) ?_ _ hr' _ Tryd.underlying32 rfl ?_ ?_); (focus rfl); (focus kernel_rfl); simp only [clCells])
                  go_roundw
                  case rel =>
                    refine ⟨j + 1, by omega, by go_num, ?_, ?_, hb.alloc hsz2 _⟩
                    · rw [Hhit.out]
                      exact hown.alloc _
                    · rw [heap_alloc_lt _ _ hNb]
                      exact HN.out
                  case measure => simp [intOf]; omega
              · have Hhit := Lib.hid (rowE_miss (hpre.trans (by rw [ht]; rfl)))
                have HN := Lib.hid hN
                clear hpre hN hne
                go_wp2_with ((with_reducible refine wpList_load_agg (o := ⟨some 28, .load 32 (.tmp 27), _, _, _, none⟩) rfl 32 _ rfl b (off + j * 6) ?_ _ hr' _ Tryd.underlying32 rfl ?_ ?_); (focus rfl); (focus kernel_rfl); simp only [clCells])
                go_roundw
                case rel =>
                  refine ⟨j + 1, by omega, by go_num, ?_, ?_, hb.alloc hsz2 _⟩
                  · rw [Hhit.out]
                    exact hown.alloc _
                  · rw [heap_alloc_lt _ _ hNb]
                    exact HN.out
                case measure => simp [intOf]; omega
            · have hj' : j = l.length := by omega
              subst hj'
              clear hN
              go_wp2_with fail
              go_roundw
              case rel => exact ⟨k + 1, by omega, by go_num, hown, hb⟩
              case measure => simp [intOf]; omega
        · have hk' : k = l.length := by omega
          subst hk'
          go_wp2_with fail
          go_ret2
          exact ⟨_, rfl, hown, hb⟩
  · have hR : befR l = [] := if_neg hc
    rw [hR]
    obtain ⟨x, hx⟩ : ∃ x, chkH l = x := ⟨_, rfl⟩
    rw [hx] at n0 hc ⊢
    have hx1 : (x != 0) = true := by simpa using hc
    clear hx hc hR
    go_enter Tryd.func17, Tryd.ntmps17
    go_wp2_with fail
    refine n0.mono ?_
    rintro e w1 ⟨rfl, hb1⟩
    clear n0
    go_wp2_with fail
    go_ret2
    exact ⟨_, rfl, World.ownsRow_nil _ _ _ _, hb1⟩
end Go.Proofs.YtgeclafcbgocgaaDoor

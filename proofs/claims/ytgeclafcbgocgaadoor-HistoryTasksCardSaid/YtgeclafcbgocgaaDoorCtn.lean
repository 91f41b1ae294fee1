/- slices.Contains over calls, where the call is among them; slices.IsSorted over numbers that rise. -/
import Derived.Test.YtgeclafcbgocgaaDoorLst
import Derived.Test.YtgeclafcbgocgaaDoorEql
namespace Go.Proofs.YtgeclafcbgocgaaDoor
open Go.RowKit
theorem run_part_int (P : Program) (w : World) (t : TypeId) (k : IntKind) (h : P.underlying t = some (.int k)) (xs : Array Value) (i : Nat) (v : Value) (hv : xs[i]? = some v) : (part t xs i).run P w = .ok v w := by
  have ha : (isAgg t).run P w = .ok false w := by
    unfold isAgg
    rw [Sem.run_bind, run_underlying h w]
    rfl
  simp [go_sem, part, ha, hv]
/-- One field of two structs more is compared. -/
theorem run_eqField (P : Program) (w : World) (d : Nat) (xs ys : Array Value) (f : Field) (fs : List Field) (a b : Int) (hn : f.name ≠ "_") (ht : P.underlying f.type = some (.int .i64)) (hx : xs[f.offset]? = some (.int .i64 a)) (hy : ys[f.offset]? = some (.int .i64 b)) (r : Bool)
    (h : (Op.eqFields (d + 1) xs ys fs).run P w = .ok r w) : (Op.eqFields (d + 1) xs ys (f :: fs)).run P w = .ok (decide (a = b) && r) w := by
  unfold Op.eqFields
  rw [if_pos hn]
  simp only [Sem.run_bind, run_part_int P w f.type .i64 ht _ _ _ hx, run_part_int P w f.type .i64 ht _ _ _ hy, Result.andThen_ok, run_equalIn_int (P := P) w d f.type .i64 .i64 a b ht]
  by_cases e : a = b
  · subst e; simp [h]
  · simp [e]
set_option maxRecDepth 100000 in
theorem run_eq32 (x y : Cl) (w : World) : (Op.equalIn (9999 + 1) 32 (.agg (clCells x).toArray) (.agg (clCells y).toArray)).run Tryd.prog w = .ok (decide (x = y)) w := by
  have hf : Tryd.prog.underlying 32 = some (.struct (Tryd.prog.fieldsOf 32)) := by simp only [Program.fieldsOf, Tryd.underlying32]
  rw [run_equalIn_struct w 9999 32 _ _ hf (by kernel_rfl)]
  simp only [Program.fieldsOf, Tryd.underlying32, clCells]
  have key : decide (x = y) = (decide (x.task = y.task) && (decide (x.method = y.method) && (decide (x.arg = y.arg) && (decide (x.result = y.result) && (decide (x.begin_ = y.begin_) && (decide (x.end_ = y.end_) && true)))))) := by
    obtain ⟨a0, a1, a2, a3, a4, a5⟩ := x
    obtain ⟨b0, b1, b2, b3, b4, b5⟩ := y
    simp only [Cl.mk.injEq]
    simp only [Bool.decide_and, Bool.and_true]
  rw [key]
  refine run_eqField _ _ 9998 _ _ _ _ _ _ (by decide) Tryd.underlying3 rfl rfl _ ?_
  refine run_eqField _ _ 9998 _ _ _ _ _ _ (by decide) Tryd.underlying3 rfl rfl _ ?_
  refine run_eqField _ _ 9998 _ _ _ _ _ _ (by decide) Tryd.underlying3 rfl rfl _ ?_
  refine run_eqField _ _ 9998 _ _ _ _ _ _ (by decide) Tryd.underlying3 rfl rfl _ ?_
  refine run_eqField _ _ 9998 _ _ _ _ _ _ (by decide) Tryd.underlying3 rfl rfl _ ?_
  refine run_eqField _ _ 9998 _ _ _ _ _ _ (by decide) Tryd.underlying3 rfl rfl _ ?_
  rfl
set_option maxRecDepth 100000 in
theorem wpList_eq32 {ops : Array Oper} {rest : List Oper} {o : Oper} {a : Act} {w : World} {Q : Exit → Act → World → Prop} (hgd : o.guard = none) (p q : Operand) (ty : TypeId) (ho : o.op = .binOp .eql 32 p q ty)
    (x y : Cl) (hx : a.eval p = .agg (clCells x).toArray) (hy : a.eval q = .agg (clCells y).toArray)
    (h : wpList Tryd.prog ops Q rest (a.put o.dst (.bool (decide (x = y)))) w) : wpList Tryd.prog ops Q (o :: rest) a w :=
  wpList_plain hgd fun K hK => by
    have hg := run_eqGuard_agg (P := Tryd.prog) w .eql 32 p q (clCells x).toArray (clCells y).toArray (by kernel_rfl)
    have he := run_eql_struct (P := Tryd.prog) w 32 (clCells x).toArray (clCells y).toArray
    rw [show (10000 : Nat) = 9999 + 1 from rfl, run_eq32, Result.andThen_ok] at he
    unfold Oper.wp execOp
    simp only [ho, hx, hy, Sem.run_bind, hg, he, Result.andThen_ok]
    exact hK _ _ h
set_option maxRecDepth 100000 in
set_option maxHeartbeats 2000000 in
theorem index38 (l : List Cl) (v : Value) (x : Cl) (w : World) (hv : ClV w v l) (hx : x ∈ l) (hl : l.length ≤ 65536) : Calls Tryd.prog 38 #[v, .agg (clCells x).toArray] w fun e w' => ∃ k : Nat, e = .returned (.int .i64 k) ∧ Below w.heap.size w w' := by
  rcases hv.split with ⟨A, c, rfl, rfl⟩ | ⟨b, off, cap, rfl, hcap, hbw, hrow⟩
  · cases hx
  · obtain ⟨K, hK, hKx⟩ := List.getElem_of_mem hx
    go_enter Tryd.func38, Tryd.ntmps38
    go_wp2_with fail
    have hX : (w.alloc (.cells (clCells x).toArray 32)).heap[w.heap.size]? = some (.cells (clCells x).toArray 32 (0, 0)) := heap_alloc_new _ _
    have hB0 : Below w.heap.size w (w.alloc (.cells (clCells x).toArray 32)) := (Below.refl _ _).alloc (Nat.le_refl _) _
    simp only [clCells] at hX hB0
    go_loopw [8] (fun i wr => ∃ k : Nat, k ≤ K ∧ i = .int .i64 k ∧ wr.heap[w.heap.size]? = some (.cells #[.int .i64 x.task, .int .i64 x.method, .int .i64 x.arg, .int .i64 x.result, .int .i64 x.begin_, .int .i64 x.end_] 32 (0, 0)) ∧ Below w.heap.size w wr) (fun i _ => l.length - (intOf i).toNat)
    case atStart => exact ⟨0, Nat.zero_le _, rfl, hX, hB0⟩
    case round =>
      obtain ⟨k, hk, rfl, hX2, hb⟩ := hrel
      have hlt : k < l.length := by omega
      have r1 : Row w b (off + k * 6) (clCells l[k]) := hrow k hlt
      have rX : Row wr w.heap.size 0 (clCells x) := by
        intro j u hj
        rw [Nat.zero_add, cell_heap hX2 j]
        simpa [clCells] using hj
      have hXlt : w.heap.size < wr.heap.size := (Array.getElem?_eq_some_iff.1 hX2).1
      clear hX hB0
      obtain ⟨y, hy⟩ : ∃ y, l[k] = y := ⟨_, rfl⟩
      rw [hy] at r1
      have HKx := Lib.hid hKx
      have Hy := Lib.hid hy
      have HX2 := Lib.hid hX2
      clear hKx hy hX2
      by_cases hxy : y = x
      · subst hxy
        go_wp2_with fail
        refine wp_region_det (by kernel_rfl) (by kernel_rfl) (fun w' => Below w.heap.size w w' ∧ Below wr.heap.size wr w') ⟨hb.drew, (Below.refl _ _).drew⟩ ?_
        iterate 6
          apply wpDet_cons
          · rintro wx ⟨hx1, hx2⟩
            have g1 := r1.below hx1 hbw
            have g2 := rX.below hx2 hXlt
            go_wp2_with (first
              | ((with_reducible refine wpList_load_agg (o := ⟨some 11, .load 32 (.tmp 3), _, _, _, none⟩) rfl 32 _ rfl w.heap.size 0 ?_ _ g2 _ Tryd.underlying32 rfl ?_ ?_); (focus rfl); (focus kernel_rfl); simp only [clCells])
              | ((with_reducible refine wpList_load_agg (o := ⟨some 15, .load 32 (.tmp 14), _, _, _, none⟩) rfl 32 _ rfl b (off + k * 6) ?_ _ g1 _ Tryd.underlying32 rfl ?_ ?_); (focus rfl); (focus kernel_rfl); simp only [clCells]))
            exact ⟨rfl, rfl, hx1, hx2⟩
          go_frame
        rintro w2 ⟨hb2, hb3⟩
        go_wp2_with fail
        go_ret
        exact ⟨_, rfl, hb2⟩
      · go_wp2_with fail
        refine wp_region_det (by kernel_rfl) (by kernel_rfl) (fun w' => Below w.heap.size w w' ∧ Below wr.heap.size wr w') ⟨hb.drew, (Below.refl _ _).drew⟩ ?_
        iterate 5
          apply wpDet_cons
          · rintro wx ⟨hx1, hx2⟩
            have g1 := r1.below hx1 hbw
            have g2 := rX.below hx2 hXlt
            go_wp2_with (first
              | ((with_reducible refine wpList_load_agg (o := ⟨some 11, .load 32 (.tmp 3), _, _, _, none⟩) rfl 32 _ rfl w.heap.size 0 ?_ _ g2 _ Tryd.underlying32 rfl ?_ ?_); (focus rfl); (focus kernel_rfl); simp only [clCells])
              | ((with_reducible refine wpList_load_agg (o := ⟨some 15, .load 32 (.tmp 14), _, _, _, none⟩) rfl 32 _ rfl b (off + k * 6) ?_ _ g1 _ Tryd.underlying32 rfl ?_ ?_); (focus rfl); (focus kernel_rfl); simp only [clCells]))
            exact ⟨rfl, rfl, hx1, hx2⟩
          go_frame
        refine wpDet_cons (v := .bool false) ?_ ?_
        · rintro wx ⟨hx1, hx2⟩
          refine wpList_eq32 rfl _ _ _ rfl x y rfl rfl ?_
          rw [decide_eq_false (fun e => hxy e.symm)]
          exact ⟨rfl, rfl, hx1, hx2⟩
        go_frame
        rintro w2 ⟨hb2, hb3⟩
        have hX3 : w2.heap[w.heap.size]? = some (.cells #[.int .i64 x.task, .int .i64 x.method, .int .i64 x.arg, .int .i64 x.result, .int .i64 x.begin_, .int .i64 x.end_] 32 (0, 0)) := (hb3.block _ hXlt).trans HX2.out
        have HX3 := Lib.hid hX3
        clear hX3
        go_wp2_with fail
        go_roundw
        case rel =>
          refine ⟨k + 1, ?_, by go_num, HX3.out, hb2⟩
          have h1 : k ≠ K := by
            intro e
            subst e
            exact hxy (Hy.out.symm.trans HKx.out)
          omega
        case measure => simp [intOf]; omega
set_option maxRecDepth 100000 in
theorem contains25 (l : List Cl) (v : Value) (x : Cl) (w : World) (hv : ClV w v l) (hx : x ∈ l) (hl : l.length ≤ 65536) : Calls Tryd.prog 25 #[v, .agg (clCells x).toArray] w fun e w' => e = .returned (.bool true) ∧ Below w.heap.size w w' := by
  have hB0 : Below w.heap.size w (w.alloc (.cells (clCells x).toArray 32)) := (Below.refl _ _).alloc (Nat.le_refl _) _
  have rX : Row (w.alloc (.cells (clCells x).toArray 32)) w.heap.size 0 (clCells x) := Row.new _ _ _ _ rfl
  have n0 := index38 l v x (w.alloc (.cells (clCells x).toArray 32)) (hv.below hB0) hx hl
  go_enter Tryd.func25, Tryd.ntmps25
  go_wp2_with ((with_reducible refine wpList_load_agg (o := ⟨some 6, .load 32 (.tmp 3), _, _, _, none⟩) rfl 32 _ rfl w.heap.size 0 ?_ _ rX _ Tryd.underlying32 rfl ?_ ?_); (focus rfl); (focus kernel_rfl))
  refine n0.mono ?_
  rintro e w1 ⟨k, rfl, hb1⟩
  clear n0 rX
  have hk : (0 : Int) ≤ k := by omega
  go_wp2_with fail
  go_ret
  exact ⟨rfl, hB0.trans (hb1.mono hB0.size)⟩
set_option maxRecDepth 100000 in
theorem less39 (a b : Int) (w : World) : Calls Tryd.prog 39 #[.int .i64 a, .int .i64 b] w fun e w' => e = .returned (.bool (decide (a < b))) ∧ Below w.heap.size w w' := by
  have n56 : ∀ (a : Int) (w : World), Calls Tryd.prog 56 #[.int .i64 a] w fun e w' => e = .returned (.bool false) ∧ Below w.heap.size w w' := by
    intro a w
    go_enter Tryd.func56, Tryd.ntmps56
    go_wp2_with fail
    go_ret
    exact ⟨rfl, Below.refl _ _⟩
  go_enter Tryd.func39, Tryd.ntmps39
  go_wp2_with fail
  refine (n56 _ _).mono ?_
  rintro e w1 ⟨rfl, hb1⟩
  go_wp2_with fail
  go_ret
  exact ⟨rfl, hb1⟩
set_option maxRecDepth 100000 in
set_option maxHeartbeats 2000000 in
theorem sorted26 (l : List Int) (v : Value) (w : World) (hv : LV IE w v l) (hup : ∀ i (h : i + 1 < l.length), l[i] < l[i + 1]) (hl : l.length ≤ 65536) : Calls Tryd.prog 26 #[v] w (YPost w) := by
  rcases hv.split with ⟨A, c, rfl, rfl⟩ | ⟨b, off, cap, rfl, hcap, hbw, hrow⟩
  · go_enter Tryd.func26, Tryd.ntmps26
    go_wp2_with fail
    refine wp_loop_rounds 1 ?_
    rw [rounds_succ]
    go_wp2_with fail
    go_ret
    exact ⟨rfl, Below.refl _ _⟩
  · by_cases h0 : l.length = 0
    · rw [h0]
      go_enter Tryd.func26, Tryd.ntmps26
      go_wp2_with fail
      refine wp_loop_rounds 1 ?_
      rw [rounds_succ]
      go_wp2_with fail
      go_ret
      exact ⟨rfl, Below.refl _ _⟩
    · have hat := int_at hrow
      obtain ⟨N, hN⟩ : ∃ N, l.length = N + 1 := ⟨l.length - 1, by omega⟩
      rw [hN] at hat hl hcap ⊢
      clear hv
      go_enter Tryd.func26, Tryd.ntmps26
      go_wp2_with fail
      go_loopw [3] (fun i wr => ∃ k : Nat, k ≤ N ∧ i = .int .i64 k ∧ Below w.heap.size w wr) (fun i _ => (intOf i).toNat)
      case atStart => exact ⟨N, Nat.le_refl _, by simp, Below.refl _ _⟩
      case round =>
        obtain ⟨k, hk, rfl, hb⟩ := hrel
        rcases Nat.eq_zero_or_pos k with rfl | hk0
        · go_wp2_with fail
          go_ret
          exact ⟨rfl, hb⟩
        · obtain ⟨m, rfl⟩ : ∃ m, k = m + 1 := ⟨k - 1, by omega⟩
          have c1 := hat (m + 1) (by omega)
          have c2 := hat m (by omega)
          have hlt := hup m (by omega)
          have e1 : l.getD (m + 1) 0 = l[m + 1] := by simp [List.getD_eq_getElem?_getD, show m + 1 < l.length by omega]
          have e2 : l.getD m 0 = l[m] := by simp [List.getD_eq_getElem?_getD, show m < l.length by omega]
          rw [e1] at c1
          rw [e2] at c2
          obtain ⟨x, hx⟩ : ∃ x, l[m + 1] = x := ⟨_, rfl⟩
          obtain ⟨y, hy⟩ : ∃ y, l[m] = y := ⟨_, rfl⟩
          rw [hx] at c1 hlt
          rw [hy] at c2 hlt
          clear e1 e2 hx hy hat
          have hxy : decide (x < y) = false := decide_eq_false (by omega)
          have em : ((m + 1 : Nat) : Int) - 1 = (m : Int) := by omega
          go_wp2_with fail
          refine wp_region_det (by kernel_rfl) (by kernel_rfl) (fun w' => Below w.heap.size w w') hb.drew ?_
          iterate 10
            apply wpDet_cons
            · rintro wx hx
              have g1 := (hx.cell (p := ⟨b, off + (m + 1), none⟩) hbw).trans c1
              have g2 := (hx.cell (p := ⟨b, off + m, none⟩) hbw).trans c2
              go_wp2_with (go_at_call 39; refine (less39 _ _ _).mono ?_; rintro e w' ⟨rfl, hbk⟩)
              first | exact ⟨rfl, rfl, hx⟩ | exact ⟨rfl, rfl, hx.trans (hbk.mono hx.size)⟩
            go_frame
          rintro w2 hb2
          go_wp2_with fail
          go_roundw
          case rel => exact ⟨m, by omega, by go_num, hb2⟩
          case measure => simp [intOf]
end Go.Proofs.YtgeclafcbgocgaaDoor

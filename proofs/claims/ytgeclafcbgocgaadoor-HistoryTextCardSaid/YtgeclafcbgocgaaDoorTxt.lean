/- Text, by the program. -/
import Derived.Test.YtgeclafcbgocgaaDoorChk
import Derived.Test.YtgeclafcbgocgaaDoorEnv
import Derived.Test.YtgeclafcbgocgaaDoorDtl
import Derived.Test.YtgeclafcbgocgaaDoorDec
namespace Go.Proofs.YtgeclafcbgocgaaDoor
open Go.RowKit
def bLine (x : Cl) : List UInt8 := Lib.itoa x.task ++ ([32, 98, 101, 103, 105, 110, 32] ++ (Lib.itoa x.method ++ (32 :: (Lib.itoa x.arg ++ [10]))))
def eLine (x : Cl) : List UInt8 := Lib.itoa x.task ++ ([32, 101, 110, 100, 32] ++ (Lib.itoa x.result ++ [10]))
def putL (a : List (List UInt8)) (x : Cl) : List (List UInt8) := if x.end_ = -1 then a.set x.begin_.toNat (bLine x) else (a.set x.begin_.toNat (bLine x)).set x.end_.toNat (eLine x)
def linesOf (l : List Cl) (n : Nat) : List (List UInt8) := l.foldl putL (List.replicate n [])
theorem putL_len (a : List (List UInt8)) (x : Cl) : (putL a x).length = a.length := by unfold putL; split <;> simp
theorem linesOf_len (n : Nat) : ∀ (l : List Cl), (linesOf l n).length = n := by
  have key : ∀ (l : List Cl) (a : List (List UInt8)), (l.foldl putL a).length = a.length := by
    intro l
    induction l with
    | nil => intro a; rfl
    | cons x l ih => intro a; rw [List.foldl_cons, ih, putL_len]
  intro l
  unfold linesOf
  rw [key]
  simp
theorem linesOf_take (l : List Cl) (n k : Nat) (h : k < l.length) : linesOf (l.take (k + 1)) n = putL (linesOf (l.take k) n) l[k] := by
  unfold linesOf
  rw [take_snoc l k h, List.foldl_append]
  rfl
def textB (l : List Cl) : List UInt8 := (linesOf l (2 * l.length)).flatten
/-- What lies in memory while a line is made. -/
structure TxS (w : World) (Lb Nx : Nat) (a : List (List UInt8)) (x : Cl) (W : World) : Prop where
  env : Env W
  blw : Below w.heap.size w W
  ln : W.heap[Lb]? = some (.cells (a.map strV).toArray 9 (0, 0))
  bx : W.heap[Nx]? = some (.cells (clCells x).toArray 32 (0, 0))
theorem TxS.below {w W W1 : World} {Lb Nx : Nat} {a : List (List UInt8)} {x : Cl} (h : TxS w Lb Nx a x W) (hb : Below W.heap.size W W1) : TxS w Lb Nx a x W1 :=
  ⟨h.env.below hb, h.blw.trans (hb.mono h.blw.size), (hb.block _ (Array.getElem?_eq_some_iff.1 h.ln).1).trans h.ln, (hb.block _ (Array.getElem?_eq_some_iff.1 h.bx).1).trans h.bx⟩
theorem TxS.put {w W : World} {Lb Nx : Nat} {a : List (List UInt8)} {x : Cl} (h : TxS w Lb Nx a x W) (hw : w.heap.size ≤ Lb) (h8 : 8 ≤ Lb) (hn : Nx ≠ Lb) (j : Nat) (s : List UInt8) : TxS w Lb Nx (a.set j s) x (W.setCell ⟨Lb, j, none⟩ (strV s)) := by
  refine ⟨h.env.below' (B := 8) ((Below.refl _ _).setCell (by exact h8) _) (Nat.le_refl _), h.blw.setCell (by exact hw) _, ?_, (setCell_other j _ hn).trans h.bx⟩
  rw [setCell_heap h.ln j _, List.map_set]
  simp
theorem inf9 : (Tryd.prog.info? 9).map (fun i => (i.zero, i.size, i.bytes)) = some (some (.string ⟨#[]⟩), 1, 16) := by kernel_rfl
theorem mk49 (W : World) (n : Nat) (hn : n ≤ 100000) : (Instr.makeSlice 49 (.int .i64 (2 * (n : Int))) (.int .i64 (2 * (n : Int)))).run Tryd.prog W = .ok (.slice (some ⟨W.heap.size, 0, none⟩) (2 * n) (2 * n)) (W.alloc (.cells ((List.replicate (2 * n) ([] : List UInt8)).map strV).toArray 9)) := by
  obtain ⟨i, hi, h0, h1, h2⟩ := info_parts inf9
  have := run_makeSlice (P := Tryd.prog) W 49 9 i _ Tryd.underlying49 hi h0 .i64 .i64 (2 * (n : Int)) (2 * (n : Int)) (by omega) (Int.le_refl _) (by rw [h1]; omega) (by rw [h2]; omega) (by omega)
  have e : madeCells (Value.string ⟨#[]⟩).cells (2 * n) = ((List.replicate (2 * n) ([] : List UInt8)).map strV).toArray := Array.toList_inj.1 ((toList_madeCells_one (.string ⟨#[]⟩) (2 * n)).trans (by rw [List.map_replicate]; rfl))
  rw [this, h1, Nat.mul_one, show (2 * (n : Int)).toNat = 2 * n from by omega, e]
theorem itoa_short (n : Int) (h0 : -1099511627776 ≤ n) (h1 : n ≤ 1099511627776) : (Lib.itoa n).length ≤ 21 := Lib.itoa_length_le n (by omega) (by omega)
theorem bcat (a b c : List UInt8) : (ByteArray.mk a.toArray ++ ByteArray.mk #[32, 98, 101, 103, 105, 110, 32] ++ ByteArray.mk b.toArray ++ ByteArray.mk #[32] ++ ByteArray.mk c.toArray ++ ByteArray.mk #[10]) = ByteArray.mk (a ++ ([32, 98, 101, 103, 105, 110, 32] ++ (b ++ (32 :: (c ++ [10]))))).toArray := by
  have e : ∀ (l r : List UInt8), (ByteArray.mk l.toArray) ++ (ByteArray.mk r.toArray) = ByteArray.mk (l ++ r).toArray := cat2
  rw [show (#[32, 98, 101, 103, 105, 110, 32] : Array UInt8) = ([32, 98, 101, 103, 105, 110, 32] : List UInt8).toArray from rfl, show (#[32] : Array UInt8) = ([32] : List UInt8).toArray from rfl, show (#[10] : Array UInt8) = ([10] : List UInt8).toArray from rfl, e, e, e, e, e]
  simp
theorem ecat (a b : List UInt8) : (ByteArray.mk a.toArray ++ ByteArray.mk #[32, 101, 110, 100, 32] ++ ByteArray.mk b.toArray ++ ByteArray.mk #[10]) = ByteArray.mk (a ++ ([32, 101, 110, 100, 32] ++ (b ++ [10]))).toArray := by
  have e : ∀ (l r : List UInt8), (ByteArray.mk l.toArray) ++ (ByteArray.mk r.toArray) = ByteArray.mk (l ++ r).toArray := cat2
  rw [show (#[32, 101, 110, 100, 32] : Array UInt8) = ([32, 101, 110, 100, 32] : List UInt8).toArray from rfl, show (#[10] : Array UInt8) = ([10] : List UInt8).toArray from rfl, e, e, e]
  simp
def textH (l : List Cl) : List UInt8 := if chkH l = 0 then textB l else []
theorem join_nosep (a : List (List UInt8)) : Lib.join a [] = a.flatten := by
  unfold Lib.join List.intercalate
  induction a with
  | nil => rfl
  | cons x a ih =>
    cases a with
    | nil => simp
    | cons y a => 
      rw [List.intersperse_cons_cons, List.flatten_cons, List.flatten_cons, ih]
      simp
theorem flatten_le (a : List (List UInt8)) (h : ∀ s ∈ a, s.length ≤ 100) : a.flatten.length ≤ a.length * 100 := by
  induction a with
  | nil => simp
  | cons x a ih =>
    have h1 := h x (List.mem_cons_self ..)
    have h2 := ih fun s hs => h s (List.mem_cons_of_mem _ hs)
    rw [List.flatten_cons, List.length_append, List.length_cons, Nat.succ_mul]
    omega
theorem join28 (a : List (List UInt8)) (n Lb : Nat) (W : World) (hn : a.length = n) (hL : W.heap[Lb]? = some (.cells (a.map strV).toArray 9 (0, 0))) (hs : ∀ s ∈ a, s.length ≤ 100) (ha : n ≤ 100000) :
    Calls Tryd.prog 28 #[.slice (some ⟨Lb, 0, none⟩) n n, .string ⟨#[]⟩] W fun e w' => e = .returned (strV a.flatten) ∧ Below W.heap.size W w' := by
  subst hn
  have hfl := flatten_le a hs
  have hm : (a.map (fun s => ByteArray.mk s.toArray)).map (·.data.toList) = a := by rw [List.map_map]; exact List.map_id' a
  have := Tryd.strings_Join Lb 0 a.length (a.map fun s => ByteArray.mk s.toArray) ⟨#[]⟩ W (fun j x hj => by
    rw [cell_heap hL (0 + j)]
    rw [List.getElem?_map] at hj
    cases hq : a[j]? with
    | none => rw [hq] at hj; cases hj
    | some s =>
      rw [hq] at hj
      obtain rfl := Option.some.inj hj
      simp [hq, strV]) (Array.getElem?_eq_some_iff.1 hL).1 (by rw [List.length_map]; omega) (by rw [List.length_map]; exact Nat.le_refl _) (by
      rw [hm, show (ByteArray.mk #[]).data.toList = [] from rfl, join_nosep]; omega)
  rw [List.length_map, hm, show (ByteArray.mk #[]).data.toList = [] from rfl, join_nosep] at this
  exact this
theorem bLine_le (x : Cl) (h : rangeOk x = true) : (bLine x).length ≤ 100 ∧ (eLine x).length ≤ 100 := by
  simp only [rangeOk, inB, Bool.and_eq_true, decide_eq_true_eq] at h
  have l1 := itoa_short x.task (by omega) (by omega)
  have l2 := itoa_short x.method (by omega) (by omega)
  have l3 := itoa_short x.arg (by omega) (by omega)
  have l4 := itoa_short x.result (by omega) (by omega)
  unfold bLine eLine
  constructor <;> simp <;> omega
theorem mem_set' {α : Type} {a : List α} {i : Nat} {x y : α} (h : y ∈ a.set i x) : y = x ∨ y ∈ a := by
  rcases List.mem_or_eq_of_mem_set h with h | h
  · exact .inr h
  · exact .inl h
theorem linesOf_short (n : Nat) (l : List Cl) (h : ∀ x ∈ l, rangeOk x = true) : ∀ s ∈ linesOf l n, s.length ≤ 100 := by
  have key : ∀ (l : List Cl) (a : List (List UInt8)), (∀ x ∈ l, rangeOk x = true) → (∀ s ∈ a, s.length ≤ 100) → ∀ s ∈ l.foldl putL a, s.length ≤ 100 := by
    intro l
    induction l with
    | nil => intro a _ h; exact h
    | cons x l ih =>
      intro a hl ha
      rw [List.foldl_cons]
      refine ih _ (fun y hy => hl y (List.mem_cons_of_mem _ hy)) fun s hs => ?_
      obtain ⟨h1, h2⟩ := bLine_le x (hl x (List.mem_cons_self ..))
      unfold putL at hs
      split at hs
      · rcases mem_set' hs with rfl | hs
        · exact h1
        · exact ha s hs
      · rcases mem_set' hs with rfl | hs
        · exact h2
        · rcases mem_set' hs with rfl | hs
          · exact h1
          · exact ha s hs
  exact key l _ h fun s hs => by
    rw [List.mem_replicate] at hs
    rw [hs.2]
    exact Nat.zero_le _
set_option maxRecDepth 100000 in
set_option maxHeartbeats 4000000 in
theorem text10 (l : List Cl) (v : Value) (w : World) (hE : Env w) (hv : ClV w v l) (hl : l.length ≤ 65536) :
    Calls Tryd.prog 10 #[v] w fun e w' => e = .returned (.tuple #[strV (textH l), .int .i64 (chkH l)]) ∧ Below w.heap.size w w' := by
  have n0 := check15 l v w hv hl
  by_cases hc : chkH l = 0
  · have hR : textH l = textB l := if_pos hc
    have hH := hist_iff.1 hc
    rw [hR, hc]
    rw [hc] at n0
    rcases hv.split with ⟨A, c, rfl, rfl⟩ | ⟨b, off, cap, rfl, hcap, hbw, hrow⟩
    · have hmk : ∀ W, (Instr.makeSlice 49 (.int .i64 0) (.int .i64 0)).run Tryd.prog W = .ok (.slice (some ⟨W.heap.size, 0, none⟩) 0 0) (W.alloc (.cells #[] 9)) := fun W => mk49 W 0 (by omega)
      go_enter Tryd.func10, Tryd.ntmps10
      go_wp2_with fail
      refine n0.mono ?_
      rintro e w1 ⟨rfl, hb1⟩
      clear n0
      go_wp2_with fail
      refine wp_loop_rounds 1 ?_
      rw [rounds_succ]
      go_wp2_with fail
      refine (join28 [] 0 _ _ rfl (heap_alloc_new _ _) (by simp) (by omega)).mono ?_
      rintro e w2 ⟨rfl, hb2⟩
      go_wp2_with fail
      go_ret2
      exact ⟨rfl, (hb1.alloc hb1.size _).trans (hb2.mono (by simp; have := hb1.size; omega))⟩
    · clear hv hc hR
      have HH := Lib.hid hH
      have hlen := hH.len
      have hE8 := hE.top
      have hmk : ∀ W, _ := fun W => mk49 W l.length (by omega)
      clear hH
      go_enter Tryd.func10, Tryd.ntmps10
      go_wp2_with fail
      refine n0.mono ?_
      rintro e w1 ⟨rfl, hb1⟩
      clear n0
      have hs1 := hb1.size
      have hE1 := hE.below hb1
      go_wp2_with fail
      go_loopw [19] (fun i wr => ∃ k : Nat, k ≤ l.length ∧ i = .int .i64 k ∧ wr.heap[w1.heap.size]? = some (.cells ((linesOf (l.take k) (2 * l.length)).map strV).toArray 9 (0, 0)) ∧ Env wr ∧ Below w.heap.size w wr) (fun i _ => l.length - (intOf i).toNat)
      case atStart => exact ⟨0, Nat.zero_le _, rfl, (heap_alloc_new _ _).trans (by simp [linesOf]), hE1.alloc _, hb1.alloc hs1 _⟩
      case round =>
        obtain ⟨k, hk, rfl, hL, hEr, hb⟩ := hrel
        have hsz := hb.size
        have hLb : w1.heap.size < wr.heap.size := (Array.getElem?_eq_some_iff.1 hL).1
        by_cases hlt : k < l.length
        · have hr' : Row wr b (off + k * 6) (clCells l[k]) := (hrow k hlt).below hb hbw
          have ts : TxS w w1.heap.size wr.heap.size (linesOf (l.take k) (2 * l.length)) l[k] (wr.alloc (.cells (clCells l[k]).toArray 32)) := ⟨hEr.alloc _, hb.alloc hsz _, (heap_alloc_lt _ _ hLb).trans hL, heap_alloc_new _ _⟩
          have hx := HH.out.toCalls0.rng _ (List.getElem_mem hlt)
          have hxt := HH.out.toCalls0.tim _ (List.getElem_mem hlt)
          have Hts := Lib.hid ts
          clear ts hL hEr hb
          go_upto_region 8 with ((with_reducible refine wpList_load_agg (o := ⟨some 22, .load 32 (.tmp 21), _, _, _, none⟩) rfl 32 _ rfl b (off + k * 6) ?_ _ hr' _ Tryd.underlying32 rfl ?_ ?_); (focus rfl); (focus kernel_rfl); simp only [clCells])
          have hm0 := count_le_of HH.out.toCalls0 HH.out.cnt
          have hml : (marks l).length ≤ 2 * l.length := by
            have := marks_len l
            have := cntE_le l
            omega
          have hbeg := (hm0.1 _ (mem_marks.2 ⟨l[k], List.getElem_mem hlt, .inl rfl⟩))
          have hend : l[k].end_ ≠ -1 → 0 ≤ l[k].end_ ∧ l[k].end_ < (marks l).length := fun h => hm0.1 _ (mem_marks.2 ⟨l[k], List.getElem_mem hlt, .inr ⟨h, rfl⟩⟩)
          clear hm0 hr'
          have Hput : Hid (linesOf (l.take (k + 1)) (2 * l.length) = putL (linesOf (l.take k) (2 * l.length)) l[k]) := linesOf_take l _ k hlt
          have hal := linesOf_len (2 * l.length) (l.take k)
          generalize linesOf (l.take k) (2 * l.length) = a at *
          generalize (marks l).length = M at *
          obtain ⟨x, hxe⟩ : ∃ x, l[k] = x := ⟨_, rfl⟩
          rw [hxe] at hbeg hend hx hxt Hts Hput ⊢
          clear hxe
          obtain ⟨B, hB, hB2⟩ : ∃ B : Nat, x.begin_ = B ∧ B < 2 * l.length := ⟨x.begin_.toNat, by omega, by omega⟩
          obtain ⟨a0, a1, a2, a3, a4, a5⟩ := x
          simp only [rangeOk, inB, Bool.and_eq_true, decide_eq_true_eq] at hx
          simp only at hB hbeg hend hxt
          subst hB
          have l1 := itoa_short a0 (by omega) (by omega)
          have l2 := itoa_short a1 (by omega) (by omega)
          have l3 := itoa_short a2 (by omega) (by omega)
          have l4 := itoa_short a3 (by omega) (by omega)
          obtain ⟨wm, hwm⟩ : ∃ x, x = wr := ⟨_, rfl⟩
          subst hwm
          refine wp_region_tail 18 (by kernel_rfl) (by kernel_rfl) (fun W => TxS w w1.heap.size wm.heap.size a ⟨a0, a1, a2, a3, B, a5⟩ W) (Hts.out.below ((Below.refl _ _).drew)) ?_
          iterate 18
            apply wpDetT_cons
            · intro wx hx
              have hEx := hx.env
              have hbx := hx.bx
              have c0 : wx.cell? ⟨wm.heap.size, 0, none⟩ = some (.int .i64 a0) := cell_heap hbx 0
              have c1 : wx.cell? ⟨wm.heap.size, 1, none⟩ = some (.int .i64 a1) := cell_heap hbx 1
              have c2 : wx.cell? ⟨wm.heap.size, 2, none⟩ = some (.int .i64 a2) := cell_heap hbx 2
              have c4 : wx.cell? ⟨wm.heap.size, 4, none⟩ = some (.int .i64 B) := cell_heap hbx 4
              clear hbx
              go_wp2_with (go_at_call 27; refine (itoa27 _ _ hEx (by omega) (by omega)).mono ?_; rintro e w' ⟨rfl, hbk⟩)
              first | exact ⟨rfl, rfl, hx⟩ | exact ⟨rfl, rfl, hx.below hbk⟩
            go_frame
          intro wx hx
          have hfL : wx.frozen? ⟨w1.heap.size, B, none⟩ = false := frozen_heap hx.ln B
          have hcL : wx.cell? ⟨w1.heap.size, B, none⟩ = some (.string ⟨(a[B]'(by omega)).toArray⟩) := by rw [cell_heap hx.ln B]; simp [hal, hB2, strV]
          have hbc : _ = ByteArray.mk (bLine ⟨a0, a1, a2, a3, B, a5⟩).toArray := bcat (Lib.itoa a0) (Lib.itoa a1) (Lib.itoa a2)
          rw [hbc]
          clear hbc
          have hts2 : TxS w w1.heap.size wm.heap.size (a.set B (bLine ⟨a0, a1, a2, a3, B, a5⟩)) ⟨a0, a1, a2, a3, B, a5⟩ (wx.setCell ⟨w1.heap.size, B, none⟩ (.string ⟨(bLine ⟨a0, a1, a2, a3, B, a5⟩).toArray⟩)) := hx.put hs1 (by omega) (by omega) B _
          clear hx
          go_upto_region 9 with fail
          generalize wx.setCell ⟨w1.heap.size, B, none⟩ (.string ⟨(bLine ⟨a0, a1, a2, a3, B, a5⟩).toArray⟩) = wy at *
          have hbx := hts2.bx
          have c5 : wy.cell? ⟨wm.heap.size, 5, none⟩ = some (.int .i64 a5) := cell_heap hbx 5
          rcases Bool.eq_false_or_eq_true (a5 != -1) with ht | ht
          · have ht1 : a5 ≠ -1 := by simpa using ht
            have hend2 := hend ht1
            obtain ⟨T, hT, hT2⟩ : ∃ T : Nat, a5 = T ∧ T < 2 * l.length := ⟨a5.toNat, by omega, by omega⟩
            have hnew : putL a ⟨a0, a1, a2, a3, B, a5⟩ = (a.set B (bLine ⟨a0, a1, a2, a3, B, a5⟩)).set T (eLine ⟨a0, a1, a2, a3, B, a5⟩) := by
              unfold putL
              rw [if_neg ht1, hT]
              rfl
            rw [hnew] at Hput
            have hal2 : (a.set B (bLine ⟨a0, a1, a2, a3, B, a5⟩)).length = 2 * l.length := by rw [List.length_set]; exact hal
            generalize (a.set B (bLine ⟨a0, a1, a2, a3, B, a5⟩)) = a' at *
            clear hnew ht1 hend hbx hcL hfL Hts
            have Hts2 := Lib.hid hts2
            clear hts2
            subst hT
            go_upto_region 10 with fail
            refine wp_region_tail 13 (by kernel_rfl) (by kernel_rfl) (fun W => TxS w w1.heap.size wm.heap.size a' ⟨a0, a1, a2, a3, B, T⟩ W) (Hts2.out.below ((Below.refl _ _).drew)) ?_
            iterate 13
              apply wpDetT_cons
              · intro wx hx
                have hEx := hx.env
                have hbx := hx.bx
                have c0 : wx.cell? ⟨wm.heap.size, 0, none⟩ = some (.int .i64 a0) := cell_heap hbx 0
                have c3 : wx.cell? ⟨wm.heap.size, 3, none⟩ = some (.int .i64 a3) := cell_heap hbx 3
                have c5 : wx.cell? ⟨wm.heap.size, 5, none⟩ = some (.int .i64 T) := cell_heap hbx 5
                clear hbx
                go_wp2_with (go_at_call 27; refine (itoa27 _ _ hEx (by omega) (by omega)).mono ?_; rintro e w' ⟨rfl, hbk⟩)
                first | exact ⟨rfl, rfl, hx⟩ | exact ⟨rfl, rfl, hx.below hbk⟩
              go_frame
            intro wx hx
            have hfL : wx.frozen? ⟨w1.heap.size, T, none⟩ = false := frozen_heap hx.ln T
            have hcL : wx.cell? ⟨w1.heap.size, T, none⟩ = some (.string ⟨(a'[T]'(by omega)).toArray⟩) := by rw [cell_heap hx.ln T]; simp [hal2, hT2, strV]
            have hbc : _ = ByteArray.mk (eLine ⟨a0, a1, a2, a3, B, T⟩).toArray := ecat (Lib.itoa a0) (Lib.itoa a3)
            rw [hbc]
            clear hbc
            have hts3 : TxS w w1.heap.size wm.heap.size (a'.set T (eLine ⟨a0, a1, a2, a3, B, T⟩)) ⟨a0, a1, a2, a3, B, T⟩ (wx.setCell ⟨w1.heap.size, T, none⟩ (.string ⟨(eLine ⟨a0, a1, a2, a3, B, T⟩).toArray⟩)) := hx.put hs1 (by omega) (by omega) T _
            have Hts3 := Lib.hid hts3
            clear hts3 hx
            go_wp2_with fail
            go_roundw
            case rel => exact ⟨k + 1, by omega, by go_num, by rw [Hput.out]; exact Hts3.out.ln, Hts3.out.env, Hts3.out.blw⟩
            case measure => simp [intOf]; omega
          · have ht1 : a5 = -1 := by simpa using ht
            have hnew : putL a ⟨a0, a1, a2, a3, B, a5⟩ = a.set B (bLine ⟨a0, a1, a2, a3, B, a5⟩) := by
              unfold putL
              rw [if_pos ht1]
              rfl
            rw [hnew] at Hput
            have Hts2 := Lib.hid hts2
            clear hts2 hnew ht1 hend hbx hcL hfL Hts
            go_wp2_with fail
            go_roundw
            case rel => exact ⟨k + 1, by omega, by go_num, by rw [Hput.out]; exact Hts2.out.ln, Hts2.out.env, Hts2.out.blw⟩
            case measure => simp [intOf]; omega
        · have hk' : k = l.length := by omega
          subst hk'
          rw [List.take_length] at hL
          have n1 := join28 _ (2 * l.length) _ wr (linesOf_len _ l) hL (linesOf_short _ l HH.out.toCalls0.rng) (by omega)
          clear hL
          go_wp2_with fail
          refine n1.mono ?_
          rintro e w2 ⟨rfl, hb2⟩
          clear n1
          go_wp2_with fail
          go_ret2
          exact ⟨rfl, hb.trans (hb2.mono hsz)⟩
  · have hR : textH l = [] := if_neg hc
    rw [hR]
    obtain ⟨x, hx⟩ : ∃ x, chkH l = x := ⟨_, rfl⟩
    rw [hx] at n0 hc ⊢
    have hx1 : (x != 0) = true := by simpa using hc
    clear hx hc hR
    go_enter Tryd.func10, Tryd.ntmps10
    go_wp2_with fail
    refine n0.mono ?_
    rintro e w1 ⟨rfl, hb1⟩
    clear n0
    go_wp2_with fail
    go_ret2
    exact ⟨rfl, hb1⟩
end Go.Proofs.YtgeclafcbgocgaaDoor

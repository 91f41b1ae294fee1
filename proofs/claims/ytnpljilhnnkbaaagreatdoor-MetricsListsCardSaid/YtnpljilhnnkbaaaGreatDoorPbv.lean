/- A part of the proof. -/
import Derived.Test.YtnpljilhnnkbaaaGreatDoorPbj
import Derived.Test.YtnpljilhnnkbaaaGreatDoorPbl
import Derived.Test.YtnpljilhnnkbaaaGreatDoorPbk
import Derived.Test.YtnpljilhnnkbaaaGreatDoorPbt
set_option linter.all false
section
namespace Go.Proofs.Seat8
open Go.RowKit Go.Proofs.Seat4
theorem T70 : ElemT Tryz.prog 70 9 1 16 := ElemT.mk' Tryz.underlying70 (z := .string ⟨#[]⟩) (by kernel_rfl) rfl (by decide)
def SW (A B C : World) (D : Nat → Bool) (wx : World) : Prop := wx = bif D 17 then C else bif D 13 then B else A
section
variable {A B C wx : World} {D : Nat → Bool} {i : Nat}
theorem SW.keep (h : SW A B C D wx) (h1 : (17 == i) = false) (h2 : (13 == i) = false) : SW A B C (fun j => D j || j == i) wx := by
  unfold SW at h ⊢
  simp only [h1, h2, Bool.or_false]
  exact h
theorem SW.pre (h : SW A B C D wx) (h1 : D 17 = false) (h2 : D 13 = false) : wx = A := by
  unfold SW at h
  rw [h1, h2] at h
  exact h
theorem SW.mid (h : SW A B C D wx) (h1 : D 17 = false) (h2 : D 13 = true) : wx = B := by
  unfold SW at h
  rw [h1, h2] at h
  exact h
theorem SW.fin (h : SW A B C D wx) (h1 : D 17 = true) : wx = C := by
  unfold SW at h
  rw [h1] at h
  exact h
theorem SW.below (h : SW A B C D wx) (h1 : D 17 = false) (hb : Below A.heap.size A B) : Below A.heap.size A wx := by
  cases e : D 13
  · rw [h.pre h1 e]; exact Below.refl _ _
  · rw [h.mid h1 e]; exact hb
theorem SW.made (h1 : D 17 = false) : SW A B C (fun j => D j || j == 13) B := by
  unfold SW
  simp [h1]
theorem SW.put : SW A B C (fun j => D j || j == 17) C := by
  unfold SW
  simp
end
theorem not17 {ops : Array Oper} {D : Nat → Bool} {i : Nat} (hC : Clo ops D) (hD : D i = false) (h : (match ops[17]? with | some o => o.after.any fun e => Region.binds .any e && e.on == i | none => false) = true) : D 17 = false := by
  cases e : D 17
  · rfl
  · have := clo_dep hC h e
    rw [hD] at this
    cases this
theorem split_hit {c : UInt8} {s p : List UInt8} {out : List (List UInt8)} {L : List (List UInt8)} {k : Nat} (h : k < s.length) (hc : s[k] = c) (hs : out ++ splitA c p (s.drop k) = L) : (out ++ [p]) ++ splitA c [] (s.drop (k + 1)) = L := by
  rw [List.drop_eq_getElem_cons h, splitA, if_pos hc] at hs
  simpa using hs
theorem split_miss {c : UInt8} {s p : List UInt8} {out : List (List UInt8)} {L : List (List UInt8)} {k : Nat} (h : k < s.length) (hc : s[k] ≠ c) (hs : out ++ splitA c p (s.drop k) = L) : out ++ splitA c (p ++ [s[k]]) (s.drop (k + 1)) = L := by
  rw [List.drop_eq_getElem_cons h, splitA, if_neg hc] at hs
  exact hs
theorem own_belowG {w w' : World} {base e size n : Nat} {v : Value} {xs : List Value} (h : w.ownsRow base e size v n xs) (hb : Below w.heap.size w w') : w'.ownsRow base e size v n xs := by
  refine ⟨h.1, ?_⟩
  rcases h.2 with h2 | ⟨g, cap, cur, hv, hbg, hg, hr⟩
  · exact .inl h2
  · exact .inr ⟨g, cap, cur, hv, hbg, (hb.block g (heap_lt hg)).trans hg, hr⟩
def zMt : Mt := ⟨[], 0, 0, 0, 0⟩
def MtAt (w : World) (b : Nat) (m : Mt) : Prop := w.heap[b]? = some (.cells (mtCells m).toArray 34 (0, 0))
theorem MtAt.below {w w' : World} {b B : Nat} {m : Mt} (h : MtAt w b m) (hb : Below B w w') (hB : b < B) : MtAt w' b m := (hb.block b hB).trans h
theorem MtAt.cells {w : World} {b : Nat} {m : Mt} (h : MtAt w b m) : w.cell? ⟨b, 0, none⟩ = some (.string ⟨m.name.toArray⟩) ∧ w.cell? ⟨b, 1, none⟩ = some (.int .i64 m.index) ∧ w.cell? ⟨b, 2, none⟩ = some (.int .i64 m.count) ∧ w.cell? ⟨b, 3, none⟩ = some (.int .i64 m.sum) ∧ w.cell? ⟨b, 4, none⟩ = some (.int .i64 m.mx) := ⟨cell_heap h 0, cell_heap h 1, cell_heap h 2, cell_heap h 3, cell_heap h 4⟩
theorem wpList_storeMt {ops : Array Oper} {rest : List Oper} {o : Oper} {a : Act} {w : World} {Q : Exit → Act → World → Prop} (hgd : o.guard = none) (x y : Operand) (ho : o.op = .store 34 x y)
    (b : Nat) (e e' : Mt) (hx : a.eval x = .pointer (some ⟨b, 0, none⟩)) (hy : a.eval y = .agg (mtCells e').toArray) (he : MtAt w b e)
    (h : ∀ w', MtAt w' b e' → (∀ B w0, Below B w0 w → B ≤ b → Below B w0 w') → (∀ k, k ≠ b → w'.heap[k]? = w.heap[k]?) → wpList Tryz.prog ops Q rest (a.put o.dst undef) w') : wpList Tryz.prog ops Q (o :: rest) a w :=
  wpList_plain hgd fun _ hK => wp_store_row 34 x y ho b _ hx hy 34 _ he (by kernel_rfl) (by simp [mtCells]) (by simp [mtCells, Value.oneCell']) (hK _ _ (h _ (setRow_heap w b _ _ _ (0, 0) he) (fun B w0 hb hB => hb.trans ⟨rfl, rfl, rfl, by simp [World.setRow], fun k hk => setRow_other w b k _ (by omega)⟩) (fun k hk => setRow_other w b k _ hk)))
def LPost (a : List UInt8) (w : World) (e : Ending) (w' : World) : Prop := ∃ (m : Mt) (ok : Bool), e = .returned (.tuple #[.agg (mtCells m).toArray, .bool ok]) ∧ Below w.heap.size w w' ∧ (ok = true → lineT m = a ++ [10] ∧ LineOk m) ∧ (ok = false → NoLine a)
set_option maxRecDepth 100000 in
set_option maxHeartbeats 4000000 in
theorem words35 (s : List UInt8) (w : World) (hs : s.length ≤ 100000) (h10 : (10 : UInt8) ∉ s) :
    Calls Tryz.prog 35 #[.string ⟨s.toArray⟩] w (LPost s w) := by
  go_enter Tryz.func35, Tryz.ntmps35
  go_wp2
  have hb0 : Below w.heap.size w (w.alloc (.cells #[.string ⟨#[]⟩, .int .i64 0, .int .i64 0, .int .i64 0, .int .i64 0] 34)) := (Below.refl _ _).alloc (Nat.le_refl _) _
  have hx0 : (w.alloc (.cells #[.string ⟨#[]⟩, .int .i64 0, .int .i64 0, .int .i64 0, .int .i64 0] 34)).heap[w.heap.size]? = some (.cells #[.string ⟨#[]⟩, .int .i64 0, .int .i64 0, .int .i64 0, .int .i64 0] 34 (0, 0)) := heap_alloc_new w _
  have hz0 : (w.alloc (.cells #[.string ⟨#[]⟩, .int .i64 0, .int .i64 0, .int .i64 0, .int .i64 0] 34)).heap.size = w.heap.size + 1 := by simp
  generalize (w.alloc (.cells #[.string ⟨#[]⟩, .int .i64 0, .int .i64 0, .int .i64 0, .int .i64 0] 34)) = W1 at *
  have hown1 : (W1.alloc (.cells #[.string ⟨#[]⟩] 9)).ownsRow (w.heap.size + 1) 9 1 (.slice (some ⟨w.heap.size + 1, 0, none⟩) 1 1) ([] ++ [([] : List UInt8)]).length (([] ++ [([] : List UInt8)]).map strV) := ⟨rfl, .inr ⟨w.heap.size + 1, 1, #[.string ⟨#[]⟩], rfl, Nat.le_refl _, by rw [← hz0]; exact heap_alloc_new W1 _, by decide, by decide, rfl, rfl⟩⟩
  have Hown1 := Lib.hid hown1
  have Hx0 := Lib.hid hx0
  have Hb0 := Lib.hid hb0
  have Hz0 := Lib.hid hz0
  clear hown1 hx0 hb0
  go_loopw [4, 5] (fun v i wr => ∃ (k : Nat) (out : List (List UInt8)) (p : List UInt8), k ≤ s.length ∧ i = .int .i64 k ∧ p.length ≤ k ∧ out.length ≤ k ∧ wr.ownsRow (w.heap.size + 1) 9 1 v (out.length + 1) (out.map strV ++ [strV p]) ∧ Hid (out ++ splitA 32 p (s.drop k) = splitA 32 [] s) ∧ Below (w.heap.size + 1) W1 wr) (fun _ i _ => s.length - (intOf i).toNat)
  case atStart => exact ⟨0, [], [], Nat.zero_le _, rfl, Nat.le_refl _, Nat.le_refl _, Hown1.out, rfl, (Below.refl _ _).alloc (by omega) _⟩
  case round =>
    obtain ⟨k, out, p, hk, rfl, hp, ho, hown, hsp, hb⟩ := hrel
    have hsz := hb.size
    by_cases hlt : k < s.length
    · by_cases hc : s[k] = 32
      · have ht : ((((ByteArray.mk s.toArray)[k]'hlt).toNat : Int) == 32) = true := by
          rw [show (ByteArray.mk s.toArray)[k]'hlt = s[k] from rfl, hc]
          rfl
        have Hsp := Lib.hid (split_hit hlt hc hsp.out)
        have Hown := Lib.hid hown
        have Hb := Lib.hid hb
        clear hsp hb hown Hown1 Hx0 Hb0
        go_wp2_with (at_builtin; refine wpList_app rfl _ _ 70 rfl (w.heap.size + 1) 9 1 16 T70 _ _ _ rfl (Hown.out.alloc _) wr.heap.size [strV []] rfl rfl (Row.new _ _ _ _ rfl) (by intro u hu; simp at hu; subst hu; rfl) (by omega) (by omega) (by simp; omega) ?_; intro v' w1 hown1 hgr1)
        have hg := (Hb.out.alloc (by omega) _).grown hgr1 (by simp; omega) (fun j hj => (Hown.out.lt j hj).1)
        refine ⟨⟨k + 1, out ++ [p], [], by omega, by simp, by simp, by simp; omega, ?_, Hsp.out, hg⟩, ?_⟩
        · simpa using hown1
        · simp [intOf]; omega
      · have ht : ((((ByteArray.mk s.toArray)[k]'hlt).toNat : Int) == 32) = false := by
          rw [show (ByteArray.mk s.toArray)[k]'hlt = s[k] from rfl, beq_eq_false_iff_ne]
          intro e
          exact hc (UInt8.toNat_inj.1 (by have : (32 : UInt8).toNat = 32 := rfl
                                          omega))
        have hsp' := split_miss hlt hc hsp.out
        obtain ⟨g, cap, cur, rfl, hbg, hg, hxl, hcn, hcs, hset⟩ := own_last hown
        have Hsp := Lib.hid hsp'
        have Hg := Lib.hid hg
        have Hcn := Lib.hid hcn
        have Hset := Lib.hid hset
        have Hb := Lib.hid hb
        have hgs := heap_lt hg
        simp only [List.length_map] at hxl
        clear hsp hsp' hb hown Hown1 Hx0 Hb0 hg hcn hset
        have hcv : (convert 57 9 (.slice (some ⟨wr.heap.size, 0, none⟩) 1 1)).run Tryz.prog (wr.alloc (.cells #[.int .u8 (((ByteArray.mk s.toArray)[k]'hlt).toNat : Int)] 5)).drew = .ok (.string ⟨#[(ByteArray.mk s.toArray)[k]'hlt]⟩) (wr.alloc (.cells #[.int .u8 (((ByteArray.mk s.toArray)[k]'hlt).toNat : Int)] 5)).drew := by
          have h := conv1 wr.drew (((ByteArray.mk s.toArray)[k]'hlt).toNat : Int) (by omega) (by have := (s[k]).toNat_lt; show ((s[k].toNat : Nat) : Int) < 256; omega)
          rw [Int.toNat_natCast, UInt8.ofNat_toNat] at h
          exact h
        have hpl : ¬ 9223372036854775807 < p.length + 1 := by omega
        have hc1 : wr.drew.cell? ⟨g, out.length, none⟩ = some (strV p) := by
          rw [cell_heap (show wr.drew.heap[g]? = _ from Hg.out)]
          exact Hcn.out
        have hf1 : wr.drew.frozen? ⟨g, out.length, none⟩ = false := frozen_heap (show wr.drew.heap[g]? = _ from Hg.out) _
        go_upto_region 7 with fail
        refine wp_region_detG (by kernel_rfl) (by kernel_rfl) (SW wr.drew (wr.alloc (.cells #[.int .u8 (((ByteArray.mk s.toArray)[k]'hlt).toNat : Int)] 5)).drew ((wr.setCell ⟨g, out.length, none⟩ (.string (ByteArray.mk p.toArray ++ ByteArray.mk #[(ByteArray.mk s.toArray)[k]'hlt]))).alloc (.cells #[.int .u8 (((ByteArray.mk s.toArray)[k]'hlt).toNat : Int)] 5)).drew) rfl ?_
        unfold strV at hc1
        have Hc1 := Lib.hid hc1
        have Hf1 := Lib.hid hf1
        clear hc1 hf1
        iterate 9
          apply wpDetG_cons
          · intro D wx hD hC hdep hS
            clear hdep
            go_wp2_with fail
            exact ⟨rfl, rfl, hS.keep rfl rfl⟩
          go_frame
        apply wpDetG_cons
        · intro D wx hD hC hdep hS
          have h17 := not17 (i := 9) hC hD (by kernel_rfl)
          have kc : wx.cell? ⟨g, out.length, none⟩ = some (.string ⟨p.toArray⟩) := by
            have := (hS.below h17 ((Below.refl _ _).alloc (Nat.le_refl _) _)).block g hgs
            rw [World.cell?_of_block (a := ⟨g, out.length, none⟩) this]
            exact Hc1.out
          clear hdep
          go_wp2_with fail
          exact ⟨rfl, rfl, hS.keep rfl rfl⟩
        go_frame
        iterate 3
          apply wpDetG_cons
          · intro D wx hD hC hdep hS
            clear hdep
            go_wp2_with fail
            exact ⟨rfl, rfl, hS.keep rfl rfl⟩
          go_frame
        apply wpDetG_cons
        · intro D wx hD hC hdep hS
          have h17 := not17 (i := 13) hC hD (by kernel_rfl)
          obtain rfl := hS.pre h17 hD
          clear hdep
          go_wp2_with fail
          exact ⟨rfl, rfl, SW.made h17⟩
        go_frame
        apply wpDetG_cons
        · intro D wx hD hC hdep hS
          have h17 := not17 (i := 14) hC hD (by kernel_rfl)
          have h13 : D 13 = true := hdep _ (Array.mem_of_getElem? (i := 0) rfl) (by kernel_rfl)
          obtain rfl := hS.mid h17 h13
          clear hdep
          go_wp2_with fail
          exact ⟨rfl, rfl, hS.keep rfl rfl⟩
        go_frame
        iterate 2
          apply wpDetG_cons
          · intro D wx hD hC hdep hS
            clear hdep
            go_wp2_with fail
            exact ⟨rfl, rfl, hS.keep rfl rfl⟩
          go_frame
        apply wpDetG_cons (v := undef)
        · intro D wx hD hC hdep hS
          have h13 : D 13 = true := clo_dep (j := 14) hC (by kernel_rfl) (hdep ⟨14, .phase⟩ (Array.mem_of_getElem? (i := 16) rfl) (by kernel_rfl))
          obtain rfl := hS.mid hD h13
          have kf : (wr.alloc (.cells #[.int .u8 (((ByteArray.mk s.toArray)[k]'hlt).toNat : Int)] 5)).drew.frozen? ⟨g, out.length, none⟩ = false := frozen_heap (show (wr.alloc (.cells #[.int .u8 (((ByteArray.mk s.toArray)[k]'hlt).toNat : Int)] 5)).drew.heap[g]? = _ from (heap_alloc_lt wr.drew _ hgs).trans Hg.out) _
          have kc : (wr.alloc (.cells #[.int .u8 (((ByteArray.mk s.toArray)[k]'hlt).toNat : Int)] 5)).drew.cell? ⟨g, out.length, none⟩ = some (.string ⟨p.toArray⟩) := by
            rw [cell_heap (show (wr.alloc (.cells #[.int .u8 (((ByteArray.mk s.toArray)[k]'hlt).toNat : Int)] 5)).drew.heap[g]? = _ from (heap_alloc_lt wr.drew _ hgs).trans Hg.out)]
            exact Hcn.out
          clear hdep
          go_wp2_with fail
          exact ⟨rfl, rfl, SW.put⟩
        go_frame
        intro D wx hall hS
        obtain rfl := hS.fin (hall 17 (by decide))
        clear hS hall hcv
        have hg3 : ((wr.setCell ⟨g, out.length, none⟩ (.string (ByteArray.mk p.toArray ++ ByteArray.mk #[(ByteArray.mk s.toArray)[k]'hlt]))).alloc (.cells #[.int .u8 (((ByteArray.mk s.toArray)[k]'hlt).toNat : Int)] 5)).drew.heap[g]? = some (.cells (cur.setIfInBounds out.length (strV (p ++ [s[k]]))) 9 (0, 0)) := by
          show ((wr.setCell ⟨g, out.length, none⟩ (.string (ByteArray.mk p.toArray ++ ByteArray.mk #[(ByteArray.mk s.toArray)[k]'hlt]))).alloc (.cells #[.int .u8 (((ByteArray.mk s.toArray)[k]'hlt).toNat : Int)] 5)).heap[g]? = _
          rw [heap_alloc_lt _ _ (by rw [World.size_setCell]; exact hgs), setCell_heap Hg.out]
          have : (.string (ByteArray.mk p.toArray ++ ByteArray.mk #[(ByteArray.mk s.toArray)[k]'hlt])) = strV (p ++ [s[k]]) := congrArg Value.string (ByteArray.mk_append_mk p [s[k]])
          rw [this]
        have hb3 : Below (w.heap.size + 1) W1 ((wr.setCell ⟨g, out.length, none⟩ (.string (ByteArray.mk p.toArray ++ ByteArray.mk #[(ByteArray.mk s.toArray)[k]'hlt]))).alloc (.cells #[.int .u8 (((ByteArray.mk s.toArray)[k]'hlt).toNat : Int)] 5)).drew := ((Hb.out.setCell hbg _).alloc (by rw [World.size_setCell]; omega) _).drew
        generalize ((wr.setCell ⟨g, out.length, none⟩ (.string (ByteArray.mk p.toArray ++ ByteArray.mk #[(ByteArray.mk s.toArray)[k]'hlt]))).alloc (.cells #[.int .u8 (((ByteArray.mk s.toArray)[k]'hlt).toNat : Int)] 5)).drew = W3 at *
        have Hown3 := Lib.hid (Hset.out W3 _ hg3)
        have Hb3 := Lib.hid hb3
        clear hg3 hb3
        go_wp2_with fail
        refine ⟨⟨k + 1, out, p ++ [s[k]], by omega, by simp, by simp; omega, by omega, ?_, Hsp.out, Hb3.out⟩, ?_⟩
        · exact Hown3.out
        · simp [intOf]; omega
    · have hkl : k = s.length := by omega
      have hx : ¬ (k : Int) < (s.length : Int) := by omega
      have hW : out ++ [p] = splitA 32 [] s := by
        have := hsp.out
        rw [hkl, List.drop_length, splitA] at this
        exact this
      have hmem : MtAt wr w.heap.size zMt := (hb.block w.heap.size (by omega)).trans Hx0.out
      have hbw : Below w.heap.size w wr := Hb0.out.trans (hb.mono (by omega))
      subst hkl
      clear hsp Hown1 Hx0 Hb0
      have HW := Lib.hid hW
      clear hW
      by_cases h5 : out.length = 4
      · obtain ⟨x0, T, hT, hTl⟩ : ∃ x0 T, out ++ [p] = x0 :: T ∧ T.length = 4 := by
          match out, h5 with
          | x0 :: r, h5 => exact ⟨x0, r ++ [p], rfl, by simp at h5 ⊢; omega⟩
        have hL : splitA 32 [] s = x0 :: T := HW.out.symm.trans hT
        have hlen := splitA_len hL
        rcases ownsRow_row hown with ⟨-, h0, -⟩ | ⟨g, cap, rfl, hg0, hg1, hcap, hrow⟩
        · omega
        have hrw : ∀ j (hj : j < 4), wr.cell? ⟨g, j + 1, none⟩ = some (.string ⟨(T[j]'(by omega)).toArray⟩) := fun j hj => by
          have h1 : out.map strV ++ [strV p] = (x0 :: T).map strV := by rw [← hT, List.map_append]; rfl
          rw [h1] at hrow
          have := hrow (j + 1) (strV (T[j]'(by omega))) (by simp [List.getElem?_eq_getElem (show j < T.length by omega)])
          rwa [Nat.zero_add] at this
        have hr0 : wr.cell? ⟨g, 0, none⟩ = some (.string ⟨x0.toArray⟩) := by
          have h1 : out.map strV ++ [strV p] = (x0 :: T).map strV := by rw [← hT, List.map_append]; rfl
          rw [h1] at hrow
          have := hrow 0 (strV x0) (by simp)
          rwa [Nat.zero_add] at this
        have hTs : ∀ j (hj : j < 4), (T[j]'(by omega)).length ≤ 100000 := fun j hj => by
          have := hlen (T[j]'(by omega)) (List.mem_cons_of_mem _ (List.getElem_mem _))
          omega
        have hd : (((out.length + 1 : Nat) : Int) != 5) = false := by simp; omega
        have hd2 : (((out.length : Nat) : Int) + 1 != 5) = false := by simp; omega
        have h55 : out.length + 1 = 5 := by omega
        rw [h55] at *
        have Hrw := Lib.hid hrw
        have Hr0 := Lib.hid hr0
        have HTs := Lib.hid hTs
        have HL := Lib.hid hL
        have Hbw := Lib.hid hbw
        have Hmem := Lib.hid hmem
        clear hown hb hbw hrw hr0 hTs hL hlen hrow hT HW hmem
        go_wp2_with fail
        obtain ⟨Wd, rfl⟩ : ∃ W', W' = wr := ⟨_, rfl⟩
        have hgN : g < Wd.heap.size := hg1
        have hwN : w.heap.size < Wd.heap.size := heap_lt Hmem.out
        go_loopw [6, 7] (fun v i wr => ∃ (j : Nat) (ns : List Int), j ≤ 4 ∧ i = .int .i64 ((j : Int) + 1) ∧ ns.length = j ∧ wr.ownsRow Wd.heap.size 3 1 v j (ns.map (Value.int .i64)) ∧ Hid (∀ i (h : i < ns.length) (h2 : i < T.length), T[i] = Lib.itoa ns[i] ∧ -1152921504606846976 ≤ ns[i] ∧ ns[i] ≤ 1152921504606846976) ∧ Below Wd.heap.size Wd wr) (fun _ i _ => 5 - (intOf i).toNat)
        case atStart => exact ⟨0, [], by omega, rfl, rfl, World.ownsRow_made Wd #[] 0 (Nat.le_refl _) (by unfold maxLen; omega) rfl, (fun i h => absurd h (by simp)), (Below.refl _ _).alloc (Nat.le_refl _) _⟩
        case round =>
          obtain ⟨j, ns, hj, rfl, hnl, hownI, hns, hbq⟩ := hrel
          have hszq := hbq.size
          by_cases hj4 : j < 4
          · have hjT : j < T.length := by omega
            have kj : wr.cell? ⟨g, j + 1, none⟩ = some (.string ⟨(T[j]'hjT).toArray⟩) := (hbq.cell (p := ⟨g, j + 1, none⟩) hgN).trans (Hrw.out j hj4)
            have hnum := number56 (T[j]'hjT) wr (HTs.out j hj4)
            have hno := fun h => noLine_num (j := j) HL.out hjT h
            obtain ⟨z, hz⟩ : ∃ z, T[j]'hjT = z := ⟨_, rfl⟩
            rw [hz] at kj hnum hno
            have hmemq := Hmem.out.below hbq hwN
            have Hnum := Lib.hid hnum
            have Hns := Lib.hid hns.out
            have Hz := Lib.hid hz
            have Hno := Lib.hid hno
            have Hbq := Lib.hid hbq
            have HownI := Lib.hid hownI
            have Hmemq := Lib.hid hmemq
            clear hnum hns hz hno hbq hownI hmemq
            go_upto_region 15 with (go_at_call 56; refine Hnum.out.mono ?_; rintro e w5 ⟨n, ok, rfl, hb5, hyes, hnon⟩)
            have hmem5 := Hmemq.out.below hb5 (by omega)
            have hbw5 : Below w.heap.size w w5 := Hbw.out.trans ((Hbq.out.mono (by omega)).trans (hb5.mono (by omega)))
            have Hbw5 := Lib.hid hbw5
            cases ok
            · have Hnon := Lib.hid (Hno.out (hnon rfl))
              clear hb5 hyes hnon hbw5
              go_wp2_with ((with_reducible refine wpList_storeMt (o := ⟨none, .store 34 (.tmp 2) (.tmp 60), _, _, _, none⟩) rfl _ _ rfl w.heap.size zMt zMt ?_ ?_ hmem5 ?_); (focus rfl); (focus rfl); intro w2 h2 hb2 hoth; clear hoth)
              refine bodyPost_ret (v := .tuple #[.agg (mtCells zMt).toArray, .bool false]) (by simp [results, Tryz.results35, go_sem, mtCells, zMt, h2.cells]) rfl ⟨zMt, false, rfl, hb2 _ _ Hbw5.out (Nat.le_refl _), fun h => (by cases h), fun _ => Hnon.out⟩
            · have Hyes := Lib.hid (hyes rfl)
              have Hb5 := Lib.hid hb5
              have hsz5 := hb5.size
              have hown5 := own_belowG HownI.out hb5
              have Hown5 := Lib.hid hown5
              clear hb5 hyes hnon hbw5 hmem5 hown5
              go_wp2_with (at_builtin; refine wpList_app rfl _ _ 38 rfl Wd.heap.size 3 1 8 TI _ _ _ rfl (Hown5.out.alloc _) w5.heap.size [.int .i64 n] rfl rfl (Row.new _ _ _ _ rfl) (by intro u hu; simp at hu; subst hu; rfl) (by omega) (by omega) (by simp; omega) ?_; intro v' w6 hown6 hgr6)
              have hb6 := ((Hbq.out.trans (Hb5.out.mono (by omega))).alloc (by omega) (.cells #[.int .i64 n] 3)).grown hgr6 (by simp; omega) (fun i hi => (Hown5.out.lt i hi).1)
              refine ⟨⟨j + 1, ns ++ [n], by omega, by simp, by simp; omega, ?_, ?_, hb6⟩, ?_⟩
              · simpa using hown6
              · intro i h1 h2
                rw [List.length_append] at h1
                by_cases hi : i < ns.length
                · rw [List.getElem_append_left hi]
                  exact Hns.out i hi h2
                · obtain rfl : i = ns.length := by simp at h1; omega
                  rw [List.getElem_append_right (Nat.le_refl _)]
                  have h3 := Hyes.out
                  have h4 := Hz.out
                  simp only [hnl, h4, Nat.sub_self, List.getElem_cons_zero]
                  exact h3
              · simp [intOf]; omega
          · obtain rfl : j = 4 := by omega
            obtain ⟨n1, n2, n3, n4, rfl⟩ : ∃ n1 n2 n3 n4, ns = [n1, n2, n3, n4] := by
              match ns, hnl with
              | [n1, n2, n3, n4], _ => exact ⟨n1, n2, n3, n4, rfl⟩
            obtain ⟨t1, t2, t3, t4, rfl⟩ : ∃ t1 t2 t3 t4, T = [t1, t2, t3, t4] := by
              match T, hTl with
              | [t1, t2, t3, t4], _ => exact ⟨t1, t2, t3, t4, rfl⟩
            have e1 := hns.out 0 (by simp) (by simp)
            have e2 := hns.out 1 (by simp) (by simp)
            have e3 := hns.out 2 (by simp) (by simp)
            have e4 := hns.out 3 (by simp) (by simp)
            simp only [List.getElem_cons_zero, List.getElem_cons_succ] at e1 e2 e3 e4
            obtain ⟨rfl, l1, u1⟩ := e1
            obtain ⟨rfl, l2, u2⟩ := e2
            obtain ⟨rfl, l3, u3'⟩ := e3
            obtain ⟨rfl, l4, u4⟩ := e4
            have hfin := yesLine h10 HL.out (by intro n hn; simp only [List.mem_cons, List.not_mem_nil, or_false] at hn; rcases hn with rfl | rfl | rfl | rfl <;> constructor <;> assumption)
            rcases ownsRow_row hownI with ⟨-, h0, -⟩ | ⟨g2, cap2, rfl, hg20, hg21, hcap2, hrow2⟩
            · omega
            have q0 : wr.cell? ⟨g, 0, none⟩ = some (.string ⟨x0.toArray⟩) := (hbq.cell (p := ⟨g, 0, none⟩) hgN).trans Hr0.out
            have r0 := hrow2 0 _ rfl
            have r1 := hrow2 1 _ rfl
            have r2 := hrow2 2 _ rfl
            have r3 := hrow2 3 _ rfl
            simp only [Nat.zero_add] at r0 r1 r2 r3
            have hmemq := Hmem.out.below hbq hwN
            have hbwq : Below w.heap.size w wr := Hbw.out.trans (hbq.mono (by omega))
            have Hfin := Lib.hid hfin
            have Hbwq := Lib.hid hbwq
            clear hfin hbwq hns hownI hrow2 hbq
            go_upto_region 18 with fail
            have Q := Lib.hid (And.intro q0 (And.intro r0 (And.intro r1 (And.intro r2 r3))))
            clear q0 r0 r1 r2 r3
            refine wp_region_tail 16 (by kernel_rfl) (by kernel_rfl) (fun wx => wx = wr.drew) rfl ?_
            iterate 16
              apply wpDetT_cons
              · intro wx hx
                subst hx
                obtain ⟨q0, r0, r1, r2, r3⟩ := Q.out
                go_wp2_with fail
                exact ⟨rfl, rfl, rfl⟩
              go_frame
            intro wx hx
            subst hx
            have hmemd : MtAt wr.drew w.heap.size zMt := hmemq
            go_wp2_with ((with_reducible refine wpList_storeMt (o := ⟨none, .store 34 (.tmp 2) (.tmp 80), _, _, _, none⟩) rfl _ _ rfl w.heap.size zMt ⟨x0, n1, n2, n3, n4⟩ ?_ ?_ hmemd ?_); (focus rfl); (focus rfl); intro w2 h2 hb2 hoth; clear hoth)
            refine bodyPost_ret (v := .tuple #[.agg (mtCells ⟨x0, n1, n2, n3, n4⟩).toArray, .bool true]) (by simp [results, Tryz.results35, go_sem, mtCells, h2.cells]) rfl ⟨_, true, rfl, hb2 _ _ Hbwq.out.drew (Nat.le_refl _), fun _ => Hfin.out, fun h => by cases h⟩
      · have hd : (((out.length + 1 : Nat) : Int) != 5) = true := by simp; omega
        have hd2 : (((out.length : Nat) : Int) + 1 != 5) = true := by simp; omega
        obtain ⟨A, c, rfl⟩ := own_slice hown
        have Hown := Lib.hid hown
        have Hbw := Lib.hid hbw
        have Hmem := Lib.hid hmem
        clear hown hb hbw
        go_wp2_with ((with_reducible refine wpList_storeMt (o := ⟨none, .store 34 (.tmp 2) (.tmp 44), _, _, _, none⟩) rfl _ _ rfl w.heap.size zMt zMt ?_ ?_ hmem ?_); (focus rfl); (focus rfl); intro w2 h2 hb2 hoth; clear hoth)
        refine bodyPost_ret (v := .tuple #[.agg (mtCells zMt).toArray, .bool false]) (by simp [results, Tryz.results35, go_sem, mtCells, zMt, h2.cells]) rfl ⟨zMt, false, rfl, hb2 _ _ Hbw.out (Nat.le_refl _), fun h => (by cases h), fun _ => ?_⟩
        exact noLine_len (by rw [← HW.out]; simp; omega)
end Go.Proofs.Seat8
end
section
namespace Go.Proofs.Seat8
open Go.RowKit Go.Proofs.Seat4
theorem ext_str (s : List UInt8) (b k : Nat) : (ByteArray.mk s.toArray).extract b k = ByteArray.mk ((s.take k).drop b).toArray := by
  apply ByteArray.ext
  apply Array.toList_inj.1
  rw [Lib.extract_data]
  show List.take (k - b) (List.drop b s) = (s.take k).drop b
  rw [List.drop_take]
theorem drop_at {s : List UInt8} {b k : Nat} (hb : b ≤ k) (hk : k < s.length) : s.drop b = (s.take k).drop b ++ s[k] :: s.drop (k + 1) := by
  have h1 : s = s.take k ++ s[k] :: s.drop (k + 1) := by rw [← List.drop_eq_getElem_cons hk, List.take_append_drop]
  conv => lhs; rw [h1]
  rw [List.drop_append_of_le_length (by rw [List.length_take]; omega)]
theorem seg_snoc {s : List UInt8} {b k : Nat} (hb : b ≤ k) (hk : k < s.length) : (s.take (k + 1)).drop b = (s.take k).drop b ++ [s[k]] := by
  rw [List.take_succ_eq_append_getElem hk, List.drop_append_of_le_length (by rw [List.length_take]; omega)]
theorem rowOfHeap {w : World} {b : Nat} {cs : Array Value} {t : TypeId} (h : w.heap[b]? = some (.cells cs t (0, 0))) : Row w b 0 cs.toList := fun j v hj => by
  rw [Nat.zero_add, cell_heap h]
  simpa using hj
set_option maxRecDepth 100000 in
set_option maxHeartbeats 4000000 in
theorem rparse14 (s : List UInt8) (w : World) (hs : s.length ≤ 100000) : Calls Tryz.prog 14 #[.string ⟨s.toArray⟩] w (AnsOk s w) := by
  go_enter Tryz.func14, Tryz.ntmps14
  go_wp2
  go_loopw [4, 5, 6] (fun v bv iv wr => ∃ (k b : Nat) (c : List Mt), b ≤ k ∧ k ≤ s.length ∧ bv = .int .i64 b ∧ iv = .int .i64 k ∧ c.length ≤ 500 ∧ wr.ownsRow w.heap.size 34 5 v c.length (c.flatMap mtCells) ∧ Hid (RpI s c (s.drop b) ∧ (10 : UInt8) ∉ (s.take k).drop b) ∧ Below w.heap.size w wr) (fun _ _ i _ => s.length - (intOf i).toNat)
  case atStart => exact ⟨0, 0, [], Nat.le_refl _, Nat.zero_le _, rfl, rfl, by simp, World.ownsRow_made w #[] 0 (Nat.le_refl _) (by unfold maxLen; omega) rfl, ⟨rpI_start s, by simp⟩, (Below.refl _ _).alloc (Nat.le_refl _) _⟩
  case round =>
    obtain ⟨k, b, c, hbk, hk, rfl, rfl, hc5, hown, hinv, hbw⟩ := hrel
    have hsz := hbw.size
    by_cases hlt : k < s.length
    · by_cases hc : s[k] = 10
      · have ht : ((((ByteArray.mk s.toArray)[k]'hlt).toNat : Int) != 10) = false := by
          rw [show (ByteArray.mk s.toArray)[k]'hlt = s[k] from rfl, hc]
          rfl
        have hcut : s.drop b = (s.take k).drop b ++ 10 :: s.drop (k + 1) := by rw [drop_at hbk hlt, hc]
        obtain ⟨hR, h10⟩ := hinv.out
        rw [hcut] at hR
        have hext := ext_str s b k
        have hline := fun w1 => words35 ((s.take k).drop b) w1 (by simp; omega) h10
        obtain ⟨a, ha⟩ : ∃ a, (s.take k).drop b = a := ⟨_, rfl⟩
        rw [ha] at hR h10 hline hext
        have HR := Lib.hid (And.intro hR h10)
        have Hline := Lib.hid hline
        have Hown := Lib.hid hown
        have Hbw := Lib.hid hbw
        clear hcut hinv hR h10 hline ha hown hbw
        obtain ⟨A, cap, rfl⟩ := own_slice Hown.out
        go_upto_region 8 with (first | (go_at_call 35; refine (Hline.out _).mono ?_; rintro e w1 ⟨m, ok, rfl, hb1, hyes, hnon⟩) | ((with_reducible refine wpList_storeMt (o := ⟨none, .store 34 (.tmp 7) (.tmp 26), _, _, _, none⟩) rfl _ _ rfl w1.heap.size zMt m ?_ ?_ ?_ ?_); (focus rfl); (focus rfl); (focus exact heap_alloc_new w1 _); intro w2 h2 hb2 hoth))
        have hbm : Below wr.heap.size wr w2 := hb2 _ _ (hb1.alloc hb1.size _) hb1.size
        have hsz1 := hb1.size
        have hsz2 := heap_lt h2
        have hbw2 : Below w.heap.size w w2 := Hbw.out.trans (hbm.mono hsz)
        have hown2 := own_belowG Hown.out hbm
        have Hown2 := Lib.hid hown2
        have Hbw2 := Lib.hid hbw2
        clear hoth hb2 hbm hb1 hown2 hbw2
        have bad : NoText s → parseR s = none := parse_no
        by_cases hgo : ok = true ∧ c.length ≠ 500
        · obtain ⟨rfl, hc500⟩ := hgo
          obtain ⟨hm1, hm2⟩ := hyes rfl
          have Hst := Lib.hid (rpI_step HR.out.1 HR.out.2 hm1 hm2)
          have h500 : ((c.length : Int) == 500) = false := by rw [beq_eq_false_iff_ne]; omega
          have hrowm : Row w2 w1.heap.size 0 (mtCells m) := rowOfHeap h2
          clear hyes hnon hm1 hm2 bad
          go_wp2_with (first | ((with_reducible refine wpList_load_agg (o := ⟨some 37, .load 34 (.tmp 7), _, _, _, none⟩) rfl 34 _ rfl w1.heap.size 0 ?_ _ hrowm _ Tryz.underlying34 rfl ?_ ?_); (focus rfl); (focus kernel_rfl); simp only [mtCells]) | (at_builtin; refine wpList_app rfl _ _ 22 rfl w.heap.size 34 5 48 TM (.slice A c.length cap) _ _ rfl (Hown2.out.alloc _) w2.heap.size (mtCells m) rfl rfl (Row.new _ _ _ _ rfl) (mtCells_one _) (by omega) (by omega) (by simp; omega) ?_; intro v' w3 hown3 hgr3))
          have hb3 := (Hbw2.out.alloc (by omega) (.cells (mtCells m).toArray 34)).grown hgr3 (by simp; omega) (fun i hi => (Hown2.out.lt i hi).1)
          refine ⟨⟨k + 1, k + 1, c ++ [m], Nat.le_refl _, by omega, by simp, by simp, by simp; omega, ?_, ⟨Hst.out, by rw [List.drop_eq_nil_of_le (by rw [List.length_take]; omega)]; simp⟩, hb3⟩, ?_⟩
          · rw [List.length_append, List.flatMap_append, List.flatMap_singleton]
            exact hown3
          · simp [intOf]; omega
        · have hno : parseR s = none := by
            refine parse_no (rpI_bad HR.out.1 HR.out.2 ?_)
            cases ok
            · exact .inl (hnon rfl)
            · exact .inr (by simpa using hgo)
          have Hno := Lib.hid hno
          have hcase : ok = false ∨ (ok = true ∧ ((c.length : Int) == 500) = true) := by
            cases ok
            · exact .inl rfl
            · exact .inr ⟨rfl, by simp at hgo; simp; omega⟩
          clear hyes hnon bad hno hgo
          rcases hcase with rfl | ⟨rfl, h500⟩ <;>
          · go_wp2_with fail
            go_ret2
            refine ⟨.slice (some ⟨w2.heap.size, 0, none⟩) 0 0, Hbw2.out.alloc (by omega) _, ?_⟩
            rw [Hno.out]
            exact ⟨rfl, LV.nil_ ME _ _ _⟩
      · have ht : ((((ByteArray.mk s.toArray)[k]'hlt).toNat : Int) != 10) = true := by
          rw [show (ByteArray.mk s.toArray)[k]'hlt = s[k] from rfl, bne_iff_ne]
          intro e
          exact hc (UInt8.toNat_inj.1 (by have : (10 : UInt8).toNat = 10 := rfl
                                          omega))
        have Hinv := Lib.hid hinv.out
        clear hinv
        go_wp2_with fail
        refine ⟨⟨k + 1, b, c, by omega, by omega, rfl, by simp, hc5, hown, ⟨Hinv.out.1, ?_⟩, hbw⟩, ?_⟩
        · rw [seg_snoc hbk hlt]
          intro h
          rcases List.mem_append.1 h with h | h
          · exact Hinv.out.2 h
          · exact hc (List.mem_singleton.1 h).symm
        · simp [intOf]; omega
    · have hkl : k = s.length := by omega
      subst hkl
      obtain ⟨hR, h10⟩ := hinv.out
      rw [List.take_length] at h10
      have hlv : LV ME wr u4 c := lv_own hown
      by_cases hb : b = s.length
      · subst hb
        rw [List.drop_length] at hR
        have hck := rcheck c u4 wr hlv
        have Hck := Lib.hid hck
        have Hlv := Lib.hid hlv
        have hpr : parseR s = if chk c = 0 then some c else none := by
          split
          · rename_i h0
            exact parse_is h0 (by have := hR.1; simp at this; exact this.symm)
          · rename_i h0
            exact parse_no (rpI_chk hR h0)
        have Hpr := Lib.hid hpr
        have hn1 : (((s.length : Nat) : Int) != (s.length : Int)) = false := by simp
        clear hpr hck hlv hR h10 hown hinv
        by_cases h0 : chk c = 0
        · rw [h0] at Hck Hpr
          go_wp2_with (go_at_call 15; refine Hck.out.mono ?_; rintro e w9 ⟨rfl, hb9⟩)
          go_ret2
          refine ⟨u4, hbw.trans (hb9.mono hsz), ?_⟩
          rw [Hpr.out]
          exact ⟨rfl, Hlv.out.below hb9⟩
        · have h0' : (chk c != 0) = true := by simpa using h0
          rw [if_neg h0] at Hpr
          generalize chk c = z at *
          go_wp2_with (go_at_call 15; refine Hck.out.mono ?_; rintro e w9 ⟨rfl, hb9⟩)
          go_ret2
          refine ⟨.slice (some ⟨w9.heap.size, 0, none⟩) 0 0, (hbw.trans (hb9.mono hsz)).alloc (by have := hb9.size; omega) _, ?_⟩
          rw [Hpr.out]
          exact ⟨rfl, LV.nil_ ME _ _ _⟩
      · have hne : s.drop b ≠ [] := fun e => by
          have := congrArg List.length e
          simp at this
          omega
        have Hno := Lib.hid (parse_no (rpI_rest hR h10 hne))
        have hn1 : ((b : Int) != (s.length : Int)) = true := by rw [bne_iff_ne]; omega
        clear hR h10 hne hinv
        go_wp2_with fail
        go_ret2
        refine ⟨.slice (some ⟨wr.heap.size, 0, none⟩) 0 0, hbw.alloc (by omega) _, ?_⟩
        rw [Hno.out]
        exact ⟨rfl, LV.nil_ ME _ _ _⟩
end Go.Proofs.Seat8
end
section
namespace Go.Proofs.Seat8
open Go.RowKit Go.Proofs.Seat4
def isM (n : List UInt8) (i : Int) (m : Mt) : Bool := m.name == n && m.index == i
set_option maxRecDepth 100000 in
theorem pred33 (n : List UInt8) (i : Int) (a b : Nat) (m : Mt) (w : World) (ha : w.cell? ⟨a, 0, none⟩ = some (.string ⟨n.toArray⟩)) (hb : w.cell? ⟨b, 0, none⟩ = some (.int .i64 i)) (hal : a < w.heap.size) (hbl : b < w.heap.size) :
    Calls Tryz.prog 33 #[.agg (mtCells m).toArray, .pointer (some ⟨a, 0, none⟩), .pointer (some ⟨b, 0, none⟩)] w fun e w' => e = .returned (.bool (isM n i m)) ∧ Below w.heap.size w w' := by
  have hne : a ≠ w.heap.size := by omega
  have hnb : b ≠ w.heap.size := by omega
  simp only [mtCells]
  unfold isM
  rcases Bool.eq_false_or_eq_true (m.name == n) with h1 | h1 <;> rcases Bool.eq_false_or_eq_true (m.index == i) with h2 | h2 <;>
  · rw [h1, h2]
    go_enter Tryz.func33, Tryz.ntmps33
    go_wp2
    go_ret
    exact ⟨rfl, (Below.refl _ _).alloc (Nat.le_refl _) _⟩
def IxPost (l : List Mt) (p : Mt → Bool) (w : World) (e : Ending) (w' : World) : Prop := Below w.heap.size w w' ∧ ((∃ k, ∃ h : k < l.length, e = .returned (.int .i64 k) ∧ p l[k] = true ∧ ∀ j (h : j < l.length), j < k → p l[j] = false) ∨ (e = .returned (.int .i64 (-1)) ∧ ∀ m ∈ l, p m = false))
theorem eg33 : ∀ args w, (callFunc 33 args).run Tryz.prog w = .ok (.enter 33 args) w := enters_of Tryz.func33 (by kernel_rfl) rfl
set_option maxRecDepth 100000 in
set_option maxHeartbeats 2000000 in
theorem index32 (l : List Mt) (v : Value) (n : List UInt8) (i : Int) (a b : Nat) (w : World) (hv : LV ME w v l) (hl : l.length ≤ 9223372036854775807) (ha : w.cell? ⟨a, 0, none⟩ = some (.string ⟨n.toArray⟩)) (hb : w.cell? ⟨b, 0, none⟩ = some (.int .i64 i)) (hal : a < w.heap.size) (hbl : b < w.heap.size) :
    Calls Tryz.prog 32 #[v, .func (.func 33) #[] #[.pointer (some ⟨a, 0, none⟩), .pointer (some ⟨b, 0, none⟩)]] w (IxPost l (isM n i) w) := by
  obtain ⟨A, cap, rfl, hcap, hlie⟩ := hv
  have Hlie := Lib.hid hlie
  have Ha := Lib.hid ha
  have Hb := Lib.hid hb
  clear hlie ha hb
  have eg := eg33
  go_enter Tryz.func32, Tryz.ntmps32
  go_wp2
  go_loopw [8] (fun s8 wr => ∃ k : Nat, k ≤ l.length ∧ s8 = .int .i64 k ∧ Below w.heap.size w wr ∧ Hid (∀ j (h : j < l.length), j < k → isM n i l[j] = false)) (fun s8 _ => l.length - (intOf s8).toNat)
  case atStart => exact ⟨0, Nat.zero_le _, rfl, Below.refl _ _, fun j _ h => absurd h (Nat.not_lt_zero _)⟩
  case round =>
    obtain ⟨k, hk, rfl, hbw, hno⟩ := hrel
    by_cases hlt : k < l.length
    · obtain ⟨bb, off, rfl, hbb, hrow⟩ := Hlie.out (by intro e; subst e; simp at hlt)
      have hr' : Row wr bb (off + k * 5) (mtCells l[k]) := (hrow k hlt).below hbw hbb
      have hcall := pred33 n i a b l[k] wr ((hbw.cell (p := ⟨a, 0, none⟩) hal).trans Ha.out) ((hbw.cell (p := ⟨b, 0, none⟩) hbl).trans Hb.out) (Nat.lt_of_lt_of_le hal hbw.size) (Nat.lt_of_lt_of_le hbl hbw.size)
      obtain ⟨M, hM⟩ : ∃ M, l[k] = M := ⟨_, rfl⟩
      rw [hM] at hr' hcall
      have HM := Lib.hid hM
      have Hbw := Lib.hid hbw
      have hsz := hbw.size
      clear hrow hM hbw
      rcases Bool.eq_false_or_eq_true (isM n i M) with hq | hq
      · rw [hq] at hcall
        have Hq := Lib.hid hq
        have Hcall := Lib.hid hcall
        clear hq hcall
        go_wp2_with (first | ((with_reducible refine wpList_load_agg (o := ⟨some 15, .load 34 (.tmp 14), _, _, _, none⟩) rfl 34 _ rfl bb (off + k * 5) ?_ _ hr' _ Tryz.underlying34 rfl ?_ ?_); (focus rfl); (focus kernel_rfl)) | (go_at_fn 33; refine Hcall.out.mono ?_; rintro e w1 ⟨rfl, hb1⟩))
        go_ret
        exact ⟨Hbw.out.trans (hb1.mono hsz), .inl ⟨k, hlt, rfl, by rw [HM.out]; exact Hq.out, hno.out⟩⟩
      · rw [hq] at hcall
        have Hq := Lib.hid hq
        have Hcall := Lib.hid hcall
        clear hq hcall
        go_wp2_with (first | ((with_reducible refine wpList_load_agg (o := ⟨some 15, .load 34 (.tmp 14), _, _, _, none⟩) rfl 34 _ rfl bb (off + k * 5) ?_ _ hr' _ Tryz.underlying34 rfl ?_ ?_); (focus rfl); (focus kernel_rfl)) | (go_at_fn 33; refine Hcall.out.mono ?_; rintro e w1 ⟨rfl, hb1⟩))
        refine ⟨⟨k + 1, hlt, by simp, Hbw.out.trans (hb1.mono hsz), ?_⟩, ?_⟩
        · intro j hj hjk
          by_cases he : j = k
          · subst he; rw [HM.out]; exact Hq.out
          · exact hno.out j hj (by omega)
        · simp [intOf]; omega
    · have hx : ¬ (k : Int) < (l.length : Int) := by omega
      go_wp2_with fail
      go_ret
      refine ⟨hbw, .inr ⟨rfl, fun m hm => ?_⟩⟩
      obtain ⟨j, hj, rfl⟩ := List.mem_iff_getElem.1 hm
      exact hno.out j hj (by omega)
end Go.Proofs.Seat8
end
section
namespace Go.Proofs.Seat8
open Go.RowKit Go.Proofs.Seat4
def fnd (l : List Mt) (n : List UInt8) (i : Int) : Mt × Bool := match l.find? (isM n i) with
  | some m => (m, true)
  | none => (zMt, false)
theorem fnd_at {l : List Mt} {n : List UInt8} {i : Int} {k : Nat} (h : k < l.length) (hp : isM n i l[k] = true) (hno : ∀ j (h : j < l.length), j < k → isM n i l[j] = false) : fnd l n i = (l[k], true) := by
  unfold fnd
  have : l.find? (isM n i) = some l[k] := List.find?_eq_some_iff_getElem.2 ⟨hp, k, h, rfl, fun j hj => by simp [hno j (by omega) hj]⟩
  rw [this]
theorem fnd_no {l : List Mt} {n : List UInt8} {i : Int} (hno : ∀ m ∈ l, isM n i m = false) : fnd l n i = (zMt, false) := by
  unfold fnd
  have : l.find? (isM n i) = none := List.find?_eq_none.2 fun m hm => by simp [hno m hm]
  rw [this]
def FPost (l : List Mt) (n : List UInt8) (i : Int) (w : World) (e : Ending) (w' : World) : Prop := e = .returned (.tuple #[.agg (mtCells (fnd l n i).1).toArray, .bool (fnd l n i).2]) ∧ Below w.heap.size w w'
set_option maxRecDepth 100000 in
set_option maxHeartbeats 2000000 in
theorem find11 (l : List Mt) (v : Value) (n : List UInt8) (i : Int) (w : World) (hv : LV ME w v l) (hl : l.length ≤ 9223372036854775807) :
    Calls Tryz.prog 11 #[v, .string ⟨n.toArray⟩, .int .i64 i] w (FPost l n i w) := by
  go_enter Tryz.func11, Tryz.ntmps11
  go_upto_region 1 with fail
  have c1 : (((w.alloc (.cells #[.string ⟨n.toArray⟩] 9)).alloc (.cells #[.int .i64 i] 3)).alloc (.cells #[.string ⟨#[]⟩, .int .i64 0, .int .i64 0, .int .i64 0, .int .i64 0] 34)).heap[w.heap.size]? = some (.cells #[.string ⟨n.toArray⟩] 9 (0, 0)) := by
    exact (heap_alloc_lt _ _ (by rw [World.size_alloc, World.size_alloc]; omega)).trans ((heap_alloc_lt _ _ (by rw [World.size_alloc]; omega)).trans (heap_alloc_new w _))
  have c2 : (((w.alloc (.cells #[.string ⟨n.toArray⟩] 9)).alloc (.cells #[.int .i64 i] 3)).alloc (.cells #[.string ⟨#[]⟩, .int .i64 0, .int .i64 0, .int .i64 0, .int .i64 0] 34)).heap[w.heap.size + 1]? = some (.cells #[.int .i64 i] 3 (0, 0)) := by
    have := heap_alloc_new (w.alloc (.cells #[.string ⟨n.toArray⟩] 9)) (.cells #[.int .i64 i] 3)
    rw [World.size_alloc] at this
    exact (heap_alloc_lt _ _ (by rw [World.size_alloc, World.size_alloc]; omega)).trans this
  have c3 : MtAt (((w.alloc (.cells #[.string ⟨n.toArray⟩] 9)).alloc (.cells #[.int .i64 i] 3)).alloc (.cells #[.string ⟨#[]⟩, .int .i64 0, .int .i64 0, .int .i64 0, .int .i64 0] 34)) (w.heap.size + 1 + 1) zMt := by
    have := heap_alloc_new ((w.alloc (.cells #[.string ⟨n.toArray⟩] 9)).alloc (.cells #[.int .i64 i] 3)) (.cells #[.string ⟨#[]⟩, .int .i64 0, .int .i64 0, .int .i64 0, .int .i64 0] 34)
    rw [World.size_alloc, World.size_alloc] at this
    exact this
  have hbw : Below w.heap.size w (((w.alloc (.cells #[.string ⟨n.toArray⟩] 9)).alloc (.cells #[.int .i64 i] 3)).alloc (.cells #[.string ⟨#[]⟩, .int .i64 0, .int .i64 0, .int .i64 0, .int .i64 0] 34)) := (((Below.refl _ _).alloc (Nat.le_refl _) _).alloc (by simp) _).alloc (by simp; omega) _
  generalize (((w.alloc (.cells #[.string ⟨n.toArray⟩] 9)).alloc (.cells #[.int .i64 i] 3)).alloc (.cells #[.string ⟨#[]⟩, .int .i64 0, .int .i64 0, .int .i64 0, .int .i64 0] 34)) = W at *
  obtain ⟨B, hB⟩ : ∃ B, w.heap.size + 1 = B := ⟨_, rfl⟩
  simp only [hB] at c2 c3 ⊢
  have hBl : B + 1 < W.heap.size := heap_lt c3
  have hix := index32 l v n i w.heap.size B W (hv.below hbw) hl (cell_heap c1 0) (cell_heap c2 0) (by omega) (by omega)
  have hv1 := hv.below hbw
  obtain ⟨A, cap, rfl, hcap, hlie⟩ := hv1
  have Hlie := Lib.hid hlie
  have Hix := Lib.hid hix
  have Hbw := Lib.hid hbw
  clear hlie hix hbw hv c1 c2
  go_upto_region 2 with (go_at_call 32; refine Hix.out.mono ?_; rintro e w1 ⟨hb1, hcase⟩; rcases hcase with ⟨k, hk, rfl, hp, hno⟩ | ⟨rfl, hno⟩)
  · have hf := fnd_at hk hp hno
    have hkr := hb1.size
    have hmem := c3.below hb1 (by omega)
    obtain ⟨bb, off, rfl, hbb, hrow⟩ := Hlie.out (by intro e; subst e; simp at hk)
    have hr' : Row w1 bb (off + k * 5) (mtCells l[k]) := (hrow k hk).below hb1 hbb
    have hnl : ¬ (k : Int) < 0 := by omega
    obtain ⟨M, hM⟩ : ∃ M, l[k] = M := ⟨_, rfl⟩
    rw [hM] at hr' hf
    have Hf := Lib.hid hf
    have Hb1 := Lib.hid hb1
    have hbwq : Below w.heap.size w w1 := Hbw.out.trans (hb1.mono (by omega))
    have Hbwq := Lib.hid hbwq
    clear hf hb1 hp hno hrow hbwq
    go_wp2_with (first | ((with_reducible refine wpList_load_agg (o := ⟨some 18, .load 34 (.tmp 17), _, _, _, none⟩) rfl 34 _ rfl bb (off + k * 5) ?_ _ hr' _ Tryz.underlying34 rfl ?_ ?_); (focus rfl); (focus kernel_rfl)) | ((with_reducible refine wpList_storeMt (o := ⟨none, .store 34 (.tmp 6) (.tmp 18), _, _, _, none⟩) rfl _ _ rfl (B + 1) zMt M ?_ ?_ hmem ?_); (focus rfl); (focus rfl); intro w2 h2 hb2 hoth; clear hoth))
    refine bodyPost_ret (v := .tuple #[.agg (mtCells M).toArray, .bool true]) (by simp [results, Tryz.results11, go_sem, mtCells, h2.cells]) rfl ⟨by rw [Hf.out], hb2 _ _ Hbwq.out (by omega)⟩
  · have hf := fnd_no (i := i) hno
    have hkr := hb1.size
    have hmem := c3.below hb1 (by omega)
    have Hf := Lib.hid hf
    have hbwq : Below w.heap.size w w1 := Hbw.out.trans (hb1.mono (by omega))
    have Hbwq := Lib.hid hbwq
    clear hf hb1 hno hbwq
    go_wp2_with (((with_reducible refine wpList_storeMt (o := ⟨none, .store 34 (.tmp 6) (.tmp 14), _, _, _, none⟩) rfl _ _ rfl (B + 1) zMt zMt ?_ ?_ hmem ?_); (focus rfl); (focus rfl); intro w2 h2 hb2 hoth; clear hoth))
    refine bodyPost_ret (v := .tuple #[.agg (mtCells zMt).toArray, .bool false]) (by simp [results, Tryz.results11, go_sem, mtCells, zMt, h2.cells]) rfl ⟨by rw [Hf.out], hb2 _ _ Hbwq.out (by omega)⟩
end Go.Proofs.Seat8
end
section
namespace Go.Proofs.Seat8
open Go.RowKit Go.Proofs.Seat4
set_option maxRecDepth 100000 in
set_option maxHeartbeats 2000000 in
theorem find12 (l : List Mt) (v : Value) (n : List UInt8) (i : Int) (w : World) (hv : LV ME w v l) (hl : l.length ≤ 9223372036854775807) :
    Calls Tryz.prog 12 #[v, .string ⟨n.toArray⟩, .int .i64 i] w (FPost l n i w) := by
  obtain ⟨A, cap, rfl, hcap, hlie⟩ := hv
  go_enter Tryz.func12, Tryz.ntmps12
  go_upto_region 1 with fail
  have c3 : MtAt (w.alloc (.cells #[.string ⟨#[]⟩, .int .i64 0, .int .i64 0, .int .i64 0, .int .i64 0] 34)) w.heap.size zMt := heap_alloc_new w _
  have hbw0 : Below w.heap.size w (w.alloc (.cells #[.string ⟨#[]⟩, .int .i64 0, .int .i64 0, .int .i64 0, .int .i64 0] 34)) := (Below.refl _ _).alloc (Nat.le_refl _) _
  have hz : (w.alloc (.cells #[.string ⟨#[]⟩, .int .i64 0, .int .i64 0, .int .i64 0, .int .i64 0] 34)).heap.size = w.heap.size + 1 := by simp
  generalize (w.alloc (.cells #[.string ⟨#[]⟩, .int .i64 0, .int .i64 0, .int .i64 0, .int .i64 0] 34)) = W at *
  have Hlie := Lib.hid hlie
  have Hb0 := Lib.hid hbw0
  have C3 := Lib.hid c3
  clear hlie hbw0 c3
  go_wp2_with fail
  go_loopw [8] (fun s8 wr => ∃ k : Nat, k ≤ l.length ∧ s8 = .int .i64 k ∧ wr = W ∧ Hid (∀ j (h : j < l.length), j < k → isM n i l[j] = false)) (fun s8 _ => l.length - (intOf s8).toNat)
  case atStart => exact ⟨0, Nat.zero_le _, rfl, rfl, fun j _ h => absurd h (Nat.not_lt_zero _)⟩
  case round =>
    obtain ⟨k, hk, rfl, rfl, hno⟩ := hrel
    by_cases hlt : k < l.length
    · obtain ⟨bb, off, rfl, hbb, hrow⟩ := Hlie.out (by intro e; subst e; simp at hlt)
      have hr' : Row wr bb (off + k * 5) (mtCells l[k]) := (hrow k hlt).below Hb0.out hbb
      obtain ⟨M, hM⟩ : ∃ M, l[k] = M := ⟨_, rfl⟩
      rw [hM] at hr'
      have c0 := hr' 0 _ rfl
      have c1 := hr' 1 _ rfl
      simp only [Nat.add_zero] at c0
      have HM := Lib.hid hM
      clear hrow hM
      rcases Bool.eq_false_or_eq_true (M.name == n) with h1 | h1 <;> rcases Bool.eq_false_or_eq_true (M.index == i) with h2 | h2
      · have hq : isM n i M = true := by unfold isM; rw [h1, h2]; rfl
        have Hf := Lib.hid (fnd_at hlt (by rw [HM.out]; exact hq) hno.out)
        have hmem := C3.out
        clear hq
        go_wp2_with (first | ((with_reducible refine wpList_load_agg (o := ⟨some 34, .load 34 (.tmp 33), _, _, _, none⟩) rfl 34 _ rfl bb (off + k * 5) ?_ _ hr' _ Tryz.underlying34 rfl ?_ ?_); (focus rfl); (focus kernel_rfl)) | ((with_reducible refine wpList_storeMt (o := ⟨none, .store 34 (.tmp 6) (.tmp 34), _, _, _, none⟩) rfl _ _ rfl w.heap.size zMt M ?_ ?_ hmem ?_); (focus rfl); (focus rfl); intro w2 h2 hb2 hoth; clear hoth))
        refine bodyPost_ret (v := .tuple #[.agg (mtCells M).toArray, .bool true]) (by simp [results, Tryz.results12, go_sem, mtCells, h2.cells]) rfl ⟨by rw [Hf.out, HM.out], hb2 _ _ Hb0.out (Nat.le_refl _)⟩
      all_goals
        have hq : isM n i M = false := by unfold isM; rw [h1, h2]; rfl
        have Hq := Lib.hid hq
        clear hq
        go_wp2_with fail
        refine ⟨⟨k + 1, hlt, by simp, by first | exact trivial | rfl, fun j hj hjk => ?_⟩, by simp [intOf]; omega⟩
        by_cases he : j = k
        · subst he
          rw [HM.out]
          exact Hq.out
        · exact hno.out j hj (by omega)
    · have hx : ¬ (k : Int) < (l.length : Int) := by omega
      have hf : fnd l n i = (zMt, false) := fnd_no fun m hm => by
        obtain ⟨j, hj, rfl⟩ := List.mem_iff_getElem.1 hm
        exact hno.out j hj (by omega)
      have Hf := Lib.hid hf
      have hmem := C3.out
      clear hf hno
      go_wp2_with (((with_reducible refine wpList_storeMt (o := ⟨none, .store 34 (.tmp 6) (.tmp 35), _, _, _, none⟩) rfl _ _ rfl w.heap.size zMt zMt ?_ ?_ hmem ?_); (focus rfl); (focus rfl); intro w2 h2 hb2 hoth; clear hoth))
      refine bodyPost_ret (v := .tuple #[.agg (mtCells zMt).toArray, .bool false]) (by simp [results, Tryz.results12, go_sem, mtCells, zMt, h2.cells]) rfl ⟨by rw [Hf.out], hb2 _ _ Hb0.out (Nat.le_refl _)⟩
end Go.Proofs.Seat8
end
section
namespace Go.Proofs.Seat8
open Go.RowKit Go.Proofs.Seat4
theorem awakeB {B : Nat} {w w1 : World} (hB : B ≤ w1.heap.size) (h : Below B w w1) : Calls Tryz.prog 6 #[] w1 fun e w' => e = .returned (.bool true) ∧ Below B w w' :=
  (AvT.anchor w1).mono fun _ _ ⟨h1, h2⟩ => ⟨h1, h.trans (below_mono h2 hB)⟩
end Go.Proofs.Seat8
end
section
namespace Go.Proofs.Seat8
open Go.RowKit Go.Proofs.Seat4 Av
noncomputable def TT (l : List Mt) : List UInt8 := if chk l = 0 then textT l else []
theorem pp_det {l : List Mt} {w w' : World} {e : Ending} (h : PPost l w e w') : e = .returned (.tuple #[.string ⟨(TT l).toArray⟩, .int .i64 (chk l)]) ∧ Below w.heap.size w w' := by
  obtain ⟨t, h1, h2, h3, h4⟩ := h
  unfold TT
  split
  · rename_i h0
    rw [h2 h0] at h1
    exact ⟨h1, h4⟩
  · rename_i h0
    rw [h3 h0] at h1
    exact ⟨h1, h4⟩
noncomputable def PQ (s : List UInt8) : List Mt := (parseR s).getD []
noncomputable def eN (s : List UInt8) : Int := if (parseR s).isSome then 0 else 3
theorem pq_len (s : List UInt8) : (PQ s).length ≤ 500 := by
  unfold PQ
  cases h : parseR s with
  | none => simp
  | some l => exact chk_len (parse_some h).1
theorem ans_det {s : List UInt8} {w w' : World} {e : Ending} (h : AnsOk s w e w') : ∃ v, e = .returned (.tuple #[v, .int .i64 (eN s)]) ∧ LV ME w' v (PQ s) ∧ Below w.heap.size w w' := by
  obtain ⟨v, h1, h2⟩ := h
  unfold PQ eN
  cases h : parseR s with
  | none => rw [h] at h2; exact ⟨v, h2.1, h2.2, h1⟩
  | some l => rw [h] at h2; exact ⟨v, h2.1, h2.2, h1⟩
theorem wpList_eqW {ops : Array Oper} {rest : List Oper} {o : Oper} {a : Act} {w : World} {Q : Exit → Act → World → Prop} (hgd : Region.wanted o (yielded ops a.tmps) = true) (x y : Operand) (ty : TypeId) (hop : o.op = .binOp .eql 34 x y ty) (X Y : Mt) (hx : a.eval x = .agg (mtCells X).toArray) (hy : a.eval y = .agg (mtCells Y).toArray)
    (hK : wpList Tryz.prog ops Q rest (a.put o.dst (.bool (decide (X = Y)))) w) : wpList Tryz.prog ops Q (o :: rest) a w :=
  wpList_step fun K hk => by
    rw [if_pos hgd]
    have h1 : (eqGuard .eql 34 x y (.agg (mtCells X).toArray) (.agg (mtCells Y).toArray)).run Tryz.prog w = .ok () w := run_eqGuardV (m := AM 0) (u := .agg (mtAV X)) (v := .agg (mtAV Y)) gd32 (eqs_mt X Y) w
    have h2 : (binOp .eql 34 (.agg (mtCells X).toArray) (.agg (mtCells Y).toArray)).run Tryz.prog w = .ok (.bool (decide (X = Y))) w := (run_eqOp (m := AM 0) (x := .agg (mtAV X)) (y := .agg (mtAV Y)) shT32 (eqs_mt X Y) w).1
    unfold Oper.wp
    simp only [execOp, hop, hx, hy, Sem.run_bind, h1, h2, Result.andThen_ok, Sem.run_pure]
    exact hk _ _ hK
set_option maxRecDepth 100000 in
set_option maxHeartbeats 2000000 in
theorem lists_no (l : List Mt) (v : Value) (n : List UInt8) (i : Int) (s : List UInt8) (w : World) (hv : LV ME w v l) (hno : greatM l = true ∨ (greatM l = false ∧ (40 : Int) < n.length) ∨ (greatM l = false ∧ ¬ (40 : Int) < n.length ∧ (600 : Int) < s.length)) :
    Calls Tryz.prog 4 #[v, .string ⟨n.toArray⟩, .int .i64 i, .string ⟨s.toArray⟩] w fun e w' => e = .returned (.bool true) ∧ Below w.heap.size w w' := by
  have Hg := Lib.hid (fun w1 (h1 : Below w.heap.size w w1) => (great5 l v w1 (hv.below h1)).mono fun e w' ⟨h2, h3⟩ => (⟨h2, h1.trans (below_mono h3 h1.size)⟩ : e = _ ∧ Below w.heap.size w w'))
  have Haw := Lib.hid (fun w1 (h1 : Below w.heap.size w w1) => awakeB h1.size h1)
  clear hv
  have hb0 : Below w.heap.size w w := Below.refl _ _
  generalize greatM l = g at *
  rcases hno with rfl | ⟨rfl, h4⟩ | ⟨rfl, h4, h6⟩ <;>
  · go_enter Tryz.func4, Tryz.ntmps4
    go_wp2_with (first
      | (go_at_call 5; (with_reducible refine Calls.mono (Hg.out _ hb0) ?_); rintro e w1 ⟨rfl, hb1⟩)
      | (go_at_call 6; refine (Haw.out _ hb1).mono ?_; rintro e w2 ⟨rfl, hb2⟩))
    go_ret
    exact ⟨rfl, hb2⟩
set_option maxRecDepth 100000 in
set_option maxHeartbeats 4000000 in
theorem lists_yes (l : List Mt) (v : Value) (n : List UInt8) (i : Int) (s : List UInt8) (w : World) (hE : Env w) (hv : LV ME w v l) (hl : l.length ≤ 9223372036854775807) (g : greatM l = false) (hn : n.length ≤ 40) (hs : s.length ≤ 600) :
    Calls Tryz.prog 4 #[v, .string ⟨n.toArray⟩, .int .i64 i, .string ⟨s.toArray⟩] w fun e w' => e = .returned (.bool true) ∧ Below w.heap.size w w' := by
  have Hg := Lib.hid (fun w1 (h1 : Below w.heap.size w w1) => (great5 l v w1 (hv.below h1)).mono fun e w' ⟨h2, h3⟩ => (⟨h2, h1.trans (below_mono h3 h1.size)⟩ : e = _ ∧ Below w.heap.size w w'))
  have Haw := Lib.hid (fun w1 (h1 : Below w.heap.size w w1) => awakeB h1.size h1)
  have hb0 : Below w.heap.size w w := Below.refl _ _
  have h40 : ¬ (40 : Int) < n.length := by omega
  have h600 : ¬ (600 : Int) < s.length := by omega
  have hs2 : s.length ≤ 100000 := by omega
  rw [g] at Hg
  have hf1 := fun w1 (h1 : Below w.heap.size w w1) => find11 l v n i w1 (hv.below h1) hl
  have hf2 := fun w1 (h1 : Below w.heap.size w w1) => find12 l v n i w1 (hv.below h1) hl
  have hp1 := fun w1 (h1 : Below w.heap.size w w1) => (print7 l v w1 (hE.below h1) (hv.below h1)).mono fun e w' h => pp_det h
  have hp2 := fun w1 (h1 : Below w.heap.size w w1) => (rprint l v w1 (hv.below h1)).mono fun e w' h => pp_det h
  have hq1 := fun w1 (h1 : Below w.heap.size w w1) => (parse8 s w1 (hE.below h1) hs2).mono fun e w' h => ans_det h
  have hq2 := fun w1 => (rparse14 s w1 hs2).mono fun e w' h => ans_det h
  have hck1 := fun w1 (h1 : Below w.heap.size w w1) => check l v w1 (hv.below h1)
  have hck2 := fun w1 (h1 : Below w.heap.size w w1) => rcheck l v w1 (hv.below h1)
  have hsm := fun v1 v2 w1 (h1 : LV ME w1 v1 (PQ s)) (h2 : LV ME w1 v2 (PQ s)) => same9 (PQ s) (PQ s) v1 v2 w1 h1 h2 (by have := pq_len s; omega)
  simp only [decide_true] at hsm
  unfold FPost at hf1 hf2
  generalize (fnd l n i).1 = M at *
  generalize (fnd l n i).2 = ok at *
  generalize chk l = ck at *
  generalize TT l = tt at *
  generalize eN s = en at *
  have Hf1 := Lib.hid hf1
  have Hf2 := Lib.hid hf2
  have Hp1 := Lib.hid hp1
  have Hp2 := Lib.hid hp2
  have Hq1 := Lib.hid hq1
  have Hq2 := Lib.hid hq2
  have Hck1 := Lib.hid hck1
  have Hck2 := Lib.hid hck2
  have Hsm := Lib.hid hsm
  clear hf1 hf2 hp1 hp2 hq1 hq2 hck1 hck2 hsm hv g hE
  go_enter Tryz.func4, Tryz.ntmps4
  go_upto_region 5 with (first
    | (go_at_call 5; (with_reducible refine Calls.mono (Hg.out _ hb0) ?_); rintro e w1 ⟨rfl, hb1⟩)
    | (go_at_call 11; refine Calls.mono (Hf1.out _ hb1) ?_; rintro e w2 ⟨rfl, b2⟩; have hb2 := hb1.trans (below_mono b2 hb1.size))
    | ((with_reducible refine wpList_storeMt (o := ⟨none, .store 34 (.tmp 9) (.tmp 39), _, _, _, none⟩) rfl _ _ rfl w2.heap.size zMt M ?_ ?_ ?_ ?_); (focus rfl); (focus rfl); (focus exact heap_alloc_new w2 _); intro w3 m3 f3 o3; have hb3 := f3 _ _ (hb2.alloc hb2.size _) hb2.size; clear f3 o3)
    | (go_at_call 12; refine Calls.mono (Hf2.out _ hb3) ?_; rintro e w4 ⟨rfl, b4⟩; have hb4 := hb3.trans (below_mono b4 hb3.size))
    | ((with_reducible refine wpList_storeMt (o := ⟨none, .store 34 (.tmp 11) (.tmp 46), _, _, _, none⟩) rfl _ _ rfl w4.heap.size zMt M ?_ ?_ ?_ ?_); (focus rfl); (focus rfl); (focus exact heap_alloc_new w4 _); intro w5 m5 f5 o5; have hb5 := f5 _ _ (hb4.alloc hb4.size _) hb4.size; have m35 := m3.below (f5 _ _ (b4.alloc b4.size _) b4.size) (heap_lt m3); clear f5 o5))
  go_upto_region 9 with (first
    | (go_at_call 7; refine Calls.mono (Hp1.out _ hb5) ?_; rintro e w6 ⟨rfl, b6⟩; have hb6 := hb5.trans (below_mono b6 hb5.size))
    | (go_at_call 13; refine Calls.mono (Hp2.out _ hb6) ?_; rintro e w7 ⟨rfl, b7⟩; have hb7 := hb6.trans (below_mono b7 hb6.size))
    | (go_at_call 8; refine Calls.mono (Hq1.out _ hb7) ?_; rintro e w8 ⟨v8, rfl, l8, b8⟩; have hb8 := hb7.trans (below_mono b8 hb7.size))
    | (go_at_call 14; refine Calls.mono (Hq2.out _) ?_; rintro e w9 ⟨v9, rfl, l9, b9⟩; have hb9 := hb8.trans (below_mono b9 hb8.size); have l89 := l8.below b9))
  have b59 : Below w5.heap.size w5 w9 := b6.trans ((below_mono b7 b6.size).trans ((below_mono b8 (Nat.le_trans b6.size b7.size)).trans (below_mono b9 (Nat.le_trans b6.size (Nat.le_trans b7.size b8.size)))))
  have hza := heap_lt m35
  have hzb := heap_lt m5
  have B59 := Lib.hid b59
  have M35 := Lib.hid m35
  have M5 := Lib.hid m5
  have L89 := Lib.hid l89
  have L9 := Lib.hid l9
  have Hb9 := Lib.hid hb9
  have hsz9 := b59.size
  clear b59 m35 m5 l89 l9 hb9 b6 b7 b8 b9 l8 hb6 hb7 hb8 hb5 hb4 hb3 hb2 hb1 b2 b4
  go_wp2_with (first
    | (go_at_call 9; refine Calls.mono (Hck1.out _ Hb9.out) ?_; rintro e w10 ⟨rfl, b10⟩; have hb10 := Hb9.out.trans (below_mono b10 Hb9.out.size))
    | (go_at_call 15; refine Calls.mono (Hck2.out _ hb10) ?_; rintro e w11 ⟨rfl, b11⟩; have hb11 := hb10.trans (below_mono b11 hb10.size); have b911 : Below w9.heap.size w9 w11 := b10.trans (below_mono b11 b10.size); have b511 : Below w5.heap.size w5 w11 := B59.out.trans (below_mono b911 hsz9); have la := L89.out.below b911; have lb := L9.out.below b911; have rA := rowOfHeap (M35.out.below b511 hza); have rB := rowOfHeap (M5.out.below b511 hzb); clear b10 b11 b911 b511)
    | ((with_reducible refine wpList_load_aggW (o := ⟨some 74, .load 34 (.tmp 9), _, _, _, _⟩) ?_ 34 _ rfl w2.heap.size 0 ?_ _ rA _ Tryz.underlying34 rfl ?_ ?_); (focus rfl); (focus rfl); (focus kernel_rfl))
    | ((with_reducible refine wpList_load_aggW (o := ⟨some 75, .load 34 (.tmp 11), _, _, _, _⟩) ?_ 34 _ rfl w4.heap.size 0 ?_ _ rB _ Tryz.underlying34 rfl ?_ ?_); (focus rfl); (focus rfl); (focus kernel_rfl))
    | ((with_reducible refine wpList_eqW (o := ⟨some 76, .binOp .eql 34 (.tmp 74) (.tmp 75) _, _, _, _, _⟩) ?_ _ _ _ rfl M M ?_ ?_ ?_); (focus rfl); (focus rfl); (focus rfl); simp only [decide_true])
    | (go_at_call 10; refine Calls.mono (Hsm.out _ _ _ la lb) ?_; rintro e w12 ⟨rfl, b12⟩; have hb12 := hb11.trans (below_mono b12 hb11.size))
    | (go_at_call 6; refine (Haw.out _ hb12).mono ?_; rintro e w13 ⟨rfl, hb13⟩))
  go_ret
  exact ⟨rfl, hb13⟩
theorem metricsLists4 (l : List Mt) (v : Value) (n : List UInt8) (i : Int) (s : List UInt8) (w : World) (hE : Env w) (hv : LV ME w v l) (hl : l.length ≤ 9223372036854775807) :
    Calls Tryz.prog 4 #[v, .string ⟨n.toArray⟩, .int .i64 i, .string ⟨s.toArray⟩] w fun e w' => e = .returned (.bool true) ∧ Below w.heap.size w w' := by
  cases g : greatM l with
  | true => exact lists_no l v n i s w hv (.inl g)
  | false =>
    by_cases h4 : n.length ≤ 40
    · by_cases h6 : s.length ≤ 600
      · exact lists_yes l v n i s w hE hv hl g h4 h6
      · exact lists_no l v n i s w hv (.inr (.inr ⟨g, by omega, by omega⟩))
    · exact lists_no l v n i s w hv (.inr (.inl ⟨g, by omega⟩))
end Go.Proofs.Seat8
end

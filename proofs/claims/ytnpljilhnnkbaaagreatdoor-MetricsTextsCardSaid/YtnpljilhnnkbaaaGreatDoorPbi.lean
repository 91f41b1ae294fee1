/- A part of the proof. -/
import Derived.Test.YtnpljilhnnkbaaaGreatDoorPbh
import Derived.Deep.Cut
import Derived.Test.YtnpljilhnnkbaaaGreatDoorPbf
import Derived.Lib.IndexLaws
import Derived.OrdersIn
import Derived.RangeFuncCalls
import Derived.TacticsInMore
import Derived.CallsIn
import Derived.RangeFuncNested
import Derived.RangeFuncBound
import Derived.RangeFuncLeaves
import Derived.Shelf.Abstract
import Derived.Shelf.RegionOpen
import Derived.WalkKit
import Derived.OwnWalkIn
import Derived.LoopNIn
import Derived.LoopIn
set_option linter.all false
section
namespace Go.Proofs.Seat8
open Go.RowKit Go.Proofs.Seat4
def numsOf (m : Mt) : List Int := [m.index, m.count, m.sum, m.mx]
def numT (n : Int) : List UInt8 := 32 :: Lib.itoa n
def lineT (m : Mt) : List UInt8 := m.name ++ (numsOf m).flatMap numT ++ [10]
def textT (l : List Mt) : List UInt8 := l.flatMap lineT
theorem textT_take (l : List Mt) (k : Nat) (h : k < l.length) : textT (l.take (k + 1)) = textT (l.take k) ++ lineT l[k] := by
  unfold textT
  rw [take_snoc l k h, List.flatMap_append]
  simp
theorem textT_le (l : List Mt) (k : Nat) : (textT (l.take k)).length ≤ (textT l).length := by
  unfold textT
  conv => rhs; rw [← List.take_append_drop k l, List.flatMap_append, List.length_append]
  omega
def ItoaAt (w0 : World) (n : Int) : Prop := ∀ w, Below w0.heap.size w0 w → Calls Tryz.prog 21 #[.int .i64 n] w fun e w' => e = .returned (.string ⟨(Lib.itoa n).toArray⟩) ∧ Below w.heap.size w w'
theorem numT_bytes (n : Int) : ((⟨#[32]⟩ : ByteArray) ++ ⟨(Lib.itoa n).toArray⟩) = ⟨(numT n).toArray⟩ := by
  rw [ByteArray.ext_iff]
  simp [numT]
theorem numT_len (n : Int) : (numT n).length = 1 + (Lib.itoa n).length := by simp [numT]; omega
theorem flat_take_le (nums : List Int) (j : Nat) : ((nums.take j).flatMap numT).length ≤ (nums.flatMap numT).length := by
  conv => rhs; rw [← List.take_append_drop j nums, List.flatMap_append, List.length_append]
  omega
set_option maxRecDepth 100000 in
set_option maxHeartbeats 1000000 in
theorem print16 (l : List Mt) (b off cap : Nat) (w : World) (hb : b < w.heap.size) (hl : l.length ≤ 500) (hcap : l.length ≤ cap) (hrow : LAt ME w b off l) (hc : chk l = 0) (hlen : (textT l).length ≤ 1000000) (hI : ∀ m ∈ l, ∀ n ∈ numsOf m, ItoaAt w n) :
    Calls Tryz.prog 7 #[.slice (some ⟨b, off, none⟩) l.length cap] w fun e w' => e = .returned (.tuple #[.string ⟨(textT l).toArray⟩, .int .i64 0]) ∧ Below w.heap.size w w' := by
  have Hrow := Lib.hid hrow
  have HI := Lib.hid hI
  have Hlen := Lib.hid hlen
  have hck := check l (.slice (some ⟨b, off, none⟩) l.length cap) w (LV.mk_ hcap hb hrow)
  rw [hc] at hck
  have Hck := Lib.hid hck
  clear hrow hI hlen hck hc
  go_enter Tryz.func7, Tryz.ntmps7
  go_wp2_with (go_at_call 9; refine Hck.out.mono ?_; rintro e w1 ⟨rfl, hb1⟩)
  have hB : IsB (w1.alloc (.cells #[.pointer none, .slice none 0 0] 59)) w1.heap.size (w1.heap.size + 1) [] := IsB.new _ _ (fun _ => True) (heap_alloc_new w1 _) _ (by omega) (by simp)
  have hb2 : Below w.heap.size w (w1.alloc (.cells #[.pointer none, .slice none 0 0] 59)) := hb1.alloc hb1.size _
  have hN : w.heap.size ≤ w1.heap.size := hb1.size
  generalize hW : w1.alloc (.cells #[.pointer none, .slice none 0 0] 59) = W at *
  generalize hbk : w1.heap.size = Bk at *
  have HB := Lib.hid hB
  have Hb2 := Lib.hid hb2
  clear hB hb2 hb1 hW hbk Hck
  go_loopw [17] (fun v wr => ∃ k : Nat, k ≤ l.length ∧ v = .int .i64 k ∧ IsB wr Bk (Bk + 1) (textT (l.take k)) ∧ Below w.heap.size w wr) (fun v _ => l.length - (intOf v).toNat)
  case atStart => exact ⟨0, Nat.zero_le _, rfl, HB.out, Hb2.out⟩
  case round =>
    obtain ⟨k, hk, rfl, hB, hbw⟩ := hrel
    clear HB Hb2
    by_cases hlt : k < l.length
    · have hr' : Row wr b (off + k * 5) (mtCells l[k]) := (Hrow.out k hlt).below hbw hb
      have hMI : ∀ n ∈ numsOf l[k], ItoaAt w n := HI.out l[k] (List.getElem_mem hlt)
      have hT := textT_take l k hlt
      have hTl := textT_le l (k + 1)
      rw [hT] at hTl
      generalize hM : l[k] = M at *
      have HM := Lib.hid hM
      have HB := Lib.hid hB
      have hsz := hbw.size
      have Hbw := Lib.hid hbw
      have HMI := Lib.hid hMI
      have HT := Lib.hid hT
      have HTl := Lib.hid hTl
      clear hM hB hbw hMI hT hTl
      go_upto_region 8 with ((with_reducible refine wpList_load_agg (o := ⟨some 20, .load 34 (.tmp 19), _, _, _, none⟩) rfl 34 _ rfl b (off + k * 5) ?_ _ hr' _ Tryz.underlying34 rfl ?_ ?_); (focus rfl); (focus kernel_rfl); simp only [mtCells])
      have hXn : (wr.alloc (.cells #[.string ⟨M.name.toArray⟩, .int .i64 M.index, .int .i64 M.count, .int .i64 M.sum, .int .i64 M.mx] 34)).heap[wr.heap.size]? = some (.cells #[.string ⟨M.name.toArray⟩, .int .i64 M.index, .int .i64 M.count, .int .i64 M.sum, .int .i64 M.mx] 34 (0, 0)) := heap_alloc_new wr _
      have hbA : Below wr.heap.size wr (wr.alloc (.cells #[.string ⟨M.name.toArray⟩, .int .i64 M.index, .int .i64 M.count, .int .i64 M.sum, .int .i64 M.mx] 34)) := (Below.refl _ _).alloc (Nat.le_refl _) _
      have hB2 := HB.out.keep hbA
      have hBk : Bk < wr.heap.size := Nat.lt_of_lt_of_le HB.out.1 HB.out.2.1
      have hb2 : Below w.heap.size w (wr.alloc (.cells #[.string ⟨M.name.toArray⟩, .int .i64 M.index, .int .i64 M.count, .int .i64 M.sum, .int .i64 M.mx] 34)) := Hbw.out.alloc hsz _
      generalize (wr.alloc (.cells #[.string ⟨M.name.toArray⟩, .int .i64 M.index, .int .i64 M.count, .int .i64 M.sum, .int .i64 M.mx] 34)) = W2 at *
      have Hb2 := Lib.hid hb2
      have HB2 := Lib.hid hB2
      clear hbA hB2 hb2
      have hTlen : (textT (l.take k) ++ M.name).length ≤ 1000000 := by
        have h1 := HTl.out
        have h2 := Hlen.out
        unfold lineT at h1
        simp only [List.length_append] at h1 ⊢
        omega
      have c0 : W2.cell? ⟨wr.heap.size, 0, none⟩ = some (.string ⟨M.name.toArray⟩) := by rw [Lib.cell_of_heap hXn]; rfl
      go_wp2_with (go_at_call 20; refine (writeString30 Bk (Bk + 1) (textT (l.take k)) M.name W2 HB2.out (by simp only [List.length_append] at hTlen; omega)).mono ?_; rintro e w3 ⟨rfl, hB3, hb3⟩; have hX3 := hb3.kept _ _ _ _ (by omega) (by decide) hXn; (have c1 : w3.cell? ⟨wr.heap.size, 1, none⟩ = some (.int .i64 M.index) := by rw [Lib.cell_of_heap hX3]; rfl); (have c2 : w3.cell? ⟨wr.heap.size, 2, none⟩ = some (.int .i64 M.count) := by rw [Lib.cell_of_heap hX3]; rfl); (have c3 : w3.cell? ⟨wr.heap.size, 3, none⟩ = some (.int .i64 M.sum) := by rw [Lib.cell_of_heap hX3]; rfl); (have c4 : w3.cell? ⟨wr.heap.size, 4, none⟩ = some (.int .i64 M.mx) := by rw [Lib.cell_of_heap hX3]; rfl))
      have hbW3 : Below w.heap.size w w3 := Hb2.out.trans ((hb3.below (by omega)).mono hN)
      have hYn : (w3.alloc (.cells #[.int .i64 M.index, .int .i64 M.count, .int .i64 M.sum, .int .i64 M.mx] 3)).heap[w3.heap.size]? = some (.cells #[.int .i64 M.index, .int .i64 M.count, .int .i64 M.sum, .int .i64 M.mx] 3 (0, 0)) := heap_alloc_new w3 _
      have hB4 : IsB (w3.alloc (.cells #[.int .i64 M.index, .int .i64 M.count, .int .i64 M.sum, .int .i64 M.mx] 3)) Bk (Bk + 1) (textT (l.take k) ++ M.name) := hB3.isB.keep ((Below.refl _ _).alloc (Nat.le_refl _) _)
      have hb4 : Below w.heap.size w (w3.alloc (.cells #[.int .i64 M.index, .int .i64 M.count, .int .i64 M.sum, .int .i64 M.mx] 3)) := hbW3.alloc hbW3.size _
      have hYB : w3.heap.size ≠ Bk := by
        have := hB3.1
        have := hB3.2.1
        omega
      generalize (w3.alloc (.cells #[.int .i64 M.index, .int .i64 M.count, .int .i64 M.sum, .int .i64 M.mx] 3)) = W4 at *
      have HB4 := Lib.hid hB4
      have Hb4 := Lib.hid hb4
      clear hB4 hb4 hbW3 c0 c1 c2 c3 c4 hX3 hXn hb3 hB3 HB2 Hb2
      generalize hY : w3.heap.size = Y at *
      clear hY
      go_loopw [34] (fun v wq => ∃ j : Nat, j ≤ 4 ∧ v = .int .i64 j ∧ IsB wq Bk (Bk + 1) (textT (l.take k) ++ M.name ++ ((numsOf M).take j).flatMap numT) ∧ Below w.heap.size w wq ∧ wq.heap[Y]? = some (.cells #[.int .i64 M.index, .int .i64 M.count, .int .i64 M.sum, .int .i64 M.mx] 3 (0, 0))) (fun v _ => 4 - (intOf v).toNat)
      case atStart => exact ⟨0, Nat.zero_le _, rfl, by simpa using HB4.out, Hb4.out, hYn⟩
      case round =>
        obtain ⟨j, hj, rfl, hBj, hbj, hYj⟩ := hrel
        clear HB4 Hb4 hYn hTlen
        by_cases h4 : j < 4
        · obtain ⟨n, hn, hmem, hcj⟩ : ∃ n, (numsOf M).take (j + 1) = (numsOf M).take j ++ [n] ∧ n ∈ numsOf M ∧ wr.cell? ⟨Y, j, none⟩ = some (.int .i64 n) := by
            rw [Lib.cell_of_heap hYj]
            match j, h4 with
            | 0, _ => exact ⟨_, rfl, by simp [numsOf], rfl⟩
            | 1, _ => exact ⟨_, rfl, by simp [numsOf], rfl⟩
            | 2, _ => exact ⟨_, rfl, by simp [numsOf], rfl⟩
            | 3, _ => exact ⟨_, rfl, by simp [numsOf], rfl⟩
          have hall : (textT (l.take k) ++ M.name ++ ((numsOf M).take (j + 1)).flatMap numT).length ≤ 1000000 := by
            have h1 := HTl.out
            have h2 := Hlen.out
            have h3 := flat_take_le (numsOf M) (j + 1)
            unfold lineT at h1
            simp only [List.length_append] at h1 ⊢
            omega
          rw [hn, List.flatMap_append, List.flatMap_singleton, ← List.append_assoc, List.length_append] at hall
          have hnl := numT_len n
          have hit : ¬ 9223372036854775807 < 1 + (Lib.itoa n).length := by omega
          have Hall := Lib.hid hall
          have Hnl := Lib.hid hnl
          clear hall hnl
          go_wp2_with (first | (go_at_call 21; refine (HMI.out n hmem wr hbj).mono ?_; rintro e w5 ⟨rfl, hb5⟩) | (go_at_call 20; rw [numT_bytes]; refine (writeString30 Bk (Bk + 1) (textT (l.take k) ++ M.name ++ ((numsOf M).take j).flatMap numT) (numT n) w5 (hBj.keep hb5) (by have := Hall.out; omega)).mono ?_; rintro e w6 ⟨rfl, hB6, hb6⟩))
          refine ⟨⟨j + 1, h4, by simp, ?_, ?_, ?_⟩, ?_⟩
          · rw [hn, List.flatMap_append, List.flatMap_singleton, ← List.append_assoc]
            exact hB6.isB
          · exact hbj.trans ((hb5.mono hbj.size).trans ((hb6.below (by omega)).mono hN))
          · exact hb6.kept _ _ _ _ hYB (by decide) ((hb5.block Y (heap_lt hYj)).trans hYj)
          · simp [intOf]; omega
        · obtain rfl : j = 4 := by omega
          have h7 : (textT (l.take k) ++ M.name ++ ((numsOf M).take 4).flatMap numT).length + 1 ≤ 1048576 := by
            have h1 := HTl.out
            have h2 := Hlen.out
            have h3 := flat_take_le (numsOf M) 4
            unfold lineT at h1
            simp only [List.length_append, List.length_singleton] at h1 ⊢
            omega
          go_wp2_with (go_at_call 22; refine Calls.mono (writeByte32 Bk (Bk + 1) (textT (l.take k) ++ M.name ++ ((numsOf M).take 4).flatMap numT) 10 wr hBj h7) ?_; rintro e w6 ⟨rfl, hB6, hb6⟩)
          refine ⟨⟨k + 1, hlt, by simp, ?_, ?_⟩, ?_⟩
          · have h9 := hB6.isB
            rw [show (numsOf M).take 4 = numsOf M from rfl] at h9
            rw [HT.out, lineT, ← List.append_assoc, ← List.append_assoc]
            exact h9
          · exact hbj.trans ((hb6.below (by omega)).mono hN)
          · simp [intOf]; omega
    · obtain rfl : k = l.length := by omega
      rw [List.take_length] at hB
      go_wp2_with (go_at_call 23; refine (string33 Bk (Bk + 1) (textT l) wr hB).mono ?_; rintro e w9 ⟨rfl, hb9⟩)
      go_ret2
      exact ⟨rfl, hbw.trans (hb9.mono hN)⟩
end Go.Proofs.Seat8
end
section
namespace Go.Proofs.Seat8
open Go.RowKit Go.Proofs.Seat4
theorem pu_append : ∀ (l : List UInt8) (acc m d : Nat), Lib.parseUint10 acc l = .ok m → d < 10 → m < 1000000000000000000 → Lib.parseUint10 acc (l ++ [UInt8.ofNat (48 + d)]) = .ok (m * 10 + d)
  | [], acc, m, d, h, hd, hm => by
    simp only [Lib.parseUint10, Lib.NumEnd.ok.injEq] at h
    subst h
    have e : (UInt8.ofNat (48 + d)).toNat = 48 + d := by rw [UInt8.toNat_ofNat', Nat.mod_eq_of_lt (by omega)]
    simp only [List.nil_append, Lib.parseUint10, e]
    rw [if_pos (by omega), if_neg (by omega), if_neg (by omega), show 48 + d - 48 = d from by omega]
  | x :: l, acc, m, d, h, hd, hm => by
    simp only [List.cons_append, Lib.parseUint10] at h ⊢
    split at h
    · rename_i h1
      rw [if_pos h1]
      split at h
      · cases h
      · rename_i h2
        rw [if_neg h2]
        split at h
        · cases h
        · rename_i h3
          rw [if_neg h3]
          exact pu_append l _ m d h hd hm
    · cases h
theorem pu_dec : ∀ (n u : Nat), u ≤ n → u < 10000000000000000000 → Lib.parseUint10 0 (Lib.decDigits u) = .ok u := by
  intro n
  induction n with
  | zero =>
    intro u hu _
    have : u = 0 := by omega
    subst this
    rw [Lib.decDigits.eq_1, dif_pos (by omega)]
    decide
  | succ n ih =>
    intro u hu hb
    rw [Lib.decDigits.eq_1]
    split
    · rename_i h
      have := pu_append [] 0 0 u rfl h (by omega)
      simpa using this
    · have := pu_append _ 0 (u / 10) (u % 10) (ih (u / 10) (by omega) (by omega)) (Nat.mod_lt _ (by omega)) (by omega)
      rw [this]
      congr 1
      omega
theorem mag_dec (u : Nat) (h : u < 10000000000000000000) : Lib.parseMag (Lib.decDigits u) = .ok u := by
  unfold Lib.parseMag
  rw [if_neg (dec_ne u)]
  exact pu_dec u u (Nat.le_refl _) h
theorem atoi_of_itoa (n : Int) (h0 : -9223372036854775808 ≤ n) (h1 : n ≤ 9223372036854775807) : Lib.atoiAll (Lib.itoa n) = .ok n := by
  unfold Lib.itoa
  split
  · rename_i h
    rw [Lib.atoiAll_minus, mag_dec _ (by omega)]
    unfold Lib.signed
    simp only
    rw [if_neg (by omega)]
    congr 1
    omega
  · rename_i h
    obtain ⟨x, r, hx, h2, h3⟩ := dec_head n.toNat
    rw [hx, Lib.atoiAll_plain x r (by omega) (by omega), ← hx, mag_dec _ (by omega)]
    unfold Lib.signless
    simp only
    rw [if_neg (by omega)]
    congr 1
    omega
def numA (s : List UInt8) : Option Int := match Lib.atoiAll s with | .ok n => some n | _ => none
def pNums : List (List UInt8) → Option (List Int)
  | [] => some []
  | w :: r => match numA w with | none => none | some n => (pNums r).map (n :: ·)
def mkM (n : List UInt8) (ns : List Int) : Mt := ⟨n, ns.getD 0 0, ns.getD 1 0, ns.getD 2 0, ns.getD 3 0⟩
def pLine (s : List UInt8) : Option Mt := if (splitA 32 [] s).length = 5 then (pNums (splitA 32 [] s).tail).map (mkM ((splitA 32 [] s).headD [])) else none
theorem cut_case (t : List UInt8) (h : t ≠ []) : ((10 : UInt8) ∉ t ∧ Lib.cut t [10] = (t, [], false)) ∨ ∃ a r, t = a ++ 10 :: r ∧ (10 : UInt8) ∉ a ∧ Lib.cut t [10] = (a, r, true) := by
  rcases first_byte 10 t with h1 | ⟨a, r, rfl, ha⟩
  · exact .inl ⟨h1, cut_none h1⟩
  · exact .inr ⟨a, r, rfl, ha, cut_hit a r ha⟩
theorem cut_less (t : List UInt8) (h : t ≠ []) : (Lib.cut t [10]).2.1.length < t.length := by
  rcases cut_case t h with ⟨h1, h2⟩ | ⟨a, r, rfl, ha, h2⟩
  · rw [h2]
    exact List.length_pos_iff.2 h
  · rw [h2]
    simp
    omega
def readP (t : List UInt8) (k : Nat) : Option (List Mt) :=
  if h : t = [] then some [] else
    if k = 500 then none else
      match pLine (Lib.cut t [10]).1 with
      | none => none
      | some m => (readP (Lib.cut t [10]).2.1 (k + 1)).map (m :: ·)
termination_by t.length
decreasing_by exact cut_less t h
def RdT (t : List UInt8) (c : List Mt) (r : Option (List Mt)) : Prop := (readP t c.length).map (c ++ ·) = r
theorem rdT_nil {c : List Mt} {r : Option (List Mt)} (h : RdT [] c r) : r = some c := by
  unfold RdT at h
  rw [readP, dif_pos rfl] at h
  rw [← h]
  simp
theorem rdT_ok {t : List UInt8} {c : List Mt} {r : Option (List Mt)} {m : Mt} (ht : t ≠ []) (hk : c.length ≠ 500) (hm : pLine (Lib.cut t [10]).1 = some m) (h : RdT t c r) : RdT (Lib.cut t [10]).2.1 (c ++ [m]) r := by
  unfold RdT at *
  rw [readP, dif_neg ht, if_neg hk, hm] at h
  rw [← h]
  simp only [List.length_append, List.length_singleton]
  cases readP (Lib.cut t [10]).2.1 (c.length + 1) <;> simp
theorem rdT_bad {t : List UInt8} {c : List Mt} {r : Option (List Mt)} (ht : t ≠ []) (hk : c.length = 500 ∨ pLine (Lib.cut t [10]).1 = none) (h : RdT t c r) : r = none := by
  unfold RdT at h
  rw [readP, dif_neg ht] at h
  by_cases h5 : c.length = 500
  · rw [if_pos h5] at h
    exact h.symm
  · rw [if_neg h5, hk.resolve_left h5] at h
    exact h.symm
def LineOk (m : Mt) : Prop := (10 : UInt8) ∉ m.name ∧ (32 : UInt8) ∉ m.name ∧ ∀ n ∈ numsOf m, -9223372036854775808 ≤ n ∧ n ≤ 9223372036854775807
theorem lineOk_of {m : Mt} (h : one m) : LineOk m := by
  obtain ⟨h1, h2⟩ := h
  have hn : ∀ x ∈ nmL, (10 : UInt8) ∉ x ∧ (32 : UInt8) ∉ x := by decide
  have h3 := hn m.name (by simpa using h1)
  refine ⟨h3.1, h3.2, fun n hm => ?_⟩
  simp only [rngB, wi, Bool.and_eq_true, decide_eq_true_eq] at h2
  simp only [numsOf, List.mem_cons, List.not_mem_nil, or_false] at hm
  rcases hm with rfl | rfl | rfl | rfl <;> omega
theorem line_body (m : Mt) : lineT m = (m.name ++ 32 :: (Lib.itoa m.index ++ 32 :: (Lib.itoa m.count ++ 32 :: (Lib.itoa m.sum ++ 32 :: Lib.itoa m.mx)))) ++ [10] := by
  simp [lineT, numsOf, numT]
theorem pLine_body {m : Mt} (h : LineOk m) : pLine (m.name ++ 32 :: (Lib.itoa m.index ++ 32 :: (Lib.itoa m.count ++ 32 :: (Lib.itoa m.sum ++ 32 :: Lib.itoa m.mx)))) = some m := by
  obtain ⟨h1, h2, h3⟩ := h
  have hi : ∀ n : Int, (32 : UInt8) ∉ Lib.itoa n := fun n => itoa_no n 32 (by decide) (by decide)
  have hs : splitA 32 [] (m.name ++ 32 :: (Lib.itoa m.index ++ 32 :: (Lib.itoa m.count ++ 32 :: (Lib.itoa m.sum ++ 32 :: Lib.itoa m.mx)))) = [m.name, Lib.itoa m.index, Lib.itoa m.count, Lib.itoa m.sum, Lib.itoa m.mx] := by
    rw [splitA_hit _ _ _ h2, splitA_hit _ _ _ (hi _), splitA_hit _ _ _ (hi _), splitA_hit _ _ _ (hi _), splitA_none _ _ (hi _)]
    simp
  have hq : ∀ n ∈ numsOf m, numA (Lib.itoa n) = some n := fun n hn => by
    unfold numA
    rw [atoi_of_itoa n (h3 n hn).1 (h3 n hn).2]
  unfold pLine
  rw [hs, if_pos (by rfl)]
  simp only [List.tail_cons, pNums, hq m.index (by simp [numsOf]), hq m.count (by simp [numsOf]), hq m.sum (by simp [numsOf]), hq m.mx (by simp [numsOf])]
  rfl
theorem body_no {m : Mt} (h : LineOk m) : (10 : UInt8) ∉ m.name ++ 32 :: (Lib.itoa m.index ++ 32 :: (Lib.itoa m.count ++ 32 :: (Lib.itoa m.sum ++ 32 :: Lib.itoa m.mx))) := by
  have hi : ∀ n : Int, (10 : UInt8) ∉ Lib.itoa n := fun n => itoa_no n 10 (by decide) (by decide)
  simp [h.1, hi]
theorem read_text : ∀ (l : List Mt) (k : Nat), (∀ m ∈ l, LineOk m) → k + l.length ≤ 500 → readP (textT l) k = some l
  | [], k, _, _ => by rw [readP]; simp [textT]
  | m :: l, k, h, hk => by
    have hm := h m (by simp)
    have e : textT (m :: l) = (m.name ++ 32 :: (Lib.itoa m.index ++ 32 :: (Lib.itoa m.count ++ 32 :: (Lib.itoa m.sum ++ 32 :: Lib.itoa m.mx)))) ++ 10 :: textT l := by
      show lineT m ++ textT l = _
      rw [line_body]
      simp
    have ih := read_text l (k + 1) (fun x hx => h x (List.mem_cons_of_mem _ hx)) (by simp at hk; omega)
    rw [readP, e, dif_neg (by simp), if_neg (by simp at hk; omega), cut_hit _ _ (body_no hm)]
    simp only [pLine_body hm, ih]
    rfl
noncomputable def parseR (s : List UInt8) : Option (List Mt) := match readP s 0 with | none => none | some l => open Classical in if chk l = 0 ∧ textT l = s then some l else none
theorem parse_text {l : List Mt} (h : chk l = 0) : parseR (textT l) = some l := by
  unfold parseR
  rw [read_text l 0 (fun m hm => lineOk_of (chk_one h m hm)) (by have := chk_len h; omega)]
  exact if_pos ⟨h, rfl⟩
theorem parse_some {s : List UInt8} {l : List Mt} (h : parseR s = some l) : chk l = 0 ∧ textT l = s := by
  unfold parseR at h
  split at h
  · cases h
  · rename_i l' _
    split at h
    · rename_i h2
      cases h
      exact h2
    · cases h
end Go.Proofs.Seat8
end
section
namespace Go.Proofs.Seat8
open Go.RowKit Go.Proofs.Seat4
theorem indexByte_no {c : UInt8} : ∀ {s : List UInt8}, c ∉ s → Lib.indexByte s c = -1
  | [], _ => rfl
  | b :: l, h => by
    have h1 : (b == c) = false := by
      rw [beq_eq_false_iff_ne]
      rintro rfl
      exact h (by simp)
    have h2 := indexByte_no (c := c) (s := l) fun e => h (List.mem_cons_of_mem _ e)
    unfold Lib.indexByte
    rw [h1, h2]
    rfl
theorem indexByte_at {c : UInt8} (r : List UInt8) : ∀ {a : List UInt8}, c ∉ a → Lib.indexByte (a ++ c :: r) c = (a.length : Int)
  | [], _ => by simp [Lib.indexByte]
  | b :: l, h => by
    have h1 : (b == c) = false := by
      rw [beq_eq_false_iff_ne]
      rintro rfl
      exact h (by simp)
    have h2 := indexByte_at r (c := c) (a := l) fun e => h (List.mem_cons_of_mem _ e)
    show (if b == c then 0 else if Lib.indexByte (l ++ c :: r) c == -1 then -1 else Lib.indexByte (l ++ c :: r) c + 1) = _
    rw [h1, h2]
    have h3 : (((l.length : Int)) == -1) = false := by rw [beq_eq_false_iff_ne]; omega
    rw [h3]
    simp
theorem take_str (s : List UInt8) (k : Nat) : (ByteArray.mk s.toArray).extract 0 k = ByteArray.mk (s.take k).toArray := by
  apply ByteArray.ext
  apply Array.toList_inj.1
  rw [Lib.extract_data]
  simp
theorem drop_str (s : List UInt8) (k n : Nat) (hn : n = s.length) : (ByteArray.mk s.toArray).extract k n = ByteArray.mk (s.drop k).toArray := by
  subst hn
  apply ByteArray.ext
  apply Array.toList_inj.1
  rw [Lib.extract_data]
  show List.take (s.length - k) (s.drop k) = s.drop k
  rw [List.take_of_length_le (by simp)]
set_option maxRecDepth 100000 in
theorem hasSuffix_yes (a : List UInt8) (w : World) (hs : a.length ≤ 1048576) :
    Calls Tryz.prog 77 #[.string ⟨(a ++ [10]).toArray⟩, .string ⟨#[10]⟩] w fun e w' => e = .returned (.bool true) ∧ w = w' := by
  have hc : (((ByteArray.mk (a ++ [10]).toArray).extract a.length (a.length + 1)).toList == [10]) = true := by
    rw [drop_str _ _ _ (by simp), ByteArray.toList_eq]
    simp
  go_enter Tryz.func77, Tryz.ntmps77
  go_wp2_with fail
  go_ret
  exact ⟨by first | rfl | rw [hc], rfl⟩
set_option maxRecDepth 100000 in
theorem hasSuffix_no (t : List UInt8) (w : World) (ht : t ≠ []) (h10 : (10 : UInt8) ∉ t) (hs : t.length ≤ 1048576) :
    Calls Tryz.prog 77 #[.string ⟨t.toArray⟩, .string ⟨#[10]⟩] w fun e w' => e = .returned (.bool false) ∧ w = w' := by
  obtain ⟨a, b, rfl⟩ : ∃ a b, t = a ++ [b] := ⟨t.dropLast, t.getLast ht, (List.dropLast_concat_getLast ht).symm⟩
  have hb : b ≠ 10 := fun e => h10 (by simp [e])
  have hc : (((ByteArray.mk (a ++ [b]).toArray).extract a.length (a.length + 1)).toList == [10]) = false := by
    rw [drop_str _ _ _ (by simp), ByteArray.toList_eq]
    simp [hb]
  have hl : a.length ≤ 1048576 := by simp at hs; omega
  clear hs ht h10 hb
  go_enter Tryz.func77, Tryz.ntmps77
  go_wp2_with fail
  go_ret
  exact ⟨by first | rfl | rw [hc], rfl⟩
set_option maxRecDepth 100000 in
theorem trim48_yes (a : List UInt8) (w : World) (hs : a.length ≤ 1048576) :
    Calls Tryz.prog 48 #[.string ⟨(a ++ [10]).toArray⟩, .string ⟨#[10]⟩] w fun e w' => e = .returned (.string ⟨a.toArray⟩) ∧ w = w' := by
  have hc : (ByteArray.mk (a ++ [10]).toArray).extract 0 a.length = ByteArray.mk a.toArray := by
    rw [take_str]
    simp
  have h77 := hasSuffix_yes a w hs
  go_enter Tryz.func48, Tryz.ntmps48
  go_wp2_with (go_at_call 77; refine h77.mono ?_; rintro e w1 ⟨rfl, rfl⟩)
  go_ret
  exact ⟨by first | rfl | rw [hc], rfl⟩
set_option maxRecDepth 100000 in
theorem trim48_no (t : List UInt8) (w : World) (ht : t ≠ []) (h10 : (10 : UInt8) ∉ t) (hs : t.length ≤ 1048576) :
    Calls Tryz.prog 48 #[.string ⟨t.toArray⟩, .string ⟨#[10]⟩] w fun e w' => e = .returned (.string ⟨t.toArray⟩) ∧ w = w' := by
  have h77 := hasSuffix_no t w ht h10 hs
  go_enter Tryz.func48, Tryz.ntmps48
  go_wp2_with (go_at_call 77; refine h77.mono ?_; rintro e w1 ⟨rfl, rfl⟩)
  go_ret
  exact ⟨rfl, rfl⟩
def lineY (t : List UInt8) : List UInt8 := (Lib.cut t [10]).1 ++ (if (Lib.cut t [10]).2.2 = true then [10] else [])
set_option maxRecDepth 100000 in
theorem trim26 (t : List UInt8) (w : World) (ht : t ≠ []) (hs : t.length ≤ 1048576) :
    Calls Tryz.prog 26 #[.string ⟨(lineY t).toArray⟩, .string ⟨#[10]⟩] w fun e w' => e = .returned (.string ⟨(Lib.cut t [10]).1.toArray⟩) ∧ w = w' := by
  have h48 : Calls Tryz.prog 48 #[.string ⟨(lineY t).toArray⟩, .string ⟨#[10]⟩] w fun e w' => e = .returned (.string ⟨(Lib.cut t [10]).1.toArray⟩) ∧ w = w' := by
    unfold lineY
    rcases cut_case t ht with ⟨h1, h2⟩ | ⟨a, r, rfl, ha, h2⟩
    · rw [h2]
      simp only [Bool.false_eq_true, if_false, List.append_nil]
      exact trim48_no t w ht h1 hs
    · rw [h2]
      simp only [if_true]
      exact trim48_yes a w (by simp at hs; omega)
  go_enter Tryz.func26, Tryz.ntmps26
  go_wp2_with (go_at_call 48; refine h48.mono ?_; rintro e w1 ⟨rfl, rfl⟩)
  go_ret
  exact ⟨rfl, rfl⟩
end Go.Proofs.Seat8
end
section
namespace Go.Proofs.Seat4
open Go Go.RowKit
section
variable {P : Program} {ops : Array Oper} {Q : Exit → Act → World → Prop}
def OnlyN (Q : Exit → Act → World → Prop) : Exit → Act → World → Prop := fun e a w => e = .normal ∧ Q .normal a w
theorem onlyN_no : ¬ LetsOut (OnlyN Q) := fun ⟨_, _, h, _⟩ => by cases h
theorem opIn_of {l n i : Nat} {K K' : Act → World → Prop} {a : Act} {w : World} (hd : ∀ o ∈ ops.toList, ∀ c, o.op ≠ .defer c) (hK : ∀ a w, K a w → K' a w) (h : wpOp P ops (OnlyN Q) i K a w) : wpOpIn (Fence.wide.inRound l) n P ops Q i K' a w := by
  unfold wpOp at h
  unfold wpOpIn
  cases ho : ops[i]? with
  | none => rw [ho] at h; exact hK _ _ h
  | some o =>
    rw [ho] at h
    simp only at h ⊢
    by_cases hw : Region.wanted o (yielded ops a.tmps) = true
    · rw [if_pos hw] at h
      rw [if_pos hw]
      rcases h with h | ⟨-, h⟩
      · unfold Oper.wpIn
        refine ⟨fun _ _ => trivial, ?_⟩
        rw [show (Fence.wide.inRound l).round = some l from rfl, Oper.semAt_some l a.eval o (hd o (by simpa using Array.mem_of_getElem? ho))]
        unfold Oper.wp at h
        generalize (execOp a.eval o).run P w = r at h ⊢
        cases r with
        | ok x w' =>
          cases x with
          | value u => exact hK _ _ h
          | skip => exact hK _ _ h
          | defer d => exact hK _ _ h
          | enter f args =>
            refine ⟨fun h => absurd h (show ¬ false = true by decide), CallsIn.inRound l (callsIn_wide.2 (Calls.mono h fun e w'' he => ?_))⟩
            cases e with
            | returned u => exact hK _ _ he
            | panicked ch => cases he.1
            | outgrown => exact absurd he onlyN_no
          | row row args =>
            refine ⟨fun h => absurd h (show ¬ false = true by decide), fun c cs _ => ?_⟩
            obtain ⟨u, w'', hr, hs⟩ := h c cs
            exact ⟨u, w'', hK _ _ hr, stepsIn_wide.2 hs⟩
          | _ => exact h.elim
        | halt x w' =>
          cases x with
          | panic u => cases h.1
          | _ => exact h.elim
      · exact absurd h onlyN_no
    · rw [if_neg hw] at h
      rw [if_neg hw]
      exact ⟨fun _ _ => trivial, hK _ _ h⟩
theorem anyIn_of {l n : Nat} {md : Region.Mode} (hd : ∀ o ∈ ops.toList, ∀ c, o.op ≠ .defer c) : ∀ (fuel : Nat) (listed : Array Bool) (a : Act) (w : World), wpAny P md ops (OnlyN Q) fuel listed a w → wpAnyIn (Fence.wide.inRound l) n P md ops Q fuel listed a w
  | 0, _, _, _, h => ⟨h.1, h.2.2⟩
  | fuel + 1, listed, a, w, h => ⟨fun hr => (h.1 hr).2, fun i hi => opIn_of hd (fun a w hk => anyIn_of hd fuel _ a w hk) (h.2 i hi)⟩
def noDefer (ops : Array Oper) : Bool := ops.toList.all fun o => match o.op with | .defer _ => false | _ => true
theorem noDefer_of (h : noDefer ops = true) : ∀ o ∈ ops.toList, ∀ c, o.op ≠ .defer c := fun o ho c e => by
  have := List.all_eq_true.1 h o ho
  rw [e] at this
  cases this
theorem wpIn_region_tail {id l n : Nat} {a : Act} {w : World} (m : Nat) (hm : P.follows .mixedOrders = true) (hok : (detOk ops && tailOk ops m && decide (m ≤ ops.size) && noDefer ops) = true) (S : World → Prop) (hS : S w.drew) (h : wpDetT P ops S (OnlyN Q) m ops.toList a) : (Code.region id ops true).wpIn (Fence.wide.inRound l) n P Q a w := by
  simp only [Bool.and_eq_true, decide_eq_true_eq] at hok
  obtain ⟨⟨⟨h1, h2⟩, h3⟩, h4⟩ := hok
  obtain ⟨v, _, hv, hend⟩ := detT_canon (P := P) (S := S) (Q := OnlyN Q) a m ops.toList 0 a (fun _ => undef) (fun j => by simp) (by simpa using h3) rfl h
  have hfalse : ∀ j, lst (Array.replicate ops.size false) j = !decide (j < ops.size) := by
    intro j
    unfold lst
    by_cases h : j < ops.size <;> simp [Array.getD, h]
  refine wpIn_region_any hm (anyIn_of (noDefer_of h4) _ _ _ _ (detT_any (S := S) h1 h2 h3 a v (fun j o hj ho => hv j o (Nat.zero_le _) (by omega) ho) (by simpa using hend) ops.size _ a _ ⟨by simp, fun i o hi hl => ?_⟩ (fun k _ hk => by rw [hfalse]; simp [hk]) ?_ ?_ hS))
  · rw [hfalse] at hl
    have := (Array.getElem?_eq_some_iff.1 hi).1
    simp [this] at hl
  · have := List.length_filter_le (fun i => !lst (Array.replicate ops.size false) i) (List.range m)
    simp only [List.length_range] at this
    omega
  · exact ⟨rfl, rfl, fun t _ j hj _ hD => by rw [hfalse] at hD; simp [hj] at hD, fun t _ => rfl⟩
theorem opIn_of0 {n i : Nat} {K K' : Act → World → Prop} {a : Act} {w : World} (hd : ∀ o ∈ ops.toList, ∀ c, o.op ≠ .defer c) (hK : ∀ a w, K a w → K' a w) (h : wpOp P ops (OnlyN Q) i K a w) : wpOpIn Fence.wide n P ops Q i K' a w := by
  unfold wpOp at h
  unfold wpOpIn
  cases ho : ops[i]? with
  | none => rw [ho] at h; exact hK _ _ h
  | some o =>
    rw [ho] at h
    simp only at h ⊢
    by_cases hw : Region.wanted o (yielded ops a.tmps) = true
    · rw [if_pos hw] at h
      rw [if_pos hw]
      rcases h with h | ⟨-, h⟩
      · unfold Oper.wpIn
        refine ⟨fun _ _ => trivial, ?_⟩
        rw [show Oper.semAt Fence.wide.round a.eval o = execOp a.eval o from rfl]
        unfold Oper.wp at h
        generalize (execOp a.eval o).run P w = r at h ⊢
        cases r with
        | ok x w' =>
          cases x with
          | value u => exact hK _ _ h
          | skip => exact hK _ _ h
          | defer d => exact hK _ _ h
          | enter f args =>
            refine ⟨fun h => absurd h (show ¬ false = true by decide), (callsIn_wide.2 (Calls.mono h fun e w'' he => ?_))⟩
            cases e with
            | returned u => exact hK _ _ he
            | panicked ch => cases he.1
            | outgrown => exact absurd he onlyN_no
          | row row args =>
            refine ⟨fun h => absurd h (show ¬ false = true by decide), fun c cs _ => ?_⟩
            obtain ⟨u, w'', hr, hs⟩ := h c cs
            exact ⟨u, w'', hK _ _ hr, stepsIn_wide.2 hs⟩
          | _ => exact h.elim
        | halt x w' =>
          cases x with
          | panic u => cases h.1
          | _ => exact h.elim
      · exact absurd h onlyN_no
    · rw [if_neg hw] at h
      rw [if_neg hw]
      exact ⟨fun _ _ => trivial, hK _ _ h⟩
theorem anyIn_of0 {n : Nat} {md : Region.Mode} (hd : ∀ o ∈ ops.toList, ∀ c, o.op ≠ .defer c) : ∀ (fuel : Nat) (listed : Array Bool) (a : Act) (w : World), wpAny P md ops (OnlyN Q) fuel listed a w → wpAnyIn Fence.wide n P md ops Q fuel listed a w
  | 0, _, _, _, h => ⟨h.1, h.2.2⟩
  | fuel + 1, listed, a, w, h => ⟨fun hr => (h.1 hr).2, fun i hi => opIn_of0 hd (fun a w hk => anyIn_of0 hd fuel _ a w hk) (h.2 i hi)⟩
theorem wpIn_region_tail0 {id n : Nat} {a : Act} {w : World} (m : Nat) (hm : P.follows .mixedOrders = true) (hok : (detOk ops && tailOk ops m && decide (m ≤ ops.size) && noDefer ops) = true) (S : World → Prop) (hS : S w.drew) (h : wpDetT P ops S (OnlyN Q) m ops.toList a) : (Code.region id ops true).wpIn Fence.wide n P Q a w := by
  simp only [Bool.and_eq_true, decide_eq_true_eq] at hok
  obtain ⟨⟨⟨h1, h2⟩, h3⟩, h4⟩ := hok
  obtain ⟨v, _, hv, hend⟩ := detT_canon (P := P) (S := S) (Q := OnlyN Q) a m ops.toList 0 a (fun _ => undef) (fun j => by simp) (by simpa using h3) rfl h
  have hfalse : ∀ j, lst (Array.replicate ops.size false) j = !decide (j < ops.size) := by
    intro j
    unfold lst
    by_cases h : j < ops.size <;> simp [Array.getD, h]
  refine wpIn_region_any hm (anyIn_of0 (noDefer_of h4) _ _ _ _ (detT_any (S := S) h1 h2 h3 a v (fun j o hj ho => hv j o (Nat.zero_le _) (by omega) ho) (by simpa using hend) ops.size _ a _ ⟨by simp, fun i o hi hl => ?_⟩ (fun k _ hk => by rw [hfalse]; simp [hk]) ?_ ?_ hS))
  · rw [hfalse] at hl
    have := (Array.getElem?_eq_some_iff.1 hi).1
    simp [this] at hl
  · have := List.length_filter_le (fun i => !lst (Array.replicate ops.size false) i) (List.range m)
    simp only [List.length_range] at this
    omega
  · exact ⟨rfl, rfl, fun t _ j hj _ hD => by rw [hfalse] at hD; simp [hj] at hD, fun t _ => rfl⟩
end
end Go.Proofs.Seat4
end
section
namespace Go.Proofs.Seat8
open Go.RowKit Go.Shelf Go.Proofs.Seat4
attribute [local go_sem] Oper.semAt_some
def textAt (b : Nat) (w : World) : Nat := match w.cell? ⟨b, 0, none⟩ with | some (.string s) => s.size | _ => 0
theorem textAt_eq {b : Nat} {w : World} {t : List UInt8} (h : w.cell? ⟨b, 0, none⟩ = some (.string ⟨t.toArray⟩)) : textAt b w = t.length := by
  unfold textAt
  rw [h]
  show t.toArray.size = t.length
  simp
theorem ib46 {t : List UInt8} {i : Int} (w : World) (h : Lib.indexByte t 10 = i) : Calls Tryz.prog 46 #[.string ⟨t.toArray⟩, .int .u8 10] w fun e w' => e = .returned (.int .i64 i) ∧ w = w' :=
  (Tryz.strings_IndexByte ⟨t.toArray⟩ 10 w).mono fun e w' ⟨h1, h2⟩ => ⟨by rw [h1]; exact congrArg (fun x => Ending.returned (.int .i64 x)) h, h2.symm⟩
set_option maxRecDepth 100000 in
set_option maxHeartbeats 4000000 in
theorem lines45 (n l Bc : Nat) (N : Nat) (hN : N ≤ 1048576) (J K : List UInt8 → World → Prop) (Jx : World → Prop)
    (hJ : ∀ t W, J t W → W.cell? ⟨Bc, 0, none⟩ = some (.string ⟨t.toArray⟩) ∧ W.frozen? ⟨Bc, 0, none⟩ = false ∧ t.length ≤ N)
    (hst : ∀ t W W1, J t W → Below W.heap.size W W1 → J t W1)
    (hset : ∀ t W, J t W → t ≠ [] → K t (W.setCell ⟨Bc, 0, none⟩ (.string ⟨(Lib.cut t [10]).2.1.toArray⟩)))
    (hY : ∀ t W, K t W → t ≠ [] → YieldAt Fence.wide (n - 1) Tryz.prog l #[.string ⟨(lineY t).toArray⟩] W fun e W' => (e = .returned (.bool true) ∧ J (Lib.cut t [10]).2.1 W') ∨ (e = .returned (.bool false) ∧ Jx W'))
    (t0 : List UInt8) (W : World) (h0 : J t0 W) :
    CallsIn Fence.wide n Tryz.prog 45 #[.func (.yield l) #[] #[], .pointer (some ⟨Bc, 0, none⟩)] W fun e W' => (∃ v, e = .returned v) ∧ (J [] W' ∨ Jx W') := by
  refine callsIn_of_wp Tryz.func45 rfl trivial ?_ rfl
  simp only [Tryz.ntmps45, List.size_toArray, List.length_cons, List.length_nil, Nat.reduceAdd, Nat.reduceSub, Array.replicate_succ, Array.replicate_zero, List.push_toArray, List.append_toArray, List.nil_append, List.cons_append]
  gi_wp2
  gi_loopw [3] (fun _ wr => ∃ t, J t wr) (fun _ wr => textAt Bc wr)
  case atStart => exact ⟨t0, h0⟩
  case round =>
    obtain ⟨t, hJt⟩ := hrel
    obtain ⟨hc, hf, hl⟩ := hJ t _ hJt
    have hm := textAt_eq hc
    by_cases ht : t = []
    · subst ht
      gi_wp2
      go_end0
      exact ⟨⟨_, rfl⟩, .inl hJt⟩
    · have hlen : 0 < t.length := List.length_pos_iff.2 ht
      have hless := cut_less t ht
      have hset' := hset t
      have Hm := Lib.hid hm
      have HJ := Lib.hid hJt
      rcases cut_case t ht with ⟨h1, h2⟩ | ⟨a, r, rfl, ha, h2⟩
      · have hK : K t (wr.setCell ⟨Bc, 0, none⟩ (.string ⟨#[]⟩)) := by
          have := hset t _ hJt ht
          rw [h2] at this
          exact this
        have hline : lineY t = t := by unfold lineY; rw [h2]; simp
        have Hix := Lib.hid (ib46 wr (indexByte_no h1))
        obtain ⟨fn, tmps, assign, body, hy, hR⟩ := hY t _ hK ht
        rw [hline] at hy
        rw [h2] at hR
        have HR := Lib.hid hR
        have H2 := Lib.hid h2
        clear hm hJt ht h1 hK hset' hR hline h2
        gi_wp2
        refine ⟨trivial, fun h => absurd h (by decide), ?_⟩
        refine (callsIn_wide.2 Hix.out).mono ?_
        rintro e w1 ⟨rfl, rfl⟩
        gi_wp2
        refine ⟨fun h => absurd h (by decide), ?_⟩
        refine HR.out.mono ?_
        rintro e w2 (⟨rfl, hJ2⟩ | ⟨rfl, hJx⟩)
        · have hm3 := textAt_eq (hJ _ _ hJ2).1
          have HJ3 := Lib.hid hJ2
          have Hm3 := Lib.hid hm3
          clear hJ2 hm3
          gi_wp2
          go_roundw
          case rel => exact ⟨_, HJ3.out⟩
          case measure => rw [Hm3.out, Hm.out]; simpa using hlen
        · gi_wp2
          refine bodyPost_ret (results_none rfl _ _ _) rfl ?_
          exact ⟨⟨_, rfl⟩, .inr hJx⟩
      · have hst' := hst (a ++ 10 :: r) wr
        have hline : lineY (a ++ 10 :: r) = a ++ [10] := by unfold lineY; rw [h2]; simp
        have hK : ∀ k, K (a ++ 10 :: r) ((wr.drewN k).setCell ⟨Bc, 0, none⟩ (.string ⟨r.toArray⟩)) := by
          intro k
          have := hset (a ++ 10 :: r) _ (hst _ _ _ hJt (below_drewN' _ k)) ht
          rw [h2] at this
          exact this
        have hal : a.length ≤ 1048576 := by simp at hl; omega
        have hrl : r.length ≤ 1048576 := by simp at hl; omega
        have E1 := Lib.hid (show (ByteArray.mk (a ++ 10 :: r).toArray).extract 0 (a.length + 1) = ByteArray.mk (a ++ [10]).toArray by
          rw [take_str, show a ++ 10 :: r = (a ++ [10]) ++ r by simp, List.take_left' (by simp)])
        have E2 := Lib.hid (show (ByteArray.mk (a ++ 10 :: r).toArray).extract (a.length + 1) (a.length + (r.length + 1)) = ByteArray.mk r.toArray by
          rw [drop_str _ _ _ (by simp), show a ++ 10 :: r = (a ++ [10]) ++ r by simp, List.drop_left' (by simp)])
        have Hix := Lib.hid (ib46 wr (indexByte_at r ha))
        have HK := Lib.hid hK
        have Hline := Lib.hid hline
        have H2 := Lib.hid h2
        clear hm hJt hK hset' hst' hline h2
        gi_wp2
        refine ⟨trivial, fun h => absurd h (by decide), ?_⟩
        refine (callsIn_wide.2 Hix.out).mono ?_
        rintro e w1 ⟨rfl, rfl⟩
        gi_wp2
        refine wpIn_region_tail0 9 (by kernel_rfl) (by kernel_rfl) (fun W' => ∃ k, W' = wr.drewN k) ⟨1, rfl⟩ ?_
        iterate 9
          apply wpDetT_cons
          · rintro wx ⟨k, rfl⟩
            go_wp2_with fail
            exact ⟨rfl, rfl, k, rfl⟩
          go_frame
        rintro wx ⟨k, rfl⟩
        go_wp2_with fail
        rw [E1.out, E2.out]
        refine ⟨rfl, ?_⟩
        obtain ⟨fn, tmps, assign, body, hy, hR⟩ := hY (a ++ 10 :: r) _ (HK.out k) (by simp)
        rw [Hline.out] at hy
        rw [H2.out] at hR
        have HR := Lib.hid hR
        clear hR HK
        gi_wp2
        refine ⟨fun h => absurd h (by decide), ?_⟩
        refine HR.out.mono ?_
        rintro e w2 (⟨rfl, hJ2⟩ | ⟨rfl, hJx⟩)
        · have hm3 := textAt_eq (hJ _ _ hJ2).1
          have HJ3 := Lib.hid hJ2
          have Hm3 := Lib.hid hm3
          clear hJ2 hm3
          gi_wp2
          go_roundw
          case rel => exact ⟨_, HJ3.out⟩
          case measure => rw [Hm3.out, Hm.out]; simp; omega
        · gi_wp2
          refine bodyPost_ret (results_none rfl _ _ _) rfl ?_
          exact ⟨⟨_, rfl⟩, .inr hJx⟩
end Go.Proofs.Seat8
end
section
namespace Go.Proofs.Seat8
open Go.RowKit Go.Shelf Go.Proofs.Seat4
def roundEnds (A B : World → Prop) : Exit → Act → World → Prop
  | .normal, _, W' => A W'
  | .ret, _, W' => B W'
  | .exit _, _, _ => False
  | .goto _, _, _ => False
  | .panic _, _, _ => False
  | .outgrown, _, _ => False
theorem wpIn_range_lines {g : Operand} {assign body : Code} {Q : Exit → Act → World → Prop} {a : Act} {w : World} {n Bc N p : Nat} (h1 : 1 ≤ n) (hN : N ≤ 1048576) (hg : a.eval g = .func (.func 45) #[] #[.pointer (some ⟨Bc, 0, none⟩)])
    (I I' : Loop → List UInt8 → World → Prop) (Ix : Loop → World → Prop)
    (hrec : ∀ L t W, I L t W → W.heap[w.heap.size + 1]? = some (.loop L)) (hrec' : ∀ L t W, I' L t W → W.heap[w.heap.size + 1]? = some (.loop L)) (hrecx : ∀ L W, Ix L W → W.heap[w.heap.size + 1]? = some (.loop L))
    (hput : ∀ L L' t W, I L t W → I L' t (W.putObj (w.heap.size + 1) (.loop L'))) (hput' : ∀ L L' t W, I' L t W → I' L' t (W.putObj (w.heap.size + 1) (.loop L'))) (hputx : ∀ L L' W, Ix L W → Ix L' (W.putObj (w.heap.size + 1) (.loop L')))
    (hE : ∀ L t W, I L t W → W.cell? ⟨Bc, 0, none⟩ = some (.string ⟨t.toArray⟩) ∧ W.frozen? ⟨Bc, 0, none⟩ = false ∧ t.length ≤ N)
    (hst : ∀ L t W W1, I L t W → Below W.heap.size W W1 → I L t W1)
    (hset : ∀ L t W, I L t W → t ≠ [] → I' L t (W.setCell ⟨Bc, 0, none⟩ (.string ⟨(Lib.cut t [10]).2.1.toArray⟩)))
    (t0 : List UInt8) (h0 : ∀ L, I L t0 ((w.alloc (.deferred (some []))).alloc (.loop L)))
    (a₁ : List UInt8 → Act)
    (hassign : ∀ (t : List UInt8) (W : World) (K : Act → World → Prop), K (a₁ t) W → assign.wpIn (Fence.wide.inRound (w.heap.size + 1)) (n - 1 - 1) Tryz.prog (Exit.then K (fun _ _ _ => False))
      { tmps := ((#[p] : Array Tmp).zip #[.string ⟨(lineY t).toArray⟩]).foldl (fun ts (pv : Tmp × Value) => ts.setIfInBounds pv.1 pv.2) a.tmps, defers := [] } W)
    (hbody : ∀ L t W, I' L t W → t ≠ [] → body.wpIn (Fence.wide.inRound (w.heap.size + 1)) (n - 1 - 1) Tryz.prog (roundEnds (I L (Lib.cut t [10]).2.1) (Ix L)) (a₁ t) W)
    (hdone : ∀ L W, I L [] W → Q .normal { a with defers := { target := .collected w.heap.size, args := #[] } :: a.defers } W)
    (hstop : ∀ L W, Ix L W → Code.ret.wpIn Fence.wide n Tryz.prog Q { a with defers := { target := .collected w.heap.size, args := #[] } :: a.defers } W) :
    (Code.rangeFunc g #[p] assign body).wpIn Fence.wide n Tryz.prog Q a w := by
  refine wpIn_rangeFunc ?_
  intro fn hfn
  obtain ⟨rec, hrc⟩ : ∃ rec : LoopState → Option Code → Loop, rec = fun st pe => { state := st, pending := pe, fn := fn, tmps := a.tmps, params := #[p], assign := assign, body := body, defers := w.heap.size } := ⟨_, rfl⟩
  refine ⟨w.heap.size + 1, [{ target := .collected w.heap.size, args := #[] }], (w.alloc (.deferred (some []))).alloc (.loop (rec .ready none)), { target := .fn (.func 45) #[.pointer (some ⟨Bc, 0, none⟩)], args := #[.func (.yield (w.heap.size + 1)) #[] #[]] },
    (w.alloc (.deferred (some []))).alloc (.loop (rec .ready none)), 45, #[.func (.yield (w.heap.size + 1)) #[] #[], .pointer (some ⟨Bc, 0, none⟩)], (w.alloc (.deferred (some []))).alloc (.loop (rec .ready none)), ?_, ?_, fun _ _ => trivial, ?_, fun _ => h1, ?_⟩
  · rw [hrc]
    exact run_enterLoop_outer _ _ _ _ _
  · simp only [resolve, hg]
    simp [go_sem]
  · have eg := enters_of (P := Tryz.prog) Tryz.func45 (by kernel_rfl) rfl
    simp [invoke, go_sem, eg _ _]
  · refine (lines45 (n - 1) (w.heap.size + 1) Bc N hN (I (rec .ready none)) (I' (rec .ready none)) (fun W => Ix (rec .done (some .ret)) W) (fun t W h => hE _ t W h) (fun t W W1 h hb => hst _ t W W1 h hb) (fun t W h ht => hset _ t W h ht) ?_ t0 _ (h0 _)).mono ?_
    · intro t W hI ht
      have hl := hrec' _ _ _ hI
      have hy := run_yield (P := Tryz.prog) (args := #[.string ⟨(lineY t).toArray⟩]) hl (by rw [hrc]; rfl)
      rw [hrc] at hy
      refine ⟨fn, _, assign, body, hy, roundIn_of_wpIn hfn (hassign t W _ ⟨_, run_beginRound hl (by rw [hrc]), ?_⟩)⟩
      refine wpIn_mono (hbody _ t _ (hput' _ _ t W hI) ht) ?_
      intro e a3 W3 hp
      have fin : ∀ (jump : Option Code), W3.heap[w.heap.size + 1]? = some (.loop { rec .ready none with state := .busy }) → (Instr.endRound (w.heap.size + 1) jump).run Tryz.prog W3 = .ok (.bool jump.isNone) (W3.putObj (w.heap.size + 1) (.loop (rec (if jump.isNone then .ready else .done) jump))) := fun jump h => by
        have := run_endRound (P := Tryz.prog) jump h
        rw [hrc] at this ⊢
        exact this
      cases e with
      | normal => exact ⟨_, _, fin none (hrec _ _ _ hp), .inl ⟨rfl, hput _ _ _ W3 hp⟩⟩
      | ret => exact ⟨_, _, fin (some .ret) (hrecx _ _ hp), .inr ⟨rfl, hputx _ _ W3 hp⟩⟩
      | exit id => exact hp.elim
      | goto t => exact hp.elim
      | panic ch => exact hp.elim
      | outgrown => exact hp.elim
    · rintro e W2 ⟨⟨v, rfl⟩, hI | hX⟩
      · refine ⟨none, _, ?_, hdone _ _ (hput _ { rec .ready none with state := .exhausted } [] W2 hI)⟩
        have := run_endLoop (P := Tryz.prog) (hrec _ _ _ hI) (by rw [hrc]; simp)
        rw [hrc] at this ⊢
        exact this
      · refine ⟨some .ret, _, ?_, hstop _ _ (hputx _ { rec .done (some .ret) with state := .exhausted } W2 hX)⟩
        have := run_endLoop (P := Tryz.prog) (hrecx _ _ hX) (by rw [hrc]; simp)
        rw [hrc] at this ⊢
        exact this
end Go.Proofs.Seat8
end
section
namespace Go.Proofs.Seat4
open Go.RowKit
def Clo (ops : Array Oper) (D : Nat → Bool) : Prop := ∀ j o, ops[j]? = some o → D j = true → ∀ e ∈ o.after, Region.binds .any e = true → D e.on = true
def DetOpG (P : Program) (ops : Array Oper) (S : (Nat → Bool) → World → Prop) (i : Nat) (o : Oper) (a : Act) (v : Value) : Prop :=
  ∀ D w, D i = false → Clo ops D → (∀ e ∈ o.after, Region.binds .any e = true → D e.on = true) → S D w → wpList P ops (DetPost (S (fun j => D j || j == i)) o a v) [o] a w
def wpDetG (P : Program) (ops : Array Oper) (S : (Nat → Bool) → World → Prop) (Q : Exit → Act → World → Prop) : Nat → List Oper → Act → Prop
  | _, [], a => ∀ D w, (∀ j, j < ops.size → D j = true) → S D w → Q .normal a w
  | i, o :: rest, a => ∃ v, DetOpG P ops S i o a v ∧ wpDetG P ops S Q (i + 1) rest (a.put o.dst v)
section
variable {P : Program} {ops : Array Oper} {S : (Nat → Bool) → World → Prop} {Q : Exit → Act → World → Prop}
theorem wpDetG_cons {i : Nat} {o : Oper} {rest : List Oper} {a : Act} {v : Value} (h1 : DetOpG P ops S i o a v) (h2 : wpDetG P ops S Q (i + 1) rest (a.put o.dst v)) : wpDetG P ops S Q i (o :: rest) a := ⟨v, h1, h2⟩
theorem det_canonG (a0 : Act) : ∀ (l : List Oper) (k : Nat) (a : Act) (v : Nat → Value), (∀ j, l[j]? = ops[k + j]?) → canon ops a0 v k = a → wpDetG P ops S Q k l a →
    ∃ v' : Nat → Value, (∀ j, j < k → v' j = v j) ∧ (∀ j o, k ≤ j → ops[j]? = some o → DetOpG P ops S j o (canon ops a0 v' j) (v' j)) ∧ (∀ D w, (∀ j, j < ops.size → D j = true) → S D w → Q .normal (canon ops a0 v' (k + l.length)) w) := by
  intro l
  induction l with
  | nil =>
    intro k a v hl ha h
    refine ⟨v, fun _ _ => rfl, fun j o hj ho => ?_, fun D w hD hw => by simpa [ha] using h D w hD hw⟩
    have hnone : ops[j]? = none := by
      have := hl (j - k)
      rw [show k + (j - k) = j from by omega] at this
      simpa using this.symm
    rw [hnone] at ho
    cases ho
  | cons o rest ih =>
    intro k a v hl ha h
    obtain ⟨u, hu, hrest⟩ := h
    have hk : ops[k]? = some o := by simpa using (hl 0).symm
    have same : ∀ (v1 v2 : Nat → Value) (m : Nat), (∀ j, j < m → v1 j = v2 j) → canon ops a0 v1 m = canon ops a0 v2 m := by
      intro v1 v2 m hm
      induction m with
      | zero => rfl
      | succ m ihm =>
        simp only [canon]
        rw [ihm fun j hj => hm j (by omega)]
        cases ops[m]? with
        | none => rfl
        | some o' => simp only [hm m (by omega)]
    let v2 : Nat → Value := fun j => if j = k then u else v j
    have hv2 : ∀ j, j < k → v2 j = v j := fun j hj => if_neg (by omega)
    have hck : canon ops a0 v2 k = a := (same v2 v k hv2).trans ha
    have hck1 : canon ops a0 v2 (k + 1) = a.put o.dst u := by
      show (match ops[k]? with | some o => (canon ops a0 v2 k).put o.dst (v2 k) | none => canon ops a0 v2 k) = _
      rw [hk, hck]
      simp [v2]
    obtain ⟨v', h1, h2, h3⟩ := ih (k + 1) _ v2 (fun j => by have := hl (j + 1); simpa [Nat.add_assoc, Nat.add_comm 1 j] using this) hck1 hrest
    refine ⟨v', fun j hj => (h1 j (by omega)).trans (hv2 j hj), fun j o' hj ho => ?_, fun D w hD hw => by have := h3 D w hD hw; rwa [show k + 1 + rest.length = k + (o :: rest).length from by simp; omega] at this⟩
    by_cases e : j = k
    · subst e
      rw [hk] at ho
      cases ho
      rw [same v' v2 j fun m hm => h1 m (by omega), hck, h1 j (by omega)]
      simp only [v2, if_true]
      exact hu
    · exact h2 j o' (by omega) ho
theorem det_anyG (hok : detOk ops = true) (a0 : Act) (v : Nat → Value) (hop : ∀ j o, ops[j]? = some o → DetOpG P ops S j o (canon ops a0 v j) (v j)) (hend : ∀ D w, (∀ j, j < ops.size → D j = true) → S D w → Q .normal (canon ops a0 v ops.size) w) :
    ∀ (fuel : Nat) (listed : Array Bool) (a : Act) (w : World), listed.size = ops.size → ((List.range ops.size).filter fun i => !listed.getD i true).length ≤ fuel → DetInv ops a0 v (fun j => listed.getD j true) a → Closed ops listed → S (fun j => listed.getD j true) w →
      wpAny P .any ops Q fuel listed a w := by
  have hall : ∀ (listed : Array Bool) (a : Act) (w : World), listed.size = ops.size → DetInv ops a0 v (fun j => listed.getD j true) a → Closed ops listed → S (fun j => listed.getD j true) w → (∀ i, i < ops.size → listed.getD i true = true) → Q .normal a w := by
    intro listed a w hsz hinv hC hS hl
    have hc := canon_inv hok a0 v ops.size (Nat.le_refl _)
    have : a = canon ops a0 v ops.size := by
      have ht : a.tmps = (canon ops a0 v ops.size).tmps := by
        apply Array.ext_getElem?
        intro t
        by_cases hex : ∃ j, j < ops.size ∧ writesTo ops j t = true
        · obtain ⟨j, hj, hw⟩ := hex
          by_cases htl : t < a0.tmps.size
          · rw [hinv.done t htl j hj hw (hl j hj), hc.done t htl j hj hw (by simpa using hj)]
          · rw [Array.getElem?_eq_none (by rw [hinv.size]; omega), Array.getElem?_eq_none (by rw [hc.size]; omega)]
        · rw [hinv.rest t fun j hj hw => absurd ⟨j, hj, hw⟩ hex, hc.rest t fun j hj hw => absurd ⟨j, hj, hw⟩ hex]
      have hd : a.defers = (canon ops a0 v ops.size).defers := hinv.defers.trans hc.defers.symm
      cases a
      cases hcn : canon ops a0 v ops.size
      rw [hcn] at ht hd
      simp only at ht hd
      rw [ht, hd]
    rw [this]
    exact hend _ w hl hS
  have hready : ∀ (listed : Array Bool), Region.ready .any ops listed = [] → ∀ i, i < ops.size → listed.getD i true = true := by
    intro listed hr i
    induction i using Nat.strongRecOn with
    | ind i ih =>
      intro hi
      apply Classical.byContradiction
      intro hn
      have hn' : listed.getD i true = false := by simpa using hn
      have : i ∈ Region.ready .any ops listed := by
        unfold Region.ready
        rw [List.mem_filter]
        refine ⟨List.mem_range.2 hi, ?_⟩
        have hget : ops[i]? = some ops[i] := Array.getElem?_eq_getElem hi
        rw [hn', hget]
        simp only [Bool.not_false, Bool.true_and, Option.map_some, Option.getD_some]
        rw [Array.all_eq_true']
        intro e he
        cases hb : Region.binds .any e with
        | false => rfl
        | true =>
          have hlt := (detOk_at hok hget).early e he hb
          have := ih e.on hlt (by omega)
          have hlt' : e.on < listed.size ∨ ¬ e.on < listed.size := by omega
          rcases hlt' with h | h
          · simp only [Array.getD, h, dif_pos] at this ⊢
            exact this
          · exfalso
            have h1 : i < listed.size ∨ ¬ i < listed.size := by omega
            rcases h1 with h1 | h1
            · omega
            · simp [Array.getD, h1] at hn'
      rw [hr] at this
      cases this
  intro fuel
  induction fuel with
  | zero =>
    intro listed a w hsz hcount hinv hC hS
    have hl : ∀ i, i < ops.size → listed.getD i true = true := by
      intro i hi
      have := List.eq_nil_of_length_eq_zero (Nat.le_zero.1 hcount)
      have hmem : i ∉ (List.range ops.size).filter fun i => !listed.getD i true := by rw [this]; simp
      rw [List.mem_filter] at hmem
      simp only [List.mem_range, hi, true_and] at hmem
      simpa using hmem
    refine ⟨?_, hall listed a w hsz hinv hC hS hl⟩
    unfold Region.ready
    rw [List.filter_eq_nil_iff]
    intro i hi
    rw [hl i (List.mem_range.1 hi)]
    simp
  | succ fuel ih =>
    intro listed a w hsz hcount hinv hC hS
    refine ⟨fun hr => hall listed a w hsz hinv hC hS (hready listed hr), fun i hi => ?_⟩
    unfold Region.ready at hi
    rw [List.mem_filter] at hi
    obtain ⟨hir, hc⟩ := hi
    have hil : i < ops.size := List.mem_range.1 hir
    have hget : ops[i]? = some ops[i] := Array.getElem?_eq_getElem hil
    rw [hget] at hc
    simp only [Bool.and_eq_true, Option.map_some, Option.getD_some] at hc
    obtain ⟨hn, hafter⟩ := hc
    have hn' : listed.getD i true = false := by simpa using hn
    have A := detOk_at hok hget
    have hcan := canon_inv hok a0 v i (by omega)
    have hagree : ∀ t ∈ ops[i].looksAt ops, a.tmps[t]? = (canon ops a0 v i).tmps[t]? := by
      intro t ht
      by_cases hex : ∃ j, j < ops.size ∧ writesTo ops j t = true
      · obtain ⟨j, hj, hw⟩ := hex
        obtain ⟨e, he, hb, hon⟩ := A.deps t ht j hj hw
        have hlt := A.early e he hb
        have hlist := Array.all_eq_true'.1 hafter e he
        rw [hb] at hlist
        simp only [Bool.not_true, Bool.false_or] at hlist
        have hDj : listed.getD j true = true := by
          rw [hon] at hlist
          simp only [Array.getD] at hlist ⊢
          split at hlist
          · rename_i h; rw [dif_pos h]; exact hlist
          · cases hlist
        by_cases htl : t < a0.tmps.size
        · rw [hinv.done t htl j hj hw hDj, hcan.done t htl j hj hw (by simp; omega)]
        · rw [Array.getElem?_eq_none (by rw [hinv.size]; exact Nat.le_of_not_lt htl), Array.getElem?_eq_none (by rw [hcan.size]; exact Nat.le_of_not_lt htl)]
      · rw [hinv.rest t fun j hj hw => absurd ⟨j, hj, hw⟩ hex, hcan.rest t fun j hj hw => absurd ⟨j, hj, hw⟩ hex]
    have hdep : ∀ e ∈ ops[i].after, Region.binds .any e = true → listed.getD e.on true = true := by
      intro e he hb
      have hlist := Array.all_eq_true'.1 hafter e he
      rw [hb] at hlist
      simp only [Bool.not_true, Bool.false_or] at hlist
      simp only [Array.getD] at hlist ⊢
      split at hlist
      · rename_i h; rw [dif_pos h]; exact hlist
      · cases hlist
    refine wpOp_mono ?_ (det_transfer (Q := Q) (v := v i) hget A.sel (hinv.size.trans hcan.size.symm) hagree (hop i ops[i] hget (fun j => listed.getD j true) w hn' (fun j o ho hj => hC.down j o ho hj) hdep hS))
    rintro a' w' ⟨rfl, hS'⟩
    have hsz' : (listed.setIfInBounds i true).size = ops.size := by simpa using hsz
    have hf : (fun j => listed.getD j true || j == i) = fun j => (listed.setIfInBounds i true).getD j true := by
      funext j
      by_cases hjl : j < listed.size
      · by_cases e : j = i
        · subst e; simp [Array.getD, hjl]
        · have : ¬ i = j := fun x => e x.symm
          simp [Array.getD, hjl, Array.getElem_setIfInBounds, e, this]
      · simp [Array.getD, hjl]
    rw [hf] at hS'
    refine ih _ _ _ hsz' ?_ ?_ (hC.set hget hdep) hS'
    · have hlt : ((List.range ops.size).filter fun k => !(listed.setIfInBounds i true).getD k true).length < ((List.range ops.size).filter fun k => !listed.getD k true).length := by
        have hsub : ((List.range ops.size).filter fun k => !(listed.setIfInBounds i true).getD k true) = ((List.range ops.size).filter fun k => !listed.getD k true).filter (fun k => k != i) := by
          rw [List.filter_filter]
          apply List.filter_congr
          intro k hk
          have hkl : k < listed.size := by rw [hsz]; exact List.mem_range.1 hk
          by_cases e : k = i
          · subst e; simp [Array.getD, hkl]
          · have : ¬ i = k := fun x => e x.symm
            simp [Array.getD, hkl, Array.getElem_setIfInBounds, e, this]
        rw [hsub]
        have hmem : i ∈ (List.range ops.size).filter fun k => !listed.getD k true := List.mem_filter.2 ⟨hir, hn⟩
        exact List.length_filter_lt_length_iff_exists.2 ⟨i, hmem, by simp⟩
      omega
    · have := hinv.put hok hget hn'
      rwa [hf] at this
theorem wp_region_detG {id : Nat} {a : Act} {w : World} (hm : P.follows .mixedOrders = true) (hok : detOk ops = true) (S : (Nat → Bool) → World → Prop) (hS : S (fun j => !decide (j < ops.size)) w.drew) (h : wpDetG P ops S Q 0 ops.toList a) : (Code.region id ops true).wp P Q a w := by
  obtain ⟨v, _, h2, h3⟩ := det_canonG (P := P) (S := S) (Q := Q) a ops.toList 0 a (fun _ => undef) (fun j => by simp) rfl h
  have hf : (fun j => (Array.replicate ops.size false).getD j true) = fun j => !decide (j < ops.size) := by
    funext j
    by_cases h : j < ops.size <;> simp [Array.getD, h]
  refine wp_region_any hm (det_anyG (S := S) hok a v (fun j o ho => h2 j o (Nat.zero_le _) ho) (by simpa using h3) ops.size _ a _ (by simp) ?_ ?_ ?_ (by rw [hf]; exact hS))
  · exact Nat.le_trans (List.length_filter_le _ _) (by simp)
  · rw [hf]
    exact ⟨rfl, rfl, fun t _ j hj _ hD => by simp [hj] at hD, fun t _ => rfl⟩
  · refine ⟨by simp, fun i o hi hl => ?_⟩
    have hlt : i < ops.size := (Array.getElem?_eq_some_iff.1 hi).1
    simp [lst, Array.getD, hlt] at hl
end
end Go.Proofs.Seat4
end
section
namespace Go.Proofs.Seat4
open Go.RowKit
def wpDetGT (P : Program) (ops : Array Oper) (S : (Nat → Bool) → World → Prop) (Q : Exit → Act → World → Prop) : Nat → Nat → List Oper → Act → Prop
  | 0, i, l, a => ∀ D w, (∀ j, j < i → D j = true) → S D w → wpList P ops Q l a w
  | _ + 1, i, [], a => ∀ D w, (∀ j, j < i → D j = true) → S D w → Q .normal a w
  | m + 1, i, o :: rest, a => ∃ v, DetOpG P ops S i o a v ∧ wpDetGT P ops S Q m (i + 1) rest (a.put o.dst v)
section
variable {P : Program} {ops : Array Oper} {S : (Nat → Bool) → World → Prop} {Q : Exit → Act → World → Prop}
theorem wpDetGT_cons {m i : Nat} {o : Oper} {rest : List Oper} {a : Act} {v : Value} (h1 : DetOpG P ops S i o a v) (h2 : wpDetGT P ops S Q m (i + 1) rest (a.put o.dst v)) : wpDetGT P ops S Q (m + 1) i (o :: rest) a := ⟨v, h1, h2⟩
theorem detGT_canon (a0 : Act) : ∀ (m : Nat) (l : List Oper) (k : Nat) (a : Act) (v : Nat → Value), (∀ j, l[j]? = ops[k + j]?) → m ≤ l.length → canon ops a0 v k = a → wpDetGT P ops S Q m k l a →
    ∃ v' : Nat → Value, (∀ j, j < k → v' j = v j) ∧ (∀ j o, k ≤ j → j < k + m → ops[j]? = some o → DetOpG P ops S j o (canon ops a0 v' j) (v' j)) ∧ (∀ D w, (∀ j, j < k + m → D j = true) → S D w → wpList P ops Q (l.drop m) (canon ops a0 v' (k + m)) w) := by
  intro m
  induction m with
  | zero =>
    intro l k a v hl _ ha h
    exact ⟨v, fun _ _ => rfl, fun j o h1 h2 => by omega, fun D w hD hw => by simpa [ha] using h D w hD hw⟩
  | succ m ih =>
    intro l k a v hl hm ha h
    cases l with
    | nil => simp at hm
    | cons o rest =>
      obtain ⟨u, hu, hrest⟩ := h
      have hk : ops[k]? = some o := by simpa using (hl 0).symm
      have same : ∀ (v1 v2 : Nat → Value) (m : Nat), (∀ j, j < m → v1 j = v2 j) → canon ops a0 v1 m = canon ops a0 v2 m := by
        intro v1 v2 m hm
        induction m with
        | zero => rfl
        | succ m ihm =>
          simp only [canon]
          rw [ihm fun j hj => hm j (by omega)]
          cases ops[m]? with
          | none => rfl
          | some o' => simp only [hm m (by omega)]
      let v2 : Nat → Value := fun j => if j = k then u else v j
      have hv2 : ∀ j, j < k → v2 j = v j := fun j hj => if_neg (by omega)
      have hck : canon ops a0 v2 k = a := (same v2 v k hv2).trans ha
      have hck1 : canon ops a0 v2 (k + 1) = a.put o.dst u := by
        show (match ops[k]? with | some o => (canon ops a0 v2 k).put o.dst (v2 k) | none => canon ops a0 v2 k) = _
        rw [hk, hck]
        simp [v2]
      obtain ⟨v', h1, h2, h3⟩ := ih rest (k + 1) _ v2 (fun j => by have := hl (j + 1); simpa [Nat.add_assoc, Nat.add_comm 1 j] using this) (by simpa using hm) hck1 hrest
      refine ⟨v', fun j hj => (h1 j (by omega)).trans (hv2 j hj), fun j o' hj hj2 ho => ?_, fun D w hD hw => by have := h3 D w (fun j hj => hD j (by omega)) hw; rwa [show k + 1 + m = k + (m + 1) from by omega] at this⟩
      by_cases e : j = k
      · subst e
        rw [hk] at ho
        cases ho
        rw [same v' v2 j fun m hm => h1 m (by omega), hck, h1 j (by omega)]
        simp only [v2, if_true]
        exact hu
      · exact h2 j o' (by omega) (by omega) ho
theorem detGT_any {m : Nat} (hok : detOk ops = true) (ht : tailOk ops m = true) (hm : m ≤ ops.size) (a0 : Act) (v : Nat → Value) (hop : ∀ j o, j < m → ops[j]? = some o → DetOpG P ops S j o (canon ops a0 v j) (v j)) (hend : ∀ D w, (∀ j, j < m → D j = true) → S D w → wpList P ops Q (ops.toList.drop m) (canon ops a0 v m) w) :
    ∀ (fuel : Nat) (listed : Array Bool) (a : Act) (w : World), Closed ops listed → (∀ k, m ≤ k → k < ops.size → lst listed k = false) → ((List.range m).filter fun i => !lst listed i).length + (ops.size - m) ≤ fuel → DetInv ops a0 v (fun j => lst listed j) a → S (fun j => lst listed j) w →
      wpAny P .any ops Q fuel listed a w := by
  have hdone : ∀ (fuel : Nat) (listed : Array Bool) (a : Act) (w : World), Closed ops listed → (∀ k, m ≤ k → k < ops.size → lst listed k = false) → (ops.size - m) ≤ fuel → DetInv ops a0 v (fun j => lst listed j) a → S (fun j => lst listed j) w → (∀ j, j < m → lst listed j = true) → wpAny P .any ops Q fuel listed a w := by
    intro fuel listed a w hc hlate hf hinv hS hall
    have hcn := canon_inv hok a0 v m hm
    have hlst : ∀ j, j < ops.size → lst listed j = decide (j < m) := by
      intro j hj
      by_cases h : j < m
      · simp [h, hall j h]
      · simp [h, hlate j (by omega) hj]
    have heq : a = canon ops a0 v m := by
      have htm : a.tmps = (canon ops a0 v m).tmps := by
        apply Array.ext_getElem?
        intro t
        by_cases hex : ∃ j, j < ops.size ∧ writesTo ops j t = true ∧ j < m
        · obtain ⟨j, hj, hw, hjm⟩ := hex
          by_cases htl : t < a0.tmps.size
          · rw [hinv.done t htl j hj hw (hall j hjm), hcn.done t htl j hj hw (by simpa using hjm)]
          · rw [Array.getElem?_eq_none (by rw [hinv.size]; exact Nat.le_of_not_lt htl), Array.getElem?_eq_none (by rw [hcn.size]; exact Nat.le_of_not_lt htl)]
        · have hno : ∀ j, j < ops.size → writesTo ops j t = true → ¬ j < m := fun j hj hw hjm => hex ⟨j, hj, hw, hjm⟩
          rw [hinv.rest t fun j hj hw => by rw [hlst j hj]; simpa using hno j hj hw, hcn.rest t fun j hj hw => by simpa using hno j hj hw]
      have hd : a.defers = (canon ops a0 v m).defers := hinv.defers.trans hcn.defers.symm
      cases a
      cases hc2 : canon ops a0 v m
      rw [hc2] at htm hd
      simp only at htm hd
      rw [htm, hd]
    rw [heq]
    exact tail_any ht hok fuel m listed _ w (Nat.le_refl _) hm hf hc hlst (hend _ w hall hS)
  intro fuel
  induction fuel with
  | zero =>
    intro listed a w hc hlate hcount hinv hS
    refine hdone 0 listed a w hc hlate (by omega) hinv hS fun j hj => ?_
    have h0 : ((List.range m).filter fun i => !lst listed i) = [] := List.eq_nil_of_length_eq_zero (by omega)
    have hmem : j ∉ (List.range m).filter fun i => !lst listed i := by rw [h0]; simp
    rw [List.mem_filter] at hmem
    simp only [List.mem_range, hj, true_and] at hmem
    simpa using hmem
  | succ fuel ih =>
    intro listed a w hc hlate hcount hinv hS
    by_cases hall : ∀ j, j < m → lst listed j = true
    · have : ((List.range m).filter fun i => !lst listed i) = [] := by
        rw [List.filter_eq_nil_iff]
        intro i hi
        rw [hall i (List.mem_range.1 hi)]
        simp
      rw [this] at hcount
      exact hdone (fuel + 1) listed a w hc hlate (by simpa using hcount) hinv hS hall
    · obtain ⟨j0, hj0⟩ : ∃ j, j < m ∧ lst listed j = false := by
        apply Classical.byContradiction
        intro hno
        refine hall fun j hj => ?_
        apply Classical.byContradiction
        intro hne
        exact hno ⟨j, hj, by simpa using hne⟩
      refine ⟨fun hr => ?_, fun i hi => ?_⟩
      · exfalso
        have hmin : ∀ i, i < ops.size → lst listed i = true := by
          intro i
          induction i using Nat.strongRecOn with
          | ind i ihi =>
            intro hilt
            apply Classical.byContradiction
            intro hn
            have hn' : lst listed i = false := by simpa using hn
            have hget : ops[i]? = some ops[i] := Array.getElem?_eq_getElem hilt
            have : i ∈ Region.ready .any ops listed := by
              unfold Region.ready
              rw [List.mem_filter]
              refine ⟨List.mem_range.2 hilt, ?_⟩
              rw [hget]
              simp only [Option.map_some, Option.getD_some, Bool.and_eq_true]
              refine ⟨by unfold lst at hn'; rw [hn']; simp, ?_⟩
              rw [Array.all_eq_true']
              intro e he
              cases hb : Region.binds .any e with
              | false => rfl
              | true =>
                have h1 := (detOk_at hok hget).early e he hb
                have h2 := ihi e.on h1 (by omega)
                have h3 : e.on < listed.size := by rw [hc.size]; omega
                simp only [lst, Array.getD] at h2 ⊢
                rw [dif_pos h3] at h2 ⊢
                simpa using h2
            rw [hr] at this
            cases this
        have := hmin j0 (by omega)
        rw [hj0.2] at this
        cases this
      · obtain ⟨o, ho, hn, hd⟩ := ready_spec hi
        have hilt := (Array.getElem?_eq_some_iff.1 ho).1
        have him : i < m := by
          rcases Nat.lt_or_ge i m with h | h
          · exact h
          · have := tail_listed ht hc ho h (fun e he hb => (hd e he hb).1) j0 (by omega)
            rw [hj0.2] at this
            cases this
        have A := detOk_at hok ho
        have hcan := canon_inv hok a0 v i (by omega)
        have hagree : ∀ t ∈ o.looksAt ops, a.tmps[t]? = (canon ops a0 v i).tmps[t]? := by
          intro t htl
          by_cases hex : ∃ j, j < ops.size ∧ writesTo ops j t = true
          · obtain ⟨j, hj, hw⟩ := hex
            obtain ⟨e, he, hb, hon⟩ := A.deps t htl j hj hw
            have hlt := A.early e he hb
            have hDj : lst listed j = true := by rw [← hon]; exact (hd e he hb).1
            by_cases hsz : t < a0.tmps.size
            · rw [hinv.done t hsz j hj hw hDj, hcan.done t hsz j hj hw (by simp; omega)]
            · rw [Array.getElem?_eq_none (by rw [hinv.size]; exact Nat.le_of_not_lt hsz), Array.getElem?_eq_none (by rw [hcan.size]; exact Nat.le_of_not_lt hsz)]
          · rw [hinv.rest t fun j hj hw => absurd ⟨j, hj, hw⟩ hex, hcan.rest t fun j hj hw => absurd ⟨j, hj, hw⟩ hex]
        refine wpOp_mono ?_ (det_transfer (Q := Q) (v := v i) ho A.sel (hinv.size.trans hcan.size.symm) hagree (hop i o him ho (fun j => lst listed j) w hn (fun j o ho hj => hc.down j o ho hj) (fun e he hb => (hd e he hb).1) hS))
        rintro a' w' ⟨rfl, hS'⟩
        have hil : i < listed.size := by rw [hc.size]; exact hilt
        have hfS : (fun j => lst listed j || j == i) = fun j => lst (listed.setIfInBounds i true) j := by
          funext j
          rw [lst_set hil]
        rw [hfS] at hS'
        refine ih _ _ _ (hc.set ho fun e he hb => (hd e he hb).1) (fun k hk hk2 => ?_) ?_ ?_ hS'
        · rw [lst_set hil, hlate k hk hk2]
          simp
          omega
        · have hsub : ((List.range m).filter fun k => !lst (listed.setIfInBounds i true) k) = ((List.range m).filter fun k => !lst listed k).filter (fun k => k != i) := by
            rw [List.filter_filter]
            apply List.filter_congr
            intro k _
            rw [lst_set hil]
            by_cases e : k = i
            · subst e; simp
            · have e1 : (k == i) = false := by simpa using e
              have e2 : (k != i) = true := by simpa using e
              rw [e1, e2]
              simp
          rw [hsub]
          have hmem : i ∈ (List.range m).filter fun k => !lst listed k := List.mem_filter.2 ⟨List.mem_range.2 him, by simp [hn]⟩
          have : (((List.range m).filter fun k => !lst listed k).filter (fun k => k != i)).length < ((List.range m).filter fun k => !lst listed k).length :=
            List.length_filter_lt_length_iff_exists.2 ⟨i, hmem, by simp⟩
          omega
        · have := hinv.put hok ho hn
          have hf : (fun j => lst listed j || j == i) = fun j => lst (listed.setIfInBounds i true) j := by
            funext j
            rw [lst_set hil]
          rwa [hf] at this
theorem anyGT {a : Act} {w : World} (m : Nat) (hok : (detOk ops && tailOk ops m && decide (m ≤ ops.size)) = true) (S : (Nat → Bool) → World → Prop) (hS : S (fun j => !decide (j < ops.size)) w) (h : wpDetGT P ops S Q m 0 ops.toList a) : wpAny P .any ops Q ops.size (Array.replicate ops.size false) a w := by
  simp only [Bool.and_eq_true, decide_eq_true_eq] at hok
  obtain ⟨⟨h1, h2⟩, h3⟩ := hok
  obtain ⟨v, _, hv, hend⟩ := detGT_canon (P := P) (S := S) (Q := Q) a m ops.toList 0 a (fun _ => undef) (fun j => by simp) (by simpa using h3) rfl h
  have hfalse : ∀ j, lst (Array.replicate ops.size false) j = !decide (j < ops.size) := by
    intro j
    unfold lst
    by_cases h : j < ops.size <;> simp [Array.getD, h]
  refine detGT_any (S := S) h1 h2 h3 a v (fun j o hj ho => hv j o (Nat.zero_le _) (by omega) ho) (fun D w hD hw => by simpa using hend D w (fun j hj => hD j (by omega)) hw) ops.size _ a _ ⟨by simp, fun i o hi hl => ?_⟩ (fun k _ hk => by rw [hfalse]; simp [hk]) ?_ ?_ ?_
  · rw [hfalse] at hl
    have := (Array.getElem?_eq_some_iff.1 hi).1
    simp [this] at hl
  · have := List.length_filter_le (fun i => !lst (Array.replicate ops.size false) i) (List.range m)
    simp only [List.length_range] at this
    omega
  · exact ⟨rfl, rfl, fun t _ j hj _ hD => by rw [hfalse] at hD; simp [hj] at hD, fun t _ => rfl⟩
  · rw [show (fun j => lst (Array.replicate ops.size false) j) = fun j => !decide (j < ops.size) from funext hfalse]
    exact hS
theorem wpIn_region_GT {id l n : Nat} {a : Act} {w : World} (m : Nat) (hm : P.follows .mixedOrders = true) (hok : (detOk ops && tailOk ops m && decide (m ≤ ops.size) && noDefer ops) = true) (S : (Nat → Bool) → World → Prop) (hS : S (fun j => !decide (j < ops.size)) w.drew) (h : wpDetGT P ops S (OnlyN Q) m 0 ops.toList a) : (Code.region id ops true).wpIn (Fence.wide.inRound l) n P Q a w := by
  rw [Bool.and_eq_true] at hok
  exact wpIn_region_any hm (anyIn_of (noDefer_of hok.2) _ _ _ _ (anyGT m hok.1 S hS h))
end
end Go.Proofs.Seat4
end

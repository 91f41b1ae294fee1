/- A part of the proof. -/
import Derived.Test.YtnpljilhnnkbaaaGreatDoorPbf
import Derived.Test.YtnpljilhnnkbaaaGreatDoorPbg
import Derived.Deep.Cut
import Derived.Lib.AppendIntMem
import Derived.Lib.IndexLaws
set_option linter.all false
section
namespace Go.Proofs.Seat8
open Go.RowKit Go.Proofs.Seat4
def numsOf (m : Mt) : List Int := [m.index, m.count, m.sum, m.mx]
def numT (n : Int) : List UInt8 := 32 :: Lib.itoa n
def lineT (m : Mt) : List UInt8 := m.name ++ (numsOf m).flatMap numT ++ [10]
def textT (l : List Mt) : List UInt8 := l.flatMap lineT
theorem textT_take (l : List Mt) (k : Nat) (h : k < l.length) : textT (l.take (k + 1)) = textT (l.take k) ++ lineT l[k] := by
  unfold textT
  rw [take_snoc l k h, List.flatMap_append]
  simp
theorem textT_le (l : List Mt) (k : Nat) : (textT (l.take k)).length ≤ (textT l).length := by
  unfold textT
  conv => rhs; rw [← List.take_append_drop k l, List.flatMap_append, List.length_append]
  omega
def ItoaAt (w0 : World) (n : Int) : Prop := ∀ w, Below w0.heap.size w0 w → Calls Tryz.prog 21 #[.int .i64 n] w fun e w' => e = .returned (.string ⟨(Lib.itoa n).toArray⟩) ∧ Below w.heap.size w w'
theorem numT_bytes (n : Int) : ((⟨#[32]⟩ : ByteArray) ++ ⟨(Lib.itoa n).toArray⟩) = ⟨(numT n).toArray⟩ := by
  rw [ByteArray.ext_iff]
  simp [numT]
theorem numT_len (n : Int) : (numT n).length = 1 + (Lib.itoa n).length := by simp [numT]; omega
theorem flat_take_le (nums : List Int) (j : Nat) : ((nums.take j).flatMap numT).length ≤ (nums.flatMap numT).length := by
  conv => rhs; rw [← List.take_append_drop j nums, List.flatMap_append, List.length_append]
  omega
set_option maxRecDepth 100000 in
set_option maxHeartbeats 1000000 in
theorem print16 (l : List Mt) (b off cap : Nat) (w : World) (hb : b < w.heap.size) (hl : l.length ≤ 500) (hcap : l.length ≤ cap) (hrow : LAt ME w b off l) (hc : chk l = 0) (hlen : (textT l).length ≤ 1000000) (hI : ∀ m ∈ l, ∀ n ∈ numsOf m, ItoaAt w n) :
    Calls Tryz.prog 7 #[.slice (some ⟨b, off, none⟩) l.length cap] w fun e w' => e = .returned (.tuple #[.string ⟨(textT l).toArray⟩, .int .i64 0]) ∧ Below w.heap.size w w' := by
  have Hrow := Lib.hid hrow
  have HI := Lib.hid hI
  have Hlen := Lib.hid hlen
  have hck := check l (.slice (some ⟨b, off, none⟩) l.length cap) w (LV.mk_ hcap hb hrow)
  rw [hc] at hck
  have Hck := Lib.hid hck
  clear hrow hI hlen hck hc
  go_enter Tryz.func7, Tryz.ntmps7
  go_wp2_with (go_at_call 9; refine Hck.out.mono ?_; rintro e w1 ⟨rfl, hb1⟩)
  have hB : IsB (w1.alloc (.cells #[.pointer none, .slice none 0 0] 59)) w1.heap.size (w1.heap.size + 1) [] := IsB.new _ _ (fun _ => True) (heap_alloc_new w1 _) _ (by omega) (by simp)
  have hb2 : Below w.heap.size w (w1.alloc (.cells #[.pointer none, .slice none 0 0] 59)) := hb1.alloc hb1.size _
  have hN : w.heap.size ≤ w1.heap.size := hb1.size
  generalize hW : w1.alloc (.cells #[.pointer none, .slice none 0 0] 59) = W at *
  generalize hbk : w1.heap.size = Bk at *
  have HB := Lib.hid hB
  have Hb2 := Lib.hid hb2
  clear hB hb2 hb1 hW hbk Hck
  go_loopw [17] (fun v wr => ∃ k : Nat, k ≤ l.length ∧ v = .int .i64 k ∧ IsB wr Bk (Bk + 1) (textT (l.take k)) ∧ Below w.heap.size w wr) (fun v _ => l.length - (intOf v).toNat)
  case atStart => exact ⟨0, Nat.zero_le _, rfl, HB.out, Hb2.out⟩
  case round =>
    obtain ⟨k, hk, rfl, hB, hbw⟩ := hrel
    clear HB Hb2
    by_cases hlt : k < l.length
    · have hr' : Row wr b (off + k * 5) (mtCells l[k]) := (Hrow.out k hlt).below hbw hb
      have hMI : ∀ n ∈ numsOf l[k], ItoaAt w n := HI.out l[k] (List.getElem_mem hlt)
      have hT := textT_take l k hlt
      have hTl := textT_le l (k + 1)
      rw [hT] at hTl
      generalize hM : l[k] = M at *
      have HM := Lib.hid hM
      have HB := Lib.hid hB
      have hsz := hbw.size
      have Hbw := Lib.hid hbw
      have HMI := Lib.hid hMI
      have HT := Lib.hid hT
      have HTl := Lib.hid hTl
      clear hM hB hbw hMI hT hTl
      go_upto_region 8 with ((with_reducible refine wpList_load_agg (o := ⟨some 20, .load 34 (.tmp 19), _, _, _, none⟩) rfl 34 _ rfl b (off + k * 5) ?_ _ hr' _ Tryz.underlying34 rfl ?_ ?_); (focus rfl); (focus kernel_rfl); simp only [mtCells])
      have hXn : (wr.alloc (.cells #[.string ⟨M.name.toArray⟩, .int .i64 M.index, .int .i64 M.count, .int .i64 M.sum, .int .i64 M.mx] 34)).heap[wr.heap.size]? = some (.cells #[.string ⟨M.name.toArray⟩, .int .i64 M.index, .int .i64 M.count, .int .i64 M.sum, .int .i64 M.mx] 34 (0, 0)) := heap_alloc_new wr _
      have hbA : Below wr.heap.size wr (wr.alloc (.cells #[.string ⟨M.name.toArray⟩, .int .i64 M.index, .int .i64 M.count, .int .i64 M.sum, .int .i64 M.mx] 34)) := (Below.refl _ _).alloc (Nat.le_refl _) _
      have hB2 := HB.out.keep hbA
      have hBk : Bk < wr.heap.size := Nat.lt_of_lt_of_le HB.out.1 HB.out.2.1
      have hb2 : Below w.heap.size w (wr.alloc (.cells #[.string ⟨M.name.toArray⟩, .int .i64 M.index, .int .i64 M.count, .int .i64 M.sum, .int .i64 M.mx] 34)) := Hbw.out.alloc hsz _
      generalize (wr.alloc (.cells #[.string ⟨M.name.toArray⟩, .int .i64 M.index, .int .i64 M.count, .int .i64 M.sum, .int .i64 M.mx] 34)) = W2 at *
      have Hb2 := Lib.hid hb2
      have HB2 := Lib.hid hB2
      clear hbA hB2 hb2
      have hTlen : (textT (l.take k) ++ M.name).length ≤ 1000000 := by
        have h1 := HTl.out
        have h2 := Hlen.out
        unfold lineT at h1
        simp only [List.length_append] at h1 ⊢
        omega
      have c0 : W2.cell? ⟨wr.heap.size, 0, none⟩ = some (.string ⟨M.name.toArray⟩) := by rw [Lib.cell_of_heap hXn]; rfl
      go_wp2_with (go_at_call 20; refine (writeString30 Bk (Bk + 1) (textT (l.take k)) M.name W2 HB2.out (by simp only [List.length_append] at hTlen; omega)).mono ?_; rintro e w3 ⟨rfl, hB3, hb3⟩; have hX3 := hb3.kept _ _ _ _ (by omega) (by decide) hXn; (have c1 : w3.cell? ⟨wr.heap.size, 1, none⟩ = some (.int .i64 M.index) := by rw [Lib.cell_of_heap hX3]; rfl); (have c2 : w3.cell? ⟨wr.heap.size, 2, none⟩ = some (.int .i64 M.count) := by rw [Lib.cell_of_heap hX3]; rfl); (have c3 : w3.cell? ⟨wr.heap.size, 3, none⟩ = some (.int .i64 M.sum) := by rw [Lib.cell_of_heap hX3]; rfl); (have c4 : w3.cell? ⟨wr.heap.size, 4, none⟩ = some (.int .i64 M.mx) := by rw [Lib.cell_of_heap hX3]; rfl))
      have hbW3 : Below w.heap.size w w3 := Hb2.out.trans ((hb3.below (by omega)).mono hN)
      have hYn : (w3.alloc (.cells #[.int .i64 M.index, .int .i64 M.count, .int .i64 M.sum, .int .i64 M.mx] 3)).heap[w3.heap.size]? = some (.cells #[.int .i64 M.index, .int .i64 M.count, .int .i64 M.sum, .int .i64 M.mx] 3 (0, 0)) := heap_alloc_new w3 _
      have hB4 : IsB (w3.alloc (.cells #[.int .i64 M.index, .int .i64 M.count, .int .i64 M.sum, .int .i64 M.mx] 3)) Bk (Bk + 1) (textT (l.take k) ++ M.name) := hB3.isB.keep ((Below.refl _ _).alloc (Nat.le_refl _) _)
      have hb4 : Below w.heap.size w (w3.alloc (.cells #[.int .i64 M.index, .int .i64 M.count, .int .i64 M.sum, .int .i64 M.mx] 3)) := hbW3.alloc hbW3.size _
      have hYB : w3.heap.size ≠ Bk := by
        have := hB3.1
        have := hB3.2.1
        omega
      generalize (w3.alloc (.cells #[.int .i64 M.index, .int .i64 M.count, .int .i64 M.sum, .int .i64 M.mx] 3)) = W4 at *
      have HB4 := Lib.hid hB4
      have Hb4 := Lib.hid hb4
      clear hB4 hb4 hbW3 c0 c1 c2 c3 c4 hX3 hXn hb3 hB3 HB2 Hb2
      generalize hY : w3.heap.size = Y at *
      clear hY
      go_loopw [34] (fun v wq => ∃ j : Nat, j ≤ 4 ∧ v = .int .i64 j ∧ IsB wq Bk (Bk + 1) (textT (l.take k) ++ M.name ++ ((numsOf M).take j).flatMap numT) ∧ Below w.heap.size w wq ∧ wq.heap[Y]? = some (.cells #[.int .i64 M.index, .int .i64 M.count, .int .i64 M.sum, .int .i64 M.mx] 3 (0, 0))) (fun v _ => 4 - (intOf v).toNat)
      case atStart => exact ⟨0, Nat.zero_le _, rfl, by simpa using HB4.out, Hb4.out, hYn⟩
      case round =>
        obtain ⟨j, hj, rfl, hBj, hbj, hYj⟩ := hrel
        clear HB4 Hb4 hYn hTlen
        by_cases h4 : j < 4
        · obtain ⟨n, hn, hmem, hcj⟩ : ∃ n, (numsOf M).take (j + 1) = (numsOf M).take j ++ [n] ∧ n ∈ numsOf M ∧ wr.cell? ⟨Y, j, none⟩ = some (.int .i64 n) := by
            rw [Lib.cell_of_heap hYj]
            match j, h4 with
            | 0, _ => exact ⟨_, rfl, by simp [numsOf], rfl⟩
            | 1, _ => exact ⟨_, rfl, by simp [numsOf], rfl⟩
            | 2, _ => exact ⟨_, rfl, by simp [numsOf], rfl⟩
            | 3, _ => exact ⟨_, rfl, by simp [numsOf], rfl⟩
          have hall : (textT (l.take k) ++ M.name ++ ((numsOf M).take (j + 1)).flatMap numT).length ≤ 1000000 := by
            have h1 := HTl.out
            have h2 := Hlen.out
            have h3 := flat_take_le (numsOf M) (j + 1)
            unfold lineT at h1
            simp only [List.length_append] at h1 ⊢
            omega
          rw [hn, List.flatMap_append, List.flatMap_singleton, ← List.append_assoc, List.length_append] at hall
          have hnl := numT_len n
          have hit : ¬ 9223372036854775807 < 1 + (Lib.itoa n).length := by omega
          have Hall := Lib.hid hall
          have Hnl := Lib.hid hnl
          clear hall hnl
          go_wp2_with (first | (go_at_call 21; refine (HMI.out n hmem wr hbj).mono ?_; rintro e w5 ⟨rfl, hb5⟩) | (go_at_call 20; rw [numT_bytes]; refine (writeString30 Bk (Bk + 1) (textT (l.take k) ++ M.name ++ ((numsOf M).take j).flatMap numT) (numT n) w5 (hBj.keep hb5) (by have := Hall.out; omega)).mono ?_; rintro e w6 ⟨rfl, hB6, hb6⟩))
          refine ⟨⟨j + 1, h4, by simp, ?_, ?_, ?_⟩, ?_⟩
          · rw [hn, List.flatMap_append, List.flatMap_singleton, ← List.append_assoc]
            exact hB6.isB
          · exact hbj.trans ((hb5.mono hbj.size).trans ((hb6.below (by omega)).mono hN))
          · exact hb6.kept _ _ _ _ hYB (by decide) ((hb5.block Y (heap_lt hYj)).trans hYj)
          · simp [intOf]; omega
        · obtain rfl : j = 4 := by omega
          have h7 : (textT (l.take k) ++ M.name ++ ((numsOf M).take 4).flatMap numT).length + 1 ≤ 1048576 := by
            have h1 := HTl.out
            have h2 := Hlen.out
            have h3 := flat_take_le (numsOf M) 4
            unfold lineT at h1
            simp only [List.length_append, List.length_singleton] at h1 ⊢
            omega
          go_wp2_with (go_at_call 22; refine Calls.mono (writeByte32 Bk (Bk + 1) (textT (l.take k) ++ M.name ++ ((numsOf M).take 4).flatMap numT) 10 wr hBj h7) ?_; rintro e w6 ⟨rfl, hB6, hb6⟩)
          refine ⟨⟨k + 1, hlt, by simp, ?_, ?_⟩, ?_⟩
          · have h9 := hB6.isB
            rw [show (numsOf M).take 4 = numsOf M from rfl] at h9
            rw [HT.out, lineT, ← List.append_assoc, ← List.append_assoc]
            exact h9
          · exact hbj.trans ((hb6.below (by omega)).mono hN)
          · simp [intOf]; omega
    · obtain rfl : k = l.length := by omega
      rw [List.take_length] at hB
      go_wp2_with (go_at_call 23; refine (string33 Bk (Bk + 1) (textT l) wr hB).mono ?_; rintro e w9 ⟨rfl, hb9⟩)
      go_ret2
      exact ⟨rfl, hbw.trans (hb9.mono hN)⟩
end Go.Proofs.Seat8
end
section
namespace Go.Proofs.Seat8
open Go.RowKit Go.Proofs.Seat4
structure Env (w : World) : Prop where
  top : 4 ≤ w.heap.size
  maxlen : ∃ m, w.cell? ⟨3, 0, none⟩ = some (.int .i64 m)
  tab : Lib.TabIs Tryz.prog w "internal/strconv.uint64pow10" .u64 Lib.pow10Tab
  syn : ∃ tp p, w.var? Tryz.prog "strconv.ErrSyntax" = some #[.iface tp p]
  rng : ∃ tp p, w.var? Tryz.prog "strconv.ErrRange" = some #[.iface tp p]
theorem gTab : Tryz.prog.globalNamed "internal/strconv.uint64pow10" = some 2 := by kernel_rfl
theorem gSyn : Tryz.prog.globalNamed "strconv.ErrSyntax" = some 0 := by kernel_rfl
theorem gRng : Tryz.prog.globalNamed "strconv.ErrRange" = some 1 := by kernel_rfl
theorem Env.below' {w w' : World} {B : Nat} (h : Env w) (hb : Below B w w') (hB : 4 ≤ B) : Env w' := by
  refine ⟨Nat.le_trans h.top hb.size, ?_, var?_below hb gTab (by omega) h.tab, ?_, ?_⟩
  · obtain ⟨m, hm⟩ := h.maxlen
    exact ⟨m, (hb.cell (p := ⟨3, 0, none⟩) (show 3 < B by omega)).trans hm⟩
  · obtain ⟨tp, p, hp⟩ := h.syn
    exact ⟨tp, p, var?_below hb gSyn (by omega) hp⟩
  · obtain ⟨tp, p, hp⟩ := h.rng
    exact ⟨tp, p, var?_below hb gRng (by omega) hp⟩
theorem Env.below {w w' : World} (h : Env w) (hb : Below w.heap.size w w') : Env w' := h.below' hb h.top
theorem Env.alloc {w : World} (h : Env w) (o : Obj) : Env (w.alloc o) := h.below ((Below.refl _ _).alloc (Nat.le_refl _) o)
theorem below_drewN' (w : World) (n : Nat) : Below w.heap.size w (w.drewN n) := ⟨rfl, rfl, rfl, Nat.le_refl _, fun _ _ => rfl⟩
theorem itoa21 (n : Int) (w : World) (hE : Env w) (h0 : -9223372036854775808 ≤ n) (h1 : n ≤ 9223372036854775807) :
    Calls Tryz.prog 21 #[.int .i64 n] w fun e w' => e = .returned (.string ⟨(Lib.itoa n).toArray⟩) ∧ Below w.heap.size w w' :=
  (Tryz.strconv_Itoa n h0 h1 w hE.tab).mono fun e w' ⟨he, k, os, hw⟩ => ⟨he, by rw [hw]; exact Lib.below_grow _ _ (Nat.le_refl _) _ _⟩
theorem split25 (s sep : List UInt8) (w : World) (hE : Env w) (hs : s.length ≤ 1048576) (h1 : 1 ≤ sep.length) :
    Calls Tryz.prog 25 #[.string ⟨s.toArray⟩, .string ⟨sep.toArray⟩] w fun e w' => ∃ N, e = .returned (.slice (some ⟨N, 0, none⟩) (Lib.countB ⟨s.toArray⟩ ⟨sep.toArray⟩ + 1) (Lib.countB ⟨s.toArray⟩ ⟨sep.toArray⟩ + 1)) ∧
      N = w.heap.size ∧ w' = w.alloc (.cells ((Lib.splitB ⟨sep.toArray⟩ 0 (Lib.countB ⟨s.toArray⟩ ⟨sep.toArray⟩) ⟨s.toArray⟩).map Value.string).toArray 9) := by
  obtain ⟨m, hm⟩ := hE.maxlen
  exact (Tryz.strings_Split ⟨s.toArray⟩ ⟨sep.toArray⟩ m w (by show s.toArray.size < _; simp; omega) hm (by show 1 ≤ sep.toArray.size; simpa using h1)).mono fun e w' ⟨he, hw⟩ => ⟨_, he, rfl, hw⟩
def AtoiIs (s : List UInt8) (n : Int) (err : Value) : Prop := (Lib.atoiAll s = .ok n ∧ err = .nilIface) ∨ ((∀ m, Lib.atoiAll s ≠ .ok m) ∧ ∃ t p, err = .iface t (.pointer (some p)))
theorem below_bytesWorld (w : World) (t : TypeId) (s : ByteArray) : Below w.heap.size w (Lib.bytesWorld w t s) := by
  unfold Lib.bytesWorld
  have h1 : Below w.heap.size w (w.drew.alloc (.cells (Lib.bytesCells w t s) t)) := ((Below.refl _ _).drew).alloc (Nat.le_refl _) _
  refine h1.trans ⟨?_, ?_, ?_, ?_, ?_⟩
  · unfold World.freeze; split <;> rfl
  · unfold World.freeze; split <;> rfl
  · unfold World.freeze; split <;> rfl
  · unfold World.freeze; split <;> simp
  · intro k hk
    unfold World.freeze
    split
    · rfl
    · simp only [Array.getElem?_modify]
      rw [if_neg (by omega)]
theorem atoi27 (s : List UInt8) (w : World) (hE : Env w) (hs : s.length ≤ 1048576) :
    Calls Tryz.prog 27 #[.string ⟨s.toArray⟩] w fun e w' => ∃ n err, e = .returned (.tuple #[.int .i64 n, err]) ∧ AtoiIs s n err ∧ Below w.heap.size w w' := by
  have hsz : (ByteArray.mk s.toArray).size = s.length := by simp [ByteArray.size]
  rcases h : Lib.atoiAll s with v | - | -
  · refine (Tryz.strconv_Atoi_ok ⟨s.toArray⟩ (by rw [hsz]; omega) v h w).mono ?_
    rintro e w' ⟨he, hw | ⟨t, hw⟩⟩
    · exact ⟨v, _, he, .inl ⟨h, rfl⟩, by rw [hw]; exact Below.refl _ _⟩
    · exact ⟨v, _, he, .inl ⟨h, rfl⟩, by rw [hw]; exact below_bytesWorld _ _ _⟩
  · obtain ⟨tp, p, hp⟩ := hE.syn
    refine (Tryz.strconv_Atoi_syntax_var ⟨s.toArray⟩ (by rw [hsz]; omega) (h.trans (by kernel_rfl)) tp p w hp).mono ?_
    rintro e w' ⟨N, he, _, _, hb⟩
    exact ⟨_, _, he, .inr ⟨fun m e => by { rw [h] at e; cases e }, _, _, rfl⟩, hb⟩
  · obtain ⟨tp, p, hp⟩ := hE.rng
    refine (Tryz.strconv_Atoi_range_var ⟨s.toArray⟩ (by rw [hsz]; omega) h tp p w hp).mono ?_
    rintro e w' ⟨N, he, _, _, hb⟩
    exact ⟨_, _, he, .inr ⟨fun m e => by { rw [h] at e; cases e }, _, _, rfl⟩, hb⟩
end Go.Proofs.Seat8
end
section
namespace Go.Proofs.Seat8
open Go.RowKit Go.Proofs.Seat4
theorem chk_len {l : List Mt} (h : chk l = 0) : l.length ≤ 500 := by
  unfold chk at h
  split at h
  · cases h
  · omega
def one (m : Mt) : Prop := nmL.contains m.name = true ∧ rngB m = true
theorem chk1_one {l : List Mt} {i : Nat} {m : Mt} (h : chk1 l i m = 0) : one m := by
  unfold chk1 at h
  split at h
  · cases h
  · split at h
    · cases h
    · rename_i h1 h2
      exact ⟨by simpa using h1, by simpa using h2⟩
theorem chkR_one (l : List Mt) : ∀ (r : List Mt) (i : Nat), chkR l r i = 0 → ∀ m ∈ r, one m
  | [], _, _, m, hm => by cases hm
  | x :: r, i, h, m, hm => by
    unfold chkR at h
    by_cases h1 : chk1 l i x = 0
    · rw [if_pos h1] at h
      rcases List.mem_cons.1 hm with rfl | hm
      · exact chk1_one h1
      · exact chkR_one l r (i + 1) h m hm
    · rw [if_neg h1] at h
      exact absurd h h1
theorem chk_one {l : List Mt} (h : chk l = 0) : ∀ m ∈ l, one m := by
  have hl := chk_len h
  unfold chk at h
  rw [if_neg (by omega)] at h
  exact chkR_one l l 0 h
end Go.Proofs.Seat8
end
section
namespace Go.Proofs.Seat8
open Go.RowKit Go.Proofs.Seat4
theorem itoa_len_le (n : Int) (h0 : -9223372036854775808 ≤ n) (h1 : n ≤ 9223372036854775807) : (Lib.itoa n).length ≤ 21 := by
  unfold Lib.itoa
  split
  · have := dec_len_lt 20 n.natAbs (by omega) (by omega)
    simp; omega
  · have := dec_len_lt 20 n.toNat (by omega) (by omega)
    omega
theorem one_nums {m : Mt} (h : one m) : ∀ n ∈ numsOf m, -9223372036854775808 ≤ n ∧ n ≤ 9223372036854775807 := by
  intro n hm
  have h2 := h.2
  simp only [rngB, wi, Bool.and_eq_true, decide_eq_true_eq] at h2
  simp only [numsOf, List.mem_cons, List.not_mem_nil, or_false] at hm
  rcases hm with rfl | rfl | rfl | rfl <;> omega
theorem line_len {m : Mt} (h : one m) : (lineT m).length ≤ 200 := by
  have h3 := one_nums h
  have hn : ∀ x ∈ nmL, x.length ≤ 20 := by decide
  have h4 := hn m.name (by simpa using h.1)
  have a1 := itoa_len_le m.index (h3 _ (by simp [numsOf])).1 (h3 _ (by simp [numsOf])).2
  have a2 := itoa_len_le m.count (h3 _ (by simp [numsOf])).1 (h3 _ (by simp [numsOf])).2
  have a3 := itoa_len_le m.sum (h3 _ (by simp [numsOf])).1 (h3 _ (by simp [numsOf])).2
  have a4 := itoa_len_le m.mx (h3 _ (by simp [numsOf])).1 (h3 _ (by simp [numsOf])).2
  simp only [lineT, numsOf, numT, List.flatMap_cons, List.flatMap_nil, List.length_append, List.length_cons, List.length_nil]
  omega
theorem text_len : ∀ {l : List Mt}, (∀ m ∈ l, one m) → (textT l).length ≤ l.length * 200
  | [], _ => by simp [textT]
  | m :: l, h => by
    have h1 := line_len (h m (by simp))
    have h2 := text_len (l := l) fun x hx => h x (List.mem_cons_of_mem _ hx)
    show (lineT m ++ textT l).length ≤ _
    rw [List.length_append, List.length_cons]
    omega
theorem itoaAt_env {w : World} (hE : Env w) {n : Int} (h : -9223372036854775808 ≤ n ∧ n ≤ 9223372036854775807) : ItoaAt w n := fun w1 hb => itoa21 n w1 (hE.below hb) h.1 h.2
def PPost (l : List Mt) (w : World) (e : Ending) (w' : World) : Prop := ∃ t, e = .returned (.tuple #[.string ⟨t.toArray⟩, .int .i64 (chk l)]) ∧ (chk l = 0 → t = textT l) ∧ (chk l ≠ 0 → t = []) ∧ Below w.heap.size w w'
set_option maxRecDepth 100000 in
set_option maxHeartbeats 1000000 in
theorem print_bad (l : List Mt) (v : Value) (w : World) (hv : LV ME w v l) (hc : chk l ≠ 0) : Calls Tryz.prog 7 #[v] w (PPost l w) := by
  have hck := check l v w hv
  unfold PPost
  generalize chk l = n at *
  have Hck := Lib.hid hck
  clear hck hv
  go_enter Tryz.func7, Tryz.ntmps7
  go_wp2_with (go_at_call 9; refine Hck.out.mono ?_; rintro e w1 ⟨rfl, hb1⟩)
  go_ret2
  exact ⟨[], rfl, fun h => absurd h hc, fun _ => rfl, hb1⟩
set_option maxRecDepth 100000 in
set_option maxHeartbeats 1000000 in
theorem print_none (A : Option Addr) (c : Nat) (w : World) : Calls Tryz.prog 7 #[.slice A 0 c] w (PPost [] w) := by
  have h0 : chk [] = 0 := by
    unfold chk
    rw [if_neg (by simp)]
    rfl
  have hck := check_nil A c w
  unfold PPost
  rw [h0]
  have Hck := Lib.hid hck
  clear hck
  go_enter Tryz.func7, Tryz.ntmps7
  go_wp2_with (go_at_call 9; refine Hck.out.mono ?_; rintro e w1 ⟨rfl, rfl⟩)
  have hB : IsB (w1.alloc (.cells #[.pointer none, .slice none 0 0] 59)) w1.heap.size (w1.heap.size + 1) [] := IsB.new _ _ (fun _ => True) (heap_alloc_new w1 _) _ (by omega) (by simp)
  have hb2 : Below w1.heap.size w1 (w1.alloc (.cells #[.pointer none, .slice none 0 0] 59)) := (Below.refl _ _).alloc (Nat.le_refl _) _
  generalize hW : w1.alloc (.cells #[.pointer none, .slice none 0 0] 59) = W at *
  generalize hbk : w1.heap.size = Bk at *
  refine wp_loop_rounds 1 ?_
  rw [rounds_succ]
  go_wp2_with (go_at_call 23; refine (string33 Bk (Bk + 1) [] W hB).mono ?_; rintro e w9 ⟨rfl, hb9⟩)
  go_ret2
  exact ⟨[], rfl, fun _ => rfl, fun h => absurd rfl h, by rw [hbk]; exact hb2.trans hb9⟩
theorem print7 (l : List Mt) (v : Value) (w : World) (hE : Env w) (hv : LV ME w v l) : Calls Tryz.prog 7 #[v] w (PPost l w) := by
  by_cases hc : chk l = 0
  · rcases hv.split with ⟨A, c, rfl, rfl⟩ | ⟨b, off, cap, rfl, hcap, hbw, hrow⟩
    · exact print_none A c w
    · have ho := chk_one hc
      have hl := chk_len hc
      have ht := text_len ho
      refine (print16 l b off cap w hbw hl hcap hrow hc (by omega) fun m hm n hn => itoaAt_env hE (one_nums (ho m hm) n hn)).mono ?_
      rintro e w' ⟨rfl, hb⟩
      exact ⟨textT l, by rw [hc], fun _ => rfl, fun h => absurd hc h, hb⟩
  · exact print_bad l v w hv hc
end Go.Proofs.Seat8
end
section
namespace Go.Proofs.Seat8
open Go.RowKit Go.Proofs.Seat4
theorem pu_append : ∀ (l : List UInt8) (acc m d : Nat), Lib.parseUint10 acc l = .ok m → d < 10 → m < 1000000000000000000 → Lib.parseUint10 acc (l ++ [UInt8.ofNat (48 + d)]) = .ok (m * 10 + d)
  | [], acc, m, d, h, hd, hm => by
    simp only [Lib.parseUint10, Lib.NumEnd.ok.injEq] at h
    subst h
    have e : (UInt8.ofNat (48 + d)).toNat = 48 + d := by rw [UInt8.toNat_ofNat', Nat.mod_eq_of_lt (by omega)]
    simp only [List.nil_append, Lib.parseUint10, e]
    rw [if_pos (by omega), if_neg (by omega), if_neg (by omega), show 48 + d - 48 = d from by omega]
  | x :: l, acc, m, d, h, hd, hm => by
    simp only [List.cons_append, Lib.parseUint10] at h ⊢
    split at h
    · rename_i h1
      rw [if_pos h1]
      split at h
      · cases h
      · rename_i h2
        rw [if_neg h2]
        split at h
        · cases h
        · rename_i h3
          rw [if_neg h3]
          exact pu_append l _ m d h hd hm
    · cases h
theorem pu_dec : ∀ (n u : Nat), u ≤ n → u < 10000000000000000000 → Lib.parseUint10 0 (Lib.decDigits u) = .ok u := by
  intro n
  induction n with
  | zero =>
    intro u hu _
    have : u = 0 := by omega
    subst this
    rw [Lib.decDigits.eq_1, dif_pos (by omega)]
    decide
  | succ n ih =>
    intro u hu hb
    rw [Lib.decDigits.eq_1]
    split
    · rename_i h
      have := pu_append [] 0 0 u rfl h (by omega)
      simpa using this
    · have := pu_append _ 0 (u / 10) (u % 10) (ih (u / 10) (by omega) (by omega)) (Nat.mod_lt _ (by omega)) (by omega)
      rw [this]
      congr 1
      omega
theorem mag_dec (u : Nat) (h : u < 10000000000000000000) : Lib.parseMag (Lib.decDigits u) = .ok u := by
  unfold Lib.parseMag
  rw [if_neg (dec_ne u)]
  exact pu_dec u u (Nat.le_refl _) h
theorem atoi_of_itoa (n : Int) (h0 : -9223372036854775808 ≤ n) (h1 : n ≤ 9223372036854775807) : Lib.atoiAll (Lib.itoa n) = .ok n := by
  unfold Lib.itoa
  split
  · rename_i h
    rw [Lib.atoiAll_minus, mag_dec _ (by omega)]
    unfold Lib.signed
    simp only
    rw [if_neg (by omega)]
    congr 1
    omega
  · rename_i h
    obtain ⟨x, r, hx, h2, h3⟩ := dec_head n.toNat
    rw [hx, Lib.atoiAll_plain x r (by omega) (by omega), ← hx, mag_dec _ (by omega)]
    unfold Lib.signless
    simp only
    rw [if_neg (by omega)]
    congr 1
    omega
def numA (s : List UInt8) : Option Int := match Lib.atoiAll s with | .ok n => some n | _ => none
def pNums : List (List UInt8) → Option (List Int)
  | [] => some []
  | w :: r => match numA w with | none => none | some n => (pNums r).map (n :: ·)
def mkM (n : List UInt8) (ns : List Int) : Mt := ⟨n, ns.getD 0 0, ns.getD 1 0, ns.getD 2 0, ns.getD 3 0⟩
def pLine (s : List UInt8) : Option Mt := if (splitA 32 [] s).length = 5 then (pNums (splitA 32 [] s).tail).map (mkM ((splitA 32 [] s).headD [])) else none
theorem cut_case (t : List UInt8) (h : t ≠ []) : ((10 : UInt8) ∉ t ∧ Lib.cut t [10] = (t, [], false)) ∨ ∃ a r, t = a ++ 10 :: r ∧ (10 : UInt8) ∉ a ∧ Lib.cut t [10] = (a, r, true) := by
  rcases first_byte 10 t with h1 | ⟨a, r, rfl, ha⟩
  · exact .inl ⟨h1, cut_none h1⟩
  · exact .inr ⟨a, r, rfl, ha, cut_hit a r ha⟩
theorem cut_less (t : List UInt8) (h : t ≠ []) : (Lib.cut t [10]).2.1.length < t.length := by
  rcases cut_case t h with ⟨h1, h2⟩ | ⟨a, r, rfl, ha, h2⟩
  · rw [h2]
    exact List.length_pos_iff.2 h
  · rw [h2]
    simp
    omega
def readP (t : List UInt8) (k : Nat) : Option (List Mt) :=
  if h : t = [] then some [] else
    if k = 500 then none else
      match pLine (Lib.cut t [10]).1 with
      | none => none
      | some m => (readP (Lib.cut t [10]).2.1 (k + 1)).map (m :: ·)
termination_by t.length
decreasing_by exact cut_less t h
def RdT (t : List UInt8) (c : List Mt) (r : Option (List Mt)) : Prop := (readP t c.length).map (c ++ ·) = r
theorem rdT_nil {c : List Mt} {r : Option (List Mt)} (h : RdT [] c r) : r = some c := by
  unfold RdT at h
  rw [readP, dif_pos rfl] at h
  rw [← h]
  simp
theorem rdT_ok {t : List UInt8} {c : List Mt} {r : Option (List Mt)} {m : Mt} (ht : t ≠ []) (hk : c.length ≠ 500) (hm : pLine (Lib.cut t [10]).1 = some m) (h : RdT t c r) : RdT (Lib.cut t [10]).2.1 (c ++ [m]) r := by
  unfold RdT at *
  rw [readP, dif_neg ht, if_neg hk, hm] at h
  rw [← h]
  simp only [List.length_append, List.length_singleton]
  cases readP (Lib.cut t [10]).2.1 (c.length + 1) <;> simp
theorem rdT_bad {t : List UInt8} {c : List Mt} {r : Option (List Mt)} (ht : t ≠ []) (hk : c.length = 500 ∨ pLine (Lib.cut t [10]).1 = none) (h : RdT t c r) : r = none := by
  unfold RdT at h
  rw [readP, dif_neg ht] at h
  by_cases h5 : c.length = 500
  · rw [if_pos h5] at h
    exact h.symm
  · rw [if_neg h5, hk.resolve_left h5] at h
    exact h.symm
def LineOk (m : Mt) : Prop := (10 : UInt8) ∉ m.name ∧ (32 : UInt8) ∉ m.name ∧ ∀ n ∈ numsOf m, -9223372036854775808 ≤ n ∧ n ≤ 9223372036854775807
theorem lineOk_of {m : Mt} (h : one m) : LineOk m := by
  obtain ⟨h1, h2⟩ := h
  have hn : ∀ x ∈ nmL, (10 : UInt8) ∉ x ∧ (32 : UInt8) ∉ x := by decide
  have h3 := hn m.name (by simpa using h1)
  refine ⟨h3.1, h3.2, fun n hm => ?_⟩
  simp only [rngB, wi, Bool.and_eq_true, decide_eq_true_eq] at h2
  simp only [numsOf, List.mem_cons, List.not_mem_nil, or_false] at hm
  rcases hm with rfl | rfl | rfl | rfl <;> omega
theorem line_body (m : Mt) : lineT m = (m.name ++ 32 :: (Lib.itoa m.index ++ 32 :: (Lib.itoa m.count ++ 32 :: (Lib.itoa m.sum ++ 32 :: Lib.itoa m.mx)))) ++ [10] := by
  simp [lineT, numsOf, numT]
theorem pLine_body {m : Mt} (h : LineOk m) : pLine (m.name ++ 32 :: (Lib.itoa m.index ++ 32 :: (Lib.itoa m.count ++ 32 :: (Lib.itoa m.sum ++ 32 :: Lib.itoa m.mx)))) = some m := by
  obtain ⟨h1, h2, h3⟩ := h
  have hi : ∀ n : Int, (32 : UInt8) ∉ Lib.itoa n := fun n => itoa_no n 32 (by decide) (by decide)
  have hs : splitA 32 [] (m.name ++ 32 :: (Lib.itoa m.index ++ 32 :: (Lib.itoa m.count ++ 32 :: (Lib.itoa m.sum ++ 32 :: Lib.itoa m.mx)))) = [m.name, Lib.itoa m.index, Lib.itoa m.count, Lib.itoa m.sum, Lib.itoa m.mx] := by
    rw [splitA_hit _ _ _ h2, splitA_hit _ _ _ (hi _), splitA_hit _ _ _ (hi _), splitA_hit _ _ _ (hi _), splitA_none _ _ (hi _)]
    simp
  have hq : ∀ n ∈ numsOf m, numA (Lib.itoa n) = some n := fun n hn => by
    unfold numA
    rw [atoi_of_itoa n (h3 n hn).1 (h3 n hn).2]
  unfold pLine
  rw [hs, if_pos (by rfl)]
  simp only [List.tail_cons, pNums, hq m.index (by simp [numsOf]), hq m.count (by simp [numsOf]), hq m.sum (by simp [numsOf]), hq m.mx (by simp [numsOf])]
  rfl
theorem body_no {m : Mt} (h : LineOk m) : (10 : UInt8) ∉ m.name ++ 32 :: (Lib.itoa m.index ++ 32 :: (Lib.itoa m.count ++ 32 :: (Lib.itoa m.sum ++ 32 :: Lib.itoa m.mx))) := by
  have hi : ∀ n : Int, (10 : UInt8) ∉ Lib.itoa n := fun n => itoa_no n 10 (by decide) (by decide)
  simp [h.1, hi]
theorem read_text : ∀ (l : List Mt) (k : Nat), (∀ m ∈ l, LineOk m) → k + l.length ≤ 500 → readP (textT l) k = some l
  | [], k, _, _ => by rw [readP]; simp [textT]
  | m :: l, k, h, hk => by
    have hm := h m (by simp)
    have e : textT (m :: l) = (m.name ++ 32 :: (Lib.itoa m.index ++ 32 :: (Lib.itoa m.count ++ 32 :: (Lib.itoa m.sum ++ 32 :: Lib.itoa m.mx)))) ++ 10 :: textT l := by
      show lineT m ++ textT l = _
      rw [line_body]
      simp
    have ih := read_text l (k + 1) (fun x hx => h x (List.mem_cons_of_mem _ hx)) (by simp at hk; omega)
    rw [readP, e, dif_neg (by simp), if_neg (by simp at hk; omega), cut_hit _ _ (body_no hm)]
    simp only [pLine_body hm, ih]
    rfl
noncomputable def parseR (s : List UInt8) : Option (List Mt) := match readP s 0 with | none => none | some l => open Classical in if chk l = 0 ∧ textT l = s then some l else none
theorem parse_text {l : List Mt} (h : chk l = 0) : parseR (textT l) = some l := by
  unfold parseR
  rw [read_text l 0 (fun m hm => lineOk_of (chk_one h m hm)) (by have := chk_len h; omega)]
  exact if_pos ⟨h, rfl⟩
theorem parse_some {s : List UInt8} {l : List Mt} (h : parseR s = some l) : chk l = 0 ∧ textT l = s := by
  unfold parseR at h
  split at h
  · cases h
  · rename_i l' _
    split at h
    · rename_i h2
      cases h
      exact h2
    · cases h
end Go.Proofs.Seat8
end
section
namespace Go.Proofs.Seat8
open Go.RowKit Go.Proofs.Seat4
theorem indexByte_no {c : UInt8} : ∀ {s : List UInt8}, c ∉ s → Lib.indexByte s c = -1
  | [], _ => rfl
  | b :: l, h => by
    have h1 : (b == c) = false := by
      rw [beq_eq_false_iff_ne]
      rintro rfl
      exact h (by simp)
    have h2 := indexByte_no (c := c) (s := l) fun e => h (List.mem_cons_of_mem _ e)
    unfold Lib.indexByte
    rw [h1, h2]
    rfl
theorem indexByte_at {c : UInt8} (r : List UInt8) : ∀ {a : List UInt8}, c ∉ a → Lib.indexByte (a ++ c :: r) c = (a.length : Int)
  | [], _ => by simp [Lib.indexByte]
  | b :: l, h => by
    have h1 : (b == c) = false := by
      rw [beq_eq_false_iff_ne]
      rintro rfl
      exact h (by simp)
    have h2 := indexByte_at r (c := c) (a := l) fun e => h (List.mem_cons_of_mem _ e)
    show (if b == c then 0 else if Lib.indexByte (l ++ c :: r) c == -1 then -1 else Lib.indexByte (l ++ c :: r) c + 1) = _
    rw [h1, h2]
    have h3 : (((l.length : Int)) == -1) = false := by rw [beq_eq_false_iff_ne]; omega
    rw [h3]
    simp
theorem take_str (s : List UInt8) (k : Nat) : (ByteArray.mk s.toArray).extract 0 k = ByteArray.mk (s.take k).toArray := by
  apply ByteArray.ext
  apply Array.toList_inj.1
  rw [Lib.extract_data]
  simp
theorem drop_str (s : List UInt8) (k n : Nat) (hn : n = s.length) : (ByteArray.mk s.toArray).extract k n = ByteArray.mk (s.drop k).toArray := by
  subst hn
  apply ByteArray.ext
  apply Array.toList_inj.1
  rw [Lib.extract_data]
  show List.take (s.length - k) (s.drop k) = s.drop k
  rw [List.take_of_length_le (by simp)]
set_option maxRecDepth 100000 in
theorem hasSuffix_yes (a : List UInt8) (w : World) (hs : a.length ≤ 1048576) :
    Calls Tryz.prog 77 #[.string ⟨(a ++ [10]).toArray⟩, .string ⟨#[10]⟩] w fun e w' => e = .returned (.bool true) ∧ w = w' := by
  have hc : (((ByteArray.mk (a ++ [10]).toArray).extract a.length (a.length + 1)).toList == [10]) = true := by
    rw [drop_str _ _ _ (by simp), ByteArray.toList_eq]
    simp
  go_enter Tryz.func77, Tryz.ntmps77
  go_wp2_with fail
  go_ret
  exact ⟨by first | rfl | rw [hc], rfl⟩
set_option maxRecDepth 100000 in
theorem hasSuffix_no (t : List UInt8) (w : World) (ht : t ≠ []) (h10 : (10 : UInt8) ∉ t) (hs : t.length ≤ 1048576) :
    Calls Tryz.prog 77 #[.string ⟨t.toArray⟩, .string ⟨#[10]⟩] w fun e w' => e = .returned (.bool false) ∧ w = w' := by
  obtain ⟨a, b, rfl⟩ : ∃ a b, t = a ++ [b] := ⟨t.dropLast, t.getLast ht, (List.dropLast_concat_getLast ht).symm⟩
  have hb : b ≠ 10 := fun e => h10 (by simp [e])
  have hc : (((ByteArray.mk (a ++ [b]).toArray).extract a.length (a.length + 1)).toList == [10]) = false := by
    rw [drop_str _ _ _ (by simp), ByteArray.toList_eq]
    simp [hb]
  have hl : a.length ≤ 1048576 := by simp at hs; omega
  clear hs ht h10 hb
  go_enter Tryz.func77, Tryz.ntmps77
  go_wp2_with fail
  go_ret
  exact ⟨by first | rfl | rw [hc], rfl⟩
set_option maxRecDepth 100000 in
theorem trim48_yes (a : List UInt8) (w : World) (hs : a.length ≤ 1048576) :
    Calls Tryz.prog 48 #[.string ⟨(a ++ [10]).toArray⟩, .string ⟨#[10]⟩] w fun e w' => e = .returned (.string ⟨a.toArray⟩) ∧ w = w' := by
  have hc : (ByteArray.mk (a ++ [10]).toArray).extract 0 a.length = ByteArray.mk a.toArray := by
    rw [take_str]
    simp
  have h77 := hasSuffix_yes a w hs
  go_enter Tryz.func48, Tryz.ntmps48
  go_wp2_with (go_at_call 77; refine h77.mono ?_; rintro e w1 ⟨rfl, rfl⟩)
  go_ret
  exact ⟨by first | rfl | rw [hc], rfl⟩
set_option maxRecDepth 100000 in
theorem trim48_no (t : List UInt8) (w : World) (ht : t ≠ []) (h10 : (10 : UInt8) ∉ t) (hs : t.length ≤ 1048576) :
    Calls Tryz.prog 48 #[.string ⟨t.toArray⟩, .string ⟨#[10]⟩] w fun e w' => e = .returned (.string ⟨t.toArray⟩) ∧ w = w' := by
  have h77 := hasSuffix_no t w ht h10 hs
  go_enter Tryz.func48, Tryz.ntmps48
  go_wp2_with (go_at_call 77; refine h77.mono ?_; rintro e w1 ⟨rfl, rfl⟩)
  go_ret
  exact ⟨rfl, rfl⟩
def lineY (t : List UInt8) : List UInt8 := (Lib.cut t [10]).1 ++ (if (Lib.cut t [10]).2.2 = true then [10] else [])
set_option maxRecDepth 100000 in
theorem trim26 (t : List UInt8) (w : World) (ht : t ≠ []) (hs : t.length ≤ 1048576) :
    Calls Tryz.prog 26 #[.string ⟨(lineY t).toArray⟩, .string ⟨#[10]⟩] w fun e w' => e = .returned (.string ⟨(Lib.cut t [10]).1.toArray⟩) ∧ w = w' := by
  have h48 : Calls Tryz.prog 48 #[.string ⟨(lineY t).toArray⟩, .string ⟨#[10]⟩] w fun e w' => e = .returned (.string ⟨(Lib.cut t [10]).1.toArray⟩) ∧ w = w' := by
    unfold lineY
    rcases cut_case t ht with ⟨h1, h2⟩ | ⟨a, r, rfl, ha, h2⟩
    · rw [h2]
      simp only [Bool.false_eq_true, if_false, List.append_nil]
      exact trim48_no t w ht h1 hs
    · rw [h2]
      simp only [if_true]
      exact trim48_yes a w (by simp at hs; omega)
  go_enter Tryz.func26, Tryz.ntmps26
  go_wp2_with (go_at_call 48; refine h48.mono ?_; rintro e w1 ⟨rfl, rfl⟩)
  go_ret
  exact ⟨rfl, rfl⟩
end Go.Proofs.Seat8
end
section
namespace Go.Proofs.Seat8
open Go.RowKit Go.Proofs.Seat4
def NPost (s : List UInt8) (w : World) (e : Ending) (w' : World) : Prop := ∃ (n : Int) (ok : Bool), e = .returned (.tuple #[.int .i64 n, .bool ok]) ∧ Below w.heap.size w w' ∧ (ok = true → s = Lib.itoa n ∧ -1152921504606846976 ≤ n ∧ n ≤ 1152921504606846976) ∧ (ok = false → ∀ j, -1152921504606846976 ≤ j → j ≤ 1152921504606846976 → s ≠ Lib.itoa j)
def Fits (s D : List UInt8) (sg : Int) : Prop := ∀ j, -1152921504606846976 ≤ j → j ≤ 1152921504606846976 → s = Lib.itoa j → ∃ u : Nat, j = sg * u ∧ D = Lib.decDigits u ∧ u ≤ 1152921504606846976
theorem fits_pos {s : List UInt8} (h : s.head? ≠ some 45) : Fits s s 1 := by
  intro j h0 h1 e
  unfold Lib.itoa at e
  split at e
  · rw [e] at h
    exact absurd rfl h
  · exact ⟨j.toNat, by omega, e, by omega⟩
theorem fits_neg {D : List UInt8} : Fits (45 :: D) D (-1) := by
  intro j h0 h1 e
  unfold Lib.itoa at e
  split at e
  · injection e with _ e
    exact ⟨j.natAbs, by omega, e, by omega⟩
  · obtain ⟨x, r, hx, h2, h3⟩ := dec_head j.toNat
    rw [hx] at e
    injection e with e1 _
    rw [← e1] at h2
    exact absurd h2 (by decide)
section
variable {s D : List UInt8} {sg : Int}
theorem Fits.dead (h : Fits s D sg) (hn : Lib.decFrom 0 D = none) : ∀ j, -1152921504606846976 ≤ j → j ≤ 1152921504606846976 → s ≠ Lib.itoa j := fun j h0 h1 e => by
  obtain ⟨u, -, rfl, -⟩ := h j h0 h1 e
  rw [decFrom_dec u u (Nat.le_refl _)] at hn
  cases hn
theorem Fits.big (h : Fits s D sg) {v : Nat} (hn : Lib.decFrom 0 D = some v) (hv : 1152921504606846976 < v) : ∀ j, -1152921504606846976 ≤ j → j ≤ 1152921504606846976 → s ≠ Lib.itoa j := fun j h0 h1 e => by
  obtain ⟨u, -, rfl, hu⟩ := h j h0 h1 e
  rw [decFrom_dec u u (Nat.le_refl _)] at hn
  injection hn with hn
  omega
theorem Fits.len (h : Fits s D sg) (hl : D.length = 0 ∨ 19 < D.length) : ∀ j, -1152921504606846976 ≤ j → j ≤ 1152921504606846976 → s ≠ Lib.itoa j := fun j h0 h1 e => by
  obtain ⟨u, -, rfl, hu⟩ := h j h0 h1 e
  have h2 := dec_len_lt 19 u (by omega) (by omega)
  rcases hl with hl | hl
  · exact dec_ne u (List.eq_nil_of_length_eq_zero hl)
  · omega
theorem Fits.one (h : Fits s D sg) {v : Nat} (hn : Lib.decFrom 0 D = some v) : ∀ j, -1152921504606846976 ≤ j → j ≤ 1152921504606846976 → s = Lib.itoa j → j = sg * v := fun j h0 h1 e => by
  obtain ⟨u, hj, rfl, hu⟩ := h j h0 h1 e
  rw [decFrom_dec u u (Nat.le_refl _)] at hn
  injection hn with hn
  rw [hj, hn]
end
theorem wrap_small (m : Nat) (h : m < 9223372036854775808) : wrap64 (m : Int) = m := by
  unfold wrap64
  omega
theorem wrap_step (m d : Nat) (h : m < 1000000000000000000) (h1 : 48 ≤ d) (h2 : d ≤ 57) : wrap64 (wrap64 ((m : Int) * 10) + ((d : Int) - 48)) = wrap64 ((m * 10 + (d - 48) : Nat) : Int) := by
  have e : ((m * 10 + (d - 48) : Nat) : Int) = (m : Int) * 10 + ((d : Int) - 48) := by omega
  rw [e]
  unfold wrap64
  omega
theorem dg_good {D : List UInt8} {k m : Nat} (h : k < D.length) (h1 : 48 ≤ D[k].toNat) (h2 : D[k].toNat ≤ 57) : Lib.decFrom m (D.drop k) = Lib.decFrom (m * 10 + (D[k].toNat - 48)) (D.drop (k + 1)) := by
  rw [List.drop_eq_getElem_cons h, Lib.decFrom]
  unfold Lib.digitVal
  rw [if_pos ⟨h1, h2⟩]
theorem dg_bad {D : List UInt8} {k m : Nat} (h : k < D.length) (hb : D[k].toNat < 48 ∨ 57 < D[k].toNat) : Lib.decFrom m (D.drop k) = none := by
  rw [List.drop_eq_getElem_cons h, Lib.decFrom]
  unfold Lib.digitVal
  rw [if_neg (by omega)]
set_option maxRecDepth 100000 in
set_option maxHeartbeats 2000000 in
theorem number_pos (x : UInt8) (r : List UInt8) (w : World) (hs : (x :: r).length ≤ 100000) (hx : x ≠ 45) : Calls Tryz.prog 56 #[.string ⟨(x :: r).toArray⟩] w (NPost (x :: r) w) := by
  have ht : (((ByteArray.mk (x :: r).toArray)[0]'(by simp [ByteArray.size])).toNat : Int) = x.toNat := rfl
  have ht2 : (((x.toNat : Nat) : Int) == 45) = false := by
    rw [beq_eq_false_iff_ne]
    intro e
    exact hx (UInt8.toNat_inj.1 (by have : (45 : UInt8).toNat = 45 := rfl
                                    omega))
  have hF : Fits (x :: r) (x :: r) 1 := fits_pos (by simpa using hx)
  by_cases hl : 19 < (x :: r).length
  · have HP := Lib.hid (hF.len (.inr hl))
    have hl' : (19 : Int) < (r.length : Int) + 1 := by (try simp only [List.length_cons] at hl); omega
    clear hF hx hl
    go_enter Tryz.func56, Tryz.ntmps56
    go_wp2
    go_ret2
    exact ⟨0, false, rfl, Below.refl _ _, fun h => (by cases h), fun _ => HP.out⟩
  · have hl' : (r.length : Int) + 1 ≤ 19 := by simp at hl; omega
    have hz : ((r.length : Int) + 1 == 0) = false := by rw [beq_eq_false_iff_ne]; omega
    have HF := Lib.hid hF
    have hlD : (x :: r).length ≤ 19 := by omega
    clear hF hx hl
    go_enter Tryz.func56, Tryz.ntmps56
    go_wp2
    obtain ⟨D, hD⟩ : ∃ D, D = (x :: r) := ⟨_, rfl⟩
    have HD := Lib.hid hD
    clear hD
    go_loop [4, 7] (fun n i => ∃ (k m : Nat), k ≤ (x :: r).length ∧ i = .int .i64 k ∧ n = .int .i64 (wrap64 m) ∧ m < 10 ^ k ∧ Hid (Lib.decFrom m ((x :: r).drop k) = Lib.decFrom 0 (x :: r))) (fun _ i => (x :: r).length - (intOf i).toNat)
    case atStart => exact ⟨0, 0, Nat.zero_le _, rfl, by rw [wrap_small _ (by omega)]; rfl, by omega, rfl⟩
    case round =>
      obtain ⟨k, m, hk, rfl, rfl, hm, hV⟩ := hrel
      have h19 : m < 10000000000000000000 := Nat.lt_of_lt_of_le hm (Nat.le_trans (Nat.pow_le_pow_right (by omega) (show k ≤ 19 by omega)) (by decide))
      rw [← HD.out] at hV hk hlD ⊢
      by_cases hlt : k < D.length
      · have h18 : m < 1000000000000000000 := Nat.lt_of_lt_of_le hm (Nat.le_trans (Nat.pow_le_pow_right (by omega) (show k ≤ 18 by omega)) (by decide))
        rw [wrap_small _ (by omega)]
        have e1 : ((ByteArray.mk D.toArray)[k]'hlt).toNat = D[k].toNat := rfl
        have e0 : ((ByteArray.mk D.toArray)[k]'hlt).toNat ≤ 255 := by have := (D[k]).toNat_lt; omega
        go_wp2
        all_goals first
          | (go_ret2
             have hb : D[k].toNat < 48 ∨ 57 < D[k].toNat := by omega
             have hn := (dg_bad (m := m) hlt hb).symm.trans hV.out
             have hF := HF.out
             rw [← HD.out] at hF
             exact ⟨0, false, rfl, Below.refl _ _, fun h => (by cases h), fun _ => by first | exact hF.dead hn.symm | (rw [← HD.out]; exact hF.dead hn.symm)⟩)
          | (refine ⟨⟨k + 1, m * 10 + (D[k].toNat - 48), by omega, by go_num, ?_, ?_, ?_⟩, by simp [intOf]; omega⟩
             · exact congrArg (Value.int .i64) (wrap_step m D[k].toNat h18 (by omega) (by omega))
             · rw [Nat.pow_succ]
               omega
             · exact (dg_good hlt (by omega) (by omega)).symm.trans hV.out)
      · have hV2 : Lib.decFrom 0 D = some m := by
          have := hV.out
          rw [show k = D.length by omega, List.drop_length] at this
          exact this.symm
        have hF := HF.out
        rw [← HD.out] at hF
        by_cases hbig : 1152921504606846976 < m
        · have hP := hF.big hV2 hbig
          have hzz : wrap64 (m : Int) < 0 ∨ (¬ wrap64 (m : Int) < 0 ∧ 1152921504606846976 < wrap64 (m : Int)) := by unfold wrap64; omega
          have HP := Lib.hid hP
          generalize wrap64 (m : Int) = z at *
          clear hP hF hV2 hV hm h19 hbig
          rcases hzz with h1 | ⟨h1, h2⟩ <;>
          · go_wp2
            go_ret2
            exact ⟨0, false, rfl, Below.refl _ _, fun h => (by cases h), fun _ => by first | exact HP.out | (rw [← HD.out]; exact HP.out)⟩
        · have hone := hF.one hV2
          have Hone := Lib.hid hone
          have hml : (m : Int) ≤ 1152921504606846976 := by omega
          rw [wrap_small _ (by omega)]
          clear hone hF hV2 hV hm h19
          rcases Bool.eq_false_or_eq_true (Lib.itoa ((m : Int)) == D) with hq | hq
          · have hq' : Lib.itoa ((m : Int)) = D := by simpa using hq
            have Hq := Lib.hid hq'
            clear hq'
            go_wp2_with (go_at_call 55; refine (decimal55 _ _ (by omega) (by omega)).mono ?_; rintro e w1 ⟨rfl, hb1⟩)
            go_ret2
            exact ⟨(m : Int), true, by first | rfl | (rw [hq]; rfl), hb1, fun _ => ⟨by first | exact Hq.out.symm | (rw [← HD.out]; exact Hq.out.symm), by omega, by omega⟩, fun h => by cases h⟩
          · have hq' : ∀ j, -1152921504606846976 ≤ j → j ≤ 1152921504606846976 → D ≠ Lib.itoa j := fun j h0 h1 e => by
              have hj := Hone.out j h0 h1 e
              have : j = (m : Int) := by omega
              rw [← this, ← e] at hq
              simp at hq
            have Hq := Lib.hid hq'
            clear hq'
            go_wp2_with (go_at_call 55; refine (decimal55 _ _ (by omega) (by omega)).mono ?_; rintro e w1 ⟨rfl, hb1⟩)
            go_ret2
            exact ⟨(m : Int), false, by first | rfl | (rw [hq]; rfl), hb1, fun h => (by cases h), fun _ => by first | exact Hq.out | (rw [← HD.out]; exact Hq.out)⟩
set_option maxRecDepth 100000 in
set_option maxHeartbeats 2000000 in
theorem number_neg (r : List UInt8) (w : World) (hs : (45 :: r).length ≤ 100000) : Calls Tryz.prog 56 #[.string ⟨(45 :: r).toArray⟩] w (NPost (45 :: r) w) := by
  have ht : (((ByteArray.mk (45 :: r).toArray)[0]'(by simp [ByteArray.size])).toNat : Int) = 45 := rfl
  have hE2 : (ByteArray.mk (45 :: r).toArray).extract 1 (r.length + 1) = ByteArray.mk r.toArray := by
    rw [drop_str _ _ _ (by simp)]
    rfl
  have hF : Fits (45 :: r) r (-1) := fits_neg
  by_cases hl0 : r = []
  · subst hl0
    have HP := Lib.hid (hF.len (.inl rfl))
    clear hF
    go_enter Tryz.func56, Tryz.ntmps56
    go_wp2
    go_ret2
    exact ⟨0, false, rfl, Below.refl _ _, fun h => (by cases h), fun _ => HP.out⟩
  have hl1 : 0 < r.length := List.length_pos_iff.2 hl0
  by_cases hl : 19 < r.length
  · have HP := Lib.hid (hF.len (.inr hl))
    have hl' : (19 : Int) < (r.length : Int) := by (try simp only [List.length_cons] at hl); omega
    clear hF hl
    go_enter Tryz.func56, Tryz.ntmps56
    go_wp2
    go_ret2
    exact ⟨0, false, rfl, Below.refl _ _, fun h => (by cases h), fun _ => HP.out⟩
  · have hl' : (r.length : Int) ≤ 19 := by simp at hl; omega
    have hz : ((r.length : Int) == 0) = false := by rw [beq_eq_false_iff_ne]; omega
    have HF := Lib.hid hF
    have hlD : r.length ≤ 19 := by omega
    clear hF hl
    go_enter Tryz.func56, Tryz.ntmps56
    go_wp2
    obtain ⟨D, hD⟩ : ∃ D, D = r := ⟨_, rfl⟩
    have HD := Lib.hid hD
    clear hD
    go_loop [4, 7] (fun n i => ∃ (k m : Nat), k ≤ r.length ∧ i = .int .i64 k ∧ n = .int .i64 (wrap64 m) ∧ m < 10 ^ k ∧ Hid (Lib.decFrom m (r.drop k) = Lib.decFrom 0 r)) (fun _ i => r.length - (intOf i).toNat)
    case atStart => exact ⟨0, 0, Nat.zero_le _, rfl, by rw [wrap_small _ (by omega)]; rfl, by omega, rfl⟩
    case round =>
      obtain ⟨k, m, hk, rfl, rfl, hm, hV⟩ := hrel
      have h19 : m < 10000000000000000000 := Nat.lt_of_lt_of_le hm (Nat.le_trans (Nat.pow_le_pow_right (by omega) (show k ≤ 19 by omega)) (by decide))
      rw [← HD.out] at hV hk hlD ⊢
      by_cases hlt : k < D.length
      · have h18 : m < 1000000000000000000 := Nat.lt_of_lt_of_le hm (Nat.le_trans (Nat.pow_le_pow_right (by omega) (show k ≤ 18 by omega)) (by decide))
        rw [wrap_small _ (by omega)]
        have e1 : ((ByteArray.mk D.toArray)[k]'hlt).toNat = D[k].toNat := rfl
        have e0 : ((ByteArray.mk D.toArray)[k]'hlt).toNat ≤ 255 := by have := (D[k]).toNat_lt; omega
        go_wp2
        all_goals first
          | (go_ret2
             have hb : D[k].toNat < 48 ∨ 57 < D[k].toNat := by omega
             have hn := (dg_bad (m := m) hlt hb).symm.trans hV.out
             have hF := HF.out
             rw [← HD.out] at hF
             exact ⟨0, false, rfl, Below.refl _ _, fun h => (by cases h), fun _ => by first | exact hF.dead hn.symm | (rw [← HD.out]; exact hF.dead hn.symm)⟩)
          | (refine ⟨⟨k + 1, m * 10 + (D[k].toNat - 48), by omega, by go_num, ?_, ?_, ?_⟩, by simp [intOf]; omega⟩
             · exact congrArg (Value.int .i64) (wrap_step m D[k].toNat h18 (by omega) (by omega))
             · rw [Nat.pow_succ]
               omega
             · exact (dg_good hlt (by omega) (by omega)).symm.trans hV.out)
      · have hV2 : Lib.decFrom 0 D = some m := by
          have := hV.out
          rw [show k = D.length by omega, List.drop_length] at this
          exact this.symm
        have hF := HF.out
        rw [← HD.out] at hF
        by_cases hbig : 1152921504606846976 < m
        · have hP := hF.big hV2 hbig
          have hzz : wrap64 (m : Int) < 0 ∨ (¬ wrap64 (m : Int) < 0 ∧ 1152921504606846976 < wrap64 (m : Int)) := by unfold wrap64; omega
          have HP := Lib.hid hP
          generalize wrap64 (m : Int) = z at *
          clear hP hF hV2 hV hm h19 hbig
          rcases hzz with h1 | ⟨h1, h2⟩ <;>
          · go_wp2
            go_ret2
            exact ⟨0, false, rfl, Below.refl _ _, fun h => (by cases h), fun _ => by first | exact HP.out | (rw [← HD.out]; exact HP.out)⟩
        · have hone := hF.one hV2
          have Hone := Lib.hid hone
          have hml : (m : Int) ≤ 1152921504606846976 := by omega
          rw [wrap_small _ (by omega)]
          clear hone hF hV2 hV hm h19
          rcases Bool.eq_false_or_eq_true (Lib.itoa (-(m : Int)) == (45 :: D)) with hq | hq
          · have hq' : Lib.itoa (-(m : Int)) = (45 :: D) := by simpa using hq
            have Hq := Lib.hid hq'
            clear hq'
            go_wp2_with (go_at_call 55; refine (decimal55 _ _ (by omega) (by omega)).mono ?_; rintro e w1 ⟨rfl, hb1⟩)
            go_ret2
            exact ⟨-(m : Int), true, by first | rfl | (rw [hq]; rfl), hb1, fun _ => ⟨by first | exact Hq.out.symm | (rw [← HD.out]; exact Hq.out.symm), by omega, by omega⟩, fun h => by cases h⟩
          · have hq' : ∀ j, -1152921504606846976 ≤ j → j ≤ 1152921504606846976 → (45 :: D) ≠ Lib.itoa j := fun j h0 h1 e => by
              have hj := Hone.out j h0 h1 e
              have : j = -(m : Int) := by omega
              rw [← this, ← e] at hq
              simp at hq
            have Hq := Lib.hid hq'
            clear hq'
            go_wp2_with (go_at_call 55; refine (decimal55 _ _ (by omega) (by omega)).mono ?_; rintro e w1 ⟨rfl, hb1⟩)
            go_ret2
            exact ⟨-(m : Int), false, by first | rfl | (rw [hq]; rfl), hb1, fun h => (by cases h), fun _ => by first | exact Hq.out | (rw [← HD.out]; exact Hq.out)⟩
end Go.Proofs.Seat8
end
section
namespace Go.Proofs.Seat4
open Go.RowKit
def Clo (ops : Array Oper) (D : Nat → Bool) : Prop := ∀ j o, ops[j]? = some o → D j = true → ∀ e ∈ o.after, Region.binds .any e = true → D e.on = true
def DetOpG (P : Program) (ops : Array Oper) (S : (Nat → Bool) → World → Prop) (i : Nat) (o : Oper) (a : Act) (v : Value) : Prop :=
  ∀ D w, D i = false → Clo ops D → (∀ e ∈ o.after, Region.binds .any e = true → D e.on = true) → S D w → wpList P ops (DetPost (S (fun j => D j || j == i)) o a v) [o] a w
def wpDetG (P : Program) (ops : Array Oper) (S : (Nat → Bool) → World → Prop) (Q : Exit → Act → World → Prop) : Nat → List Oper → Act → Prop
  | _, [], a => ∀ D w, (∀ j, j < ops.size → D j = true) → S D w → Q .normal a w
  | i, o :: rest, a => ∃ v, DetOpG P ops S i o a v ∧ wpDetG P ops S Q (i + 1) rest (a.put o.dst v)
section
variable {P : Program} {ops : Array Oper} {S : (Nat → Bool) → World → Prop} {Q : Exit → Act → World → Prop}
theorem wpDetG_cons {i : Nat} {o : Oper} {rest : List Oper} {a : Act} {v : Value} (h1 : DetOpG P ops S i o a v) (h2 : wpDetG P ops S Q (i + 1) rest (a.put o.dst v)) : wpDetG P ops S Q i (o :: rest) a := ⟨v, h1, h2⟩
theorem det_canonG (a0 : Act) : ∀ (l : List Oper) (k : Nat) (a : Act) (v : Nat → Value), (∀ j, l[j]? = ops[k + j]?) → canon ops a0 v k = a → wpDetG P ops S Q k l a →
    ∃ v' : Nat → Value, (∀ j, j < k → v' j = v j) ∧ (∀ j o, k ≤ j → ops[j]? = some o → DetOpG P ops S j o (canon ops a0 v' j) (v' j)) ∧ (∀ D w, (∀ j, j < ops.size → D j = true) → S D w → Q .normal (canon ops a0 v' (k + l.length)) w) := by
  intro l
  induction l with
  | nil =>
    intro k a v hl ha h
    refine ⟨v, fun _ _ => rfl, fun j o hj ho => ?_, fun D w hD hw => by simpa [ha] using h D w hD hw⟩
    have hnone : ops[j]? = none := by
      have := hl (j - k)
      rw [show k + (j - k) = j from by omega] at this
      simpa using this.symm
    rw [hnone] at ho
    cases ho
  | cons o rest ih =>
    intro k a v hl ha h
    obtain ⟨u, hu, hrest⟩ := h
    have hk : ops[k]? = some o := by simpa using (hl 0).symm
    have same : ∀ (v1 v2 : Nat → Value) (m : Nat), (∀ j, j < m → v1 j = v2 j) → canon ops a0 v1 m = canon ops a0 v2 m := by
      intro v1 v2 m hm
      induction m with
      | zero => rfl
      | succ m ihm =>
        simp only [canon]
        rw [ihm fun j hj => hm j (by omega)]
        cases ops[m]? with
        | none => rfl
        | some o' => simp only [hm m (by omega)]
    let v2 : Nat → Value := fun j => if j = k then u else v j
    have hv2 : ∀ j, j < k → v2 j = v j := fun j hj => if_neg (by omega)
    have hck : canon ops a0 v2 k = a := (same v2 v k hv2).trans ha
    have hck1 : canon ops a0 v2 (k + 1) = a.put o.dst u := by
      show (match ops[k]? with | some o => (canon ops a0 v2 k).put o.dst (v2 k) | none => canon ops a0 v2 k) = _
      rw [hk, hck]
      simp [v2]
    obtain ⟨v', h1, h2, h3⟩ := ih (k + 1) _ v2 (fun j => by have := hl (j + 1); simpa [Nat.add_assoc, Nat.add_comm 1 j] using this) hck1 hrest
    refine ⟨v', fun j hj => (h1 j (by omega)).trans (hv2 j hj), fun j o' hj ho => ?_, fun D w hD hw => by have := h3 D w hD hw; rwa [show k + 1 + rest.length = k + (o :: rest).length from by simp; omega] at this⟩
    by_cases e : j = k
    · subst e
      rw [hk] at ho
      cases ho
      rw [same v' v2 j fun m hm => h1 m (by omega), hck, h1 j (by omega)]
      simp only [v2, if_true]
      exact hu
    · exact h2 j o' (by omega) ho
theorem det_anyG (hok : detOk ops = true) (a0 : Act) (v : Nat → Value) (hop : ∀ j o, ops[j]? = some o → DetOpG P ops S j o (canon ops a0 v j) (v j)) (hend : ∀ D w, (∀ j, j < ops.size → D j = true) → S D w → Q .normal (canon ops a0 v ops.size) w) :
    ∀ (fuel : Nat) (listed : Array Bool) (a : Act) (w : World), listed.size = ops.size → ((List.range ops.size).filter fun i => !listed.getD i true).length ≤ fuel → DetInv ops a0 v (fun j => listed.getD j true) a → Closed ops listed → S (fun j => listed.getD j true) w →
      wpAny P .any ops Q fuel listed a w := by
  have hall : ∀ (listed : Array Bool) (a : Act) (w : World), listed.size = ops.size → DetInv ops a0 v (fun j => listed.getD j true) a → Closed ops listed → S (fun j => listed.getD j true) w → (∀ i, i < ops.size → listed.getD i true = true) → Q .normal a w := by
    intro listed a w hsz hinv hC hS hl
    have hc := canon_inv hok a0 v ops.size (Nat.le_refl _)
    have : a = canon ops a0 v ops.size := by
      have ht : a.tmps = (canon ops a0 v ops.size).tmps := by
        apply Array.ext_getElem?
        intro t
        by_cases hex : ∃ j, j < ops.size ∧ writesTo ops j t = true
        · obtain ⟨j, hj, hw⟩ := hex
          by_cases htl : t < a0.tmps.size
          · rw [hinv.done t htl j hj hw (hl j hj), hc.done t htl j hj hw (by simpa using hj)]
          · rw [Array.getElem?_eq_none (by rw [hinv.size]; omega), Array.getElem?_eq_none (by rw [hc.size]; omega)]
        · rw [hinv.rest t fun j hj hw => absurd ⟨j, hj, hw⟩ hex, hc.rest t fun j hj hw => absurd ⟨j, hj, hw⟩ hex]
      have hd : a.defers = (canon ops a0 v ops.size).defers := hinv.defers.trans hc.defers.symm
      cases a
      cases hcn : canon ops a0 v ops.size
      rw [hcn] at ht hd
      simp only at ht hd
      rw [ht, hd]
    rw [this]
    exact hend _ w hl hS
  have hready : ∀ (listed : Array Bool), Region.ready .any ops listed = [] → ∀ i, i < ops.size → listed.getD i true = true := by
    intro listed hr i
    induction i using Nat.strongRecOn with
    | ind i ih =>
      intro hi
      apply Classical.byContradiction
      intro hn
      have hn' : listed.getD i true = false := by simpa using hn
      have : i ∈ Region.ready .any ops listed := by
        unfold Region.ready
        rw [List.mem_filter]
        refine ⟨List.mem_range.2 hi, ?_⟩
        have hget : ops[i]? = some ops[i] := Array.getElem?_eq_getElem hi
        rw [hn', hget]
        simp only [Bool.not_false, Bool.true_and, Option.map_some, Option.getD_some]
        rw [Array.all_eq_true']
        intro e he
        cases hb : Region.binds .any e with
        | false => rfl
        | true =>
          have hlt := (detOk_at hok hget).early e he hb
          have := ih e.on hlt (by omega)
          have hlt' : e.on < listed.size ∨ ¬ e.on < listed.size := by omega
          rcases hlt' with h | h
          · simp only [Array.getD, h, dif_pos] at this ⊢
            exact this
          · exfalso
            have h1 : i < listed.size ∨ ¬ i < listed.size := by omega
            rcases h1 with h1 | h1
            · omega
            · simp [Array.getD, h1] at hn'
      rw [hr] at this
      cases this
  intro fuel
  induction fuel with
  | zero =>
    intro listed a w hsz hcount hinv hC hS
    have hl : ∀ i, i < ops.size → listed.getD i true = true := by
      intro i hi
      have := List.eq_nil_of_length_eq_zero (Nat.le_zero.1 hcount)
      have hmem : i ∉ (List.range ops.size).filter fun i => !listed.getD i true := by rw [this]; simp
      rw [List.mem_filter] at hmem
      simp only [List.mem_range, hi, true_and] at hmem
      simpa using hmem
    refine ⟨?_, hall listed a w hsz hinv hC hS hl⟩
    unfold Region.ready
    rw [List.filter_eq_nil_iff]
    intro i hi
    rw [hl i (List.mem_range.1 hi)]
    simp
  | succ fuel ih =>
    intro listed a w hsz hcount hinv hC hS
    refine ⟨fun hr => hall listed a w hsz hinv hC hS (hready listed hr), fun i hi => ?_⟩
    unfold Region.ready at hi
    rw [List.mem_filter] at hi
    obtain ⟨hir, hc⟩ := hi
    have hil : i < ops.size := List.mem_range.1 hir
    have hget : ops[i]? = some ops[i] := Array.getElem?_eq_getElem hil
    rw [hget] at hc
    simp only [Bool.and_eq_true, Option.map_some, Option.getD_some] at hc
    obtain ⟨hn, hafter⟩ := hc
    have hn' : listed.getD i true = false := by simpa using hn
    have A := detOk_at hok hget
    have hcan := canon_inv hok a0 v i (by omega)
    have hagree : ∀ t ∈ ops[i].looksAt ops, a.tmps[t]? = (canon ops a0 v i).tmps[t]? := by
      intro t ht
      by_cases hex : ∃ j, j < ops.size ∧ writesTo ops j t = true
      · obtain ⟨j, hj, hw⟩ := hex
        obtain ⟨e, he, hb, hon⟩ := A.deps t ht j hj hw
        have hlt := A.early e he hb
        have hlist := Array.all_eq_true'.1 hafter e he
        rw [hb] at hlist
        simp only [Bool.not_true, Bool.false_or] at hlist
        have hDj : listed.getD j true = true := by
          rw [hon] at hlist
          simp only [Array.getD] at hlist ⊢
          split at hlist
          · rename_i h; rw [dif_pos h]; exact hlist
          · cases hlist
        by_cases htl : t < a0.tmps.size
        · rw [hinv.done t htl j hj hw hDj, hcan.done t htl j hj hw (by simp; omega)]
        · rw [Array.getElem?_eq_none (by rw [hinv.size]; exact Nat.le_of_not_lt htl), Array.getElem?_eq_none (by rw [hcan.size]; exact Nat.le_of_not_lt htl)]
      · rw [hinv.rest t fun j hj hw => absurd ⟨j, hj, hw⟩ hex, hcan.rest t fun j hj hw => absurd ⟨j, hj, hw⟩ hex]
    have hdep : ∀ e ∈ ops[i].after, Region.binds .any e = true → listed.getD e.on true = true := by
      intro e he hb
      have hlist := Array.all_eq_true'.1 hafter e he
      rw [hb] at hlist
      simp only [Bool.not_true, Bool.false_or] at hlist
      simp only [Array.getD] at hlist ⊢
      split at hlist
      · rename_i h; rw [dif_pos h]; exact hlist
      · cases hlist
    refine wpOp_mono ?_ (det_transfer (Q := Q) (v := v i) hget A.sel (hinv.size.trans hcan.size.symm) hagree (hop i ops[i] hget (fun j => listed.getD j true) w hn' (fun j o ho hj => hC.down j o ho hj) hdep hS))
    rintro a' w' ⟨rfl, hS'⟩
    have hsz' : (listed.setIfInBounds i true).size = ops.size := by simpa using hsz
    have hf : (fun j => listed.getD j true || j == i) = fun j => (listed.setIfInBounds i true).getD j true := by
      funext j
      by_cases hjl : j < listed.size
      · by_cases e : j = i
        · subst e; simp [Array.getD, hjl]
        · have : ¬ i = j := fun x => e x.symm
          simp [Array.getD, hjl, Array.getElem_setIfInBounds, e, this]
      · simp [Array.getD, hjl]
    rw [hf] at hS'
    refine ih _ _ _ hsz' ?_ ?_ (hC.set hget hdep) hS'
    · have hlt : ((List.range ops.size).filter fun k => !(listed.setIfInBounds i true).getD k true).length < ((List.range ops.size).filter fun k => !listed.getD k true).length := by
        have hsub : ((List.range ops.size).filter fun k => !(listed.setIfInBounds i true).getD k true) = ((List.range ops.size).filter fun k => !listed.getD k true).filter (fun k => k != i) := by
          rw [List.filter_filter]
          apply List.filter_congr
          intro k hk
          have hkl : k < listed.size := by rw [hsz]; exact List.mem_range.1 hk
          by_cases e : k = i
          · subst e; simp [Array.getD, hkl]
          · have : ¬ i = k := fun x => e x.symm
            simp [Array.getD, hkl, Array.getElem_setIfInBounds, e, this]
        rw [hsub]
        have hmem : i ∈ (List.range ops.size).filter fun k => !listed.getD k true := List.mem_filter.2 ⟨hir, hn⟩
        exact List.length_filter_lt_length_iff_exists.2 ⟨i, hmem, by simp⟩
      omega
    · have := hinv.put hok hget hn'
      rwa [hf] at this
theorem wp_region_detG {id : Nat} {a : Act} {w : World} (hm : P.follows .mixedOrders = true) (hok : detOk ops = true) (S : (Nat → Bool) → World → Prop) (hS : S (fun j => !decide (j < ops.size)) w.drew) (h : wpDetG P ops S Q 0 ops.toList a) : (Code.region id ops true).wp P Q a w := by
  obtain ⟨v, _, h2, h3⟩ := det_canonG (P := P) (S := S) (Q := Q) a ops.toList 0 a (fun _ => undef) (fun j => by simp) rfl h
  have hf : (fun j => (Array.replicate ops.size false).getD j true) = fun j => !decide (j < ops.size) := by
    funext j
    by_cases h : j < ops.size <;> simp [Array.getD, h]
  refine wp_region_any hm (det_anyG (S := S) hok a v (fun j o ho => h2 j o (Nat.zero_le _) ho) (by simpa using h3) ops.size _ a _ (by simp) ?_ ?_ ?_ (by rw [hf]; exact hS))
  · exact Nat.le_trans (List.length_filter_le _ _) (by simp)
  · rw [hf]
    exact ⟨rfl, rfl, fun t _ j hj _ hD => by simp [hj] at hD, fun t _ => rfl⟩
  · refine ⟨by simp, fun i o hi hl => ?_⟩
    have hlt : i < ops.size := (Array.getElem?_eq_some_iff.1 hi).1
    simp [lst, Array.getD, hlt] at hl
end
end Go.Proofs.Seat4
end
section
namespace Go.Proofs.Seat8
open Go.RowKit Go.Proofs.Seat4
theorem splitW (s : List UInt8) (w : World) (hE : Env w) (hs : s.length ≤ 1048576) :
    Calls Tryz.prog 25 #[.string ⟨s.toArray⟩, .string ⟨#[32]⟩] w fun e w' => ∃ g, e = .returned (.slice (some ⟨g, 0, none⟩) (splitA 32 [] s).length (splitA 32 [] s).length) ∧ w.heap.size ≤ g ∧ g < w'.heap.size ∧ Row w' g 0 ((splitA 32 [] s).map strV) ∧ Below w.heap.size w w' := by
  refine (split25 s [32] w hE hs (by simp)).mono ?_
  rintro e w' ⟨N, rfl, rfl, rfl⟩
  refine ⟨w.heap.size, ?_, Nat.le_refl _, by simp, ?_, (Below.refl _ _).alloc (Nat.le_refl _) _⟩
  · rw [← countB_len 32 s]
  · have h := Row.new w ((Lib.splitB ⟨#[32]⟩ 0 (Lib.countB ⟨s.toArray⟩ ⟨#[32]⟩) ⟨s.toArray⟩).map Value.string).toArray 9 w.heap.size rfl
    rw [List.toList_toArray, splitB_cells 32 s] at h
    rw [splitB_cells 32 s]
    exact h
theorem pNums_none : ∀ {T : List (List UInt8)} {k : Nat} (h : k < T.length), numA T[k] = none → pNums T = none
  | x :: T, 0, _, hn => by
    have hn' : numA x = none := hn
    unfold pNums
    rw [hn']
  | x :: T, k + 1, h, hn => by
    have ih := pNums_none (T := T) (k := k) (by simpa using h) hn
    unfold pNums
    rw [ih]
    cases numA x <;> rfl
theorem pNums_some : ∀ {T : List (List UInt8)} {ns : List Int}, ns.length = T.length → (∀ j (h : j < ns.length) (h' : j < T.length), numA T[j] = some ns[j]) → pNums T = some ns
  | [], [], _, _ => rfl
  | x :: T, n :: ns, hl, h => by
    have h0 : numA x = some n := h 0 (by simp) (by simp)
    have ih := pNums_some (T := T) (ns := ns) (by simpa using hl) fun j h1 h2 => h (j + 1) (by simpa using h1) (by simpa using h2)
    unfold pNums
    rw [h0, ih]
    rfl
theorem numA_ok {s : List UInt8} {n : Int} {err : Value} (h : AtoiIs s n err) : (numA s = some n ∧ err = .nilIface) ∨ (numA s = none ∧ ∃ t p, err = .iface t (.pointer (some p))) := by
  rcases h with ⟨h, rfl⟩ | ⟨h, h2⟩
  · exact .inl ⟨by unfold numA; rw [h], rfl⟩
  · refine .inr ⟨?_, h2⟩
    unfold numA
    split
    · exact absurd ‹_› (h _)
    · rfl
theorem TI : ElemT Tryz.prog 38 3 1 8 := ElemT.mk' Tryz.underlying38 (z := .int .i64 0) (by kernel_rfl) rfl (by decide)
theorem pLine_len {a : List UInt8} {L : List (List UInt8)} (h : splitA 32 [] a = L) (hl : L.length ≠ 5) : pLine a = none := by
  unfold pLine
  rw [h, if_neg hl]
theorem pLine_bad {a x0 : List UInt8} {T : List (List UInt8)} (h : splitA 32 [] a = x0 :: T) (hn : pNums T = none) : pLine a = none := by
  unfold pLine
  rw [h]
  simp only [List.tail_cons, hn, Option.map_none]
  split <;> rfl
theorem pLine_ok {a x0 : List UInt8} {T : List (List UInt8)} {ns : List Int} (h : splitA 32 [] a = x0 :: T) (hl : T.length = 4) (hn : pNums T = some ns) : pLine a = some (mkM x0 ns) := by
  unfold pLine
  rw [h]
  simp only [List.tail_cons, hn, List.length_cons, hl]
  rfl
theorem splitA_len {s : List UInt8} {L : List (List UInt8)} (h : splitA 32 [] s = L) : ∀ x ∈ L, x.length ≤ s.length := by
  have key : ∀ (s p : List UInt8), ∀ x ∈ splitA 32 p s, x.length ≤ p.length + s.length := by
    intro s
    induction s with
    | nil => intro p x hx; simp [splitA] at hx; subst hx; simp
    | cons y r ih =>
      intro p x hx
      rw [splitA] at hx
      split at hx
      · rcases List.mem_cons.1 hx with rfl | hx
        · simp
        · have := ih [] x hx; simp at this ⊢; omega
      · have := ih _ x hx; simp at this ⊢; omega
  intro x hx
  have := key s [] x (by rw [h]; exact hx)
  simpa using this
def SA (Wl : World) (o : Obj) (D : Nat → Bool) (wx : World) : Prop := ∃ q, wx = (bif D 17 then Wl.alloc o else Wl).drewN q
theorem SA.keep {Wl : World} {o : Obj} {D : Nat → Bool} {wx : World} {i : Nat} (h : SA Wl o D wx) (hi : (17 == i) = false) : SA Wl o (fun j => D j || j == i) wx := by
  obtain ⟨q, rfl⟩ := h
  exact ⟨q, by simp [hi]⟩
theorem SA.below {Wl : World} {o : Obj} {D : Nat → Bool} {wx : World} (h : SA Wl o D wx) : Below Wl.heap.size Wl wx := by
  obtain ⟨q, rfl⟩ := h
  cases D 17
  · exact below_drewN' _ _
  · exact ((Below.refl _ _).alloc (Nat.le_refl _) _).trans ((below_drewN' _ _).mono (by simp))
theorem SA.made {Wl : World} {o : Obj} {D : Nat → Bool} {wx : World} (h : SA Wl o D wx) (hD : D 17 = true) : ∃ q, wx = (Wl.alloc o).drewN q := by
  obtain ⟨q, rfl⟩ := h
  rw [hD]
  exact ⟨q, rfl⟩
theorem SA.not {Wl : World} {o : Obj} {D : Nat → Bool} {wx : World} (h : SA Wl o D wx) (hD : D 17 = false) : ∃ q, wx = Wl.drewN q := by
  obtain ⟨q, rfl⟩ := h
  rw [hD]
  exact ⟨q, rfl⟩
theorem SA.make {Wl : World} {o : Obj} {D : Nat → Bool} (q : Nat) : SA Wl o (fun j => D j || j == 17) ((Wl.drewN q).alloc o) := ⟨q, by simp; rfl⟩
end Go.Proofs.Seat8
end
section
namespace Go.Proofs.Seat8
open Go.RowKit Go.Proofs.Seat4
theorem nm_cons (s : List UInt8) : nmL.contains s = (s == [115, 116, 101, 112, 115] || (s == [111, 112, 101, 114, 97, 116, 105, 111, 110, 115] || (s == [112, 97, 114, 107, 101, 100] || (s == [119, 97, 105, 116, 115] || (s == [119, 97, 105, 116, 116, 105, 109, 101] || (s == [108, 105, 118, 101, 115] || (s == [102, 97, 105, 108, 117, 114, 101, 115] ||
  (s == [99, 97, 110, 99, 101, 108, 108, 97, 116, 105, 111, 110, 115] || (s == [99, 108, 101, 97, 110, 117, 112, 115] || (s == [101, 109, 105, 116, 116, 101, 100] || false)))))))))) := rfl
set_option maxRecDepth 100000 in
set_option maxHeartbeats 1000000 in
theorem isName21 (s : List UInt8) (w : World) : Calls Tryz.prog 36 #[.string ⟨s.toArray⟩] w fun e w' => e = .returned (.bool (nmL.contains s)) ∧ w = w' := by
  rw [nm_cons]
  go_enter Tryz.func36, Tryz.ntmps36
  go_wp2
  all_goals
    go_ret
    refine ⟨?_, rfl⟩
    first
      | (exfalso; simp_all; done)
      | (simp_all; done)
def lessM (x y : Mt) : Bool := Op.bytesLess x.name y.name || (x.name == y.name && decide (x.index < y.index))
set_option maxRecDepth 100000 in
set_option maxHeartbeats 1000000 in
theorem less20 (x y : Mt) (W : World) : Calls Tryz.prog 37 #[.agg #[.string ⟨x.name.toArray⟩, .int .i64 x.index, .int .i64 x.count, .int .i64 x.sum, .int .i64 x.mx], .agg #[.string ⟨y.name.toArray⟩, .int .i64 y.index, .int .i64 y.count, .int .i64 y.sum, .int .i64 y.mx]] W fun e w' => e = .returned (.bool (lessM x y)) ∧ Below W.heap.size W w' := by
  unfold lessM
  go_enter Tryz.func37, Tryz.ntmps37
  go_wp2
  all_goals
    go_ret
    refine ⟨?_, ((Below.refl _ _).alloc (Nat.le_refl _) _).alloc (by simp) _⟩
    simp_all
theorem lessM_iff (x y : Mt) : lessM x y = true ↔ Kl x y := by
  unfold lessM Kl
  simp
end Go.Proofs.Seat8
end

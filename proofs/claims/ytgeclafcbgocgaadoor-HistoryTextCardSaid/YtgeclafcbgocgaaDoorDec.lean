/- The reference's decimal numerals are those of strconv.Itoa. -/
import Derived.Test.YtgeclafcbgocgaaDoorGen
import Derived.Lib.ItoaLen
import Derived.Lib.ItoaMem
import Derived.Lib.Hide
import Derived.Deep.Light
namespace Go.Proofs.YtgeclafcbgocgaaDoor
open Go.RowKit
theorem conv1 (W : World) (x : Int) (h0 : 0 ≤ x) (h1 : x < 256) :
    (convert 72 9 (.slice (some ⟨W.heap.size, 0, none⟩) 1 1)).run Tryd.prog (W.alloc (.cells #[.int .u8 x] 5)) = .ok (.string ⟨#[UInt8.ofNat x.toNat]⟩) (W.alloc (.cells #[.int .u8 x] 5)) := by
  have := run_convert_bytes_back (P := Tryd.prog) (W.alloc (.cells #[.int .u8 x] 5)) 72 9 5 ⟨W.heap.size, 0, none⟩ 1 [UInt8.ofNat x.toNat] Tryd.underlying72 Tryd.underlying5 Tryd.underlying9 (fun j hj => by
    have hj0 : j = 0 := by simpa using hj
    subst hj0
    rw [plain_add, cell_of_row _ _ _ #[.int .u8 x] 5 (0, 0) (heap_alloc_new W _)]
    simp only [List.getElem_cons_zero, Nat.add_zero]
    rw [UInt8.toNat_ofNat', Nat.mod_eq_of_lt (by omega), show ((x.toNat : Nat) : Int) = x from by omega]
    rfl)
  exact this
theorem dec_step (m : Nat) (h : 9 < m) (l : List UInt8) : Lib.decDigits (m / 10) ++ (48 + UInt8.ofNat (m % 10)) :: l = Lib.decDigits m ++ l := by
  rw [Lib.decDigits.eq_1 m, dif_neg (by omega)]
  simp
theorem dec_last (m : Nat) (h : m ≤ 9) (l : List UInt8) : (48 + UInt8.ofNat m) :: l = Lib.decDigits m ++ l := by
  rw [Lib.decDigits.eq_1 m, dif_pos (by omega)]
  simp
theorem cat1 (x : UInt8) (l : List UInt8) : (ByteArray.mk #[x]) ++ (ByteArray.mk l.toArray) = ByteArray.mk (x :: l).toArray := ByteArray.mk_append_mk [x] l
theorem decD_len (n : Nat) (h : n ≤ 9223372036854775807) : (Lib.decDigits n).length ≤ 21 := by
  have hlen := Lib.itoa_length_le (n : Int) (by omega) (by omega)
  rwa [Lib.itoa_nonneg] at hlen
set_option maxRecDepth 100000 in
set_option maxHeartbeats 1000000 in
theorem decimal45x (N : Nat) (w : World) (hN : N ≤ 9223372036854775807) : Calls Tryd.prog 60 #[.int .i64 (N : Int)] w fun e w' => e = .returned (.string ⟨(Lib.decDigits N).toArray⟩) ∧ Below w.heap.size w w' := by
  go_enter Tryd.func60, Tryd.ntmps60
  go_wp2
  go_loopw [0, 3] (fun n out wr => ∃ (m : Nat) (l : List UInt8), n = .int .i64 m ∧ out = .string ⟨l.toArray⟩ ∧ m ≤ N ∧ Hid (Lib.decDigits m ++ l = Lib.decDigits N) ∧ Below w.heap.size w wr) (fun n _ _ => (intOf n).toNat)
  case atStart => exact ⟨N, [], rfl, rfl, Nat.le_refl _, by simp [Hid], Below.refl _ _⟩
  case round =>
    obtain ⟨m, l, rfl, rfl, hm, hl, hb⟩ := hrel
    have hll : l.length ≤ 21 := by
      have := decD_len N hN
      rw [← hl.out] at this
      simp at this
      omega
    have hsz := hb.size
    by_cases h : 9 < m
    · have hcv := conv1 wr (48 + (m : Int) % 10) (by omega) (by omega)
      go_wp2
      go_roundw
      case rel => exact ⟨m / 10, _, by go_num, congrArg Value.string (cat1 _ _), by omega, (dec_step m h l).trans hl.out, hb.alloc hsz _⟩
      case measure => simp [intOf]; omega
    · have hcv := conv1 wr (48 + (m : Int)) (by omega) (by omega)
      go_wp2
      go_ret
      exact ⟨congrArg (fun b => Ending.returned (Value.string b)) ((cat1 _ _).trans (congrArg (fun l : List UInt8 => ByteArray.mk l.toArray) ((dec_last m (by omega) l).trans hl.out))), hb.alloc hsz _⟩
theorem dec_neg10 (m : Nat) (h : 9 < m) : Lib.decDigits (m / 10) ++ Lib.decDigits (m % 10) = Lib.decDigits m := by
  rw [Lib.decDigits.eq_1 m, dif_neg (by omega), Lib.decDigits.eq_1 (m % 10), dif_pos (by omega)]
theorem cat2 (l r : List UInt8) : (ByteArray.mk l.toArray) ++ (ByteArray.mk r.toArray) = ByteArray.mk (l ++ r).toArray := ByteArray.mk_append_mk l r
theorem decimal45xi (n : Int) (w : World) (h0 : 0 ≤ n) (h1 : n ≤ 9223372036854775807) : Calls Tryd.prog 60 #[.int .i64 n] w fun e w' => e = .returned (.string ⟨(Lib.decDigits n.toNat).toArray⟩) ∧ Below w.heap.size w w' := by
  have := decimal45x n.toNat w (by omega)
  rwa [show ((n.toNat : Nat) : Int) = n from by omega] at this
theorem cat3 (x : UInt8) (l r : List UInt8) : (ByteArray.mk #[x]) ++ (ByteArray.mk l.toArray) ++ (ByteArray.mk r.toArray) = ByteArray.mk (x :: (l ++ r)).toArray := by
  rw [cat1, cat2]
  rfl
/-- nurseryref13.Decimal. -/
theorem decimal44 (n : Int) (w : World) (h0 : -9223372036854775807 ≤ n) (h1 : n ≤ 9223372036854775807) : Calls Tryd.prog 44 #[.int .i64 n] w fun e w' => e = .returned (.string ⟨(Lib.itoa n).toArray⟩) ∧ Below w.heap.size w w' := by
  by_cases hneg : n < -9
  · obtain ⟨m, hm⟩ : ∃ m : Nat, n = -(m : Int) := ⟨n.natAbs, by omega⟩
    subst hm
    have l1 := decD_len (m / 10) (by omega)
    have l2 := decD_len (m % 10) (by omega)
    go_enter Tryd.func44, Tryd.ntmps44
    go_wp2_with fail
    refine (decimal45xi _ _ (by omega) (by omega)).mono ?_
    rintro e w1 ⟨rfl, hb1⟩
    rw [show ((m : Int) / 10).toNat = m / 10 from by omega]
    go_wp2_with fail
    refine (decimal45xi _ _ (by omega) (by omega)).mono ?_
    rintro e w2 ⟨rfl, hb2⟩
    rw [show ((m : Int) % 10).toNat = m % 10 from by omega]
    go_wp2_with fail
    go_ret
    refine ⟨congrArg (fun b => Ending.returned (Value.string b)) ((cat3 45 _ _).trans ?_), hb1.trans (hb2.mono hb1.size)⟩
    rw [dec_neg10 m (by omega), Lib.itoa_neg m (by omega)]
  · by_cases hn : n < 0
    · obtain ⟨m, hm⟩ : ∃ m : Nat, n = -(m : Int) := ⟨n.natAbs, by omega⟩
      subst hm
      have l1 := decD_len m (by omega)
      go_enter Tryd.func44, Tryd.ntmps44
      go_wp2_with fail
      refine (decimal45xi _ _ (by omega) (by omega)).mono ?_
      rintro e w1 ⟨rfl, hb1⟩
      rw [show ((m : Int)).toNat = m from by omega]
      go_wp2_with fail
      go_ret
      refine ⟨congrArg (fun b => Ending.returned (Value.string b)) ((cat1 45 _).trans ?_), hb1⟩
      rw [Lib.itoa_neg m (by omega)]
    · obtain ⟨m, hm⟩ : ∃ m : Nat, n = (m : Int) := ⟨n.natAbs, by omega⟩
      subst hm
      go_enter Tryd.func44, Tryd.ntmps44
      go_wp2_with fail
      refine (decimal45x _ _ (by omega)).mono ?_
      rintro e w1 ⟨rfl, hb1⟩
      go_wp2_with fail
      go_ret
      refine ⟨congrArg (fun b => Ending.returned (Value.string b)) ?_, hb1⟩
      rw [Lib.itoa_nonneg]
/-- nurseryref31.decimal. -/
theorem decimal29 (n : Int) (w : World) (h0 : -9223372036854775807 ≤ n) (h1 : n ≤ 9223372036854775807) : Calls Tryd.prog 29 #[.int .i64 n] w fun e w' => e = .returned (.string ⟨(Lib.itoa n).toArray⟩) ∧ Below w.heap.size w w' := by
  by_cases hn : n < 0
  · obtain ⟨m, hm⟩ : ∃ m : Nat, n = -(m : Int) := ⟨n.natAbs, by omega⟩
    subst hm
    have l1 := Lib.itoa_length_le (m : Int) (by omega) (by omega)
    go_enter Tryd.func29, Tryd.ntmps29
    go_wp2_with fail
    refine (decimal44 _ _ (by omega) (by omega)).mono ?_
    rintro e w1 ⟨rfl, hb1⟩
    go_wp2_with fail
    go_ret
    refine ⟨congrArg (fun b => Ending.returned (Value.string b)) ((cat1 45 _).trans ?_), hb1⟩
    rw [Lib.itoa_neg m (by omega), Lib.itoa_nonneg]
  · go_enter Tryd.func29, Tryd.ntmps29
    go_wp2_with fail
    refine (decimal44 _ _ (by omega) (by omega)).mono ?_
    rintro e w1 ⟨rfl, hb1⟩
    go_wp2_with fail
    go_ret
    exact ⟨rfl, hb1⟩
end Go.Proofs.YtgeclafcbgocgaaDoor

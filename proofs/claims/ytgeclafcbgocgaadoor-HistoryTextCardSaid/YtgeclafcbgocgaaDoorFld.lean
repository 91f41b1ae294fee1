/- The reference's fields: the parts between single spaces. -/
import Derived.Test.YtgeclafcbgocgaaDoorGen
import Derived.Test.YtgeclafcbgocgaaDoorPln
import Derived.Lib.Hide
import Derived.Deep.Light
namespace Go.Proofs.YtgeclafcbgocgaaDoor
open Go.RowKit
def strV (l : List UInt8) : Value := .string ⟨l.toArray⟩
theorem T49 : ElemT Tryd.prog 49 9 1 16 := ElemT.mk' Tryd.underlying49 (z := .string ⟨#[]⟩) (by kernel_rfl) rfl (by decide)
theorem byte_is (s : List UInt8) (k : Nat) (h : k < s.length) (c : UInt8) {hb : k < (ByteArray.mk s.toArray).size} (ht : (((ByteArray.mk s.toArray)[k].toNat : Int) == (c.toNat : Int)) = true) : s[k] = c := by
  have e : (ByteArray.mk s.toArray)[k] = s[k] := rfl
  rw [e] at ht
  exact UInt8.toNat_inj.1 (by have := beq_iff_eq.1 ht; omega)
theorem byte_not (s : List UInt8) (k : Nat) (h : k < s.length) (c : UInt8) {hb : k < (ByteArray.mk s.toArray).size} (ht : (((ByteArray.mk s.toArray)[k].toNat : Int) == (c.toNat : Int)) = false) : s[k] ≠ c := by
  have e : (ByteArray.mk s.toArray)[k] = s[k] := rfl
  rw [e] at ht
  rintro rfl
  simp at ht
theorem split_hit {c : UInt8} {s p : List UInt8} {out : List (List UInt8)} {L : List (List UInt8)} {k : Nat} (h : k < s.length) (hc : s[k] = c) (hs : out ++ splitA c p (s.drop k) = L) : (out ++ [p]) ++ splitA c [] (s.drop (k + 1)) = L := by
  rw [List.drop_eq_getElem_cons h, splitA, if_pos hc] at hs
  simpa using hs
theorem split_miss {c : UInt8} {s p : List UInt8} {out : List (List UInt8)} {L : List (List UInt8)} {k : Nat} (h : k < s.length) (hc : s[k] ≠ c) (hs : out ++ splitA c p (s.drop k) = L) : out ++ splitA c (p ++ [s[k]]) (s.drop (k + 1)) = L := by
  rw [List.drop_eq_getElem_cons h, splitA, if_neg hc] at hs
  exact hs
theorem snoc_byte (s p : List UInt8) (k : Nat) (h : k < s.length) : (ByteArray.mk p.toArray) ++ (ByteArray.mk s.toArray).extract k (k + 1) = ByteArray.mk (p ++ [s[k]]).toArray := by
  have : (ByteArray.mk s.toArray).extract k (k + 1) = ByteArray.mk [s[k]].toArray := by
    apply ByteArray.ext
    apply Array.toList_inj.1
    rw [Lib.extract_data]
    show List.take (k + 1 - k) (List.drop k s) = [s[k]]
    rw [List.drop_eq_getElem_cons h, show k + 1 - k = 1 from by omega]
    rfl
  rw [this, ByteArray.mk_append_mk]
set_option maxRecDepth 100000 in
set_option maxHeartbeats 1000000 in
theorem words51 (s : List UInt8) (w : World) (hs : s.length ≤ 100000) :
    Calls Tryd.prog 51 #[.string ⟨s.toArray⟩] w fun e w' => ∃ v, e = .returned v ∧ w'.ownsRow w.heap.size 9 1 v (splitA 32 [] s).length ((splitA 32 [] s).map strV) ∧ Below w.heap.size w w' := by
  go_enter Tryd.func51, Tryd.ntmps51
  go_wp2
  go_loopw [3, 4, 5] (fun v part i wr => ∃ (k : Nat) (p : List UInt8) (out : List (List UInt8)), k ≤ s.length ∧ i = .int .i64 k ∧ part = strV p ∧ p.length ≤ k ∧ out.length ≤ k ∧ wr.ownsRow w.heap.size 9 1 v out.length (out.map strV) ∧ Hid (out ++ splitA 32 p (s.drop k) = splitA 32 [] s) ∧ Below w.heap.size w wr) (fun _ _ i _ => s.length - (intOf i).toNat)
  case atStart => exact ⟨0, [], [], Nat.zero_le _, rfl, rfl, Nat.le_refl _, Nat.le_refl _, World.ownsRow_made w #[] 0 (Nat.le_refl _) (by unfold maxLen; omega) rfl, rfl, (Below.refl _ _).alloc (Nat.le_refl _) _⟩
  case round =>
    obtain ⟨k, p, out, hk, rfl, rfl, hp, ho, hown, hsp, hb⟩ := hrel
    have hsz := hb.size
    by_cases hlt : k < s.length
    · unfold strV
      go_wp2_with (at_builtin; refine wpList_app rfl _ _ 49 rfl w.heap.size 9 1 16 T49 _ _ _ rfl (hown.alloc _) wr.heap.size [strV p] rfl rfl (Row.new _ _ _ _ rfl) (by intro u hu; simp at hu; subst hu; rfl) (by omega) (by omega) (by simp; omega) ?_; intro v' w1 hown1 hgr1)
      · have ht : (((ByteArray.mk s.toArray)[k].toNat : Int) == 32) = true := by assumption
        have hc := byte_is s k hlt 32 ht
        have hg := (hb.alloc hsz _).grown hgr1 (by simp; omega) (fun j hj => (hown.lt j hj).1)
        clear ht
        go_roundw
        case rel => exact ⟨k + 1, [], out ++ [p], by omega, by go_num, rfl, by simp, by simp; omega, by rw [List.map_append, List.length_append]; exact hown1, split_hit hlt hc hsp.out, hg⟩
        case measure => simp [intOf]; omega
      · have ht : (((ByteArray.mk s.toArray)[k].toNat : Int) == 32) = false := by assumption
        have hc := byte_not s k hlt 32 ht
        clear ht
        go_roundw
        case rel => exact ⟨k + 1, p ++ [s[k]], out, by omega, by go_num, congrArg Value.string (snoc_byte s p k hlt), by simp; omega, by omega, hown, split_miss hlt hc hsp.out, hb⟩
        case measure => simp [intOf]; omega
    · unfold strV
      go_wp2_with (at_builtin; refine wpList_app rfl _ _ 49 rfl w.heap.size 9 1 16 T49 _ _ _ rfl (hown.alloc _) wr.heap.size [strV p] rfl rfl (Row.new _ _ _ _ rfl) (by intro u hu; simp at hu; subst hu; rfl) (by omega) (by omega) (by simp; omega) ?_; intro v' w1 hown1 hgr1)
      go_ret
      have hk' : k = s.length := by omega
      have hsp' := hsp.out
      rw [hk', List.drop_length, splitA] at hsp'
      rw [← hsp']
      refine ⟨_, rfl, by rw [List.map_append, List.length_append]; exact hown1, ?_⟩
      exact (hb.alloc hsz _).grown hgr1 (by simp; omega) (fun j hj => (hown.lt j hj).1)
end Go.Proofs.YtgeclafcbgocgaaDoor

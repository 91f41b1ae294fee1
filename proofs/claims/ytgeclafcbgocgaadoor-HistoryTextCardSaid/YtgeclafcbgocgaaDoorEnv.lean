/- What the package-level variables hold, kept while only new memory is made; the contracts of strconv.Itoa, strconv.Atoi, strings.Cut, strings.Split, strings.Count under it. -/
import Derived.Test.YtgeclafcbgocgaaDoorGen
import Derived.Test.YtgeclafcbgocgaaDoorShelf
import Derived.Lib.AppendIntMem
namespace Go.Proofs.YtgeclafcbgocgaaDoor
open Go.RowKit
structure Env (w : World) : Prop where
  top : 8 ≤ w.heap.size
  maxlen : ∃ m, w.cell? ⟨1, 0, none⟩ = some (.int .i64 m)
  tab : Lib.TabIs Tryd.prog w "internal/strconv.uint64pow10" .u64 Lib.pow10Tab
  syn : ∃ tp p, w.var? Tryd.prog "strconv.ErrSyntax" = some #[.iface tp p]
  rng : ∃ tp p, w.var? Tryd.prog "strconv.ErrRange" = some #[.iface tp p]
theorem gTab : Tryd.prog.globalNamed "internal/strconv.uint64pow10" = some 0 := by kernel_rfl
theorem gSyn : Tryd.prog.globalNamed "strconv.ErrSyntax" = some 2 := by kernel_rfl
theorem gRng : Tryd.prog.globalNamed "strconv.ErrRange" = some 3 := by kernel_rfl
theorem Env.below' {w w' : World} {B : Nat} (h : Env w) (hb : Below B w w') (hB : 8 ≤ B) : Env w' := by
  refine ⟨Nat.le_trans h.top hb.size, ?_, var?_below hb gTab (by omega) h.tab, ?_, ?_⟩
  · obtain ⟨m, hm⟩ := h.maxlen
    exact ⟨m, (hb.cell (p := ⟨1, 0, none⟩) (show 1 < B by omega)).trans hm⟩
  · obtain ⟨tp, p, hp⟩ := h.syn
    exact ⟨tp, p, var?_below hb gSyn (by omega) hp⟩
  · obtain ⟨tp, p, hp⟩ := h.rng
    exact ⟨tp, p, var?_below hb gRng (by omega) hp⟩
theorem Env.below {w w' : World} (h : Env w) (hb : Below w.heap.size w w') : Env w' := h.below' hb h.top
theorem Env.alloc {w : World} (h : Env w) (o : Obj) : Env (w.alloc o) := h.below ((Below.refl _ _).alloc (Nat.le_refl _) o)
theorem below_drewN' (w : World) (n : Nat) : Below w.heap.size w (w.drewN n) := ⟨rfl, rfl, rfl, Nat.le_refl _, fun _ _ => rfl⟩
theorem itoa27 (n : Int) (w : World) (hE : Env w) (h0 : -9223372036854775808 ≤ n) (h1 : n ≤ 9223372036854775807) :
    Calls Tryd.prog 27 #[.int .i64 n] w fun e w' => e = .returned (.string ⟨(Lib.itoa n).toArray⟩) ∧ Below w.heap.size w w' :=
  (Tryd.strconv_Itoa n h0 h1 w hE.tab).mono fun e w' ⟨he, k, os, hw⟩ => ⟨he, by rw [hw]; exact Lib.below_grow _ _ (Nat.le_refl _) _ _⟩
theorem cut46 (s sep : List UInt8) (w : World) (hE : Env w) (hs : s.length ≤ 1048576) :
    Calls Tryd.prog 46 #[.string ⟨s.toArray⟩, .string ⟨sep.toArray⟩] w fun e w' => e = .returned (.tuple #[.string ⟨(Lib.cut s sep).1.toArray⟩, .string ⟨(Lib.cut s sep).2.1.toArray⟩, .bool (Lib.cut s sep).2.2]) ∧ Below w.heap.size w w' := by
  obtain ⟨m, hm⟩ := hE.maxlen
  exact (Tryd.strings_Cut ⟨s.toArray⟩ ⟨sep.toArray⟩ m w (by show s.toArray.size < _; simp; omega) hm).mono fun e w' ⟨he, n, hw⟩ => ⟨he, by rw [hw]; exact below_drewN' _ _⟩
theorem count72 (s : List UInt8) (c : UInt8) (w : World) :
    Calls Tryd.prog 72 #[.string ⟨s.toArray⟩, .string ⟨#[c]⟩] w fun e w' => e = .returned (.int .i64 (Lib.countByte s c)) ∧ w = w' :=
  (Tryd.strings_Count_one ⟨s.toArray⟩ c w).mono fun _ _ ⟨he, hw⟩ => ⟨he, hw.symm⟩
theorem split47 (s sep : List UInt8) (w : World) (hE : Env w) (hs : s.length ≤ 1048576) (h1 : 1 ≤ sep.length) :
    Calls Tryd.prog 47 #[.string ⟨s.toArray⟩, .string ⟨sep.toArray⟩] w fun e w' => ∃ N, e = .returned (.slice (some ⟨N, 0, none⟩) (Lib.countB ⟨s.toArray⟩ ⟨sep.toArray⟩ + 1) (Lib.countB ⟨s.toArray⟩ ⟨sep.toArray⟩ + 1)) ∧
      N = w.heap.size ∧ w' = w.alloc (.cells ((Lib.splitB ⟨sep.toArray⟩ 0 (Lib.countB ⟨s.toArray⟩ ⟨sep.toArray⟩) ⟨s.toArray⟩).map Value.string).toArray 9) := by
  obtain ⟨m, hm⟩ := hE.maxlen
  exact (Tryd.strings_Split ⟨s.toArray⟩ ⟨sep.toArray⟩ m w (by show s.toArray.size < _; simp; omega) hm (by show 1 ≤ sep.toArray.size; simpa using h1)).mono fun e w' ⟨he, hw⟩ => ⟨_, he, rfl, hw⟩
/-- What strconv.Atoi gives: the number and nil, or some number and an error that is not nil. -/
def AtoiIs (s : List UInt8) (n : Int) (err : Value) : Prop := (Lib.atoiAll s = .ok n ∧ err = .nilIface) ∨ ((∀ m, Lib.atoiAll s ≠ .ok m) ∧ ∃ t p, err = .iface t (.pointer (some p)))
theorem below_bytesWorld (w : World) (t : TypeId) (s : ByteArray) : Below w.heap.size w (Lib.bytesWorld w t s) := by
  unfold Lib.bytesWorld
  have h1 : Below w.heap.size w (w.drew.alloc (.cells (Lib.bytesCells w t s) t)) := ((Below.refl _ _).drew).alloc (Nat.le_refl _) _
  refine h1.trans ⟨?_, ?_, ?_, ?_, ?_⟩
  · unfold World.freeze; split <;> rfl
  · unfold World.freeze; split <;> rfl
  · unfold World.freeze; split <;> rfl
  · unfold World.freeze; split <;> simp
  · intro k hk
    unfold World.freeze
    split
    · rfl
    · simp only [Array.getElem?_modify]
      rw [if_neg (by omega)]
theorem atoi63 (s : List UInt8) (w : World) (hE : Env w) (hs : s.length ≤ 1048576) :
    Calls Tryd.prog 63 #[.string ⟨s.toArray⟩] w fun e w' => ∃ n err, e = .returned (.tuple #[.int .i64 n, err]) ∧ AtoiIs s n err ∧ Below w.heap.size w w' := by
  have hsz : (ByteArray.mk s.toArray).size = s.length := by simp [ByteArray.size]
  rcases h : Lib.atoiAll s with v | - | -
  · refine (Tryd.strconv_Atoi_ok ⟨s.toArray⟩ (by rw [hsz]; omega) v h w).mono ?_
    rintro e w' ⟨he, hw | ⟨t, hw⟩⟩
    · exact ⟨v, _, he, .inl ⟨h, rfl⟩, by rw [hw]; exact Below.refl _ _⟩
    · exact ⟨v, _, he, .inl ⟨h, rfl⟩, by rw [hw]; exact below_bytesWorld _ _ _⟩
  · obtain ⟨tp, p, hp⟩ := hE.syn
    refine (Tryd.strconv_Atoi_syntax_var ⟨s.toArray⟩ (by rw [hsz]; omega) (h.trans (by kernel_rfl)) tp p w hp).mono ?_
    rintro e w' ⟨N, he, _, _, hb⟩
    exact ⟨_, _, he, .inr ⟨fun m e => by { rw [h] at e; cases e }, _, _, rfl⟩, hb⟩
  · obtain ⟨tp, p, hp⟩ := hE.rng
    refine (Tryd.strconv_Atoi_range_var ⟨s.toArray⟩ (by rw [hsz]; omega) h tp p w hp).mono ?_
    rintro e w' ⟨N, he, _, _, hb⟩
    exact ⟨_, _, he, .inr ⟨fun m e => by { rw [h] at e; cases e }, _, _, rfl⟩, hb⟩
end Go.Proofs.YtgeclafcbgocgaaDoor

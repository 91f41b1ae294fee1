/- The program's Text: two closures over a builder; it writes what the reference writes. -/
import Derived.Test.YtofomblpbmpbaaaDoorText1
import Derived.Test.YtofomblpbmpbaaaDoorEnv
import Derived.Test.YtofomblpbmpbaaaDoorBld
import Derived.Test.YtofomblpbmpbaaaDoorDtl
namespace Go.Proofs.YtofomblpbmpbaaaDoor
open Go.RowKit
def joinB (l s : List UInt8) : List UInt8 := if l = [] then s else l ++ 32 :: s
def fnV (b : Nat) : Value := .func (.func 34) #[] #[.pointer (some ⟨b, 0, none⟩)]
set_option maxRecDepth 100000 in
theorem write34 (b lo : Nat) (l s : List UInt8) (w : World) (h : IsB w b lo l) (hlen : l.length + s.length ≤ 10000) :
    Calls Tryd.prog 34 #[.string ⟨s.toArray⟩, .pointer (some ⟨b, 0, none⟩)] w fun e w' => e = .returned (.tuple #[]) ∧ IsB w' b lo (joinB l s) ∧ But b lo w w' := by
  by_cases hl : l = []
  · subst hl
    go_enter Tryd.func34, Tryd.ntmps34
    go_wp2_with fail
    refine (len35 b lo [] w h).mono ?_
    rintro e w1 ⟨rfl, rfl⟩
    go_wp2_with fail
    refine (writeString37 b lo [] s w h (by simp at hlen ⊢; omega)).mono ?_
    rintro e w2 ⟨rfl, hB2, hb2⟩
    go_wp2_with fail
    go_end0
    exact ⟨rfl, hB2.isB, hb2⟩
  · have hpos : 0 < l.length := List.length_pos_iff.2 hl
    go_enter Tryd.func34, Tryd.ntmps34
    go_wp2_with fail
    refine (len35 b lo l w h).mono ?_
    rintro e w1 ⟨rfl, rfl⟩
    go_wp2_with fail
    refine (writeByte36 b lo l 32 w h (by omega)).mono ?_
    rintro e w2 ⟨rfl, hB2, hb2⟩
    go_wp2_with fail
    refine (writeString37 b lo (l ++ [32]) s w2 hB2.isB (by simp; omega)).mono ?_
    rintro e w3 ⟨rfl, hB3, hb3⟩
    go_wp2_with fail
    go_end0
    refine ⟨rfl, ?_, hb2.trans hb3⟩
    have : joinB l s = l ++ [32] ++ s := by unfold joinB; rw [if_neg hl]; simp
    rw [this]
    exact hB3.isB
/-- What holds while the text is written: the box of the event, the closure's cell, the map of the words, the builder. -/
structure TS (w0 w : World) (B0 b c m lo : Nat) (v : Ev) (l : List UInt8) : Prop where
  env : Env w
  box : Row w B0 0 (evCells v)
  fn : w.cell? ⟨c, 0, none⟩ = some (fnV b)
  map : MapIs w m wordsKV
  bld : IsB w b lo l
  but : But b lo w0 w
  n0 : 8 ≤ B0
  n1 : B0 < b
  n2 : b < c
  n3 : c < m
  n4 : m < lo
  n5 : lo ≤ w.heap.size
theorem TS.below {w0 w w' : World} {B0 b c m lo : Nat} {v : Ev} {l : List UInt8} (h : TS w0 w B0 b c m lo v l) (hb : Below w.heap.size w w') : TS w0 w' B0 b c m lo v l := by
  have n0 := h.n0; have n1 := h.n1; have n2 := h.n2; have n3 := h.n3; have n4 := h.n4; have n5 := h.n5
  exact ⟨h.env.below hb, h.box.below hb (by omega), (hb.cell (p := ⟨c, 0, none⟩) (show c < _ by omega)).trans h.fn, h.map.below hb (by omega), h.bld.keep hb, h.but.trans (But.of_below (hb.mono n5)), n0, n1, n2, n3, n4, Nat.le_trans n5 hb.size⟩
theorem TS.write {w0 w w' : World} {B0 b c m lo : Nat} {v : Ev} {l l' : List UInt8} (h : TS w0 w B0 b c m lo v l) (hB : IsB w' b lo l') (hb : But b lo w w') : TS w0 w' B0 b c m lo v l' := by
  have n0 := h.n0; have n1 := h.n1; have n2 := h.n2; have n3 := h.n3; have n4 := h.n4; have n5 := h.n5
  have h1 := hb.below (by omega)
  exact ⟨h.env.below' h1 (by omega), h.box.below h1 n1, (hb.cell (p := ⟨c, 0, none⟩) (show c < _ by omega) (show c ≠ b by omega)).trans h.fn, (hb.block m n4 (by omega)).trans h.map, hB, h.but.trans hb, n0, n1, n2, n3, n4, Nat.le_trans n5 hb.size⟩
theorem catN (name l : List UInt8) : (ByteArray.mk name.toArray) ++ (ByteArray.mk #[61]) ++ (ByteArray.mk l.toArray) = ByteArray.mk (name ++ 61 :: l).toArray := by
  rw [ByteArray.mk_append_mk name [61], ByteArray.mk_append_mk]
  simp
set_option maxRecDepth 100000 in
set_option maxHeartbeats 1000000 in
theorem field40 (w0 w : World) (B0 b c m lo : Nat) (v : Ev) (l name : List UInt8) (n missing : Int) (h : TS w0 w B0 b c m lo v l) (hl : l ≠ []) (hlen : l.length ≤ 5000) (hname : name.length ≤ 100) (h0 : -9223372036854775807 ≤ n) (h1 : n ≤ 9223372036854775807) :
    Calls Tryd.prog 40 #[.string ⟨name.toArray⟩, .int .i64 n, .int .i64 missing, .pointer (some ⟨c, 0, none⟩)] w fun e w' => e = .returned (.tuple #[]) ∧ TS w0 w' B0 b c m lo v (l ++ fieldB name n missing) := by
  by_cases hn : n = missing
  · have hn' : (n != missing) = false := by simpa using hn
    have Hn := Lib.hid hn
    clear hn
    go_enter Tryd.func40, Tryd.ntmps40
    go_wp2_with fail
    go_end0
    refine ⟨rfl, ?_⟩
    unfold fieldB
    rw [if_pos Hn.out, List.append_nil]
    exact h
  · have hn' : (n != missing) = true := by simpa using hn
    have l1 := Lib.itoa_length_le n (by omega) (by omega)
    go_enter Tryd.func40, Tryd.ntmps40
    go_wp2_with fail
    refine wp_region_tail 6 (by kernel_rfl) (by kernel_rfl) (fun w' => TS w0 w' B0 b c m lo v l) (h.below ((Below.refl _ _).drew)) ?_
    iterate 6
      apply wpDetT_cons
      · intro wx hx
        have hE := hx.env
        have hf := hx.fn
        go_wp2_with (go_at_call 39; refine (itoa39 _ _ hE (by omega) (by omega)).mono ?_; rintro e w' ⟨rfl, hbk⟩)
        first | exact ⟨rfl, rfl, hx⟩ | exact ⟨rfl, rfl, hx.below hbk⟩
      go_frame
    intro wx hx
    rw [catN]
    have hlt : (name ++ 61 :: Lib.itoa n).length ≤ 122 := by simp; omega
    generalize hs : name ++ 61 :: Lib.itoa n = s at *
    have Hs := Lib.hid hs
    clear hs
    unfold fnV
    go_wp2_with (go_at_call 34; refine (write34 b lo l s wx hx.bld (by omega)).mono ?_; rintro e w' ⟨rfl, hB', hb'⟩)
    go_end0
    refine ⟨rfl, ?_⟩
    have : l ++ fieldB name n missing = joinB l s := by
      unfold joinB fieldB
      rw [if_neg hl, if_neg hn, Hs.out]
    rw [this]
    exact hx.write hB' hb'
end Go.Proofs.YtofomblpbmpbaaaDoor

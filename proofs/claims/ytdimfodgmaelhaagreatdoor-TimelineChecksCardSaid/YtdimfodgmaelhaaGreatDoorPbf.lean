/- A part of the proof. -/
import Derived.Test.YtdimfodgmaelhaaGreatDoorRows
import Derived.Test.YtdimfodgmaelhaaGreatDoorPay
import Derived.Test.YtdimfodgmaelhaaGreatDoorPbb
import Derived.Deep.Slices
import Derived.Deep.Fields
import Derived.ProofKit
import Derived.OpenShut
import Derived.LaidMore
import Derived.Lay
import Derived.Stop.Joined
import Derived.Stop.LaidErr
import Derived.HandedShaped
import Derived.Lib.LaidTab
import Derived.Lib.SmallJoins
set_option linter.all false
namespace Go.Proofs.Seat9
open Go Go.Joins Go.ChangeShapes Go.WideShapes Go.RowKit Go.Deep Go.Proofs.Seat4
open Go.Proofs.YtdimfodgmaelhaaGreatDoor
theorem own : ownKnob Tryz.prog.godebug = none := by kernel_rfl
theorem laidOut : laidOutB Tryz.prog = true := by kernel_rfl
theorem env_of_laid {W : World} (h0 : laidMetH Tryz.prog Rows.timelineChecksRow.laid W) : Env W := by
 rw [MakeChecks.laidMetH_plain _ _ _ (by kernel_rfl)] at h0
 have h : laidMet Tryz.prog [("internal/strconv.uint64pow10", Rows.laid_internal_strconv_uint64pow10), ("math/bits.deBruijn32tab", Rows.laid_math_bits_deBruijn32tab), ("math/bits.deBruijn64tab", Rows.laid_math_bits_deBruijn64tab)] W := h0
 have hp : (Rows.laid_internal_strconv_uint64pow10 : DataW Unit) = Lib.tabData .u64 Lib.pow10Tab := by kernel_rfl
 have htab : Lib.TabIs Tryz.prog W "internal/strconv.uint64pow10" .u64 Lib.pow10Tab := by
  have h2 := h
  rw [hp] at h2
  exact Lib.tabIs_of_head gTab (t := 321) (e := 207) (n := 20) (by kernel_rfl) Tryz.underlying321 Tryz.underlying207 (by kernel_rfl) (by kernel_rfl) h2
 refine ⟨?_, htab⟩
 have hv := htab
 unfold Lib.TabIs World.var? at hv
 rw [gTab] at hv
 rcases Nat.lt_or_ge 0 W.heap.size with h' | h'
 ·omega
 ·simp [Array.getElem?_eq_none h'] at hv
section
variable {H : Type} {enc : TypeId × Value → H} {w : World} {base : Nat} {spare : Nat → Bool} {held : Bool}
theorem sp_hone : ∃ fs : Array Field, Tryz.prog.underlying 46 = some (.struct fs) ∧ fs.size = 7 ∧ oneCellFields Tryz.prog fs = true ∧ ∀ (j : Nat) (f : Field), fs[j]? = some f → f.type = 3 := by
 refine ⟨_, Tryz.underlying46, rfl, by kernel_rfl, ?_⟩
 intro j f h
 match j, h with
 | 0, h => cases h; rfl
 | 1, h => cases h; rfl
 | 2, h => cases h; rfl
 | 3, h => cases h; rfl
 | 4, h => cases h; rfl
 | 5, h => cases h; rfl
 | 6, h => cases h; rfl
 | j + 7, h => simp at h
set_option maxRecDepth 100000 in
theorem trod_sp {fuel : Nat} {cs : List Value} {x : DataW H × List MemPlace} (h : DataW.trod enc Tryz.prog w base spare held fuel 46 cs = some x) : ∃ e : Sp, cs = spCells e := by
 obtain ⟨fs, hs, hsz8, hone, hty⟩ := sp_hone
 have hC : Tryz.prog.cellsOf 46 = 7 := by kernel_rfl
 obtain ⟨xs, n, _, hx, hcl, hlen, hg⟩ := DataW.trod_struct hs h
 match cs, hcl.trans hC with
 | [c0, c1, c2, c3, c4, c5, c6], _ =>
   match xs, hlen.trans hsz8 with
   | [x0, x1, x2, x3, x4, x5, x6], _ =>
     have key : ∀ (j : Nat) (hj : j < 7) (c : Value) (x : DataW H × List MemPlace), [c0, c1, c2, c3, c4, c5, c6][j]? = some c → [x0, x1, x2, x3, x4, x5, x6][j]? = some x → ∃ k, c = .int .i64 k := by
      intro j hj c x hc hx
      have hjf : fs[j]? = some (fs[j]'(by omega)) := Array.getElem?_eq_getElem (by omega)
      obtain ⟨ho, hk⟩ := hone_of hone j _ hjf
      have hgj := hg j _ hjf
      rw [ho, hk, hty j _ hjf] at hgj
      have hdt : ([c0, c1, c2, c3, c4, c5, c6].drop j).take 1 = [c] := by
       have hjl : j < [c0, c1, c2, c3, c4, c5, c6].length := hj
       rw [List.drop_eq_getElem_cons hjl]
       rw [List.getElem?_eq_getElem hjl] at hc
       rw [Option.some.inj hc]
       rfl
      rw [hdt, hx] at hgj
      obtain ⟨k, e1, _, _⟩ := DataW.trod_int Tryz.underlying3 hgj
      exact ⟨k, by simpa using e1⟩
     obtain ⟨k0, rfl⟩ := key 0 (by decide) c0 x0 rfl rfl
     obtain ⟨k1, rfl⟩ := key 1 (by decide) c1 x1 rfl rfl
     obtain ⟨k2, rfl⟩ := key 2 (by decide) c2 x2 rfl rfl
     obtain ⟨k3, rfl⟩ := key 3 (by decide) c3 x3 rfl rfl
     obtain ⟨k4, rfl⟩ := key 4 (by decide) c4 x4 rfl rfl
     obtain ⟨k5, rfl⟩ := key 5 (by decide) c5 x5 rfl rfl
     obtain ⟨k6, rfl⟩ := key 6 (by decide) c6 x6 rfl rfl
     exact ⟨⟨k0, k1, k2, k3, k4, k5, k6⟩, rfl⟩
set_option maxRecDepth 100000 in
theorem open_sps {v : Value} {d : DataW H} {p : List MemPlace} {r : Reach} {b0 : Nat} (hv : Value.okWide Tryz.prog w r b0 22 v) (h : DataW.Trod enc Tryz.prog w base spare held 22 v d p) : ∃ l : List Sp, LV SE w v l := by
 obtain ⟨A0, len0, cap0, rfl⟩ := okWide_slice Tryz.underlying22 hv
 obtain ⟨fuel, hf⟩ := h
 rcases open_slice Tryz.underlying22 hf with ⟨hc, -⟩ | ⟨a, len, cap, m, n, D, Pl, hcs, hb, hl, hm, hmm, hx, hi⟩
 ·have hc' : (Value.slice A0 len0 cap0) = .slice none 0 0 := by simpa [Value.cells] using hc
  rw [hc']
  exact ⟨[], LV.nil_ _ _ _ _⟩
 ·have hc' : (Value.slice A0 len0 cap0) = .slice (some a) len cap := by simpa [Value.cells] using hcs
  rw [hc']
  have hC : Tryz.prog.cellsOf 46 = 7 := by kernel_rfl
  rw [hC] at hi
  have hlm : len ≤ m := by rw [hmm]; split <;> omega
  have hev : ∀ i, i < len → ∃ e : Sp, w.cells? base (a.add (i * 7)) 7 = some (spCells e) := by
   intro i hil
   obtain ⟨cs', h1, h2⟩ := hi i (by omega)
   obtain ⟨e, rfl⟩ := trod_sp h2
   exact ⟨e, h1⟩
  obtain ⟨f, hf2⟩ := choose_lt hev
  refine ⟨(List.range len).map f, some a, cap, by simp, by simpa using hl, fun hne => ?_⟩
  have h0 : 0 < len := by
   rcases Nat.eq_zero_or_pos len with h | h
   ·subst h; exact absurd rfl hne
   ·exact h
  have hcell : ∀ i, i < len → ∀ j v, (spCells (f i))[j]? = some v → w.cell? (a.add (i * 7 + j)) = some v := by
   intro i hil j v hj
   obtain ⟨_, hlen, hat⟩ := World.cells?_some (hf2 i hil)
   have hj8 : j < 7 := by
    have := (List.getElem?_eq_some_iff.1 hj).1
    simpa [spCells] using this
   have := hat j hj8
   rw [add_add] at this
   rw [this, hj]
  have hc0 : w.cell? a = some (.int .i64 (f 0).kind) := by
   have := hcell 0 h0 0 _ rfl
   simpa [Addr.add] using this
  have hsp : a.spot = none := by
   unfold World.cell? at hc0
   split at hc0
   ·cases hs : a.spot with
    | none => rfl
    | some s => rw [hs] at hc0; simp at hc0
   ·cases hc0
  obtain ⟨ab, ao, asp⟩ := a
  obtain rfl : asp = none := hsp
  refine ⟨ab, ao, rfl, World.block_lt_of_cell? w ⟨ab, ao, none⟩ hc0, fun k hk j v hj => ?_⟩
  have hk' : k < len := by simpa using hk
  have hfk : ((List.range len).map f)[k] = f k := by simp
  rw [hfk] at hj
  have := hcell k hk' j v hj
  rw [plain_add] at this
  show w.cell? ⟨ab, ao + k * 7 + j, none⟩ = some v
  rw [Nat.add_assoc]
  exact this
end
end Go.Proofs.Seat9

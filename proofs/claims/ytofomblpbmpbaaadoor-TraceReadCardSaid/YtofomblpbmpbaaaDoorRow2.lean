/- A list of events as an argument. -/
import Derived.Test.YtofomblpbmpbaaaDoorRow
import Derived.Test.YtofomblpbmpbaaaDoorEvs
import Derived.Deep.Slices
import Derived.Deep.Fields
namespace Go.Proofs.YtofomblpbmpbaaaDoor
open Go Go.Joins Go.ChangeShapes Go.WideShapes Go.RowKit Go.Deep
instance : Inhabited Ev := ⟨⟨0, 0, 0, 0, 0, 0, 0, 0⟩⟩
section
variable {H : Type} {enc : TypeId × Value → H} {w : World} {base : Nat} {spare : Nat → Bool} {held : Bool}
set_option maxRecDepth 100000 in
theorem trod_ev {fuel : Nat} {cs : List Value} {x : DataW H × List MemPlace} (h : DataW.trod enc Tryd.prog w base spare held fuel 23 cs = some x) : ∃ e : Ev, cs = evCells e ∧ x = (evData H e, []) ∧ evWf e := by
  obtain ⟨fs, hs, hsz8, hone, hty⟩ := ev_hone
  have hC : Tryd.prog.cellsOf 23 = 8 := by kernel_rfl
  obtain ⟨xs, n, _, hx, hcl, hlen, hg⟩ := DataW.trod_struct hs h
  match cs, hcl.trans hC with
  | [c0, c1, c2, c3, c4, c5, c6, c7], _ =>
    match xs, hlen.trans hsz8 with
    | [x0, x1, x2, x3, x4, x5, x6, x7], _ =>
      have key : ∀ (j : Nat) (hj : j < 8) (c : Value) (x : DataW H × List MemPlace), [c0, c1, c2, c3, c4, c5, c6, c7][j]? = some c → [x0, x1, x2, x3, x4, x5, x6, x7][j]? = some x → ∃ k, c = .int .i64 k ∧ x = (.lit (.int .i64 k), []) ∧ (Lit.int .i64 k).wf = true := by
        intro j hj c x hc hx
        have hjf : fs[j]? = some (fs[j]'(by omega)) := Array.getElem?_eq_getElem (by omega)
        obtain ⟨ho, hk⟩ := hone_of hone j _ hjf
        have hgj := hg j _ hjf
        rw [ho, hk, hty j _ hjf] at hgj
        have hdt : ([c0, c1, c2, c3, c4, c5, c6, c7].drop j).take 1 = [c] := by
          have hjl : j < [c0, c1, c2, c3, c4, c5, c6, c7].length := hj
          rw [List.drop_eq_getElem_cons hjl]
          rw [List.getElem?_eq_getElem hjl] at hc
          rw [Option.some.inj hc]
          rfl
        rw [hdt, hx] at hgj
        obtain ⟨k, e1, e2, e3⟩ := DataW.trod_int Tryd.underlying3 hgj
        exact ⟨k, by simpa using e1, e2, e3⟩
      obtain ⟨k0, rfl, rfl, w0⟩ := key 0 (by decide) c0 x0 rfl rfl
      obtain ⟨k1, rfl, rfl, w1⟩ := key 1 (by decide) c1 x1 rfl rfl
      obtain ⟨k2, rfl, rfl, w2⟩ := key 2 (by decide) c2 x2 rfl rfl
      obtain ⟨k3, rfl, rfl, w3⟩ := key 3 (by decide) c3 x3 rfl rfl
      obtain ⟨k4, rfl, rfl, w4⟩ := key 4 (by decide) c4 x4 rfl rfl
      obtain ⟨k5, rfl, rfl, w5⟩ := key 5 (by decide) c5 x5 rfl rfl
      obtain ⟨k6, rfl, rfl, w6⟩ := key 6 (by decide) c6 x6 rfl rfl
      obtain ⟨k7, rfl, rfl, w7⟩ := key 7 (by decide) c7 x7 rfl rfl
      exact ⟨⟨k0, k1, k2, k3, k4, k5, k6, k7⟩, rfl, by simpa [evData] using hx, w0, w1, w2, w3, w4, w5, w6, w7⟩
set_option maxRecDepth 100000 in
theorem open_events {v : Value} {d : DataW H} {p : List MemPlace} {r : Reach} {b0 : Nat} (hv : Value.okWide Tryd.prog w r b0 31 v) (h : DataW.Trod enc Tryd.prog w base spare held 31 v d p) : ∃ l : List Ev, EvsV w v l ∧ ∀ e ∈ l, evWf e := by
  obtain ⟨A0, len0, cap0, rfl⟩ := okWide_slice Tryd.underlying31 hv
  obtain ⟨fuel, hf⟩ := h
  rcases open_slice Tryd.underlying31 hf with ⟨hc, -⟩ | ⟨a, len, cap, m, n, D, Pl, hcs, hb, hl, hm, hmm, hx, hi⟩
  · have hc' : (Value.slice A0 len0 cap0) = .slice none 0 0 := by simpa [Value.cells] using hc
    rw [hc']
    exact ⟨[], EvsV.nil_ _ _ _, by simp⟩
  · have hc' : (Value.slice A0 len0 cap0) = .slice (some a) len cap := by simpa [Value.cells] using hcs
    rw [hc']
    have hC : Tryd.prog.cellsOf 23 = 8 := by kernel_rfl
    rw [hC] at hi
    have hlm : len ≤ m := by rw [hmm]; split <;> omega
    have hev : ∀ i, i < len → ∃ e : Ev, w.cells? base (a.add (i * 8)) 8 = some (evCells e) ∧ evWf e := by
      intro i hil
      obtain ⟨cs', h1, h2⟩ := hi i (by omega)
      obtain ⟨e, rfl, -, hw⟩ := trod_ev h2
      exact ⟨e, h1, hw⟩
    obtain ⟨f, hf2⟩ := choose_lt hev
    refine ⟨(List.range len).map f, ⟨some a, cap, by simp, by simpa using hl, fun hne => ?_⟩, ?_⟩
    · have h0 : 0 < len := by
        rcases Nat.eq_zero_or_pos len with h | h
        · subst h; exact absurd rfl hne
        · exact h
      have hcell : ∀ i, i < len → ∀ j v, (evCells (f i))[j]? = some v → w.cell? (a.add (i * 8 + j)) = some v := by
        intro i hil j v hj
        obtain ⟨_, hlen, hat⟩ := World.cells?_some (hf2 i hil).1
        have hj8 : j < 8 := by
          have := (List.getElem?_eq_some_iff.1 hj).1
          simpa [evCells] using this
        have := hat j hj8
        rw [add_add] at this
        rw [this, hj]
      have hc0 : w.cell? a = some (.int .i64 (f 0).step) := by
        have := hcell 0 h0 0 _ rfl
        simpa [Addr.add] using this
      have hsp : a.spot = none := by
        unfold World.cell? at hc0
        split at hc0
        · cases hs : a.spot with
          | none => rfl
          | some s => rw [hs] at hc0; simp at hc0
        · cases hc0
      obtain ⟨ab, ao, asp⟩ := a
      obtain rfl : asp = none := hsp
      refine ⟨ab, ao, rfl, World.block_lt_of_cell? w ⟨ab, ao, none⟩ hc0, fun k hk j v hj => ?_⟩
      have hk' : k < len := by simpa using hk
      have hfk : ((List.range len).map f)[k] = f k := by simp
      rw [hfk] at hj
      have := hcell k hk' j v hj
      rw [plain_add] at this
      rw [Nat.add_assoc]
      exact this
    · intro e he
      obtain ⟨i, hi2, rfl⟩ := List.mem_map.1 he
      exact (hf2 i (by simpa using hi2)).2
end
theorem u8_of_wf {n : Int} (h : (Lit.int .u8 n).wf = true) : ∃ m : Nat, n = (m : Int) ∧ m < 256 := by
  have h' : (decide ((0 : Int) ≤ n) && decide (n ≤ 255)) = true := h
  simp only [Bool.and_eq_true, decide_eq_true_eq] at h'
  exact ⟨n.toNat, by omega, by omega⟩
theorem i64_of_wf {n : Int} (h : (Lit.int .i64 n).wf = true) : -9223372036854775808 ≤ n ∧ n ≤ 9223372036854775807 := by
  have h' : (decide ((-9223372036854775808 : Int) ≤ n) && decide (n ≤ 9223372036854775807)) = true := h
  simpa only [Bool.and_eq_true, decide_eq_true_eq] using h'
end Go.Proofs.YtofomblpbmpbaaaDoor

/- Read by the reference. -/
import Derived.Test.YtofomblpbmpbaaaDoorLns
import Derived.Test.YtofomblpbmpbaaaDoorEvs
import Derived.Test.YtofomblpbmpbaaaDoorRPar
import Derived.Test.YtofomblpbmpbaaaDoorFld
namespace Go.Proofs.YtofomblpbmpbaaaDoor
open Go.RowKit
def RdPost (r : List Ev × Int × Int) (w : World) (en : Ending) (w' : World) : Prop := ∃ v, en = .returned (.tuple #[v, .int .i64 r.2.1, .int .i64 r.2.2]) ∧ EvsV w' v r.1 ∧ Below w.heap.size w w'
theorem parts_len {s : List UInt8} {L : List (List UInt8)} {R : List UInt8} (h : Parts s L R) : L.length ≤ s.length ∧ ∀ a ∈ L, a.length ≤ s.length := by
  have h1 := parts_join _ s L R (Nat.le_refl _) h
  have key : ∀ L : List (List UInt8), L.length ≤ (L.flatMap (· ++ [10])).length ∧ ∀ a ∈ L, a.length ≤ (L.flatMap (· ++ [(10 : UInt8)])).length := by
    intro L
    induction L with
    | nil => simp
    | cons b L ih =>
      obtain ⟨h1, h2⟩ := ih
      refine ⟨?_, fun a ha => ?_⟩
      · simp only [List.flatMap_cons, List.length_append, List.length_cons, List.length_nil]
        omega
      · simp only [List.flatMap_cons, List.length_append, List.length_cons, List.length_nil]
        rcases List.mem_cons.1 ha with rfl | ha
        · omega
        · have := h2 a ha
          omega
  obtain ⟨h2, h3⟩ := key L
  have h4 : s.length = (L.flatMap (· ++ [10])).length + R.length := by rw [← List.length_append, ← h1]
  exact ⟨by omega, fun a ha => by have := h3 a ha; omega⟩
theorem readL_step {L : List (List UInt8)} {R : List UInt8} {acc : List Ev} {r : List Ev × Int × Int} {j : Nat} (hj : j < L.length) (h : readL (L.drop j) R acc = r) : (errOf L[j] = 0 → readL (L.drop (j + 1)) R (acc ++ [evOf L[j]]) = r) ∧ (errOf L[j] ≠ 0 → r = ([], (acc.length : Int), 3)) := by
  rw [List.drop_eq_getElem_cons hj, readL] at h
  refine ⟨fun h0 => ?_, fun h0 => ?_⟩
  · rw [if_pos h0] at h; exact h
  · rw [if_neg h0] at h; exact h.symm
theorem read_agree (a : List UInt8) : parseR (rParse a) a = (evOf a, errOf a) := by
  rw [← parsers_agree]
  rfl
theorem own_below {w w' : World} {base e size n : Nat} {v : Value} {xs : List Value} (h : w.ownsRow base e size v n xs) (hb : Below w.heap.size w w') : w'.ownsRow base e size v n xs :=
  h.kept (row := none) ⟨hb.os, hb.tape, hb.output, hb.size, fun k hk _ => hb.block k hk⟩ (by cases v.ownBlock <;> simp)
def StrsV (w : World) (v : Value) (L : List (List UInt8)) : Prop := ∃ A c, v = .slice A L.length c ∧ (L ≠ [] → ∃ g, A = some ⟨g, 0, none⟩ ∧ g < w.heap.size ∧ ∀ j (h : j < L.length), w.cell? ⟨g, j, none⟩ = some (strV L[j]))
theorem strsV_own {w : World} {base : Nat} {v : Value} {L : List (List UInt8)} (h : w.ownsRow base 9 1 v L.length (L.map strV)) : StrsV w v L := by
  rcases ownsRow_row h with ⟨rfl, h0, -⟩ | ⟨g, cap, rfl, -, hg, hcap, hrow⟩
  · rw [List.eq_nil_of_length_eq_zero h0]
    exact ⟨none, 0, rfl, fun h => absurd rfl h⟩
  · refine ⟨_, _, rfl, fun _ => ⟨g, rfl, hg, fun j hj => ?_⟩⟩
    have := hrow j (strV L[j]) (by simp [hj])
    rwa [Nat.zero_add] at this
set_option maxRecDepth 100000 in
set_option maxHeartbeats 4000000 in
theorem read23 (s : List UInt8) (w : World) (hs : s.length ≤ 3000) (r : List Ev × Int × Int) (hr : RdTo s [] r) : Calls Tryd.prog 23 #[.string ⟨s.toArray⟩] w (RdPost r w) := by
  go_enter Tryd.func23, Tryd.ntmps23
  go_wp2
  go_loopw [5, 6, 7] (fun v part i wr => ∃ (k : Nat) (p : List UInt8) (out : List (List UInt8)), k ≤ s.length ∧ i = .int .i64 k ∧ part = strV p ∧ p.length ≤ k ∧ out.length ≤ k ∧ wr.ownsRow w.heap.size 9 1 v out.length (out.map strV) ∧ Hid (out ++ splitA 10 p (s.drop k) = splitA 10 [] s) ∧ Below w.heap.size w wr) (fun _ _ i _ => s.length - (intOf i).toNat)
  case atStart => exact ⟨0, [], [], Nat.zero_le _, rfl, rfl, Nat.le_refl _, Nat.le_refl _, World.ownsRow_made w #[] 0 (Nat.le_refl _) (by unfold maxLen; omega) rfl, rfl, (Below.refl _ _).alloc (Nat.le_refl _) _⟩
  case round =>
    obtain ⟨k, p, out, hk, rfl, rfl, hp, ho, hown, hsp, hb⟩ := hrel
    have hsz := hb.size
    have Hr := Lib.hid hr
    clear hr
    by_cases hlt : k < s.length
    · unfold strV
      go_wp2_with (at_builtin; refine wpList_app rfl _ _ 70 rfl w.heap.size 9 1 16 T70 _ _ _ rfl (hown.alloc _) wr.heap.size [strV p] rfl rfl (Row.new _ _ _ _ rfl) (by intro u hu; simp at hu; subst hu; rfl) (by omega) (by omega) (by simp; omega) ?_; intro v' w1 hown1 hgr1)
      · have ht : (((ByteArray.mk s.toArray)[k].toNat : Int) == 10) = true := by assumption
        have hc := byte_is s k hlt 10 ht
        have hg := (hb.alloc hsz _).grown hgr1 (by simp; omega) (fun j hj => (hown.lt j hj).1)
        clear ht
        go_roundw
        case rel => exact ⟨k + 1, [], out ++ [p], by omega, by go_num, rfl, by simp, by simp; omega, by rw [List.map_append, List.length_append]; exact hown1, split_hit hlt hc hsp.out, hg⟩
        case measure => simp [intOf]; omega
      · have ht : (((ByteArray.mk s.toArray)[k].toNat : Int) == 10) = false := by assumption
        have hc := byte_not s k hlt 10 ht
        clear ht
        go_roundw
        case rel => exact ⟨k + 1, p ++ [s[k]], out, by omega, by go_num, congrArg Value.string (snoc_byte s p k hlt), by simp; omega, by omega, hown, split_miss hlt hc hsp.out, hb⟩
        case measure => simp [intOf]; omega
    · have hk' : k = s.length := by omega
      have hparts : Parts s out p := by
        have hsp' := hsp.out
        rw [hk', List.drop_length, splitA] at hsp'
        exact hsp'.symm
      have hrl : readL out p [] = r := by
        obtain ⟨L, R, h1, h2⟩ := Hr.out
        have h3 : L ++ [R] = out ++ [p] := h1.symm.trans hparts
        obtain ⟨rfl, h4⟩ := List.append_inj' h3 rfl
        have h5 : R = p := by simpa using h4
        rw [← h2, h5]
      obtain ⟨hL1, hL2⟩ := parts_len hparts
      have Hrl := Lib.hid hrl
      have HL2 := Lib.hid hL2
      obtain ⟨A5, c5, rfl, hiv⟩ := strsV_own hown
      have Hiv := Lib.hid hiv
      unfold strV
      clear hrl hL2 hparts hsp hown hk' hiv
      go_wp2_with fail
      generalize wr = wl at *
      go_loopw [8, 9] (fun v i wr => ∃ (j : Nat) (acc : List Ev), j ≤ out.length ∧ i = .int .i64 j ∧ acc.length = j ∧ Hid (readL (out.drop j) p acc = r) ∧ wr.ownsRow wl.heap.size 23 8 v acc.length (evsCells acc) ∧ Below wl.heap.size wl wr) (fun _ i _ => out.length - (intOf i).toNat)
      case atStart => exact ⟨0, [], Nat.zero_le _, rfl, rfl, Hrl, World.ownsRow_made wl #[] 0 (Nat.le_refl _) (by unfold maxLen; omega) rfl, (Below.refl _ _).alloc (Nat.le_refl _) _⟩
      case round =>
        obtain ⟨j, acc, hj, rfl, hacc, hrd, hown, hb2⟩ := hrel
        have hs2 := hb2.size
        have hB2 : Below w.heap.size w wr := hb.trans (hb2.mono hsz)
        by_cases hjl : j < out.length
        · obtain ⟨g, rfl, hg, hcl⟩ := Hiv.out (by rintro rfl; simp at hjl)
          have hcell := (hb2.cell (p := ⟨g, j, none⟩) hg).trans (hcl j hjl)
          obtain ⟨hok, hbad⟩ := readL_step hjl hrd.out
          have hln := HL2.out _ (List.getElem_mem hjl)
          obtain ⟨a, ha⟩ : ∃ a, out[j] = a := ⟨_, rfl⟩
          rw [ha] at hcell hok hbad hln
          have Hok := Lib.hid hok
          have Hbad := Lib.hid hbad
          have Hacc := Lib.hid hacc
          clear hcl hok hbad ha hrd hacc
          unfold strV at hcell
          have n0 := rparse15 a wr (by omega)
          unfold RPost at n0
          rw [read_agree a] at n0
          simp only at n0
          go_wp2_with fail
          refine n0.mono ?_
          rintro e w1 ⟨rfl, hb1⟩
          clear n0
          have hs1 := hb1.size
          have hown1 := own_below hown hb1
          have hb12 := hb2.trans (hb1.mono hs2)
          have hB12 := hB2.trans (hb1.mono hB2.size)
          by_cases he : errOf a = 0
          · have Hnext := Lib.hid (Hok.out he)
            rw [he]
            generalize evOf a = x at *
            clear he hcell hown hb1 hb2 hB2
            unfold evCells
            go_wp2_with (at_builtin; refine wpList_app rfl _ _ 31 rfl wl.heap.size 23 8 64 T31 _ _ _ rfl ((hown1.alloc _).alloc _) (w1.heap.size + 1) (evCells x) rfl rfl (Row.new _ _ _ _ (by simp)) (evCells_one _) (by rw [Hacc.out]; omega) (by omega) (by simp; omega) ?_; intro v' w2 hown2 hgr2)
            go_roundw
            case rel =>
              refine ⟨j + 1, acc ++ [x], by omega, by go_num, by rw [List.length_append, Hacc.out]; rfl, Hnext, ?_, ((hb12.alloc hb12.size _).alloc (by have := hb12.size; simp; omega) _).grown hgr2 (by have := hb12.size; simp; omega) (fun q hq => (hown1.lt q hq).1)⟩
              rw [List.length_append, evsCells_snoc]
              exact hown2
            case measure => simp [intOf]; omega
          · have Hres := Lib.hid (Hbad.out he)
            rcases errOf_cases a with ⟨h0, -⟩ | h3
            · exact absurd h0 he
            rw [h3]
            have hfin : Below w.heap.size w ((w1.alloc (.cells (evCells (evOf a)).toArray 23)).alloc (.cells #[] 23)) := (hB12.alloc hB12.size _).alloc (by have := hB12.size; simp; omega) _
            have hP : ∀ w' N c, Below w.heap.size w w' → RdPost r w (.returned (.tuple #[.slice (some ⟨N, 0, none⟩) 0 c, .int .i64 j, .int .i64 3])) w' := fun w' N c h => ⟨_, by rw [Hres.out, ← Hacc.out], by rw [Hres.out]; exact EvsV.nil_ _ _ _, h⟩
            clear he h3 hcell hown hb1 hb2 hB2
            unfold evCells at hfin ⊢
            go_wp2_with fail
            go_ret3
            exact hP _ _ _ hfin
        · have hj' : j = out.length := by omega
          have hrd' := hrd.out
          rw [hj', List.drop_length] at hrd'
          have Hv := evsV_own hown
          by_cases hp0 : p = []
          · have hr0 : r = (acc, 0, 0) := by rw [← hrd', readL, if_pos hp0]
            have hP : ∀ v, EvsV wr v acc → RdPost r w (.returned (.tuple #[v, .int .i64 0, .int .i64 0])) wr := fun v h => ⟨v, by rw [hr0], by rw [hr0]; exact h, hB2⟩
            subst hp0
            clear hr0 hrd' hrd
            go_wp2_with fail
            go_ret3
            exact hP _ Hv
          · have hr0 : r = ([], (acc.length : Int), 3) := by rw [← hrd', readL, if_neg hp0]
            have hne : (!p.isEmpty) = true := by cases p with | nil => exact absurd rfl hp0 | cons => rfl
            have hP : ∀ w' N c, Below w.heap.size w w' → RdPost r w (.returned (.tuple #[.slice (some ⟨N, 0, none⟩) 0 c, .int .i64 out.length, .int .i64 3])) w' := fun w' N c h => ⟨_, by rw [hr0, hacc, hj'], by rw [hr0]; exact EvsV.nil_ _ _ _, h⟩
            clear hr0 hrd' hrd hp0
            go_wp2_with fail
            go_ret3
            exact hP _ _ _ (hB2.alloc hB2.size _)
end Go.Proofs.YtofomblpbmpbaaaDoor

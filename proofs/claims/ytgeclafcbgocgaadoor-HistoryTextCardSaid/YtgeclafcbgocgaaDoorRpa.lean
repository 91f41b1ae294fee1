/- Parse, by the reference. -/
import Derived.Test.YtgeclafcbgocgaaDoorRrd
namespace Go.Proofs.YtgeclafcbgocgaaDoor
open Go.RowKit
theorem rd_hit {s p : List UInt8} {k : Nat} {c : List Cl} {n : Nat} {r : List Cl × Int} (h : k < s.length) (hc : s[k] = 10) (hr : RdTo (p ++ s.drop k) c n r) : RdTo (p ++ 10 :: s.drop (k + 1)) c n r := by
  rw [List.drop_eq_getElem_cons h, hc] at hr
  exact hr
theorem rd_miss {s p : List UInt8} {k : Nat} {c : List Cl} {n : Nat} {r : List Cl × Int} (h : k < s.length) (hr : RdTo (p ++ s.drop k) c n r) : RdTo ((p ++ [s[k]]) ++ s.drop (k + 1)) c n r := by
  rw [List.drop_eq_getElem_cons h] at hr
  rw [List.append_assoc]
  exact hr
theorem step_none {c : List Cl} {n : Nat} {a : List UInt8} (h : readMark a = none) : stepL c n a = (c, 3) := by unfold stepL; rw [h]
theorem step_some {c : List Cl} {n : Nat} {a : List UInt8} {m : Mk} (h : readMark a = some m) : stepL c n a = bookStep c n m := by unfold stepL; rw [h]
set_option maxRecDepth 100000 in
set_option maxHeartbeats 4000000 in
theorem rparse13 (s : List UInt8) (w : World) (hs : s.length ≤ 19000) (r : List Cl × Int) (hr : RdTo s [] 0 r) : Calls Tryd.prog 13 #[.string ⟨s.toArray⟩] w (CoPost r w) := by
  have Hr := Lib.hid hr
  clear hr
  go_enter Tryd.func13, Tryd.ntmps13
  go_wp2
  go_loopw [4, 5, 6] (fun v part i wr => ∃ (k : Nat) (p : List UInt8) (ms : List Mk) (c : List Cl), k ≤ s.length ∧ i = .int .i64 k ∧ part = strV p ∧ p.length ≤ k ∧ ms.length ≤ k ∧ wr.ownsRow w.heap.size 62 4 v ms.length (ME.all ms) ∧ Hid ((10 : UInt8) ∉ p) ∧ Hid (collF ms [] 0 = (c, 0)) ∧ Hid (RdTo (p ++ s.drop k) c ms.length r) ∧ Below w.heap.size w wr) (fun _ _ i _ => s.length - (intOf i).toNat)
  case atStart => exact ⟨0, [], [], [], Nat.zero_le _, rfl, rfl, Nat.le_refl _, Nat.le_refl _, World.ownsRow_made w #[] 0 (Nat.le_refl _) (by unfold maxLen; omega) rfl, by simp [Hid], rfl, Hr.out, (Below.refl _ _).alloc (Nat.le_refl _) _⟩
  case round =>
    obtain ⟨k, p, ms, c, hk, rfl, rfl, hp, hml, hown, hnp, hco, hrd, hb⟩ := hrel
    have hsz := hb.size
    by_cases hlt : k < s.length
    · by_cases h10 : s[k] = 10
      · have hrd2 := rd_hit hlt h10 hrd.out
        have HR := Lib.hid hrd2
        have ht1 : (((ByteArray.mk s.toArray)[k].toNat : Int) == 10) = true := by
          show ((s[k].toNat : Int) == 10) = true
          rw [h10]; rfl
        have ht2 : (((ByteArray.mk s.toArray)[k].toNat : Int) != 10) = false := by
          show ((s[k].toNat : Int) != 10) = false
          rw [h10]; rfl
        clear hrd hrd2 h10
        unfold strV
        go_wp2_with fail
        clear ht1 ht2
        refine (rread32 p wr (by omega)).mono ?_
        rintro e w1 ⟨m, ok, rfl, hrm, hb1⟩
        have hB1 := hb.trans (hb1.mono hsz)
        have hown1 := own_below' hown hb1
        have hs1 := hB1.size
        clear hown hb hb1
        cases ok with
        | false =>
          have hst : stepL c ms.length p = (c, 3) := step_none hrm
          have hbad := rdTo_bad hnp.out (by rw [hst]; exact (show (3 : Int) ≠ 0 by decide)) HR.out
          rw [hst] at hbad
          have hP : ∀ N cN w', Below w.heap.size w w' → CoPost r w (.returned (.tuple #[.slice (some ⟨N, 0, none⟩) 0 cN, .int .i64 3])) w' := fun N cN w' h => ⟨_, by rw [hbad], by rw [hbad]; exact LV.nil_ _ _ _ _, h⟩
          have HP := Lib.hid hP
          have HB := Lib.hid (show ∀ o1 o2, Below w.heap.size w ((w1.alloc o1).alloc o2) from fun o1 o2 => (hB1.alloc hs1 _).alloc (by simp; omega) _)
          clear hP hbad hst hrm hown1
          unfold mkCells
          go_wp2_with fail
          go_ret2
          exact HP.out _ _ _ (HB.out _ _)
        | true =>
          have hst : stepL c ms.length p = bookStep c ms.length m := step_some hrm
          have hcs := collF_snoc (m := m) ms [] 0 (by rw [hco.out])
          rw [hco.out, Nat.zero_add] at hcs
          obtain ⟨q, hq⟩ : ∃ q, bookStep c ms.length m = q := ⟨_, rfl⟩
          have hbad := fun h => rdTo_bad (c := c) (p := ms.length) (r := r) hnp.out h HR.out
          have hgood := fun h => rdTo_ok (c := c) (p := ms.length) (r := r) hnp.out h HR.out
          rw [hst, hq] at hbad hgood
          have hcs2 : collF (ms ++ [m]) [] 0 = q := hcs.trans hq
          have Hbad := Lib.hid hbad
          have Hgood := Lib.hid hgood
          have Hcs := Lib.hid hcs2
          have hN : MkAt (w1.alloc (.cells (mkCells m).toArray 62)) w1.heap.size m := heap_alloc_new _ _
          have hown2 := hown1.alloc (.cells (mkCells m).toArray 62)
          have hB2 := hB1.alloc hs1 (.cells (mkCells m).toArray 62)
          have hrN : Row (w1.alloc (.cells (mkCells m).toArray 62)) w1.heap.size 0 (mkCells m) := Row.new _ _ _ _ rfl
          clear hrm hst hcs hq hbad hgood hcs2 hown1
          simp only [mkCells] at hown2 hB2 hrN
          unfold mkCells
          go_upto_region 8 with fail
          generalize w1.alloc (.cells #[.int .i64 m.task, .int .i64 m.method, .int .i64 m.value, .bool m.isEnd] 62) = w2 at *
          generalize w1.heap.size = N at *
          have hs2 := hB2.size
          clear hN
          go_upto_region 11 with (first
            | ((with_reducible refine wpList_load_agg (o := ⟨some 38, .load 62 (.tmp 7), _, _, _, none⟩) rfl 62 _ rfl N 0 ?_ _ hrN _ Tryd.underlying62 rfl ?_ ?_); (focus rfl); (focus kernel_rfl))
            | (at_builtin; refine wpList_app rfl _ _ 60 rfl w.heap.size 62 4 32 T60 _ _ _ rfl (hown2.alloc _) w2.heap.size (mkCells m) rfl rfl (Row.new _ _ _ _ (by simp)) (mkCells_one _) (by omega) (by omega) (by simp; omega) ?_; intro v' w3 hown3 hgr3))
          have hB3 := (hB2.alloc hs2 _).grown hgr3 (by simp; omega) (fun j hj => (hown2.lt j hj).1)
          have hown3' : w3.ownsRow w.heap.size 62 4 v' (ms ++ [m]).length (ME.all (ms ++ [m])) := by
            rw [List.length_append, Enc.all_snoc]
            exact hown3
          have n1 := rcollect33 (ms ++ [m]) v' w3 (lv_own hown3') (by simp; omega) q Hcs.out
          clear hown3 hgr3 hown2 hB2 hrN hs2
          go_wp2_with fail
          refine n1.mono ?_
          rintro e w4 ⟨v4, rfl, hcl4, hb4⟩
          clear n1
          have hown4 := own_below' hown3' hb4
          have hB4 := hB3.trans (hb4.mono hB3.size)
          clear hown3' hb4 hB3
          obtain ⟨q1, q2⟩ := q
          simp only at hcl4 ⊢
          by_cases h0 : q2 = 0
          · subst h0
            have HG := Lib.hid (Hgood.out rfl)
            clear Hgood Hbad hcl4
            go_wp2_with fail
            go_roundw
            case rel => exact ⟨k + 1, [], ms ++ [m], q1, by omega, by go_num, rfl, by simp, by simp; omega, hown4, by simp [Hid], Hcs, (by have := HG.out; rw [show (ms ++ [m]).length = ms.length + 1 by simp]; exact this), hB4⟩
            case measure => simp [intOf]; omega
          · have hbad := Hbad.out h0
            have hP : ∀ N cN w', Below w.heap.size w w' → CoPost r w (.returned (.tuple #[.slice (some ⟨N, 0, none⟩) 0 cN, .int .i64 q2])) w' := fun N cN w' h => ⟨_, by rw [hbad], by rw [hbad]; exact LV.nil_ _ _ _ _, h⟩
            have HP := Lib.hid hP
            have hx1 : (q2 != 0) = true := by simpa using h0
            clear hP hbad Hbad Hgood hcl4 hown4 h0
            go_wp2_with fail
            go_ret2
            exact HP.out _ _ _ (hB4.alloc hB4.size _)
      · have ht1 : (((ByteArray.mk s.toArray)[k].toNat : Int) == 10) = false := by
          show ((s[k].toNat : Int) == 10) = false
          rw [beq_eq_false_iff_ne]
          intro e
          exact h10 (UInt8.toNat_inj.1 (by show s[k].toNat = 10; omega))
        have ht2 : (((ByteArray.mk s.toArray)[k].toNat : Int) != 10) = true := by
          rw [bne, ht1]; rfl
        have HR := Lib.hid (rd_miss hlt hrd.out)
        have HN := Lib.hid (show (10 : UInt8) ∉ p ++ [s[k]] by
          simp only [List.mem_append, List.mem_singleton, not_or]
          exact ⟨hnp.out, fun e => h10 e.symm⟩)
        clear hrd h10
        unfold strV
        go_wp2_with fail
        go_roundw
        case rel => exact ⟨k + 1, p ++ [s[k]], ms, c, by omega, by go_num, congrArg Value.string (snoc_byte s p k hlt), by simp; omega, by omega, hown, HN, hco, HR, hb⟩
        case measure => simp [intOf]; omega
    · have hk' : k = s.length := by omega
      have hrd2 := hrd.out
      rw [hk', List.drop_length, List.append_nil] at hrd2
      by_cases hp0 : p = []
      · subst hp0
        have HF := Lib.hid (rdTo_nil hrd2)
        have n1 := rcollect33 ms _ wr (lv_own hown) (by omega) _ hco.out
        clear hrd2 hrd hco hown
        unfold strV
        go_wp2_with fail
        refine n1.mono ?_
        rintro e w4 ⟨v4, rfl, hcl4, hb4⟩
        clear n1
        go_wp2_with fail
        go_ret2
        refine ⟨v4, ?_, ?_, hb.trans (hb4.mono hsz)⟩
        · rw [HF.out]; rfl
        · rw [HF.out]; exact hcl4
      · have hbad := rdTo_open hnp.out hp0 hrd2
        have hP : ∀ N cN w', Below w.heap.size w w' → CoPost r w (.returned (.tuple #[.slice (some ⟨N, 0, none⟩) 0 cN, .int .i64 3])) w' := fun N cN w' h => ⟨_, by rw [hbad], by rw [hbad]; exact LV.nil_ _ _ _ _, h⟩
        have HP := Lib.hid hP
        have hpb : (p != ([] : List UInt8)) = true := by simpa using hp0
        have hpb2 : (p == ([] : List UInt8)) = false := by simpa using hp0
        clear hP hbad hrd2 hrd hco hown hp0
        unfold strV
        go_wp2_with fail
        go_ret2
        exact HP.out _ _ _ (hb.alloc hsz _)
end Go.Proofs.YtgeclafcbgocgaaDoor

/- The law of reading what was printed: the walk. -/
import Derived.Test.YtofomblpbmpbaaaDoorLaw6
namespace Go.Proofs.YtofomblpbmpbaaaDoor
open Go.RowKit
theorem cat_list (X Y : List UInt8) : (ByteArray.mk X.toArray ++ ByteArray.mk Y.toArray).toList = X ++ Y := by
  rw [ByteArray.mk_append_mk]
  simp
theorem pr_ok_part {l : List Ev} (h : prErr l = 0) (m : Nat) : prErr (l.take m) = 0 ∧ prErr (l.drop m) = 0 ∧ printB l = linesB l ∧ printB (l.take m) = linesB (l.take m) ∧ printB (l.drop m) = linesB (l.drop m) ∧ linesB (l.take m) ++ linesB (l.drop m) = linesB l := by
  have h0 := prErr_zero.1 h
  have h1 : prErr (l.take m) = 0 := prErr_zero.2 fun e he => h0 e (List.mem_of_mem_take he)
  have h2 : prErr (l.drop m) = 0 := prErr_zero.2 fun e he => h0 e (List.mem_of_mem_drop he)
  exact ⟨h1, h2, if_pos h, if_pos h1, if_pos h2, by rw [← linesB_append, List.take_append_drop]⟩
theorem pr_len {l : List Ev} (h : prErr l = 0) : (linesB l).length ≤ l.length * 201 := by
  have h1 : PrTo l l.length := fun j hj => firstErr_zero.1 h j hj
  have := h1.len (Nat.le_refl _)
  rwa [List.take_length] at this
theorem EvsV.cut_ {w : World} {l : List Ev} {A : Option Addr} {c m : Nat} (h : EvsV w (.slice A l.length c) l) (hm : m ≤ l.length) : EvsV w (.slice A m c) (l.take m) ∧ EvsV w (.slice (if c = m then A else A.map (·.add (m * 8))) (l.length - m) (c - m)) (l.drop m) := by
  obtain ⟨A', c', he, hc, hr⟩ := h
  obtain ⟨rfl, rfl⟩ : A = A' ∧ c = c' := by cases he; exact ⟨rfl, rfl⟩
  have hl1 : (l.take m).length = m := by simp; omega
  have hl2 : (l.drop m).length = l.length - m := by simp
  refine ⟨⟨A, c, by rw [hl1], by rw [hl1]; omega, fun hne => ?_⟩, ⟨_, _, by rw [hl2], by rw [hl2]; omega, fun hne => ?_⟩⟩
  · obtain ⟨b, off, h1, h2, h3⟩ := hr (by rintro rfl; simp at hne)
    refine ⟨b, off, h1, h2, fun j hj => ?_⟩
    have := h3 j (by rw [hl1] at hj; omega)
    simpa using this
  · obtain ⟨b, off, rfl, h2, h3⟩ := hr (by rintro rfl; simp at hne)
    have hml : m < l.length := by
      rcases Nat.lt_or_ge m l.length with h | h
      · exact h
      · exact absurd (List.drop_eq_nil_of_le h) hne
    refine ⟨b, off + m * 8, ?_, h2, fun j hj => ?_⟩
    · rw [if_neg (by omega)]
      simp [plain_add]
    · have := h3 (m + j) (by rw [hl2] at hj; omega)
      rw [show off + m * 8 + j * 8 = off + (m + j) * 8 from by omega]
      simpa using this
set_option maxRecDepth 100000 in
set_option maxHeartbeats 4000000 in
/-- The second half: whatever can be read is what is printed. -/
theorem back_half (s : List UInt8) (hs : s.length ≤ 3000) (r : List Ev × Int × Int) (hr : RdTo s [] r) : (r.2.2 ≠ 0 → r.1 = [] ∧ 0 ≤ r.2.1) ∧ (r.2.2 = 0 → prErr r.1 = 0 ∧ printB r.1 = s) ∧ r.1.length ≤ 3000 := by
  have hlen : r.1.length ≤ 3000 := by
    obtain ⟨L, R, h1, h2⟩ := hr
    have h3 := readL_len L R []
    rw [h2] at h3
    have h4 := (parts_len h1).1
    simp at h3
    omega
  obtain ⟨x, i, c⟩ := r
  refine ⟨fun h => ?_, fun h => ?_, hlen⟩
  · obtain ⟨h1, h2⟩ := rdTo_err hr
    rcases h1 with h1 | h1
    · exact absurd h1 h
    · exact h2 h1
  · simp only at h
    subst h
    obtain ⟨h1, h2, -⟩ := print_read hr
    have h3 : prErr x = 0 := prErr_zero.2 h1
    exact ⟨h3, by unfold printB; rw [if_pos h3, h2]⟩
set_option maxRecDepth 100000 in
set_option maxHeartbeats 4000000 in
theorem traceRead7 (l : List Ev) (v : Value) (n : Nat) (hn : n < 256) (s : List UInt8) (w : World) (hE : Env w) (hv : EvsV w v l) : Calls Tryd.prog 7 #[v, .int .u8 n, .string ⟨s.toArray⟩] w (LPost w) := by
  by_cases hbig : 80 < l.length
  · have hd : decide (80 < l.length) = true := decide_eq_true hbig
    go_enter Tryd.func7, Tryd.ntmps7
    go_wp2_with fail
    have n0 := great16 w v l hv
    rw [hd] at n0
    refine n0.mono ?_
    rintro e w1 ⟨rfl, rfl⟩
    go_wp2_with fail
    refine (awake11 _ hE).mono ?_
    rintro e w1 ⟨rfl, hb1⟩
    go_wp2_with fail
    go_ret
    exact ⟨rfl, hb1⟩
  · have hd : decide (80 < l.length) = false := decide_eq_false hbig
    go_enter Tryd.func7, Tryd.ntmps7
    go_wp2_with fail
    have n0 := great16 w v l hv
    rw [hd] at n0
    refine n0.mono ?_
    rintro e w1 ⟨rfl, rfl⟩
    clear n0 hd
    by_cases hs : 3000 < s.length
    · go_wp2_with fail
      refine (awake11 _ hE).mono ?_
      rintro e w1 ⟨rfl, hb1⟩
      go_wp2_with fail
      go_ret
      exact ⟨rfl, hb1⟩
    · obtain ⟨r, hr⟩ := rdTo_exist s []
      go_wp2_with fail
      have n0 := print20 l v w hE hv (by omega)
      unfold PrPost at n0
      by_cases hp : prErr l = 0
      · have hpm := pr_ok_part hp
        have hpl := pr_len hp
        have hall := prErr_zero.1 hp
        rw [hp, show printB l = linesB l from if_pos hp] at n0
        refine n0.mono ?_
        rintro e w1 ⟨rfl, hb1⟩
        have hv1 := hv.below hb1
        have hE1 := hE.below hb1
        clear n0 hv hE hp
        have hm : n % (l.length + 1) < l.length + 1 := Nat.mod_lt _ (by omega)
        obtain ⟨A, c, rfl, hlc, hrw⟩ := hv1
        have hvA : EvsV w1 (.slice A l.length c) l := ⟨A, c, rfl, hlc, hrw⟩
        have hmi : ((n : Int) % ((l.length : Int) + 1)) = ((n % (l.length + 1) : Nat) : Int) := by simp
        obtain ⟨m, hm0⟩ : ∃ m, n % (l.length + 1) = m := ⟨_, rfl⟩
        rw [hm0] at hmi hm
        obtain ⟨hv2, hv3⟩ := hvA.cut_ (m := m) (by omega)
        obtain ⟨p1, p2, -, p4, p5, p6⟩ := hpm m
        have Hm0 := Lib.hid hm0
        have i0 : 0 ≤ (n : Int) % ((l.length : Int) + 1) := by rw [hmi]; omega
        have i1 : (n : Int) % ((l.length : Int) + 1) ≤ (c : Int) := by rw [hmi]; omega
        have i2 : (n : Int) % ((l.length : Int) + 1) ≤ (l.length : Int) := by rw [hmi]; omega
        have P1 := Lib.hid p1
        have P2 := Lib.hid p2
        have P4 := Lib.hid p4
        have P5 := Lib.hid p5
        have P6 := Lib.hid p6
        have Hmi := Lib.hid hmi
        have Hall := Lib.hid hall
        clear hrw hm0 hmi p1 p2 p4 p5 p6 hpm hall
        go_wp2_with fail
        rw [Hm0.out]
        have n0 := print20 (l.take m) _ w1 hE1 hv2 (by simp; omega)
        unfold PrPost at n0
        rw [P1.out, P4.out] at n0
        refine n0.mono ?_
        rintro e w2 ⟨rfl, hb2⟩
        have hE2 := hE1.below hb2
        have hv32 := hv3.below hb2
        have Hpart : Hid (∀ V, EvsV w2 V (l.drop m) → Calls Tryd.prog 20 #[V] w2 fun e w' => e = .returned (.tuple #[.string ⟨(linesB (l.drop m)).toArray⟩, .int .i64 0]) ∧ Below w2.heap.size w2 w') := by
          intro V hV
          have n1 := print20 (l.drop m) V w2 hE2 hV (by simp; omega)
          unfold PrPost at n1
          rwa [P2.out, P5.out] at n1
        have Hv32 := Lib.hid hv32
        have HvA := Lib.hid hvA
        have hB2 : Below w.heap.size w w2 := hb1.trans (hb2.mono hb1.size)
        have hjl : (linesB (l.take m)).length + (linesB (l.drop m)).length ≤ 17000 := by
          rw [← List.length_append, P6.out]
          omega
        clear n0 hv2 hv3 hv32 hE1 hvA
        by_cases hcm : c = m
        all_goals
          first
            | (rw [← Hm0.out] at hcm; subst hcm; go_wp2_with fail)
            | (rw [← Hm0.out] at hcm; go_wp2_with fail)
          refine (Hpart.out _ ?_).mono ?_
          · have h := Hv32.out
            rw [← Hm0.out] at h ⊢
            first
              | (rw [if_neg hcm] at h; exact h)
              | (rw [if_pos rfl, Nat.sub_self, show l.length - n % (l.length + 1) = 0 from by omega] at h; exact h)
          rintro e w3 ⟨rfl, hb3⟩
          have hE3 := hE2.below hb3
          have hB3 : Below w.heap.size w w3 := hB2.trans (hb3.mono hB2.size)
          have hvA3 := (HvA.out.below hb2).below hb3
          have HvA3 := Lib.hid hvA3
          clear hE2 hB2 hb3 hvA3
          go_wp2_with fail
          obtain ⟨rr, hrr⟩ := rdTo_exist (linesB l) []
          have hrl := read_print Hall.out hrr
          subst hrl
          refine (read22 (linesB l) w3 hE3 (by omega) _ hrr).mono ?_
          rintro e w4 ⟨y, rfl, hy, hb4⟩
          have hE4 := hE3.below hb4
          have hB4 : Below w.heap.size w w4 := hB3.trans (hb4.mono hB3.size)
          have hvA4 := HvA3.out.below hb4
          simp only at hy
          clear hE3 hB3 hb4 hrr
          rw [← P6.out]
          generalize linesB (l.take m) = X at *
          generalize linesB (l.drop m) = Y at *
          have hXY : (ByteArray.mk X.toArray ++ ByteArray.mk Y.toArray).toList = X ++ Y := cat_list X Y
          go_wp2_with fail
          refine (equal24 l y _ w4 hy hvA4 (by omega)).mono ?_
          rintro e w5 ⟨rfl, hb5⟩
          have hE5 := hE4.below hb5
          have hB5 : Below w.heap.size w w5 := hB4.trans (hb5.mono hB4.size)
          clear hE4 hB4 hb5 hvA4 hy hXY Hpart Hv32 HvA HvA3
          go_wp2_with fail
          refine (read22 s w5 hE5 (by omega) r hr).mono ?_
          rintro e wr ⟨x, rfl, hx, hbr⟩
          have hBr : Below w.heap.size w wr := hB5.trans (hbr.mono hB5.size)
          have hEr := hE5.below hbr
          obtain ⟨hbad, hgood, hlr⟩ := back_half s (by omega) r hr
          obtain ⟨rl, ri, rc⟩ := r
          simp only at hx hbad hgood hlr
          by_cases hrc : rc = 0
          · obtain ⟨hg1, hg2⟩ := hgood hrc
            subst hrc
            have Hg1 := Lib.hid hg1
            have Hg2 := Lib.hid hg2
            clear hbad hgood hr hbr hB5 hg1 hg2
            go_wp2_with fail
            have n0 := print20 rl x wr hEr hx (by omega)
            unfold PrPost at n0
            rw [Hg2.out, Hg1.out] at n0
            refine n0.mono ?_
            rintro e wp ⟨rfl, hbp⟩
            have hBp : Below w.heap.size w wp := hBr.trans (hbp.mono hBr.size)
            clear n0
            go_wp2_with fail
            refine (awake11 _ (hEr.below hbp)).mono ?_
            rintro e wq ⟨rfl, hbq⟩
            go_wp2_with fail
            go_ret
            exact ⟨rfl, hBp.trans (hbq.mono hBp.size)⟩
          · obtain ⟨rfl, hi0⟩ := hbad hrc
            have hrc' : (rc != 0) = true := by simpa using hrc
            clear hbad hgood hr hbr hB5 hrc
            obtain ⟨A3, c3, rfl, -, -⟩ := hx
            go_wp2_with fail
            refine (awake11 _ hEr).mono ?_
            rintro e wq ⟨rfl, hbq⟩
            go_wp2_with fail
            go_ret
            exact ⟨rfl, hBr.trans (hbq.mono hBr.size)⟩
      · obtain ⟨pe, hpe⟩ : ∃ pe, prErr l = pe := ⟨_, rfl⟩
        rw [hpe] at hp n0
        have hpe' : (pe == 0) = false := by simpa using hp
        generalize printB l = pb at *
        clear hpe hp
        refine n0.mono ?_
        rintro e w1 ⟨rfl, hb1⟩
        have hE1 := hE.below hb1
        clear n0 hv hE
        go_wp2_with fail
        refine (read22 s w1 hE1 (by omega) r hr).mono ?_
        rintro e wr ⟨x, rfl, hx, hbr⟩
        have hBr : Below w.heap.size w wr := hb1.trans (hbr.mono hb1.size)
        have hEr := hE1.below hbr
        obtain ⟨hbad, hgood, hlr⟩ := back_half s (by omega) r hr
        obtain ⟨rl, ri, rc⟩ := r
        simp only at hx hbad hgood hlr
        by_cases hrc : rc = 0
        · obtain ⟨hg1, hg2⟩ := hgood hrc
          subst hrc
          have Hg1 := Lib.hid hg1
          have Hg2 := Lib.hid hg2
          clear hbad hgood hr hbr hb1 hg1 hg2
          go_wp2_with fail
          have n0 := print20 rl x wr hEr hx (by omega)
          unfold PrPost at n0
          rw [Hg2.out, Hg1.out] at n0
          refine n0.mono ?_
          rintro e wp ⟨rfl, hbp⟩
          have hBp : Below w.heap.size w wp := hBr.trans (hbp.mono hBr.size)
          clear n0
          go_wp2_with fail
          refine (awake11 _ (hEr.below hbp)).mono ?_
          rintro e wq ⟨rfl, hbq⟩
          go_wp2_with fail
          go_ret
          exact ⟨rfl, hBp.trans (hbq.mono hBp.size)⟩
        · obtain ⟨rfl, hi0⟩ := hbad hrc
          have hrc' : (rc != 0) = true := by simpa using hrc
          clear hbad hgood hr hbr hb1 hrc
          obtain ⟨A3, c3, rfl, -, -⟩ := hx
          go_wp2_with fail
          refine (awake11 _ hEr).mono ?_
          rintro e wq ⟨rfl, hbq⟩
          go_wp2_with fail
          go_ret
          exact ⟨rfl, hBr.trans (hbq.mono hBr.size)⟩
end Go.Proofs.YtofomblpbmpbaaaDoor

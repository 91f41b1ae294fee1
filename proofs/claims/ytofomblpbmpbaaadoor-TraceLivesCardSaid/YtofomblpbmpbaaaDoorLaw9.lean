/- The law of the lives: the walk. -/
import Derived.Test.YtofomblpbmpbaaaDoorLvw
import Derived.Test.YtofomblpbmpbaaaDoorLaw1
namespace Go.Proofs.YtofomblpbmpbaaaDoor
open Go.RowKit
theorem span_row {w : World} {base g n cap : Nat} {ss : List Sp} (h : w.ownsRow base 49 7 (.slice (some ⟨g, 0, none⟩) n cap) n (spsCells ss)) (hn : n = ss.length) (T : Nat) (hT : T < ss.length) : Row w g (T * 7) (spCells ss[T]) := by
  intro j v hj
  have hj7 : j < 7 := by
    have := (List.getElem?_eq_some_iff.1 hj).1
    simpa [spCells] using this
  rw [h.cellAt (T * 7 + j) (by omega), spsCells_at ss T j hT hj7, hj]
def FitE (L : List Sp) (x : Ev) : Prop := 0 ≤ x.task → x.kind ≠ 212 → ∃ (T : Nat) (s : Sp), x.task = T ∧ L[T]? = some s ∧ s.kind = 1 ∧ s.task = T ∧ s.from_ ≤ x.step ∧ s.start_ ≤ x.time ∧ (0 ≤ s.to_ → x.step ≤ s.to_ ∧ x.time ≤ s.end_)
theorem lives_fit {l : List Ev} (h : chk l = 0) (k : Nat) (hk : k < l.length) : FitE (livF l) l[k] := fun h0 h1 => by
  obtain ⟨hlt, f1, f2, f3, f4, f5⟩ := lives_at h k hk h0 h1
  exact ⟨l[k].task.toNat, _, by omega, List.getElem?_eq_getElem hlt, f1, by rw [f2]; omega, f3, f4, f5⟩
set_option maxRecDepth 100000 in
set_option maxHeartbeats 4000000 in
theorem traceLives9 (l : List Ev) (v : Value) (w : World) (hE : Env w) (hv : EvsV w v l) : Calls Tryd.prog 9 #[v] w (LPost w) := by
  by_cases hbig : 80 < l.length
  · have hd : decide (80 < l.length) = true := decide_eq_true hbig
    go_enter Tryd.func9, Tryd.ntmps9
    go_wp2_with fail
    have n0 := great16 w v l hv
    rw [hd] at n0
    refine n0.mono ?_
    rintro e w1 ⟨rfl, rfl⟩
    go_wp2_with fail
    refine (awake11 _ hE).mono ?_
    rintro e w1 ⟨rfl, hb1⟩
    go_wp2_with fail
    go_ret
    exact ⟨rfl, hb1⟩
  · have hd : decide (80 < l.length) = false := decide_eq_false hbig
    go_enter Tryd.func9, Tryd.ntmps9
    go_wp2_with fail
    have n0 := great16 w v l hv
    rw [hd] at n0
    refine n0.mono ?_
    rintro e w1 ⟨rfl, rfl⟩
    clear n0 hd
    go_wp2_with fail
    have n0 := check25 l v w hv (by omega)
    by_cases hc : chk l = 0
    · rw [hc] at n0
      refine n0.mono ?_
      rintro e w1 ⟨rfl, hb1⟩
      clear n0
      have hE1 := hE.below hb1
      have hv1 := hv.below hb1
      have Hc := Lib.hid hc
      clear hc hv hE
      rcases hv1.split with ⟨A, c, rfl, rfl⟩ | ⟨b, off, cap, rfl, hcap, hbw, hrow⟩
      · go_wp2_with fail
        refine (awake11 _ hE1).mono ?_
        rintro e w2 ⟨rfl, hb2⟩
        go_wp2_with fail
        go_ret
        exact ⟨rfl, hb1.trans (hb2.mono hb1.size)⟩
      · by_cases h0 : l.length = 0
        · have he : l = [] := List.eq_nil_of_length_eq_zero h0
          subst he
          go_wp2_with fail
          refine (awake11 _ hE1).mono ?_
          rintro e w2 ⟨rfl, hb2⟩
          go_wp2_with fail
          go_ret
          exact ⟨rfl, hb1.trans (hb2.mono hb1.size)⟩
        · have h1 : 0 < l.length := by omega
          have h0' : ((l.length : Int) == 0) = false := by rw [beq_eq_false_iff_ne]; omega
          have h0'' : (l.length == 0) = false := by rw [beq_eq_false_iff_ne]; omega
          clear h0
          go_wp2_with fail
          refine (lives26 l _ w1 hv1 (by omega)).mono ?_
          rintro e w2 ⟨hb2, ⟨-, vs, rfl, hown⟩ | ⟨hno, -⟩⟩
          rotate_left
          · exact absurd Hc.out hno
          rw [livesF_pos l h1] at hown
          have hlen := livF_len l
          have hsl := starts_le l
          obtain ⟨g, cap2, rfl, hg0, hg1⟩ := hown.form (by omega)
          have hs2 := hb2.size
          have hbs1 := hb1.size
          have hE2 := hE1.below hb2
          have hB2 : Below w.heap.size w w2 := hb1.trans (hb2.mono hbs1)
          have hb2w : b < w2.heap.size := by omega
          have hev : EvsAt w2 b off l := fun j hj => (hrow j hj).below hb2 hbw
          have hsp : ∀ T (hT : T < (livF l).length), Row w2 g (T * 7) (spCells (livF l)[T]) := fun T hT => span_row hown rfl T hT
          have Hev := Lib.hid hev
          have Hsp := Lib.hid hsp
          have Hlen := Lib.hid hlen
          have hl0 : ((livF l).length == 0) = false := by rw [beq_eq_false_iff_ne]; omega
          have hl1 : (((livF l).length : Int) == 0) = false := by rw [beq_eq_false_iff_ne]; omega
          have hl2 : (livF l).length ≤ 81 := by omega
          have hE2' := Lib.hid hE2
          have hB2' := Lib.hid hB2
          obtain ⟨n, hn⟩ : ∃ n, (livF l).length = n := ⟨_, rfl⟩
          have Hn := Lib.hid hn
          rw [hn] at hl0 hl1 hl2 ⊢
          clear hev hsp hlen hown hb2 hrow hv1 hb1 hE1 hE2 hB2 hn
          go_wp2_with fail
          go_loopw [5, 36] (fun st i wr => ∃ k : Nat, k ≤ l.length ∧ i = .int .i64 k ∧ st = .int .i64 (startsR (l.take k) + 1 : Nat) ∧ Below w2.heap.size w2 wr) (fun _ i _ => l.length - (intOf i).toNat)
          case atStart => exact ⟨0, Nat.zero_le _, rfl, rfl, Below.refl _ _⟩
          case round =>
            obtain ⟨k, hk, rfl, rfl, hb⟩ := hrel
            have hsz := hb.size
            by_cases hlt : k < l.length
            · have hr' : Row wr b (off + k * 8) (evCells l[k]) := (Hev.out k hlt).below hb hb2w
              have hst := starts_take l k hlt
              have hsk : startsR (l.take k) ≤ 80 := by
                have := starts_le (l.take k)
                have := List.length_take_le k l
                omega
              have hB3 : ∀ x, Below w2.heap.size w2 (wr.alloc x) := fun x => hb.alloc hsz x
              have hB4 : ∀ x y, Below w2.heap.size w2 ((wr.alloc x).alloc y) := fun x y => (hB3 x).alloc (by simp; omega) y
              have hfit := lives_fit Hc.out k hlt
              obtain ⟨x, hx⟩ : ∃ x, l[k] = x := ⟨_, rfl⟩
              rw [hx] at hr' hst hfit
              have Hst := Lib.hid hst
              have Hfit := Lib.hid hfit
              clear hst hfit hx
              generalize startsR (l.take k) = sk at *
              by_cases ht : x.task < 0
              · rcases Bool.eq_false_or_eq_true (x.kind == 204) with h4 | h4
                all_goals
                  go_wp2_with ((with_reducible refine wpList_load_agg (o := ⟨some 39, .load 23 (.tmp 38), _, _, _, none⟩) rfl 23 _ rfl b (off + k * 8) ?_ _ hr' _ Tryd.underlying23 rfl ?_ ?_); (focus rfl); (focus kernel_rfl); simp only [evCells])
                  go_roundw
                  case rel =>
                    refine ⟨k + 1, by omega, by go_num, ?_, hB3 _⟩
                    rw [Hst.out, h4]
                    go_num
                  case measure => simp [intOf]; omega
              · by_cases hk2 : x.kind = 212
                · have h5 : (x.kind == 212) = true := by simpa using hk2
                  have h4 : (x.kind == 204) = false := by simp [hk2]
                  clear hk2
                  go_wp2_with ((with_reducible refine wpList_load_agg (o := ⟨some 39, .load 23 (.tmp 38), _, _, _, none⟩) rfl 23 _ rfl b (off + k * 8) ?_ _ hr' _ Tryd.underlying23 rfl ?_ ?_); (focus rfl); (focus kernel_rfl); simp only [evCells])
                  go_roundw
                  case rel =>
                    refine ⟨k + 1, by omega, by go_num, ?_, hB3 _⟩
                    rw [Hst.out, h4]
                    go_num
                  case measure => simp [intOf]; omega
                · have h5 : (x.kind == 212) = false := by simpa using hk2
                  obtain ⟨T, s, hT, hsT, f1, f2, f3, f4, f5⟩ := Hfit.out (by omega) hk2
                  obtain ⟨hlT, hsT'⟩ := List.getElem?_eq_some_iff.1 hsT
                  have hrow := (Hsp.out T hlT).below hb hg1
                  rw [hsT'] at hrow
                  have hTl : T < n := by rw [← Hn.out]; exact hlT
                  clear hsT' hsT hlT
                  obtain ⟨b0, b1, b2, b3, b4, b5, b6⟩ := s
                  obtain ⟨a0, a1, a2, a3, a4, a5, a6, a7⟩ := x
                  simp only at hT f1 f2 f3 f4 f5 h5
                  subst f1
                  subst f2
                  subst hT
                  simp only [evCells] at hr'
                  simp only [spCells] at hrow
                  have F5 := Lib.hid f5
                  have Ht := Lib.hid ht
                  clear f5 hk2 ht Hfit
                  rcases Bool.eq_false_or_eq_true (a3 == 204) with h4 | h4
                  all_goals
                    by_cases hto : 0 ≤ b4
                    · obtain ⟨q1, q2⟩ := F5.out hto
                      go_wp2_with (first | ((with_reducible refine wpList_load_agg (o := ⟨some 39, .load 23 (.tmp 38), _, _, _, none⟩) rfl 23 _ rfl b (off + k * 8) ?_ _ hr' _ Tryd.underlying23 rfl ?_ ?_); (focus rfl); (focus kernel_rfl)) | ((with_reducible refine wpList_load_agg (o := ⟨some 62, .load 49 (.tmp 61), _, _, _, none⟩) rfl 49 _ rfl g (T * 7) ?_ _ (hrow.alloc (by omega) _) _ Tryd.underlying49 rfl ?_ ?_); (focus (first | rfl | (simp; done))); (focus kernel_rfl)))
                      go_roundw
                      case rel =>
                        refine ⟨k + 1, by omega, by go_num, ?_, hB4 _ _⟩
                        rw [Hst.out]
                        simp only [h4]
                        go_num
                      case measure => simp [intOf]; omega
                    · go_wp2_with (first | ((with_reducible refine wpList_load_agg (o := ⟨some 39, .load 23 (.tmp 38), _, _, _, none⟩) rfl 23 _ rfl b (off + k * 8) ?_ _ hr' _ Tryd.underlying23 rfl ?_ ?_); (focus rfl); (focus kernel_rfl)) | ((with_reducible refine wpList_load_agg (o := ⟨some 62, .load 49 (.tmp 61), _, _, _, none⟩) rfl 49 _ rfl g (T * 7) ?_ _ (hrow.alloc (by omega) _) _ Tryd.underlying49 rfl ?_ ?_); (focus (first | rfl | (simp; done))); (focus kernel_rfl)))
                      go_roundw
                      case rel =>
                        refine ⟨k + 1, by omega, by go_num, ?_, hB4 _ _⟩
                        rw [Hst.out]
                        simp only [h4]
                        go_num
                      case measure => simp [intOf]; omega
            · have hk' : k = l.length := by omega
              subst hk'
              rw [List.take_length]
              have hlast : (n == startsR l + 1) = true := by rw [← Hn.out, Hlen.out]; simp
              have hlast' : ((n : Int) == ((startsR l + 1 : Nat) : Int)) = true := by rw [← Hn.out, Hlen.out]; simp
              have hlast'' : ((n : Int) == ((startsR l : Nat) : Int) + 1) = true := by rw [← Hn.out, Hlen.out]; simp
              go_wp2_with fail
              refine (awake11 _ (hE2'.out.below hb)).mono ?_
              rintro e w3 ⟨rfl, hb3⟩
              go_wp2_with fail
              go_ret
              exact ⟨rfl, hB2'.out.trans ((hb.trans (hb3.mono hb.size)).mono hB2'.out.size)⟩
    · obtain ⟨x, hx⟩ : ∃ x, chk l = x := ⟨_, rfl⟩
      rw [hx] at n0 hc
      have hx1 : (x != 0) = true := by simpa using hc
      clear hx hc
      refine n0.mono ?_
      rintro e w1 ⟨rfl, hb1⟩
      clear n0
      have hE1 := hE.below hb1
      go_wp2_with fail
      refine (awake11 _ hE1).mono ?_
      rintro e w2 ⟨rfl, hb2⟩
      go_wp2_with fail
      go_ret
      exact ⟨rfl, hb1.trans (hb2.mono hb1.size)⟩
end Go.Proofs.YtofomblpbmpbaaaDoor

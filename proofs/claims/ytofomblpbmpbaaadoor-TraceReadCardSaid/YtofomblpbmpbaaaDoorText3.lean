/- The program's Text returns what the reference's Text returns, for every event. -/
import Derived.Test.YtofomblpbmpbaaaDoorText2
import Derived.Laws.EntriesVeiled
namespace Go.Proofs.YtofomblpbmpbaaaDoor
open Go.RowKit
/-- The text of an event that is valid; else nothing. -/
def textR (v : Ev) : List UInt8 := if evErr v = 0 then textB v else []
def TextPost (v : Ev) (w : World) (e : Ending) (w' : World) : Prop := e = .returned (.tuple #[.string ⟨(textR v).toArray⟩, .int .i64 (evErr v)]) ∧ Below w.heap.size w w'
theorem itoa_ne (n : Int) : Lib.itoa n ≠ [] := by
  unfold Lib.itoa
  split
  · simp
  · rw [Lib.decDigits.eq_1]
    split <;> simp
theorem evErr_ne (v : Ev) (h : evErr v ≠ 0) : (evErr v != 0) = true := by simpa using h
set_option maxRecDepth 100000 in
set_option maxHeartbeats 1000000 in
theorem text13_bad (v : Ev) (w : World) (hok : evErr v ≠ 0) : Calls Tryd.prog 13 #[.agg (evCells v).toArray] w (TextPost v w) := by
  have hb0 := evErr_ne v hok
  have Hok := Lib.hid hok
  clear hok
  unfold evCells
  go_enter Tryd.func13, Tryd.ntmps13
  go_wp2_with fail
  refine (check42 v _).mono ?_
  rintro e w1 ⟨rfl, hb1⟩
  go_wp2_with fail
  go_ret2
  refine ⟨?_, ((Below.refl _ _).alloc (Nat.le_refl _) _).trans (hb1.mono (by simp))⟩
  unfold textR
  rw [if_neg Hok.out]
  rfl
theorem text13 (v : Ev) (w : World) : Calls Tryd.prog 13 #[.agg (evCells v).toArray] w (TextPost v w) := by
  by_cases h : evErr v = 0
  · refine (text13_ok v w h).mono ?_
    rintro e w' ⟨he, hb⟩
    refine ⟨?_, hb⟩
    unfold textR
    rw [if_pos h, h]
    exact he
  · exact text13_bad v w h
set_option maxRecDepth 100000 in
set_option maxHeartbeats 1000000 in
theorem text12_bad (v : Ev) (w : World) (hok : evErr v ≠ 0) : Calls Tryd.prog 12 #[.agg (evCells v).toArray] w (TextPost v w) := by
  have hb0 := evErr_ne v hok
  have Hok := Lib.hid hok
  clear hok
  unfold evCells
  go_enter Tryd.func12, Tryd.ntmps12
  go_wp2_with fail
  refine (check33 v _).mono ?_
  rintro e w1 ⟨rfl, hb1⟩
  go_wp2_with fail
  go_ret2
  refine ⟨?_, ((Below.refl _ _).alloc (Nat.le_refl _) _).trans (hb1.mono (by simp))⟩
  unfold textR
  rw [if_neg Hok.out]
  rfl
theorem len_fieldB (name : List UInt8) (n missing : Int) (h0 : -9223372036854775807 ≤ n) (h1 : n ≤ 9223372036854775807) : (fieldB name n missing).length ≤ name.length + 23 := by
  have := Lib.itoa_length_le n (by omega) (by omega)
  unfold fieldB
  split
  · simp
  · simp; omega
theorem joinB_len (l s : List UInt8) : (joinB l s).length ≤ l.length + s.length + 1 := by
  unfold joinB
  split
  · omega
  · simp; omega
theorem joinB_ne {l s : List UInt8} (hs : s ≠ []) : joinB l s ≠ [] := by
  unfold joinB
  split
  · exact hs
  · simp
set_option maxRecDepth 100000 in
set_option maxHeartbeats 4000000 in
theorem text12_ok (v : Ev) (w : World) (hE : Env w) (hok : evErr v = 0) : Calls Tryd.prog 12 #[.agg (evCells v).toArray] w (TextOk v w) := by
  have hmf : ∀ (fn : Fn) (first cap : Array Value) (w : World), (Instr.makeFunc fn first cap).run Tryd.prog w = .ok (.func fn first cap) w := fun _ _ _ _ => rfl
  have O := evOk_of hok
  have b0 := O.s0; have b1 := O.s1; have b2 := O.t0; have b3 := O.t1; have b4 := O.k0; have b5 := O.k1; have b6 := O.o0; have b7 := O.o1
  have b8 := O.c0; have b9 := O.c1; have b10 := O.v0; have b11 := O.v1; have b12 := O.r0; have b13 := O.r1
  clear O
  have hEr := Lib.hid hok
  clear hok
  unfold evCells
  go_enter Tryd.func12, Tryd.ntmps12
  go_wp2_with fail
  refine (check33 v _).mono ?_
  rintro e w1 ⟨rfl, hb1⟩
  rw [hEr.out]
  have hrow : Row w1 w.heap.size 0 (evCells v) := (Row.new w #[.int .i64 v.step, .int .i64 v.time, .int .i64 v.task, .int .i64 v.kind, .int .i64 v.object, .int .i64 v.scope, .int .i64 v.value, .int .i64 v.other] 23 _ rfl).below hb1 (by simp)
  have hE1 : Env w1 := (hE.alloc _).below hb1
  have hbw : Below w.heap.size w w1 := ((Below.refl _ _).alloc (Nat.le_refl _) _).trans (hb1.mono (by simp))
  have hsz : w.heap.size < w1.heap.size := by have := hb1.size; simp at this; omega
  have Hrow := Lib.hid hrow
  clear hrow hb1
  have htop := hE.top
  go_wp2_with fail
  refine (words_any _).mono ?_
  rintro e w3 ⟨m, rfl, hm0, hs3, hM, hb3⟩
  have hs3' : m + 1 ≤ w3.heap.size := by omega
  simp only [World.size_alloc] at hm0 hb3
  have ts : TS w3 w3 w.heap.size w1.heap.size (w1.heap.size + 1) m (m + 1) v [] := by
    have hb13 : Below w1.heap.size w1 w3 := (((Below.refl _ _).alloc (Nat.le_refl _) _).alloc (by simp) _).trans (hb3.mono (by omega))
    refine ⟨hE1.below hb13, Hrow.out.below hb13 hsz, ?_, hM, ?_, But.refl _ _ _, htop, hsz, by omega, by omega, by omega, hs3'⟩
    · rw [hb3.cell (p := ⟨w1.heap.size + 1, 0, none⟩) (show w1.heap.size + 1 < _ by omega)]
      rw [World.cell?_alloc_at _ _ _ _ (by simp)]
      rfl
    · refine ⟨by omega, hs3', .pointer none, .slice none 0 0, ?_, .inl rfl, World.ownsRow_nil _ _ _ _⟩
      rw [hb3.block _ (by omega)]
      rw [Lib.alloc_old _ _ _ (by simp), heap_alloc_new]
  have hbw3 : Below w.heap.size w w3 := hbw.trans ((((Below.refl _ _).alloc (Nat.le_refl _) _).alloc (by simp) _).trans (hb3.mono (by omega)) |>.mono (by omega))
  clear hM hb3 hm0 hs3 hs3' hE1 hbw Hrow
  go_wp2_with fail
  have l0 := Lib.itoa_length_le v.step (by omega) (by omega)
  have l1 := Lib.itoa_length_le v.time (by omega) (by omega)
  have l2 := Lib.itoa_length_le v.task (by omega) (by omega)
  have l3 := word_len v.kind
  refine wp_region_tail 4 (by kernel_rfl) (by kernel_rfl) (fun w' => TS w3 w' w.heap.size w1.heap.size (w1.heap.size + 1) m (m + 1) v []) (ts.below ((Below.refl _ _).drew)) ?_
  clear ts
  iterate 4
    apply wpDetT_cons
    · intro wx hx
      have hEx := hx.env
      have hfx := hx.fn
      obtain ⟨c0, c1, c2, -, -, -, -, -⟩ := row8_of hx.box
      go_wp2_with (go_at_call 39; refine (itoa39 _ _ hEx (by omega) (by omega)).mono ?_; rintro e w' ⟨rfl, hbk⟩)
      first | exact ⟨rfl, rfl, hx⟩ | exact ⟨rfl, rfl, hx.below hbk⟩
    go_frame
  intro wx hx
  unfold fnV
  go_wp2_with fail
  refine (write34 w1.heap.size (m + 1) [] (Lib.itoa v.step) wx hx.bld (by first | omega | (simp; omega))).mono ?_
  rintro e w' ⟨rfl, hB', hb'⟩
  have ts := hx.write hB' hb'
  clear hx hB' hb' wx
  obtain ⟨L0, hL0⟩ : ∃ L, L = joinB [] (Lib.itoa v.step) := ⟨_, rfl⟩
  rw [← hL0] at ts
  have len0 : L0.length ≤ 23 := by have := joinB_len [] (Lib.itoa v.step); rw [hL0]; first | omega | (simp at this; omega)
  have HL0 := Lib.hid hL0
  clear hL0
  go_wp2_with fail
  refine wp_region_tail 4 (by kernel_rfl) (by kernel_rfl) (fun w' => TS w3 w' w.heap.size w1.heap.size (w1.heap.size + 1) m (m + 1) v L0) (ts.below ((Below.refl _ _).drew)) ?_
  clear ts
  iterate 4
    apply wpDetT_cons
    · intro wx hx
      have hEx := hx.env
      have hfx := hx.fn
      obtain ⟨c0, c1, c2, -, -, -, -, -⟩ := row8_of hx.box
      go_wp2_with (go_at_call 39; refine (itoa39 _ _ hEx (by omega) (by omega)).mono ?_; rintro e w' ⟨rfl, hbk⟩)
      first | exact ⟨rfl, rfl, hx⟩ | exact ⟨rfl, rfl, hx.below hbk⟩
    go_frame
  intro wx hx
  unfold fnV
  go_wp2_with fail
  refine (write34 w1.heap.size (m + 1) L0 (Lib.itoa v.time) wx hx.bld (by first | omega | (simp; omega))).mono ?_
  rintro e w' ⟨rfl, hB', hb'⟩
  have ts := hx.write hB' hb'
  clear hx hB' hb' wx
  obtain ⟨L1, hL1⟩ : ∃ L, L = joinB L0 (Lib.itoa v.time) := ⟨_, rfl⟩
  rw [← hL1] at ts
  have len1 : L1.length ≤ 45 := by have := joinB_len L0 (Lib.itoa v.time); rw [hL1]; first | omega | (simp at this; omega)
  have HL1 := Lib.hid hL1
  clear hL1
  go_wp2_with fail
  refine wp_region_tail 4 (by kernel_rfl) (by kernel_rfl) (fun w' => TS w3 w' w.heap.size w1.heap.size (w1.heap.size + 1) m (m + 1) v L1) (ts.below ((Below.refl _ _).drew)) ?_
  clear ts
  iterate 4
    apply wpDetT_cons
    · intro wx hx
      have hEx := hx.env
      have hfx := hx.fn
      obtain ⟨c0, c1, c2, -, -, -, -, -⟩ := row8_of hx.box
      go_wp2_with (go_at_call 39; refine (itoa39 _ _ hEx (by omega) (by omega)).mono ?_; rintro e w' ⟨rfl, hbk⟩)
      first | exact ⟨rfl, rfl, hx⟩ | exact ⟨rfl, rfl, hx.below hbk⟩
    go_frame
  intro wx hx
  unfold fnV
  go_wp2_with fail
  refine (write34 w1.heap.size (m + 1) L1 (Lib.itoa v.task) wx hx.bld (by first | omega | (simp; omega))).mono ?_
  rintro e w' ⟨rfl, hB', hb'⟩
  have ts := hx.write hB' hb'
  clear hx hB' hb' wx
  obtain ⟨L2, hL2⟩ : ∃ L, L = joinB L1 (Lib.itoa v.task) := ⟨_, rfl⟩
  rw [← hL2] at ts
  have len2 : L2.length ≤ 67 := by have := joinB_len L1 (Lib.itoa v.task); rw [hL2]; first | omega | (simp at this; omega)
  have HL2 := Lib.hid hL2
  clear hL2
  have hfx := ts.fn
  have hMx := ts.map
  obtain ⟨-, -, -, c3, c4, c5, c6, c7⟩ := row8_of ts.box
  have Ts := Lib.hid ts
  clear ts
  unfold fnV at hfx
  go_wp2_with (at_lookup; refine wpList_lookup_mk rfl 65 3 9 _ _ rfl Tryd.underlying65 Tryd.underlying3 _ zero9 _ rfl _ hMx _ rfl ?_; rw [lookV_words])
  refine (write34 w1.heap.size (m + 1) L2 (wordOf v.kind) _ Ts.out.bld (by omega)).mono ?_
  rintro e w4 ⟨rfl, hB', hb'⟩
  have ts := Ts.out.write hB' hb'
  clear Ts hB' hb' hfx hMx c3 c4 c5 c6 c7
  obtain ⟨L3, hL3⟩ : ∃ L, L = joinB L2 (wordOf v.kind) := ⟨_, rfl⟩
  rw [← hL3] at ts
  have hne3 : L3 ≠ [] := by rw [hL3]; exact joinB_ne (evOk_of hEr.out).word
  have len3 : L3.length ≤ 100 := by have := joinB_len L2 (wordOf v.kind); rw [hL3]; omega
  have HL3 := Lib.hid hL3
  have Hne3 := Lib.hid hne3
  clear hL3 hne3
  obtain ⟨-, -, -, -, c4, c5, c6, c7⟩ := row8_of ts.box
  have Ts := Lib.hid ts
  clear ts
  go_wp2_with fail
  refine (field40 w3 _ _ _ _ m (m + 1) v L3 [111, 98, 106, 101, 99, 116] v.object (-1) Ts.out Hne3.out (by omega) (by simp) (by omega) (by omega)).mono ?_
  clear Ts c4 c5 c6 c7
  rintro e w6 ⟨rfl, ts⟩
  obtain ⟨L4, hL4⟩ : ∃ L, L = L3 ++ fieldB [111, 98, 106, 101, 99, 116] v.object (-1) := ⟨_, rfl⟩
  rw [← hL4] at ts
  have hne4 : L4 ≠ [] := by rw [hL4]; intro e; exact Hne3.out (List.append_eq_nil_iff.1 e).1
  have len4 : L4.length ≤ 140 := by have := len_fieldB [111, 98, 106, 101, 99, 116] v.object (-1) (by omega) (by omega); rw [hL4]; simp at this ⊢; omega
  have HL4 := Lib.hid hL4
  have Hne4 := Lib.hid hne4
  clear hL4 hne4
  obtain ⟨-, -, -, -, c4, c5, c6, c7⟩ := row8_of ts.box
  have Ts := Lib.hid ts
  clear ts
  go_wp2_with fail
  refine (field40 w3 _ _ _ _ m (m + 1) v L4 [115, 99, 111, 112, 101] v.scope (-1) Ts.out Hne4.out (by omega) (by simp) (by omega) (by omega)).mono ?_
  clear Ts c4 c5 c6 c7
  rintro e w7 ⟨rfl, ts⟩
  obtain ⟨L5, hL5⟩ : ∃ L, L = L4 ++ fieldB [115, 99, 111, 112, 101] v.scope (-1) := ⟨_, rfl⟩
  rw [← hL5] at ts
  have hne5 : L5 ≠ [] := by rw [hL5]; intro e; exact Hne4.out (List.append_eq_nil_iff.1 e).1
  have len5 : L5.length ≤ 180 := by have := len_fieldB [115, 99, 111, 112, 101] v.scope (-1) (by omega) (by omega); rw [hL5]; simp at this ⊢; omega
  have HL5 := Lib.hid hL5
  have Hne5 := Lib.hid hne5
  clear hL5 hne5
  obtain ⟨-, -, -, -, c4, c5, c6, c7⟩ := row8_of ts.box
  have Ts := Lib.hid ts
  clear ts
  go_wp2_with fail
  refine (field40 w3 _ _ _ _ m (m + 1) v L5 [118, 97, 108, 117, 101] v.value 0 Ts.out Hne5.out (by omega) (by simp) (by omega) (by omega)).mono ?_
  clear Ts c4 c5 c6 c7
  rintro e w8 ⟨rfl, ts⟩
  obtain ⟨L6, hL6⟩ : ∃ L, L = L5 ++ fieldB [118, 97, 108, 117, 101] v.value 0 := ⟨_, rfl⟩
  rw [← hL6] at ts
  have hne6 : L6 ≠ [] := by rw [hL6]; intro e; exact Hne5.out (List.append_eq_nil_iff.1 e).1
  have len6 : L6.length ≤ 220 := by have := len_fieldB [118, 97, 108, 117, 101] v.value 0 (by omega) (by omega); rw [hL6]; simp at this ⊢; omega
  have HL6 := Lib.hid hL6
  have Hne6 := Lib.hid hne6
  clear hL6 hne6
  obtain ⟨-, -, -, -, c4, c5, c6, c7⟩ := row8_of ts.box
  have Ts := Lib.hid ts
  clear ts
  go_wp2_with fail
  refine (field40 w3 _ _ _ _ m (m + 1) v L6 [111, 116, 104, 101, 114] v.other (-1) Ts.out Hne6.out (by omega) (by simp) (by omega) (by omega)).mono ?_
  clear Ts c4 c5 c6 c7
  rintro e w9 ⟨rfl, ts⟩
  obtain ⟨L7, hL7⟩ : ∃ L, L = L6 ++ fieldB [111, 116, 104, 101, 114] v.other (-1) := ⟨_, rfl⟩
  rw [← hL7] at ts
  have hne7 : L7 ≠ [] := by rw [hL7]; intro e; exact Hne6.out (List.append_eq_nil_iff.1 e).1
  have len7 : L7.length ≤ 260 := by have := len_fieldB [111, 116, 104, 101, 114] v.other (-1) (by omega) (by omega); rw [hL7]; simp at this ⊢; omega
  have HL7 := Lib.hid hL7
  have Hne7 := Lib.hid hne7
  clear hL7 hne7
  go_wp2_with fail
  refine (string41 w1.heap.size (m + 1) L7 _ ts.bld).mono ?_
  rintro e w10 ⟨rfl, hb10⟩
  have hbz := ((hbw3.trans ((ts.but.below (by have := ts.n2; have := ts.n3; omega)).mono (by omega))).trans (hb10.mono (by omega)))
  clear ts hb10 hbw3
  go_wp2_with fail
  go_ret2
  refine ⟨?_, hbz⟩
  have hfin : L7 = textB v := by
    have n0 : L0 ≠ [] := by rw [HL0.out]; exact joinB_ne (itoa_ne _)
    have n1 : L1 ≠ [] := by rw [HL1.out]; exact joinB_ne (itoa_ne _)
    have n2 : L2 ≠ [] := by rw [HL2.out]; exact joinB_ne (itoa_ne _)
    rw [HL7.out, HL6.out, HL5.out, HL4.out, HL3.out]
    unfold joinB
    rw [if_neg n2, HL2.out]
    unfold joinB
    rw [if_neg n1, HL1.out]
    unfold joinB
    rw [if_neg n0, HL0.out]
    unfold joinB textB
    simp
  rw [hfin]
  rfl
theorem text12 (v : Ev) (w : World) (hE : Env w) : Calls Tryd.prog 12 #[.agg (evCells v).toArray] w (TextPost v w) := by
  by_cases h : evErr v = 0
  · refine (text12_ok v w hE h).mono ?_
    rintro e w' ⟨he, hb⟩
    refine ⟨?_, hb⟩
    unfold textR
    rw [if_pos h, h]
    exact he
  · exact text12_bad v w h
end Go.Proofs.YtofomblpbmpbaaaDoor

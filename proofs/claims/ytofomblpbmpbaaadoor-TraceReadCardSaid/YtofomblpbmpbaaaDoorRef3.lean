/- The reference's word of a kind, its validity of an event, and its decimal numerals: they are those of the program. -/
import Derived.Test.YtofomblpbmpbaaaDoorRef2
import Derived.Lib.Hide
namespace Go.Proofs.YtofomblpbmpbaaaDoor
open Go.RowKit
theorem wordOf_none (k : Int) (h1 : visB k = false) (h2 : inB k 201 212 = false) : wordOf k = [] := by
  have hall : ∀ p ∈ wordsL, (visB p.1 || inB p.1 201 212) = true := by decide
  unfold wordOf
  cases hf : wordsL.find? (fun p => p.1 == k) with
  | none => rfl
  | some p =>
    have hm := List.mem_of_find?_eq_some hf
    have hk := List.find?_some hf
    have hk' : p.1 = k := by simpa using hk
    have := hall p hm
    rw [hk', h1, h2] at this
    cases this
theorem visible65 (k : Int) (w : World) : Calls Tryd.prog 65 #[.int .i64 k] w fun e w' => e = .returned (.bool (visB k)) ∧ w = w' := by
  by_cases h : 30 ≤ k
  · go_enter Tryd.func65, Tryd.ntmps65
    go_wp2_with (go_at_call 78; refine (roles78 _ _ h).mono ?_; rintro e w1 ⟨s, rfl, hs, rfl⟩)
    go_ret
    exact ⟨by simp, rfl⟩
  · go_enter Tryd.func65, Tryd.ntmps65
    go_wp2_with fail
    go_ret
    exact ⟨by simp [visB]; omega, rfl⟩
theorem names12 : (#[Value.string { data := #[116, 105, 99, 107] }, Value.string { data := #[112, 97, 114, 107, 101, 100] }, Value.string { data := #[119, 111, 107, 101, 110] }, Value.string { data := #[115, 116, 97, 114, 116, 101, 100] }, Value.string { data := #[101, 110, 100, 101, 100] }, Value.string { data := #[102, 97, 105, 108, 101, 100] }, Value.string { data := #[99, 97, 110, 99, 101, 108, 108, 101, 100] }, Value.string { data := #[100, 101, 108, 105, 118, 101, 114, 101, 100] }, Value.string { data := #[99, 108, 101, 97, 110, 105, 110, 103] }, Value.string { data := #[99, 108, 101, 97, 110, 101, 100] }, Value.string { data := #[114, 101, 115, 117, 109, 101, 100] }, Value.string { data := #[99, 108, 111, 115, 101, 100] }] : Array Value).toList = (List.range 12).map (fun i => Value.string ⟨(wordOf ((i : Nat) + 201 : Int)).toArray⟩) := by kernel_rfl
set_option maxRecDepth 100000 in
set_option maxHeartbeats 1000000 in
theorem word44 (k : Int) (w : World) : Calls Tryd.prog 44 #[.int .i64 k] w fun e w' => e = .returned (.string ⟨(wordOf k).toArray⟩) ∧ Below w.heap.size w w' := by
  by_cases h : inB k 201 212 = true
  · have h1 : 201 ≤ k := by unfold inB at h; simp at h; omega
    have h2 : k ≤ 212 := by unfold inB at h; simp at h; omega
    go_enter Tryd.func44, Tryd.ntmps44
    go_wp2_with (first | (go_at_call 63; refine (within63' _ _ _ _).mono ?_; rintro e w' ⟨rfl, rfl⟩) | ((with_reducible refine wpList_load_one (o := ⟨some 11, .load 9 (.tmp 10), _, _, _, none⟩) rfl 9 _ rfl ⟨w.heap.size, (k - 201).toNat, none⟩ ?_ (.string ⟨(wordOf k).toArray⟩) ?_ _ Tryd.underlying9 rfl ?_); (focus rfl); (focus (rw [World.cell?_alloc_at _ _ _ _ (by simp)]; exact names_at names12 k h1 (by omega)))))
    go_ret
    exact ⟨rfl, (Below.refl _ _).alloc (Nat.le_refl _) _⟩
  · have h' : inB k 201 212 = false := by simpa using h
    clear h
    by_cases hv : visB k = true
    · go_enter Tryd.func44, Tryd.ntmps44
      go_wp2_with (first | (go_at_call 63; refine (within63' _ _ _ _).mono ?_; rintro e w' ⟨rfl, rfl⟩) | (go_at_call 65; refine (visible65 _ _).mono ?_; rintro e w' ⟨rfl, rfl⟩) | (go_at_call 66; refine (opName66 _ _ hv).mono ?_; rintro e w1 ⟨rfl, hb1⟩))
      go_ret
      exact ⟨rfl, hb1⟩
    · have hv' : visB k = false := by simpa using hv
      have hw := wordOf_none k hv' h'
      have Hw := Lib.hid hw
      clear hw hv
      go_enter Tryd.func44, Tryd.ntmps44
      go_wp2_with (first | (go_at_call 63; refine (within63' _ _ _ _).mono ?_; rintro e w' ⟨rfl, rfl⟩) | (go_at_call 65; refine (visible65 _ _).mono ?_; rintro e w' ⟨rfl, rfl⟩))
      go_ret
      exact ⟨by rw [Hw.out]; rfl, Below.refl _ _⟩
set_option maxRecDepth 100000 in
set_option maxHeartbeats 1000000 in
theorem check42 (v : Ev) (w : World) :
    Calls Tryd.prog 42 #[.agg (evCells v).toArray] w fun e w' => e = .returned (.int .i64 (evErr v)) ∧ Below w.heap.size w w' := by
  unfold evCells
  go_enter Tryd.func42, Tryd.ntmps42
  go_wp2_with fail
  refine (word44 _ _).mono ?_
  rintro e w1 ⟨rfl, hb1⟩
  have hb : Below w.heap.size w w1 := ((Below.refl _ _).alloc (Nat.le_refl _) _).trans (hb1.mono (by simp))
  obtain ⟨hc, _⟩ := bcell hb1
  clear hb1
  go_wp2_with (go_at_call 63; refine (within63' _ _ _ _).mono ?_; rintro e w' ⟨rfl, rfl⟩)
  all_goals
    go_ret
    refine ⟨?_, hb⟩
    clear hb hc
    go_light
    simp_all [evErr, rangesB]
end Go.Proofs.YtofomblpbmpbaaaDoor

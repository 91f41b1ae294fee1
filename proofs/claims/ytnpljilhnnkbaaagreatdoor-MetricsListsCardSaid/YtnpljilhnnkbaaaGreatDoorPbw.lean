/- A part of the proof. -/
import Derived.Test.YtnpljilhnnkbaaaGreatDoorPbv
import Derived.Test.YtnpljilhnnkbaaaGreatDoorPbi
import Derived.Clock
import Derived.Carry
import Derived.ProofKit
import Derived.OpenShut
set_option linter.all false
namespace Go.Proofs.YtnpljilhnnkbaaaGreatDoor
open Go Go.Joins Go.ChangeShapes Go.WideShapes Go.ChangeAt Go.RowKit Go.Clock Go.Deep Go.Proofs.Seat8 Go.Proofs.Seat4
open Go.ChangeMaps (open_string shut_string)
theorem pre_listed {H : Type} {enc : TypeId × Value → H} {P : Program} {fn : Func} {c : OpenClaim} {s : ChangeSpec} {x : String × DataW Unit} {r : List (String × DataW Unit)} (hl : c.laid = x :: r) : c.pre enc P fn (OpenSpec.ofChange s) = fun w args => (s.pre enc P fn c.domain c.apart w args ∧ laidMetH P c.laid w) ∧ sizedMet enc P fn (OpenSpec.ofChange s) c.apart w args := by
  funext w args
  unfold OpenClaim.pre OpenClaim.preLaid
  rw [hl]
  rfl
section
variable {H : Type} {enc : TypeId × Value → H} {w : World} {base : Nat} {spare : Nat → Bool} {held : Bool}
theorem mts_len {l : List Mt} {v : Value} {d : DataW H} {p : List MemPlace} (hl : LV ME w v l) (h : DataW.Trod enc Tryz.prog w base spare held 22 v d p) : l.length ≤ 9223372036854775807 := by
  obtain ⟨A0, c0, rfl, hc0, _⟩ := hl
  obtain ⟨fuel, hf⟩ := h
  rcases open_slice Tryz.underlying22 hf with ⟨hc, -⟩ | ⟨a, len, cap, m, n, D, Pl, hcs, hb, hl, hm, hmm, hx, hi⟩
  · have hc' : (Value.slice A0 l.length c0) = .slice none 0 0 := by simpa [Value.cells] using hc
    injection hc' with _ h2 _
    omega
  · have hc' : (Value.slice A0 l.length c0) = .slice (some a) len cap := by simpa [Value.cells] using hcs
    injection hc' with _ h2 h3
    unfold maxLen at hm
    omega
end
set_option maxRecDepth 100000 in
theorem metricsLists_lifted (os : Os) (started : os.Started) (H : Type) (enc : TypeId × Value → H) (F : Stop.Interp) :
    ReturnsInHanded { calm := true } Tryz.checked os 4 .any (fun w args => (Rows.metricsListsSpec.pre enc Tryz.prog Tryz.f4 [] false w args ∧ laidMetH Tryz.prog Rows.metricsListsRow.laid w) ∧ sizedMet enc Tryz.prog Tryz.f4 (OpenSpec.ofChange Rows.metricsListsSpec) false w args)
      ((OpenSpec.ofChange Rows.metricsListsSpec).postWith enc Tryz.prog Tryz.f4 F (outsideKept [.timePasses]) false true false) := by
  refine returns_of_change (C := Tryz.checked) (X := fun w _ => laidMetH Tryz.prog Rows.metricsListsRow.laid w) (fun _ _ _ hh h => h.of_heap hh) own started (by kernel_rfl) Tryz.func4
    (witness_at (enc := enc) (C := Tryz.checked) (os := os) (X := fun w _ => laidMetH Tryz.prog Rows.metricsListsRow.laid w) (World.laidAll Tryz.prog os Rows.metricsListsRow.laid) #[.slice none 0 0, .string ⟨#[]⟩, .int .i64 0, .string ⟨#[]⟩] 8 (World.laidAll_os _ _ _)
      (World.shaped_of_ZipB (by kernel_rfl) (by kernel_rfl)) (by kernel_rfl) (by kernel_rfl) (by kernel_rfl)
      (by rw [MakeChecks.laidMetH_plain _ _ _ (by kernel_rfl)]; exact laidMet_laidAll _ (by kernel_rfl) (by kernel_rfl))) ?_
  intro W base args ds gs before hval0 hW _ _ hL hsh
  have hval : ∀ (j : Nat) t v, Tryz.f4.params[j]? = some t → args[j]? = some v → Value.okWide Tryz.prog W .any base t v := hval0
  have hW' := hW
  obtain ⟨p, q, hA0, hV, rfl, _, _⟩ := hW
  have hA : DataW.TrodAll enc Tryz.prog W 0 (fun _ => true) true Tryz.f4.params.toList args.toList ds p := hA0
  rw [Tryz.params4] at hA hval
  obtain ⟨v0, v1, v2, v3, d0, d1, d2, d3, p0, p1, p2, p3, rfl, rfl, rfl, h0, h1, h2, h3⟩ := trodAll_four hA
  obtain ⟨rfl, rfl⟩ := trodVars_none hV
  obtain ⟨l0, hl0⟩ := open_mts (hval 0 22 v0 rfl rfl) h0
  obtain ⟨s1, rfl, rfl, rfl, hs1⟩ := open_string Tryz.underlying9 (hval 1 9 v1 rfl rfl) h1
  obtain ⟨s3, rfl, rfl, rfl, hs3⟩ := open_string Tryz.underlying9 (hval 3 9 v3 rfl rfl) h3
  obtain ⟨i2, rfl, rfl, rfl, hi2⟩ := open_int Tryz.underlying3 (hval 2 3 v2 rfl rfl) h2
  have hn0 := mts_len hl0 h0
  have hE := env_of_laid (show laidMetH Tryz.prog Rows.metricsTextsRow.laid W from hL) hsh
  clear hA0 hval0
  simp only [List.append_nil] at hW'
  have hlaw := metricsLists4 l0 v0 s1.data.toList i2 s3.data.toList W hE hl0 hn0
  refine hlaw.mono fun en W' ⟨he, hb⟩ => ?_
  subst he
  have hs : Since W.heap.size W W' := Since.of_below hb
  exact ⟨_, rfl, ⟨_, _, _, [], p0 ++ ([] ++ ([] ++ [])), [], hW', trodAll_mk1 (shut_bool Tryz.underlying4 _), trodAll_mk4 (Below.trod laidOut (by kernel_rfl) (of_decide_eq_true (by kernel_rfl)) h0 hs.2 (fun x hx => hW'.lt x (by simp [hx]))) (shut_string Tryz.underlying9 hs1) (shut_int Tryz.underlying3 hi2) (shut_string Tryz.underlying9 hs3), rfl, by simpa using hs.2.frame (· ∈ (p0 : List MemPlace)), fun h => by cases h⟩, hs.1⟩
end Go.Proofs.YtnpljilhnnkbaaaGreatDoor

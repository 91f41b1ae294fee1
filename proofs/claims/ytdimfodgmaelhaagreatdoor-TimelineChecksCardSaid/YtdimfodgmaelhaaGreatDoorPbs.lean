/- A part of the proof. -/
import Derived.Test.YtdimfodgmaelhaaGreatDoorPbr
import Derived.Test.YtdimfodgmaelhaaGreatDoorPbf
import Derived.Clock
import Derived.ProofKit
import Derived.OpenShut
set_option linter.all false
namespace Go.Proofs.YtdimfodgmaelhaaGreatDoor
open Go Go.Joins Go.ChangeShapes Go.WideShapes Go.ChangeAt Go.RowKit Go.Clock Go.Deep Go.Proofs.Seat9
theorem pre_listed {H : Type} {enc : TypeId × Value → H} {P : Program} {fn : Func} {c : OpenClaim} {s : ChangeSpec} {x : String × DataW Unit} {r : List (String × DataW Unit)} (hl : c.laid = x :: r) : c.pre enc P fn (OpenSpec.ofChange s) = fun w args => (s.pre enc P fn c.domain c.apart w args ∧ laidMetH P c.laid w) ∧ sizedMet enc P fn (OpenSpec.ofChange s) c.apart w args := by
 funext w args
 unfold OpenClaim.pre OpenClaim.preLaid
 rw [hl]
 rfl
set_option maxRecDepth 100000 in
theorem timelineChecks_lifted (os : Os) (started : os.Started) (H : Type) (enc : TypeId × Value → H) (F : Stop.Interp) :
 ReturnsInHanded { calm := true } Tryz.checked os 3 .any (fun w args => (Rows.timelineChecksSpec.pre enc Tryz.prog Tryz.f3 [] false w args ∧ laidMetH Tryz.prog Rows.timelineChecksRow.laid w) ∧ sizedMet enc Tryz.prog Tryz.f3 (OpenSpec.ofChange Rows.timelineChecksSpec) false w args)
  ((OpenSpec.ofChange Rows.timelineChecksSpec).postWith enc Tryz.prog Tryz.f3 F (outsideKept [.timePasses]) false true false) := by
 refine returns_of_change (C := Tryz.checked) (X := fun w _ => laidMetH Tryz.prog Rows.timelineChecksRow.laid w) (fun _ _ _ hh h => h.of_heap hh) own started (by kernel_rfl) Tryz.func3
  (witness_at (enc := enc) (C := Tryz.checked) (os := os) (X := fun w _ => laidMetH Tryz.prog Rows.timelineChecksRow.laid w) (World.laidAll Tryz.prog os Rows.timelineChecksRow.laid) #[.slice none 0 0, .int .i64 0, .int .i64 0] 8 (World.laidAll_os _ _ _)
    (World.shaped_of_ZipB (by kernel_rfl) (by kernel_rfl)) (by kernel_rfl) (by kernel_rfl) (by kernel_rfl)
    (by rw [MakeChecks.laidMetH_plain _ _ _ (by kernel_rfl)]; exact laidMet_laidAll _ (by kernel_rfl) (by kernel_rfl))) ?_
 intro W base args ds gs before hval0 hW _ _ hL hsh
 have hval : ∀ (j : Nat) t v, Tryz.f3.params[j]? = some t → args[j]? = some v → Value.okWide Tryz.prog W .any base t v := hval0
 have hW' := hW
 obtain ⟨p, q, hA0, hV, rfl, _, _⟩ := hW
 have hA : DataW.TrodAll enc Tryz.prog W 0 (fun _ => true) true Tryz.f3.params.toList args.toList ds p := hA0
 rw [Tryz.params3] at hA hval
 obtain ⟨v0, v1, v2, d0, d1, d2, p0, p1, p2, rfl, rfl, rfl, h0, h1, h2⟩ := trodAll_three hA
 obtain ⟨rfl, rfl⟩ := trodVars_none hV
 obtain ⟨l0, hl0⟩ := open_sps (hval 0 22 v0 rfl rfl) h0
 obtain ⟨n1, rfl, rfl, rfl, hn1⟩ := open_int Tryz.underlying3 (hval 1 3 v1 rfl rfl) h1
 obtain ⟨n2, rfl, rfl, rfl, hn2⟩ := open_int Tryz.underlying3 (hval 2 3 v2 rfl rfl) h2
 have hE := env_of_laid hL
 clear hA0 hval0
 simp only [List.append_nil] at hW'
 refine (timelineChecks3 l0 v0 n1 n2 W hE hl0).mono fun en W' ⟨he, hb⟩ => ?_
 subst he
 have hs : Since W.heap.size W W' := Since.of_below hb
 exact ⟨_, rfl, ⟨[d0, .lit (.int .i64 n1), .lit (.int .i64 n2)], _, _, [], p0 ++ ([] ++ []), [], hW', trodAll_mk1 (shut_bool Tryz.underlying4 _), trodAll_mk3 (Below.trod laidOut (by kernel_rfl) (of_decide_eq_true (by kernel_rfl)) h0 hs.2 (fun x hx => hW'.lt x (by simp [hx]))) (shut_int Tryz.underlying3 hn1) (shut_int Tryz.underlying3 hn2), rfl, by simpa using hs.2.frame (· ∈ (p0 : List MemPlace)), fun h => by cases h⟩, hs.1⟩
end Go.Proofs.YtdimfodgmaelhaaGreatDoor

/- A part of the proof. -/
import Derived.Test.YtdimfodgmaelhaaGreatDoorPag
import Derived.Test.YtdimfodgmaelhaaGreatDoorPbh
import Derived.Test.YtdimfodgmaelhaaGreatDoorPae
set_option linter.all false
set_option linter.all false
set_option maxRecDepth 100000
namespace AvT
open Go Go.Proofs Go.Proofs.Seat9 Av
noncomputable def a13D : AF := ⟨[some p1,some p2],[.tmp t4,.tmp t5],(cSeq (cReg (x36 (x35 (x53 iEnd)))) (cSeq (cSeq (cReg (x37 (x3 (iC .l 32 [l1,l0] (x2 (x12 (x13 (x104 (iV .l (oExt l3 3) (x399 (iH .n (oStore 8 l0 l4) (iV .l (oMv l3) (iV .l (oMv l3) (iV d6 (oMv l3) iEnd)))))))))))))) (cSeq (cReg (x9 (x319 iEnd))) (cCond t16 (cSeq (cReg (x9 (x35 (x14 iEnd)))) cRet) cSkip))) (cSeq (cReg (x37 (iC .l 33 [l0] (x2 (x12 (x13 (x267 (iH .n (oStore 8 t7 l1) (x2 iEnd))))))))) (cSeq (cReg (x154 (iH d8 (oAlloc [.nilm] 82) (iH .n (oStore 1 t8 l0) iEnd)))) (cSeq (cReg (iH d9 (oAlloc [.nils] 22) iEnd)) (cSeq (cSeq (cReg (x3 (x4 (iV d17 (oAdd l0 k1) (iV d18 (oMv k0) iEnd))))) (cBlock 0 (cLoop (cSeq (cReg (iV d19 (oCmp cLss t18 t17) iEnd)) (cSeq (cCond t19 cSkip (cExit 0)) (cSeq (cBlock 1 (cSeq (cReg (iV .l (oMv t18) (iH d10 (oAlloc [n0] 3) (iH .n (oStore 1 t10 l0) iEnd)))) (cSeq (cReg (x154 (iH d11 (oAlloc [.nilm] 83) (iH .n (oStore 1 t11 l0) iEnd)))) (cSeq (cSeq (cReg (x37 (x218 (iC d20 34 [l1,l0] iEnd)))) (cBlock 2 (cRangeF t20 13))) (cSeq (cRngD (.agg [.i, .i, .i, .i, .i, .b]) 7 4 6 (.t p8) (.t p11) (.t p9) (.t p10) (.t p7)) (cSeq (cReg (iV .l (oLoad1 t10) (x3 (x4 (iV d26 (oCmp cLss l2 l0) iEnd))))) (cCond t26 (cRegD (iX 0 false [1,3,5] t3 (iV .l (oLoadN 3 t3)) (iX 1 false [0,3,5] t7 (iV .l (oLoadN 8 t7)) (x3 (iX 3 false [0,1] t10 (iV .l (oLoad1 t10)) (x169 (iX 5 false [0,1] l0 (iV .l (oLoadN 2 l0)) (iC .l 35 [l5,l4,l0] (x2 (x12 (x13 (x104 (iH .n (oStore 8 t7 l2) iEnd))))))))))))) cSkip))))))) (cReg (iV .l (oAdd t18 k1) (iV d18 (oMv l0) iEnd))))))))) (cSeq (cReg (x219 (iC .l 36 [l0,(.c (.fn 28 [] []))] iEnd))) (cSeq (cReg (x219 (x16 (x53 iEnd)))) cRet))))))))⟩
theorem pc {ri : Nat → Option RInfo} {σ : Sl} {n : Nat} {c : Code} {x : C} (hdr : DrawnOK Tryz.prog ri) (hσ : okS n σ = true) (hr : ∀ r ∈ rngs c, ri 13 = some ⟨r.1, r.2.1, r.2.2, σ, n⟩) (h : cmpC Tryz.prog σ n 13 c = x) : CSnd Tryz.prog ri σ n none c x := by
 subst h
 exact cmpC_ok hdr hσ c fun _ => hr
theorem b13 (hdr : DrawnOK Tryz.prog ri) (hmo : Tryz.prog.follows .mixedOrders = true) : ∀ c, Tryz.f13.body = some c → CSnd Tryz.prog ri s13 119 none c a13D.body := by
 intro c hc
 have hσ : okS 119 s13 = true := by kernel_rfl
 unfold Tryz.f13 at hc
 cases hc
 unfold a13D
 refine snd_seq (pc hdr hσ (by simp [rngs]) ?_) (snd_seq (pc hdr hσ (by simp [rngs]) ?_) (snd_seq (pc hdr hσ (by simp [rngs]) ?_) (snd_seq (pc hdr hσ (by simp [rngs]) ?_) (snd_seq (pc hdr hσ (by simp [rngs]) ?_) (snd_seq (snd_seq (pc hdr hσ (by simp [rngs]) ?_) (snd_block 0 (snd_loop (snd_seq (pc hdr hσ (by simp [rngs]) ?_) (snd_seq (pc hdr hσ (by simp [rngs]) ?_) (snd_seq (snd_block 1 (snd_seq (pc hdr hσ (by simp [rngs]) ?_) (snd_seq (pc hdr hσ (by simp [rngs]) ?_) (snd_seq (pc hdr hσ ?_ ?_) (snd_seq (rng_snd rfl rfl rfl rfl rfl rfl rfl ?_ hmo ?_ ?_) (pc hdr hσ (by simp [rngs]) ?_)))))) (pc hdr hσ (by simp [rngs]) ?_))))))) (pc hdr hσ (by simp [rngs]) ?_))))))
 all_goals first
  | kernel_rfl
  | skip
 ·intro r hr
  rw [show rngs _ = [_] from rfl, List.mem_singleton] at hr
  subst hr
  kernel_rfl
 ·intro t h1 h2
  have h3 : (List.range 24).all (fun i => (slot s13 (76 + i)).isNone) = true := by kernel_rfl
  have h4 := List.all_eq_true.1 h3 (t - 76) (List.mem_range.2 (by omega))
  rw [show 76 + (t - 76) = t by omega] at h4
  exact Option.isNone_iff_eq_none.1 h4
 ·exact ⟨⟨9, .chain⟩, by simp, rfl, rfl⟩
noncomputable def hkSp (dh : Nat → Option DHook) (e : Hd) : Hook := fun lim xs H => evF (fun _ => some a13D) (fun _ => none) dh e lim 13 xs H
theorem hkSp_ok {dh : Nat → Option DHook} {hd : Hd} (hdr : DrawnOK Tryz.prog ri) (hmo : Tryz.prog.follows .mixedOrders = true) (hdh : ∀ g qd, dh g = some qd → DhOK Tryz.prog ri g qd) (hh : HdOK Tryz.prog ri hd) : HkOK Tryz.prog ri 13 (hkSp dh hd) := by
 cases hb : Tryz.f13.body with
 | none => exact absurd hb (by unfold Tryz.f13; simp)
 | some c => exact evF_by (ps := a13D.ps) (rs' := a13D.res) (x := a13D.body) (σ := s13) hdh hh Tryz.func13 (by kernel_rfl) hb (by kernel_rfl) (Nat.le_of_ble_eq_true (by kernel_rfl)) (by kernel_rfl) (by kernel_rfl) (b13 hdr hmo c hb)
end AvT

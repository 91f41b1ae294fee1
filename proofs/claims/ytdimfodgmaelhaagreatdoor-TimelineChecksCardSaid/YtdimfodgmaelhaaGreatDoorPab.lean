/- An evaluator for the kernel over values whose addresses are names, and that what it tells of a call is so, over any program. -/
import Derived.Test.YtdimfodgmaelhaaGreatDoorPaa
import Derived.Laws.StructEq
import Derived.MapKept
import Derived.Laws.Tables
import Derived.Deep.AppendSrc
import Derived.Great.BuildSlice
import Derived.Laws.MakeOwn
import Derived.Laws.IdiomStrings
set_option linter.all false
section
set_option linter.unusedSimpArgs false
namespace Av
open Go Go.RowKit
variable {P : Program} {e : Operand → Option AO} {ρ : Operand → Value} {m : M} {N : Pos → Prop} {L : List AV} {T : PT AV}
theorem optNat_ok {β : Type} {v : Option AV} {d : Nat} {k : Nat → R β} {c : List Nat} {r : β} (h : optNat v d k (.er c) = .ok r) : (v = none ∧ k d = .ok r) ∨ ∃ n : Nat, v = some (.int n) ∧ k n = .ok r := by
 cases v with
 | none => exact .inl ⟨rfl, h⟩
 | some v =>
   obtain ⟨n, rfl, h⟩ := asNat_ok (show asNat v k (.er c) = .ok r from h)
   exact .inr ⟨n, rfl, h⟩
def bd (v : Option AV) (d n : Nat) : Prop := (v = none ∧ n = d) ∨ v = some (.int n)
theorem bounds_ok {β : Type} {len cap : Nat} {lo hi mx : Option AV} {k : Nat → Nat → Nat → R β} {c : List Nat} {r : β} (h : bounds len cap lo hi mx k (.er c) = .ok r) :
 ∃ l hh mm, bd lo 0 l ∧ bd hi len hh ∧ bd mx cap mm ∧ l ≤ hh ∧ hh ≤ mm ∧ mm ≤ cap ∧ k l hh mm = .ok r := by
 have main : ∀ mm, bd mx cap mm → optNat hi len (fun h => optNat lo 0 (fun l => Bool.rec (motive := fun _ => R β) (.er c) (k l h mm) (band (Nat.ble l h) (band (Nat.ble h mm) (Nat.ble mm cap)))) (.er c)) (.er c) = .ok r →
  ∃ l hh mm, bd lo 0 l ∧ bd hi len hh ∧ bd mx cap mm ∧ l ≤ hh ∧ hh ≤ mm ∧ mm ≤ cap ∧ k l hh mm = .ok r := by
  intro mm hm h
  have main2 : ∀ hh, bd hi len hh → optNat lo 0 (fun l => Bool.rec (motive := fun _ => R β) (.er c) (k l hh mm) (band (Nat.ble l hh) (band (Nat.ble hh mm) (Nat.ble mm cap)))) (.er c) = .ok r →
   ∃ l hh mm, bd lo 0 l ∧ bd hi len hh ∧ bd mx cap mm ∧ l ≤ hh ∧ hh ≤ mm ∧ mm ≤ cap ∧ k l hh mm = .ok r := by
   intro hh hhh h
   have fin : ∀ l, bd lo 0 l → Bool.rec (motive := fun _ => R β) (.er c) (k l hh mm) (band (Nat.ble l hh) (band (Nat.ble hh mm) (Nat.ble mm cap))) = .ok r →
    ∃ l hh mm, bd lo 0 l ∧ bd hi len hh ∧ bd mx cap mm ∧ l ≤ hh ∧ hh ≤ mm ∧ mm ≤ cap ∧ k l hh mm = .ok r := by
    intro l hl h
    rcases bool_ok h with ⟨h1, h2⟩ | ⟨_, h2⟩
    ·rw [band_eq, band_eq, Bool.and_eq_true, Bool.and_eq_true] at h1
     exact ⟨l, hh, mm, hl, hhh, hm, ble_of h1.1, ble_of h1.2.1, ble_of h1.2.2, h2⟩
    ·cases h2
   rcases optNat_ok h with ⟨h1, h⟩ | ⟨n, h1, h⟩
   ·exact fin 0 (.inl ⟨h1, rfl⟩) h
   ·exact fin n (.inr h1) h
  rcases optNat_ok h with ⟨h1, h⟩ | ⟨n, h1, h⟩
  ·exact main2 len (.inl ⟨h1, rfl⟩) h
  ·exact main2 n (.inr h1) h
 rcases optNat_ok h with ⟨h1, h⟩ | ⟨n, h1, h⟩
 ·exact main cap (.inl ⟨h1, rfl⟩) h
 ·exact main n (.inr h1) h
theorem run_sliceBound {n y : Nat} (h : n ≤ y) (code : BoundsCode) (w : World) : (Instr.sliceBound (.int .i64 n) y code).run P w = .ok n w := by
 simp [Instr.sliceBound, asIntOf, h]
theorem run_sliceBounds {lo hi mx : Option AV} {len cap cap' l hh mm mm' : Nat} (isSlice : Bool) (h1 : bd lo 0 l) (h2 : bd hi len hh) (h3 : bd mx cap mm) (hl : l ≤ hh) (hm : hh ≤ mm')
 (hc : (mx = none ∧ mm' = cap') ∨ (mx ≠ none ∧ mm' = mm ∧ mm ≤ cap')) (hx : mx ≠ none → hi ≠ none) (w : World) :
 (Instr.sliceBounds isSlice len cap' (lo.map (conc m)) (hi.map (conc m)) (mx.map (conc m))).run P w = .ok (l, hh, mm') w := by
 unfold Instr.sliceBounds
 rcases h3 with ⟨rfl, rfl⟩ | rfl
 ·obtain ⟨_, rfl⟩ | ⟨hne, _⟩ := hc
  ·rcases h2 with ⟨rfl, rfl⟩ | rfl
   ·rcases h1 with ⟨rfl, rfl⟩ | rfl
    ·simp
    ·simp [conc, run_sliceBound hl]
   ·rcases h1 with ⟨rfl, rfl⟩ | rfl
    ·simp [conc, run_sliceBound hm]
    ·simp [conc, run_sliceBound hl, run_sliceBound hm]
  ·exact absurd rfl hne
 ·obtain ⟨hne, _⟩ | ⟨_, rfl, hcm⟩ := hc
  ·cases hne
  ·rcases h2 with ⟨rfl, rfl⟩ | rfl
   ·exact absurd rfl (hx (by simp))
   ·rcases h1 with ⟨rfl, rfl⟩ | rfl
    ·simp [conc, run_sliceBound hm, run_sliceBound hcm]
    ·simp [conc, run_sliceBound hl, run_sliceBound hm, run_sliceBound hcm]
theorem evo_map {x : Option Operand} {x' : Option AO} (hg : Good e ρ m N L T) (hx : opdo e x = some x') : x.map ρ = (evo L T x').map (conc m) ∧ (x.isNone ↔ x' = none) := by
 cases x with
 | none => simp only [opdo, Option.some.injEq] at hx; subst hx; exact ⟨rfl, by simp⟩
 | some x =>
   simp only [opdo, Option.map_eq_some_iff] at hx
   obtain ⟨y, h1, rfl⟩ := hx
   exact ⟨by simp only [Option.map_some, hg.at h1]; rfl, by simp⟩
theorem evo_none {x' : Option AO} : evo L T x' = none ↔ x' = none := by cases x' <;> simp [evo]
theorem offs_eq (mm l o s : Nat) : offs mm l o s = if mm = l then o else o + l * s := by
 unfold offs
 by_cases h : mm = l
 ·subst h; rw [if_pos rfl, show Nat.beq mm mm = true from Nat.beq_refl mm]
 ·rw [if_neg h]
  cases hb : Nat.beq mm l with
  | true => exact absurd (beq_of hb) h
  | false => rfl
theorem run_sliceAt {t el : Nat} (hu : P.underlying t = some (.slice el)) (hz : szT P el ≠ 0) {a : Option Addr} {len cap l hh mm : Nat} {lo hi mx : Option Value} {w : World} (hb : (Instr.sliceBounds true len cap lo hi mx).run P w = .ok (l, hh, mm) w) :
 (Instr.sliceAt t (.slice a len cap) lo hi mx).run P w = .ok (.slice (if mm = l then a else a.map (·.add (l * szT P el))) (hh - l) (mm - l)) w := by
 unfold Instr.sliceAt
 simp only [Sem.run_bind, run_underlying hu, Result.andThen_ok, Instr.slice, hb, run_sizeOf hz, Sem.run_pure]
theorem snd_slc {t el : Nat} {x : Operand} {lo hi mx : Option Operand} {x' : AO} {lo' hi' mx' : Option AO} (hu : P.underlying t = some (.slice el)) (hz : szT P el ≠ 0) (hx : e x = some x') (hlo : opdo e lo = some lo') (hhi : opdo e hi = some hi') (hmx : opdo e mx = some mx')
 (hmh : mx' ≠ none → hi' ≠ none) : VSnd P e (.slice t x lo hi mx) (oSlc (szT P el) x' lo' hi' mx') := fun ri m N lim B H w ρ L T hR hg κ r h => by
 have hx1 := hg.at hx
 have hN := hg.ok hx
 obtain ⟨l1, _⟩ := evo_map hg hlo
 obtain ⟨l2, _⟩ := evo_map hg hhi
 obtain ⟨l3, _⟩ := evo_map hg hmx
 have hmh' : evo L T mx' ≠ none → evo L T hi' ≠ none := fun h1 h2 => hmh (fun h3 => h1 (evo_none.2 h3)) (evo_none.1 h2)
 rcases AV.unSl_ok h with ⟨hp, h⟩ | ⟨b, o, len, cap, hp, h⟩ | ⟨b, o, len, lost, hp, h⟩ | h
 ·rw [hp] at hx1
  obtain ⟨l, hh, mm, b1, b2, b3, c1, c2, c3, h⟩ := bounds_ok h
  have hb := run_sliceBounds (P := P) (m := m) (cap' := 0) (mm' := mm) true b1 b2 b3 c1 c2 (by rcases b3 with ⟨e1, rfl⟩ | e1; exact .inl ⟨e1, rfl⟩; exact .inr ⟨by rw [e1]; simp, rfl, c3⟩) hmh' w
  rw [← l1, ← l2, ← l3] at hb
  refine ⟨_, h, trivial, fun oper ho => ?_⟩
  unfold execOp
  rw [ho]
  simp only [hx1, conc, Sem.run_bind, run_sliceAt hu hz hb, Result.andThen_ok, Sem.run_pure]
  have : mm = 0 := by omega
  have : l = 0 := by omega
  have : hh = 0 := by omega
  subst mm l hh
  simp
 ·rw [hp] at hx1 hN
  obtain ⟨l, hh, mm, b1, b2, b3, c1, c2, c3, h⟩ := bounds_ok h
  have hb := run_sliceBounds (P := P) (m := m) (cap' := cap) (mm' := mm) true b1 b2 b3 c1 c2 (by rcases b3 with ⟨e1, rfl⟩ | e1; exact .inl ⟨e1, rfl⟩; exact .inr ⟨by rw [e1]; simp, rfl, c3⟩) hmh' w
  rw [← l1, ← l2, ← l3] at hb
  refine ⟨_, h, hN, fun oper ho => ?_⟩
  unfold execOp
  rw [ho]
  simp only [hx1, conc, Sem.run_bind, run_sliceAt hu hz hb, Result.andThen_ok, Sem.run_pure, offs_eq]
  by_cases hml : mm = l
  ·simp [hml]
  ·simp [hml, addr_add, Nat.add_assoc]
 ·rw [hp] at hx1 hN
  cases hmx' : mx' with
  | none =>
    rw [hmx'] at h l3
    obtain ⟨l, hh, mm, b1, b2, b3, c1, c2, c3, h⟩ := bounds_ok (show bounds len len (evo L T lo') (evo L T hi') none _ (R.er [21] : R Out) = R.ok r from h)
    have hN2 : lost + len ≤ m.cap b := hN.2
    have hb := run_sliceBounds (P := P) (m := m) (cap' := m.cap b - lost) (mm' := m.cap b - lost) true b1 b2 b3 c1 (by omega) (.inl ⟨rfl, rfl⟩) (fun h => absurd rfl h) w
    have l3' : mx.map ρ = (none : Option AV).map (conc m) := l3
    rw [← l1, ← l2, ← l3'] at hb
    rcases bool_ok h with ⟨h0, h⟩ | ⟨h0, h⟩
    ·have : l = 0 := beq_of h0
     subst this
     refine ⟨_, h, ⟨hN.1, by omega⟩, fun oper ho => ?_⟩
     unfold execOp
     rw [ho]
     simp only [hx1, conc, Sem.run_bind, run_sliceAt hu hz hb, Result.andThen_ok, Sem.run_pure]
     by_cases hml : m.cap b - lost = 0
     ·simp [hml]
     ·simp [hml, addr_add]
    ·rcases bool_ok h with ⟨h1, h⟩ | ⟨_, h⟩
     ·have hlt : l < len := ble_succ h1
      refine ⟨_, h, ⟨hN.1, by show lost + l + (hh - l) ≤ m.cap b; omega⟩, fun oper ho => ?_⟩
      unfold execOp
      rw [ho]
      simp only [hx1, conc, Sem.run_bind, run_sliceAt hu hz hb, Result.andThen_ok, Sem.run_pure]
      rw [if_neg (by omega)]
      have : m.cap b - lost - l = m.cap b - (lost + l) := by omega
      simp [addr_add, Nat.add_assoc, this]
     ·cases h
  | some mo =>
    rw [hmx'] at h l3 hmh'
    obtain ⟨l, hh, mm, b1, b2, b3, c1, c2, c3, h⟩ := bounds_ok (show bounds len len (evo L T lo') (evo L T hi') (some (mo.ev L T)) _ (R.er [21] : R Out) = R.ok r from h)
    have hN2 : lost + len ≤ m.cap b := hN.2
    have b3' : some (mo.ev L T) = some (AV.int mm) := by rcases b3 with ⟨e1, _⟩ | e1; cases e1; exact e1
    have hb := run_sliceBounds (P := P) (m := m) (cap := len) (cap' := m.cap b - lost) (mm' := mm) true b1 b2 b3 c1 c2 (.inr ⟨by simp, rfl, by omega⟩) hmh' w
    have l3' : mx.map ρ = (some (mo.ev L T)).map (conc m) := l3
    rw [← l1, ← l2, ← l3'] at hb
    refine ⟨_, h, hN.1, fun oper ho => ?_⟩
    unfold execOp
    rw [ho]
    simp only [hx1, conc, Sem.run_bind, run_sliceAt hu hz hb, Result.andThen_ok, Sem.run_pure, offs_eq]
    by_cases hml : mm = l
    ·simp [hml]
    ·simp [hml, addr_add, Nat.add_assoc]
 ·cases h
theorem snd_slcA {t n el : Nat} {x : Operand} {lo hi mx : Option Operand} {x' : AO} {lo' hi' mx' : Option AO} (hu : P.underlying t = some (.array n el)) (hz : szT P el ≠ 0) (hx : e x = some x') (hlo : opdo e lo = some lo') (hhi : opdo e hi = some hi') (hmx : opdo e mx = some mx')
 (hmh : mx' ≠ none → hi' ≠ none) : VSnd P e (.slice t x lo hi mx) (oSlcA n (szT P el) x' lo' hi' mx') := fun ri m N lim B H w ρ L T hR hg κ r h => by
 have hx1 := hg.at hx
 have hN := hg.ok hx
 obtain ⟨l1, _⟩ := evo_map hg hlo
 obtain ⟨l2, _⟩ := evo_map hg hhi
 obtain ⟨l3, _⟩ := evo_map hg hmx
 have hmh' : evo L T mx' ≠ none → evo L T hi' ≠ none := fun h1 h2 => hmh (fun h3 => h1 (evo_none.2 h3)) (evo_none.1 h2)
 rcases AV.unPtr_ok h with ⟨b, o, hp, h⟩ | ⟨_, h⟩
 ·rw [hp] at hx1 hN
  obtain ⟨l, hh, mm, b1, b2, b3, c1, c2, c3, h⟩ := bounds_ok h
  have hb := run_sliceBounds (P := P) (m := m) (cap' := n) (mm' := mm) false b1 b2 b3 c1 c2 (by rcases b3 with ⟨e1, rfl⟩ | e1; exact .inl ⟨e1, rfl⟩; exact .inr ⟨by rw [e1]; simp, rfl, c3⟩) hmh' w
  rw [← l1, ← l2, ← l3] at hb
  refine ⟨_, h, hN, fun oper ho => ?_⟩
  unfold execOp
  rw [ho]
  simp only [hx1, conc, Sem.run_bind, Instr.sliceAt, run_underlying hu, Instr.sureAddr, hb, run_sizeOf hz, Result.andThen_ok, Sem.run_pure, offs_eq]
  by_cases hml : mm = l
  ·simp [hml]
  ·simp [hml, addr_add, Nat.add_assoc]
 ·cases h
theorem snd_slcS {t : Nat} {x : Operand} {lo hi : Option Operand} {x' : AO} {lo' hi' : Option AO} (hu : P.underlying t = some .string) (hx : e x = some x') (hlo : opdo e lo = some lo') (hhi : opdo e hi = some hi') : VSnd P e (.slice t x lo hi none) (oSlcS x' lo' hi') := fun ri m N lim B H w ρ L T hR hg κ r h => by
 have hx1 := hg.at hx
 obtain ⟨l1, _⟩ := evo_map hg hlo
 obtain ⟨l2, _⟩ := evo_map hg hhi
 rcases AV.unStr_ok h with ⟨s, hs, h⟩ | ⟨_, h⟩
 ·rw [hs] at hx1
  obtain ⟨l, hh, mm, b1, b2, b3, c1, c2, c3, h⟩ := bounds_ok h
  have hmm : mm = s.length := by rcases b3 with ⟨_, e1⟩ | e1; exact e1; cases e1
  have hb := run_sliceBounds (P := P) (m := m) (cap' := s.length) (mm' := mm) false b1 b2 b3 c1 c2 (.inl ⟨rfl, hmm⟩) (fun h => absurd rfl h) w
  rw [← l1, ← l2] at hb
  refine ⟨_, h, trivial, fun oper ho => ?_⟩
  have hsz : (⟨s.toArray⟩ : ByteArray).size = s.length := by simp [ByteArray.size]
  have hex : (⟨s.toArray⟩ : ByteArray).extract l hh = ⟨((s.drop l).take (hh - l)).toArray⟩ := by
   apply ByteArray.ext
   rw [ByteArray.data_extract]
   apply Array.ext'
   simp [List.extract_eq_take_drop]
  unfold execOp
  rw [ho]
  have hb' : (Instr.sliceBounds false s.length s.length (lo.map ρ) (hi.map ρ) none).run P w = .ok (l, hh, mm) w := hb
  simp [hx1, conc, Instr.sliceAt, Instr.slice, run_underlying hu, hsz, hb', hex]
 ·cases h
theorem snd_len {t el : Nat} {x : Operand} {x' : AO} (hu : P.underlying t = some (.slice el)) (hx : e x = some x') :
 VSnd P e (.call { callee := .builtin .len, args := #[x], argTypes := #[t] }) (oLen x') := fun ri m N lim B H w ρ L T hR hg κ r h => by
 have hx1 := hg.at hx
 have fin : ∀ (n : Nat) (cap : Nat) (a : Option Addr), ρ x = .slice a n cap → ∀ oper : Oper, oper.op = .call { callee := .builtin .len, args := #[x], argTypes := #[t] } →
  (execOp ρ oper).run P w = .ok (.value (.int .i64 n)) w := fun n cap a hxv oper ho => by
  unfold execOp
  rw [ho]
  simp [resolve, invoke, Go.builtin, Builtin.len_, hxv, run_underlying hu, goInt]
 rcases AV.unSl_ok h with ⟨hv, h⟩ | ⟨b, o, len, cap, hv, h⟩ | ⟨b, o, len, cap, hv, h⟩ | h
 ·rw [hv] at hx1
  exact ⟨_, h, trivial, fin 0 0 none hx1⟩
 ·rw [hv] at hx1
  exact ⟨_, h, trivial, fin _ _ _ hx1⟩
 ·rw [hv] at hx1
  exact ⟨_, h, trivial, fin _ _ _ hx1⟩
 ·cases h
theorem snd_lenS {t : Nat} {x : Operand} {x' : AO} (hu : P.underlying t = some .string) (hx : e x = some x') :
 VSnd P e (.call { callee := .builtin .len, args := #[x], argTypes := #[t] }) (oLenS x') := fun ri m N lim B H w ρ L T hR hg κ r h => by
 have hx1 := hg.at hx
 rcases AV.unStr_ok h with ⟨l, hv, h⟩ | ⟨_, h⟩
 ·rw [hv] at hx1
  refine ⟨_, h, trivial, fun oper ho => ?_⟩
  have hsz : (⟨l.toArray⟩ : ByteArray).size = l.length := by simp [ByteArray.size]
  unfold execOp
  rw [ho]
  simp [resolve, invoke, Go.builtin, Builtin.len_, hx1, conc, run_underlying hu, goInt, hsz]
 ·cases h
theorem snd_cap {t el : Nat} {x : Operand} {x' : AO} (hu : P.underlying t = some (.slice el)) (hx : e x = some x') :
 VSnd P e (.call { callee := .builtin .cap, args := #[x], argTypes := #[t] }) (oCap x') := fun ri m N lim B H w ρ L T hR hg κ r h => by
 have hx1 := hg.at hx
 have fin : ∀ (n : Nat) (cap : Nat) (a : Option Addr), ρ x = .slice a n cap → ∀ oper : Oper, oper.op = .call { callee := .builtin .cap, args := #[x], argTypes := #[t] } →
  (execOp ρ oper).run P w = .ok (.value (.int .i64 cap)) w := fun n cap a hxv oper ho => by
  unfold execOp
  rw [ho]
  simp [resolve, invoke, Go.builtin, Builtin.cap_, hxv, run_underlying hu, goInt]
 rcases AV.unSl_ok h with ⟨hv, h⟩ | ⟨b, o, len, cap, hv, h⟩ | ⟨b, o, len, cap, hv, h⟩ | h
 ·rw [hv] at hx1
  exact ⟨_, h, trivial, fin 0 0 none hx1⟩
 ·rw [hv] at hx1
  exact ⟨_, h, trivial, fin _ _ _ hx1⟩
 ·cases h
 ·cases h
theorem snd_min {ts : Array TypeId} {x y : Operand} {x' y' : AO} (hx : e x = some x') (hy : e y = some y') : VSnd P e (.call { callee := .builtin .min, args := #[x, y], argTypes := ts }) (oMin x' y') := fun ri m N lim B H w ρ L T hR hg κ r h => by
 have hx1 := hg.at hx
 have hy1 := hg.at hy
 rcases AV.unInt_ok h with ⟨a, ha, h⟩ | ⟨_, h⟩
 ·rcases AV.unInt_ok h with ⟨b, hb, h⟩ | ⟨_, h⟩
  ·rw [ha] at hx1
   rw [hb] at hy1
   refine ⟨_, h, trivial, fun oper ho => ?_⟩
   unfold execOp
   rw [ho]
   rw [ile_iff]
   by_cases hab : a ≤ b
   ·have : ¬ b < a := by omega
    simp [resolve, invoke, Go.builtin, Builtin.min_, Builtin.min2, hx1, hy1, conc, hab, this]
   ·have : b < a := by omega
    simp [resolve, invoke, Go.builtin, Builtin.min_, Builtin.min2, hx1, hy1, conc, hab, this]
  ·cases h
 ·cases h
theorem snd_max {ts : Array TypeId} {x y : Operand} {x' y' : AO} (hx : e x = some x') (hy : e y = some y') : VSnd P e (.call { callee := .builtin .max, args := #[x, y], argTypes := ts }) (oMax x' y') := fun ri m N lim B H w ρ L T hR hg κ r h => by
 have hx1 := hg.at hx
 have hy1 := hg.at hy
 rcases AV.unInt_ok h with ⟨a, ha, h⟩ | ⟨_, h⟩
 ·rcases AV.unInt_ok h with ⟨b, hb, h⟩ | ⟨_, h⟩
  ·rw [ha] at hx1
   rw [hb] at hy1
   refine ⟨_, h, trivial, fun oper ho => ?_⟩
   unfold execOp
   rw [ho]
   rw [ile_iff]
   by_cases hab : b ≤ a
   ·have : ¬ b > a := by omega
    simp [resolve, invoke, Go.builtin, Builtin.max_, Builtin.max2, hx1, hy1, conc, hab, this]
   ·have : b > a := by omega
    simp [resolve, invoke, Go.builtin, Builtin.max_, Builtin.max2, hx1, hy1, conc, hab, this]
  ·cases h
 ·cases h
end Av
end
section
set_option linter.unusedSimpArgs false
namespace Av
open Go Go.RowKit
variable {P : Program} {e : Operand → Option AO} {ρ : Operand → Value} {m : M} {N : Pos → Prop} {L : List AV} {T : PT AV}
theorem seq8_iff : ∀ (l l' : List UInt8), seq8 l l' = (l == l')
 | [], [] => rfl
 | [], _ :: _ => rfl
 | _ :: _, [] => rfl
 | a :: l, b :: l' => by
   show Bool.rec (motive := fun _ => Bool) false (seq8 l l') (Nat.beq a.toNat b.toNat) = _
   cases h : Nat.beq a.toNat b.toNat with
   | true =>
     have : a = b := UInt8.toNat_inj.1 (beq_of h)
     subst this
     show seq8 l l' = _
     rw [seq8_iff l l']
     simp
   | false =>
     have : a ≠ b := fun e => nbeq_of h (by rw [e])
     simp [this]
def eqk : Kd → AV → AV → Option Bool
 | .i, .int a, .int b => some (a == b)
 | .i, .ik i a, .ik j b => if i = j then some (a == b) else none
 | .b, .bool a, .bool b => some (a == b)
 | .s, .str a, .str b => some (a == b)
 | _, _, _ => none
def eql : List Kd → List AV → List AV → Option Bool
 | [], _, _ => some true
 | q :: ks, a :: l, b :: l' => match eqk q a b with
   | some true => eql ks l l'
   | some false => some false
   | none => none
 | _ :: _, _, _ => none
theorem eqK_ok {β : Type} {q : Kd} {x y : AV} {k : Bool → R β} {c : List Nat} {r : β} (h : eqK q x y k (.er c) = .ok r) : ∃ t, eqk q x y = some t ∧ k t = .ok r := by
 cases q with
 | i =>
   rcases AV.unInt_ok h with ⟨a, rfl, h⟩ | ⟨_, h⟩
   ·rcases AV.unInt_ok h with ⟨b, rfl, h⟩ | ⟨_, h⟩
    ·exact ⟨_, by simp only [eqk]; rfl, by rw [← ieq_iff]; exact h⟩
    ·cases h
   ·rcases AV.unIk_ok h with ⟨i, a, rfl, h1⟩ | ⟨_, h1⟩
    ·rcases AV.unIk_ok h1 with ⟨j, b, rfl, h2⟩ | ⟨_, h2⟩
     ·rcases bool_ok h2 with ⟨h0, h3⟩ | ⟨_, h3⟩
      ·exact ⟨_, by simp only [eqk]; rw [if_pos (knd_inj (beq_of h0))], by rw [← ieq_iff]; exact h3⟩
      ·cases h3
     ·cases h2
    ·cases h1
 | b =>
   rcases AV.unBool_ok h with ⟨a, rfl, h⟩ | ⟨_, h⟩
   ·rcases AV.unBool_ok h with ⟨b, rfl, h⟩ | ⟨_, h⟩
    ·refine ⟨a == b, rfl, ?_⟩
     cases a <;> cases b <;> exact h
    ·cases h
   ·cases h
 | s =>
   rcases AV.unStr_ok h with ⟨a, rfl, h⟩ | ⟨_, h⟩
   ·rcases AV.unStr_ok h with ⟨b, rfl, h⟩ | ⟨_, h⟩
    ·exact ⟨_, rfl, by rw [← seq8_iff]; exact h⟩
    ·cases h
   ·cases h
theorem eqk_true {q : Kd} {a b : AV} (h : eqk q a b = some true) : a = b := by
 cases q <;> cases a <;> cases b <;> simp only [eqk, Option.some.injEq, reduceCtorEq, beq_iff_eq] at h
 ·rw [h]
 ·split at h
  ·rename_i e; subst e; simp only [Option.some.injEq, beq_iff_eq] at h; rw [h]
  ·cases h
 ·rw [h]
 ·rw [h]
theorem eqL_ok {β : Type} : ∀ {ks : List Kd} {l l' : List AV} {k : Bool → R β} {c : List Nat} {r : β}, eqL ks l l' k (.er c) = .ok r → ∃ t, eql ks l l' = some t ∧ k t = .ok r ∧ (t = true → l = l')
 | [], [], [], k, c, r, h => ⟨true, rfl, h, fun _ => rfl⟩
 | [], [], _ :: _, k, c, r, h => by cases h
 | [], _ :: _, _, k, c, r, h => by cases h
 | q :: ks, [], l', k, c, r, h => by cases h
 | q :: ks, a :: l, [], k, c, r, h => by cases h
 | q :: ks, a :: l, b :: l', k, c, r, h => by
   obtain ⟨t, h1, h2⟩ := eqK_ok (show eqK q a b (fun t => Bool.rec (motive := fun _ => R β) (k false) (eqL ks l l' k (.er c)) t) (R.er c) = R.ok r from h)
   cases t with
   | true =>
     obtain ⟨t', h3, h4, h5⟩ := eqL_ok (show eqL ks l l' k (.er c) = .ok r from h2)
     exact ⟨t', by simp only [eql, h1]; exact h3, h4, fun e => by rw [h5 e, eqk_true h1]⟩
   | false => exact ⟨false, by simp only [eql, h1], h2, fun e => by cases e⟩
theorem eql_append {ks1 ks2 : List Kd} : ∀ {l l' : List AV} {t : Bool}, eql (ks1 ++ ks2) l l' = some t →
 (eql ks1 l l' = some false ∧ t = false) ∨ (eql ks1 l l' = some true ∧ eql ks2 (l.drop ks1.length) (l'.drop ks1.length) = some t) := by
 induction ks1 with
 | nil => exact fun h => .inr ⟨rfl, h⟩
 | cons q ks ih =>
   intro l l' t h
   cases l with
   | nil => cases h
   | cons a l =>
     cases l' with
     | nil => cases h
     | cons b l' =>
       cases hq : eqk q a b with
       | none => simp [eql, hq] at h
       | some r =>
         cases r with
         | true =>
           have h' : eql (ks ++ ks2) l l' = some t := by simpa [eql, hq] using h
           rcases ih h' with ⟨h2, h3⟩ | ⟨h2, h3⟩
           ·exact .inl ⟨by simp [eql, hq, h2], h3⟩
           ·exact .inr ⟨by simp [eql, hq, h2], by simpa using h3⟩
         | false =>
           have h' : false = t := by simpa [eql, hq] using h
           exact .inl ⟨by simp [eql, hq], h'.symm⟩
theorem eql_take {ks : List Kd} : ∀ {l l' : List AV} {n : Nat}, ks.length ≤ n → eql ks (l.take n) (l'.take n) = eql ks l l' := by
 induction ks with
 | nil => intro l l' n _; rfl
 | cons q ks ih =>
   intro l l' n hn
   cases n with
   | zero => simp at hn
   | succ n =>
     cases l with
     | nil => rfl
     | cons a l =>
       cases l' with
       | nil => rfl
       | cons b l' =>
         simp only [List.take_succ_cons, eql]
         rw [ih (by simpa using hn)]
theorem run_eqk {q : Kd} {t : Nat} (hq : scalK P t = some q) {x y : AV} {r : Bool} (h : eqk q x y = some r) (d : Nat) (w : World) : (Op.equalIn (d + 1) t (conc m x) (conc m y)).run P w = .ok r w := by
 unfold scalK at hq
 split at hq
 ·rename_i hu
  cases hq
  cases x <;> cases y <;> simp only [eqk, Option.some.injEq, reduceCtorEq] at h
  subst h
  exact run_equalIn_bool' w d t _ _ hu
 ·rename_i k hu
  cases hq
  cases x <;> cases y <;> simp only [eqk, Option.some.injEq, reduceCtorEq] at h
  ·subst h
   exact run_equalIn_int w d t _ _ _ _ hu
  ·split at h
   ·rename_i e
    subst e
    cases h
    exact run_equalIn_int w d t _ _ _ _ hu
   ·cases h
 ·rename_i hu
  cases hq
  cases x <;> cases y <;> simp only [eqk, Option.some.injEq, reduceCtorEq] at h
  subst h
  rename_i a b
  have := run_equalIn_string w d t ⟨a.toArray⟩ ⟨b.toArray⟩ hu
  rw [ByteArray.toList_eq, ByteArray.toList_eq] at this
  simpa [conc] using this
 ·cases hq
theorem scal_agg {t : Nat} {q : Kd} (h : scalK P t = some q) : isAggT P t = false ∧ ∃ d, P.underlying t = some d := by
 unfold scalK at h
 unfold isAggT
 split at h
 ·rename_i hu; rw [hu]; exact ⟨rfl, _, rfl⟩
 ·rename_i hu; rw [hu]; exact ⟨rfl, _, rfl⟩
 ·rename_i hu; rw [hu]; exact ⟨rfl, _, rfl⟩
 ·cases h
theorem run_eqPart : ∀ (d : Nat) (t : Nat) (ks : List Kd), kinds P d t = some ks → ks.length = szT P t ∨ scalK P t ≠ none → ∀ (n off : Nat) (l l' : List AV) (r : Bool) (w : World), d ≤ n → eql ks (l.drop off) (l'.drop off) = some r →
 ∃ a b, (part t (concL m l).toArray off).run P w = .ok a w ∧ (part t (concL m l').toArray off).run P w = .ok b w ∧ (Op.equalIn n t a b).run P w = .ok r w
 | 0, t, ks, h, _, _, _, _, _, _, _, _, _ => by simp [kinds] at h
 | d + 1, t, ks, h, hsz, n, off, l, l', r, w, hn, he => by
   obtain ⟨n', rfl⟩ : ∃ n', n = n' + 1 := ⟨n - 1, by omega⟩
   unfold kinds at h
   cases hs : scalK P t with
   | some q =>
     rw [hs] at h
     cases h
     obtain ⟨ha, dd, hu⟩ := scal_agg hs
     cases hl : l.drop off with
     | nil => rw [hl] at he; cases he
     | cons x lr =>
       cases hl' : l'.drop off with
       | nil => rw [hl, hl'] at he; cases he
       | cons y lr' =>
         rw [hl, hl'] at he
         have hx : l[off]? = some x := by have := congrArg (·[0]?) hl; simpa using this
         have hy : l'[off]? = some y := by have := congrArg (·[0]?) hl'; simpa using this
         refine ⟨_, _, run_part1 hu ha hx w, run_part1 hu ha hy w, run_eqk hs ?_ n' w⟩
         simp only [eql] at he
         split at he
         ·rename_i h1; rw [h1]; exact he
         ·rename_i h1; rw [h1]; exact he
         ·cases he
   | none =>
     rw [hs] at h hsz
     have hsz' : ks.length = szT P t := hsz.resolve_right (fun h => h rfl)
     simp only at h
     split at h
     ·rename_i fs hu
      split at h
      ·cases h
      ·rename_i hst
       have hst' : P.stoodInHeld t = false := by simpa using hst
       have hagg : isAggT P t = true := by unfold isAggT; rw [hu]
       have ht : P.underlying t = some (.struct (P.fieldsOf t)) := by unfold Program.fieldsOf; rw [hu]
       have hfs : P.fieldsOf t = fs := by unfold Program.fieldsOf; rw [hu]
       refine ⟨_, _, run_partN hu hagg w, run_partN hu hagg w, ?_⟩
       show (Op.equalIn (n' + 1) t (.agg (concL m ((l.drop off).take (szT P t))).toArray) (.agg (concL m ((l'.drop off).take (szT P t))).toArray)).run P w = _
       rw [run_equalIn_struct w n' t _ _ ht hst', hfs]
       have he' : eql ks ((l.drop off).take (szT P t)) ((l'.drop off).take (szT P t)) = some r := by rw [eql_take (by omega)]; exact he
       generalize (l.drop off).take (szT P t) = xs at he'
       generalize (l'.drop off).take (szT P t) = ys at he'
       have fields : ∀ (fs : List Field) (k : Nat) (qs : List Kd) (r : Bool), kinds.go P (kinds P d) fs k = some qs → eql qs (xs.drop k) (ys.drop k) = some r → (Op.eqFields n' (concL m xs).toArray (concL m ys).toArray fs).run P w = .ok r w := by
        intro fs
        induction fs with
        | nil =>
          intro k qs r hq he
          simp only [kinds.go, Option.some.injEq] at hq
          subst hq
          cases he
          rfl
        | cons f fs ih =>
          intro k qs r hq he
          simp only [kinds.go] at hq
          split at hq
          ·rename_i q hk
           split at hq
           ·rename_i hc
            obtain ⟨c1, c2, c3⟩ := hc
            obtain ⟨qs', hq1, rfl⟩ := Option.map_eq_some_iff.1 hq
            have step : ∀ r1, eql q (xs.drop k) (ys.drop k) = some r1 → ∃ a b, (part f.type (concL m xs).toArray f.offset).run P w = .ok a w ∧ (part f.type (concL m ys).toArray f.offset).run P w = .ok b w ∧ (Op.equalIn n' f.type a b).run P w = .ok r1 w :=
             fun r1 h1 => by rw [c1]; exact run_eqPart d f.type q hk (.inl c3) n' k xs ys r1 w (by omega) h1
            unfold Op.eqFields
            rw [if_pos c2]
            rcases eql_append he with ⟨e1, e2⟩ | ⟨e1, e2⟩
            ·obtain ⟨a, b, p1, p2, p3⟩ := step _ e1
             simp only [Sem.run_bind, p1, p2, p3, Result.andThen_ok, e2, Bool.not_false, if_true, Sem.run_pure]
            ·obtain ⟨a, b, p1, p2, p3⟩ := step _ e1
             simp only [Sem.run_bind, p1, p2, p3, Result.andThen_ok, Bool.not_true, Bool.false_eq_true, if_false]
             refine ih (k + q.length) qs' r hq1 ?_
             simpa [List.drop_drop, Nat.add_comm] using e2
           ·cases hq
          ·cases hq
       exact fields fs.toList 0 ks r h (by simpa using he')
     ·cases h
def eqsh : Sh → AV → AV → Option Bool
 | .one q, x, y => eqk q x y
 | .agg ks, .agg l, .agg l' => eql ks l l'
 | .agg _, _, _ => none
theorem eqV_ok' {β : Type} {q : Sh} {x y : AV} {k : Bool → R β} {c : List Nat} {r : β} (h : eqV q x y k (.er c) = .ok r) : ∃ t, eqsh q x y = some t ∧ k t = .ok r ∧ (t = true → x = y) := by
 cases q with
 | one q =>
   obtain ⟨t, h1, h2⟩ := eqK_ok (show eqK q x y k (.er c) = .ok r from h)
   exact ⟨t, h1, h2, fun e => by subst e; exact eqk_true h1⟩
 | agg ks =>
   rcases AV.unAgg_ok (show x.unAgg (fun l => y.unAgg (fun m => eqL ks l m k (.er c)) (.er c)) (.er c) = R.ok r from h) with ⟨l, rfl, h⟩ | ⟨_, h⟩
   ·rcases AV.unAgg_ok h with ⟨l', rfl, h⟩ | ⟨_, h⟩
    ·obtain ⟨t, h1, h2, h3⟩ := eqL_ok h
     exact ⟨t, h1, h2, fun e => by rw [h3 e]⟩
    ·cases h
   ·cases h
theorem eqV_ok {β : Type} {q : Sh} {x y : AV} {k : Bool → R β} {c : List Nat} {r : β} (h : eqV q x y k (.er c) = .ok r) : ∃ t, eqsh q x y = some t ∧ k t = .ok r :=
 let ⟨t, h1, h2, _⟩ := eqV_ok' h
 ⟨t, h1, h2⟩
theorem run_eqsh {t : Nat} {q : Sh} (hq : shT P t = some q) {x y : AV} {r : Bool} (h : eqsh q x y = some r) (n : Nat) (hn : 21 ≤ n) (w : World) : (Op.equalIn n t (conc m x) (conc m y)).run P w = .ok r w := by
 unfold shT at hq
 split at hq
 ·rename_i k hk
  cases hq
  obtain ⟨n', rfl⟩ : ∃ n', n = n' + 1 := ⟨n - 1, by omega⟩
  exact run_eqk hk h n' w
 ·rename_i hk
  split at hq
  ·rename_i ks hks
   split at hq
   ·rename_i hsz
    cases hq
    cases x <;> simp only [eqsh, reduceCtorEq] at h
    rename_i l
    cases y <;> simp only [reduceCtorEq] at h
    rename_i l'
    obtain ⟨n', rfl⟩ : ∃ n', n = n' + 1 := ⟨n - 1, by omega⟩
    unfold kinds at hks
    rw [hk] at hks
    simp only at hks
    split at hks
    ·rename_i fs hu
     split at hks
     ·cases hks
     ·rename_i hst
      have hst' : P.stoodInHeld t = false := by simpa using hst
      have ht : P.underlying t = some (.struct (P.fieldsOf t)) := by unfold Program.fieldsOf; rw [hu]
      have hfs : P.fieldsOf t = fs := by unfold Program.fieldsOf; rw [hu]
      show (Op.equalIn (n' + 1) t (.agg (concL m l).toArray) (.agg (concL m l').toArray)).run P w = _
      rw [run_equalIn_struct w n' t _ _ ht hst', hfs]
      have fields : ∀ (fs : List Field) (k : Nat) (qs : List Kd) (r : Bool), kinds.go P (kinds P 19) fs k = some qs → eql qs (l.drop k) (l'.drop k) = some r → (Op.eqFields n' (concL m l).toArray (concL m l').toArray fs).run P w = .ok r w := by
       intro fs
       induction fs with
       | nil =>
         intro k qs r hq he
         simp only [kinds.go, Option.some.injEq] at hq
         subst hq
         cases he
         rfl
       | cons f fs ih =>
         intro k qs r hq he
         simp only [kinds.go] at hq
         split at hq
         ·rename_i q hk
          split at hq
          ·rename_i hc
           obtain ⟨c1, c2, c3⟩ := hc
           obtain ⟨qs', hq1, rfl⟩ := Option.map_eq_some_iff.1 hq
           have step : ∀ r1, eql q (l.drop k) (l'.drop k) = some r1 → ∃ a b, (part f.type (concL m l).toArray f.offset).run P w = .ok a w ∧ (part f.type (concL m l').toArray f.offset).run P w = .ok b w ∧ (Op.equalIn n' f.type a b).run P w = .ok r1 w :=
            fun r1 h1 => by rw [c1]; exact run_eqPart 19 f.type q hk (.inl c3) n' k l l' r1 w (by omega) h1
           unfold Op.eqFields
           rw [if_pos c2]
           rcases eql_append he with ⟨e1, e2⟩ | ⟨e1, e2⟩
           ·obtain ⟨a, b, p1, p2, p3⟩ := step _ e1
            simp only [Sem.run_bind, p1, p2, p3, Result.andThen_ok, e2, Bool.not_false, if_true, Sem.run_pure]
           ·obtain ⟨a, b, p1, p2, p3⟩ := step _ e1
            simp only [Sem.run_bind, p1, p2, p3, Result.andThen_ok, Bool.not_true, Bool.false_eq_true, if_false]
            refine ih (k + q.length) qs' r hq1 ?_
            simpa [List.drop_drop, Nat.add_comm] using e2
          ·cases hq
         ·cases hq
      exact fields fs.toList 0 ks r hks (by simpa using h)
    ·cases hks
   ·cases hq
  ·cases hq
theorem run_eqOp {t : Nat} {q : Sh} (hq : shT P t = some q) {x y : AV} {r : Bool} (h : eqsh q x y = some r) (w : World) :
 (binOp .eql t (conc m x) (conc m y)).run P w = .ok (.bool r) w ∧ (binOp .neq t (conc m x) (conc m y)).run P w = .ok (.bool (!r)) w := by
 have he := run_eqsh (m := m) hq h 10000 (by omega) w
 have str : ∀ a b : List UInt8, ((⟨a.toArray⟩ : ByteArray).toList == (⟨b.toArray⟩ : ByteArray).toList) = (a == b) := fun a b => by rw [ByteArray.toList_eq, ByteArray.toList_eq]
 cases q with
 | one q =>
   cases q <;> cases x <;> cases y <;> simp only [eqsh, eqk, Option.some.injEq, reduceCtorEq] at h
   ·subst h
    simp [binOp, conc, Op.intCmp, bne]
   ·split at h
    ·rename_i e1
     subst e1
     cases h
     simp [binOp, conc, Op.intCmp, bne]
    ·cases h
   ·subst h
    simp only [conc] at he ⊢
    simp [binOp, Op.equal, Op.maxDepth, he]
   ·subst h
    simp only [conc, binOp, Op.stringOp, str, Sem.run_pure]
    exact ⟨trivial, trivial⟩
 | agg ks =>
   cases x <;> simp only [eqsh, reduceCtorEq] at h
   cases y <;> simp only [reduceCtorEq] at h
   simp only [conc] at he ⊢
   rw [run_eql_struct, run_neq_struct, he]
   exact ⟨rfl, rfl⟩
theorem run_eqGuardV {op : BinOp} {t : Nat} {x y : Operand} {u v : AV} {q : Sh} {r : Bool} (hg : P.eqGuardType P.depth t = false) (h : eqsh q u v = some r) (w : World) : (eqGuard op t x y (conc m u) (conc m v)).run P w = .ok () w := by
 cases q with
 | one q =>
   cases q <;> cases u <;> cases v <;> simp only [eqsh, eqk, reduceCtorEq] at h <;> (cases op <;> rfl)
 | agg ks =>
   cases u <;> simp only [eqsh, reduceCtorEq] at h
   cases v <;> simp only [reduceCtorEq] at h
   exact run_eqGuard_agg w op t x y _ _ hg
theorem snd_eq {t ty : Nat} {q : Sh} {x y : Operand} {x' y' : AO} (hq : shT P t = some q) (hgd : P.eqGuardType P.depth t = false) (hx : e x = some x') (hy : e y = some y') : VSnd P e (.binOp .eql t x y ty) (oEq q x' y') := fun ri m N lim B H w ρ L T hR hg k r h => by
 obtain ⟨b, h1, h2⟩ := eqV_ok h
 refine ⟨_, h2, trivial, fun oper ho => ?_⟩
 unfold execOp
 rw [ho]
 simp only [hg.at hx, hg.at hy, Sem.run_bind, run_eqGuardV hgd h1, (run_eqOp hq h1 w).1, Result.andThen_ok, Sem.run_pure, conc]
theorem snd_ne {t ty : Nat} {q : Sh} {x y : Operand} {x' y' : AO} (hq : shT P t = some q) (hgd : P.eqGuardType P.depth t = false) (hx : e x = some x') (hy : e y = some y') : VSnd P e (.binOp .neq t x y ty) (oNe q x' y') := fun ri m N lim B H w ρ L T hR hg k r h => by
 obtain ⟨b, h1, h2⟩ := eqV_ok h
 refine ⟨_, h2, trivial, fun oper ho => ?_⟩
 unfold execOp
 rw [ho]
 simp only [hg.at hx, hg.at hy, Sem.run_bind, run_eqGuardV hgd h1, (run_eqOp hq h1 w).2, Result.andThen_ok, Sem.run_pure, conc, bnot_eq]
end Av
end
section
set_option linter.unusedSimpArgs false
namespace Av
open Go Go.RowKit
variable {P : Program} {e : Operand → Option AO} {ρ : Operand → Value} {m : M} {N : Pos → Prop} {L : List AV} {T : PT AV}
/-! ### constants -/
theorem ofVal_ok {v : Value} {a : AV} (h : ofVal v = some a) (m : M) (N : Pos → Prop) : conc m a = v ∧ okV m N a ∧ sc a = true := by
 unfold ofVal at h
 split at h
 ·split at h
  ·rename_i e; subst e; cases h; exact ⟨rfl, trivial, rfl⟩
  ·cases h; exact ⟨rfl, trivial, rfl⟩
 ·cases h; exact ⟨rfl, trivial, rfl⟩
 ·rename_i s
  cases h
  refine ⟨?_, trivial, rfl⟩
  simp [conc]
 ·cases h; exact ⟨rfl, trivial, rfl⟩
 ·cases h; exact ⟨rfl, trivial, rfl⟩
 ·cases h; exact ⟨rfl, trivial, rfl⟩
 ·split at h
  ·rename_i x y hxy
   cases h
   obtain ⟨h1, h2⟩ := hxy
   have e1 := Array.eq_empty_of_size_eq_zero h1
   have e2 := Array.eq_empty_of_size_eq_zero h2
   subst e1 e2
   exact ⟨rfl, ⟨trivial, trivial⟩, rfl⟩
  ·cases h
 ·cases h; exact ⟨rfl, trivial, rfl⟩
 ·cases h; exact ⟨rfl, trivial, rfl⟩
 ·cases h
theorem ofVals_ok : ∀ {l : List Value} {z : List AV}, ofVals l = some z → ∀ (m : M) (N : Pos → Prop), concL m z = l ∧ ∀ x ∈ z, sc x = true ∧ okV m N x
 | [], z, h, m, N => by simp only [ofVals, Option.some.injEq] at h; subst h; exact ⟨rfl, by simp⟩
 | v :: l, z, h, m, N => by
   simp only [ofVals] at h
   split at h
   ·rename_i a r h1 h2
    cases h
    obtain ⟨i1, i2⟩ := ofVals_ok h2 m N
    obtain ⟨j1, j2, j3⟩ := ofVal_ok h1 m N
    refine ⟨by simp only [concL, i1, j1], fun x hx => ?_⟩
    rcases List.mem_cons.1 hx with rfl | hx
    ·exact ⟨j3, j2⟩
    ·exact i2 x hx
   ·cases h
theorem zeroC_ok {t : Nat} {z : List AV} (h : zeroC P t = some z) (m : M) (N : Pos → Prop) : ∃ v, (∀ w, (zeroValue t).run P w = .ok v w) ∧ v.cells = (concL m z).toArray ∧ ∀ x ∈ z, sc x = true ∧ okV m N x := by
 unfold zeroC at h
 split at h
 ·rename_i i hi
  split at h
  ·rename_i v hv
   obtain ⟨h1, h2⟩ := ofVals_ok h m N
   refine ⟨v, fun w => by simp [zeroValue, typeInfo, hi, hv], ?_, h2⟩
   rw [h1]
  ·cases h
 ·cases h
theorem zeroV_ok {t : Nat} {z : AV} (h : zeroV P t = some z) (m : M) (N : Pos → Prop) : (∀ w, (zeroValue t).run P w = .ok (conc m z) w) ∧ okV m N z := by
 unfold zeroV at h
 split at h
 ·rename_i i hi
  split at h
  ·rename_i cs hv
   obtain ⟨l, h0, rfl⟩ := Option.map_eq_some_iff.1 h
   obtain ⟨h1, h2⟩ := ofVals_ok h0 m N
   refine ⟨fun w => ?_, (okL_iff _ _ _).2 fun x hx => (h2 x hx).2, fun x hx => (h2 x hx).1⟩
   simp only [zeroValue, typeInfo, Sem.run_bind, run_program, Result.andThen_ok, hi, Sem.run_pure, hv, conc, h1]
  ·rename_i v hv
   obtain ⟨h1, h2, _⟩ := ofVal_ok h m N
   exact ⟨fun w => by simp [zeroValue, typeInfo, hi, hv, h1], h2⟩
  ·cases h
 ·cases h
/-! ### nil -/
theorem unNil_ok {β : Type} {v : AV} {k : Nat → Bool → R β} {c : List Nat} {r : β} (h : v.unNil k (.er c) = .ok r) : ∃ i b, k i b = .ok r ∧ v.unNil (fun i b => some (i, b)) none = some (i, b) := by
 cases v <;> first | exact ⟨_, _, h, rfl⟩ | cases h
def NilC (n : Nat) (c : Value) : Prop := (n = 0 ∧ c = .pointer none) ∨ (n = 1 ∧ ∃ i j, c = .slice none i j) ∨ (n = 2 ∧ c = .map none) ∨ (n = 3 ∧ c = .nilFunc) ∨ (n = 4 ∧ c = .nilIface)
theorem nilC_ok {x : Operand} {n : Nat} (h : nilC x = some n) : ∃ c, x = .const c ∧ NilC n c := by
 unfold nilC at h
 split at h <;> cases h
 ·exact ⟨_, rfl, .inl ⟨rfl, rfl⟩⟩
 ·exact ⟨_, rfl, .inr (.inl ⟨rfl, _, _, rfl⟩)⟩
 ·exact ⟨_, rfl, .inr (.inr (.inl ⟨rfl, rfl⟩))⟩
 ·exact ⟨_, rfl, .inr (.inr (.inr (.inl ⟨rfl, rfl⟩)))⟩
 ·exact ⟨_, rfl, .inr (.inr (.inr (.inr ⟨rfl, rfl⟩)))⟩
def NilD (n : Nat) (d : TypeDesc) : Prop := (n = 0 ∧ ∃ t, d = .pointer t) ∨ (n = 1 ∧ ∃ t, d = .slice t) ∨ (n = 2 ∧ ∃ k t, d = .map k t) ∨ (n = 3 ∧ ∃ a b c, d = .func a b c) ∨ (n = 4 ∧ ∃ a, d = .interface a)
theorem nilT_ok {t n : Nat} (h : nilT P t = some n) : ∃ d, P.underlying t = some d ∧ NilD n d := by
 unfold nilT at h
 split at h <;> cases h <;> rename_i hu <;> refine ⟨_, hu, ?_⟩
 ·exact .inl ⟨rfl, _, rfl⟩
 ·exact .inr (.inl ⟨rfl, _, rfl⟩)
 ·exact .inr (.inr (.inl ⟨rfl, _, _, rfl⟩))
 ·exact .inr (.inr (.inr (.inl ⟨rfl, _, _, _, rfl⟩)))
 ·exact .inr (.inr (.inr (.inr ⟨rfl, _, rfl⟩)))
theorem run_nilIn {t n : Nat} {d : TypeDesc} (hu : P.underlying t = some d) (hd : NilD n d) {c : Value} (hc : NilC n c) {v : AV} {b : Bool} (hv : v.unNil (fun i b => some (i, b)) none = some (n, b)) (k : Nat) (w : World) :
 (Op.equalIn (k + 1) t (conc m v) c).run P w = .ok b w ∧ (Op.equalIn (k + 1) t c (conc m v)).run P w = .ok b w := by
 rcases hd with ⟨rfl, t', rfl⟩ | ⟨rfl, t', rfl⟩ | ⟨rfl, k', t', rfl⟩ | ⟨rfl, a', b', c', rfl⟩ | ⟨rfl, a', rfl⟩ <;>
  rcases hc with ⟨h0, rfl⟩ | ⟨h0, i, j, rfl⟩ | ⟨h0, rfl⟩ | ⟨h0, rfl⟩ | ⟨h0, rfl⟩ <;> (first | cases h0 | skip) <;>
  (cases v <;> first | (cases hv; done) | skip) <;> cases hv <;> (constructor <;> (unfold Op.equalIn; simp only [Sem.run_bind, run_underlying hu, Result.andThen_ok, conc]; rfl))
theorem run_nilEq {t n : Nat} {d : TypeDesc} (hu : P.underlying t = some d) (hd : NilD n d) {c : Value} (hc : NilC n c) {v : AV} {b : Bool} (hv : v.unNil (fun i b => some (i, b)) none = some (n, b)) (w : World) :
 (binOp .eql t (conc m v) c).run P w = .ok (.bool b) w ∧ (binOp .neq t (conc m v) c).run P w = .ok (.bool (!b)) w ∧ (binOp .eql t c (conc m v)).run P w = .ok (.bool b) w ∧ (binOp .neq t c (conc m v)).run P w = .ok (.bool (!b)) w := by
 obtain ⟨h1, h2⟩ := run_nilIn (m := m) hu hd hc hv 9999 w
 have e1 : (Op.equal t (conc m v) c).run P w = .ok b w := h1
 have e2 : (Op.equal t c (conc m v)).run P w = .ok b w := h2
 have q : ∀ x y : Value, (∀ k a, x ≠ .int k a) → (∀ k a, x ≠ .float k a) → (∀ k a b, x ≠ .complex k a b) → (∀ s, x ≠ .string s) → True := fun _ _ _ _ _ _ => trivial
 have f1 : binOp .eql t (conc m v) c = (do return .bool (← Op.equal t (conc m v) c)) ∧ binOp .neq t (conc m v) c = (do return .bool (!(← Op.equal t (conc m v) c))) ∧ binOp .eql t c (conc m v) = (do return .bool (← Op.equal t c (conc m v))) ∧ binOp .neq t c (conc m v) = (do return .bool (!(← Op.equal t c (conc m v)))) := by
  rcases hc with ⟨rfl, rfl⟩ | ⟨rfl, i, j, rfl⟩ | ⟨rfl, rfl⟩ | ⟨rfl, rfl⟩ | ⟨rfl, rfl⟩ <;>
  (cases v <;> first | (cases hv; done) | exact ⟨rfl, rfl, rfl, rfl⟩)
 obtain ⟨g1, g2, g3, g4⟩ := f1
 rw [g1, g2, g3, g4]
 simp only [Sem.run_bind, e1, e2, Result.andThen_ok, Sem.run_pure]
 exact ⟨trivial, trivial, trivial, trivial⟩
theorem run_nilGuard {op : BinOp} {t n : Nat} {c : Value} (hc : NilC n c) {v : AV} {b : Bool} (hv : v.unNil (fun i b => some (i, b)) none = some (n, b)) (y : Operand) (w : World) :
 (eqGuard op t y (.const c) (conc m v) c).run P w = .ok () w ∧ (eqGuard op t (.const c) y c (conc m v)).run P w = .ok () w := by
 rcases hc with ⟨rfl, rfl⟩ | ⟨rfl, i, j, rfl⟩ | ⟨rfl, rfl⟩ | ⟨rfl, rfl⟩ | ⟨rfl, rfl⟩ <;>
  (cases v <;> first | (cases hv; done) | skip) <;> (cases op <;> (first | exact ⟨rfl, rfl⟩ | (constructor <;> simp [eqGuard, conc])))
theorem nilEq_ok {n : Nat} {f : Bool → AV} {v : AV} {k : AV → R Out} {r : Out} (h : v.unNil (fun i b => Bool.rec (motive := fun _ => R Out) (.er [10]) (k (f b)) (Nat.beq i n)) (.er [10]) = .ok r) :
 ∃ b, k (f b) = .ok r ∧ v.unNil (fun i b => some (i, b)) none = some (n, b) := by
 obtain ⟨i, b, h1, h2⟩ := unNil_ok h
 rcases bool_ok h1 with ⟨h3, h4⟩ | ⟨_, h4⟩
 ·rw [beq_of h3] at h2; exact ⟨b, h4, h2⟩
 ·cases h4
theorem snd_nilR {t ty n : Nat} {x y : Operand} {x' : AO} (ht : nilT P t = some n) (hy : nilC y = some n) (hx : e x = some x') : VSnd P e (.binOp .eql t x y ty) (oEqn n x') ∧ VSnd P e (.binOp .neq t x y ty) (oNen n x') := by
 obtain ⟨d, hu, hd⟩ := nilT_ok ht
 obtain ⟨c, rfl, hc⟩ := nilC_ok hy
 constructor <;> intro ri m N lim B H w ρ L T hR hg k r h
 ·obtain ⟨b, h1, h2⟩ := nilEq_ok (f := fun b => .bool b) h
  refine ⟨_, h1, trivial, fun oper ho => ?_⟩
  unfold execOp
  rw [ho]
  simp only [hg.at hx, hg.2, Sem.run_bind, (run_nilGuard hc h2 x w).1, (run_nilEq hu hd hc h2 w).1, Result.andThen_ok, Sem.run_pure, conc]
 ·obtain ⟨b, h1, h2⟩ := nilEq_ok (f := fun b => .bool (bnot b)) h
  refine ⟨_, h1, trivial, fun oper ho => ?_⟩
  unfold execOp
  rw [ho]
  simp only [hg.at hx, hg.2, Sem.run_bind, (run_nilGuard hc h2 x w).1, (run_nilEq hu hd hc h2 w).2.1, Result.andThen_ok, Sem.run_pure, conc, bnot_eq]
theorem snd_nilL {t ty n : Nat} {x y : Operand} {y' : AO} (ht : nilT P t = some n) (hx : nilC x = some n) (hy : e y = some y') : VSnd P e (.binOp .eql t x y ty) (oEqn n y') ∧ VSnd P e (.binOp .neq t x y ty) (oNen n y') := by
 obtain ⟨d, hu, hd⟩ := nilT_ok ht
 obtain ⟨c, rfl, hc⟩ := nilC_ok hx
 constructor <;> intro ri m N lim B H w ρ L T hR hg k r h
 ·obtain ⟨b, h1, h2⟩ := nilEq_ok (f := fun b => .bool b) h
  refine ⟨_, h1, trivial, fun oper ho => ?_⟩
  unfold execOp
  rw [ho]
  simp only [hg.at hy, hg.2, Sem.run_bind, (run_nilGuard hc h2 y w).2, (run_nilEq hu hd hc h2 w).2.2.1, Result.andThen_ok, Sem.run_pure, conc]
 ·obtain ⟨b, h1, h2⟩ := nilEq_ok (f := fun b => .bool (bnot b)) h
  refine ⟨_, h1, trivial, fun oper ho => ?_⟩
  unfold execOp
  rw [ho]
  simp only [hg.at hy, hg.2, Sem.run_bind, (run_nilGuard hc h2 y w).2, (run_nilEq hu hd hc h2 w).2.2.2, Result.andThen_ok, Sem.run_pure, conc, bnot_eq]
end Av
end
section
set_option linter.unusedSimpArgs false
namespace Av
open Go Go.RowKit
variable {P : Program} {e : Operand → Option AO} {ρ : Operand → Value} {m : M} {N : Pos → Prop} {L : List AV} {T : PT AV}
/-! ### composites -/
theorem foldl_set : ∀ (vs : List Value) (k off : Nat) (cs : Array Value), off + k + vs.length ≤ cs.size →
 ((vs.zipIdx k).foldl (fun cs p => cs.setIfInBounds (off + p.2) p.1) cs).size = cs.size ∧
   ∀ i, ((vs.zipIdx k).foldl (fun cs p => cs.setIfInBounds (off + p.2) p.1) cs)[i]? = if off + k ≤ i ∧ i < off + k + vs.length then vs[i - (off + k)]? else cs[i]?
 | [], k, off, cs, h => ⟨rfl, fun i => by rw [if_neg (by simp only [List.length_nil]; omega)]; rfl⟩
 | v :: vs, k, off, cs, h => by
   simp only [List.length_cons] at h
   obtain ⟨h1, h2⟩ := foldl_set vs (k + 1) off (cs.setIfInBounds (off + k) v) (by simp; omega)
   simp only [List.zipIdx_cons, List.foldl_cons]
   refine ⟨by rw [h1]; simp, fun i => ?_⟩
   rw [h2]
   by_cases e : i = off + k
   ·subst e
    rw [if_neg (by omega), if_pos ⟨Nat.le_refl _, by simp⟩]
    simp only [Nat.sub_self, List.getElem?_cons_zero]
    rw [Array.getElem?_setIfInBounds_self_of_lt (by omega)]
   ·by_cases e2 : off + (k + 1) ≤ i ∧ i < off + (k + 1) + vs.length
    ·rw [if_pos e2, if_pos ⟨by omega, by simp; omega⟩, show i - (off + k) = (i - (off + (k + 1))) + 1 from by omega, List.getElem?_cons_succ]
    ·rw [if_neg e2, if_neg (by simp; omega)]
     rw [Array.getElem?_setIfInBounds_ne (by omega)]
theorem concL_get (m : M) (l : List AV) (i : Nat) : (concL m l)[i]? = l[i]?.map (conc m) := by rw [concL_eq, List.getElem?_map]
theorem fold_over {vs c : List AV} {off : Nat} (h : off + vs.length ≤ c.length) :
 (concL m vs).toArray.zipIdx.foldl (fun cs x => cs.setIfInBounds (off + x.2) x.1) (concL m c).toArray = (concL m (over off vs c)).toArray := by
 have hlv : (concL m vs).length = vs.length := by rw [concL_eq]; simp
 have hlc : (concL m c).length = c.length := by rw [concL_eq]; simp
 have e1 : (concL m vs).toArray.zipIdx.foldl (fun cs x => cs.setIfInBounds (off + x.2) x.1) (concL m c).toArray = ((concL m vs).zipIdx 0).foldl (fun cs x => cs.setIfInBounds (off + x.2) x.1) (concL m c).toArray := by
  rw [← Array.foldl_toList]
  rw [Array.toList_zipIdx]
 rw [e1]
 obtain ⟨_, h2⟩ := foldl_set (concL m vs) 0 off (concL m c).toArray (by simp [hlv, hlc]; omega)
 apply Array.ext_getElem?
 intro i
 rw [h2, hlv, List.getElem?_toArray, List.getElem?_toArray, concL_get, concL_get, concL_get, over_get h]
 simp only [Nat.add_zero]
 split <;> rfl
inductive All2 {α β : Type} (q : α → β → Prop) : List α → List β → Prop
 | nil : All2 q [] []
 | cons {a b l l'} : q a b → All2 q l l' → All2 q (a :: l) (b :: l')
theorem fill_ok {s : Nat → Option (Nat × Nat)} {β : Type} : ∀ {ps : List (Nat × Operand)} {ps' : List (Nat × Nat × AO)} {c : List AV} {k : List AV → R Out} {r : Out},
 (hps : All2 (fun (p : Nat × Operand) (p' : Nat × Nat × AO) => s p.1 = some (p'.1, p'.2.1) ∧ p'.2.1 ≠ 0 ∧ e p.2 = some p'.2.2) ps ps') → Good e ρ m N L T → (∀ x ∈ c, sc x = true ∧ okV m N x) → fillP L T ps' c k = .ok r →
 ∃ c', k c' = .ok r ∧ c'.length = c.length ∧ (∀ x ∈ c', sc x = true ∧ okV m N x) ∧ Instr.fill s (concL m c).toArray (ps.map fun p => (p.1, ρ p.2)) = some (concL m c').toArray
 | [], _, c, k, r, .nil, hg, hc, h => ⟨c, h, rfl, hc, rfl⟩
 | p :: ps, p' :: ps', c, k, r, .cons ⟨h1, h2, h3⟩ hps, hg, hc, h => by
   rcases bool_ok (show Bool.rec (motive := fun _ => R Out) (.er [19]) (lset p'.1 (cellsOf (p'.2.2.ev L T)) c (fun c => fillP L T ps' c k) (.er [18])) (Nat.beq (llen (cellsOf (p'.2.2.ev L T))) p'.2.1) = R.ok r from h) with ⟨hn, h⟩ | ⟨_, h⟩
   ·obtain ⟨hl, h⟩ := lset_ok h
    have hn' : (cellsOf (p'.2.2.ev L T)).length = p'.2.1 := by rw [← llen_eq]; exact beq_of hn
    have hcell := cellsOf_ok (hg.ok h3)
    obtain ⟨c', k1, k2, k3, k4⟩ := fill_ok (β := β) hps hg (fun x hx => by
     unfold over at hx
     rcases List.mem_append.1 hx with hx | hx
     ·rcases List.mem_append.1 hx with hx | hx
      ·exact hc x (List.mem_of_mem_take hx)
      ·exact hcell x hx
     ·exact hc x (List.mem_of_mem_drop hx)) h
    refine ⟨c', k1, by rw [k2, over_length hl], k3, ?_⟩
    have hcc : (ρ p.2).cells = (concL m (cellsOf (p'.2.2.ev L T))).toArray := by
     rw [hg.at h3]
     refine conc_cells m _ fun l hl => ?_
     rw [hl] at hn'
     exact h2 hn'.symm
    have hsz : (ρ p.2).cells.size = p'.2.1 := by rw [hcc]; simp [concL_eq, hn']
    have hszc : (concL m c).toArray.size = c.length := by simp [concL_eq]
    rw [List.map_cons, Instr.fill, h1]
    simp only
    rw [if_neg (by rw [hsz, hszc]; simp; omega), ← k4, ← fold_over hl, hcc]
   ·cases h
theorem fieldsP_ok {fs : Array Field} : ∀ {ps : List (Nat × Operand)} {ps' : List (Nat × Nat × AO)}, fieldsP P e fs ps = some ps' →
 All2 (fun (p : Nat × Operand) (p' : Nat × Nat × AO) => (fs[p.1]?.map fun f => (f.offset, szT P f.type)) = some (p'.1, p'.2.1) ∧ p'.2.1 ≠ 0 ∧ e p.2 = some p'.2.2) ps ps'
 | [], ps', h => by simp only [fieldsP, Option.some.injEq] at h; subst h; exact .nil
 | (i, x) :: ps, ps', h => by
   simp only [fieldsP] at h
   split at h
   ·rename_i r f a h1 h2 h3
    split at h
    ·cases h
    ·rename_i hz
     cases h
     exact .cons ⟨by rw [h2]; rfl, hz, h3⟩ (fieldsP_ok h1)
   ·cases h
theorem rowP_ok {s : Nat} : ∀ {ps : List (Nat × Operand)} {ps' : List (Nat × Nat × AO)}, rowP e s ps = some ps' →
 All2 (fun (p : Nat × Operand) (p' : Nat × Nat × AO) => some (p.1 * s, s) = some (p'.1, p'.2.1) ∧ p'.2.1 ≠ 0 ∧ e p.2 = some p'.2.2) ps ps'
 | [], ps', h => by simp only [rowP, Option.some.injEq] at h; subst h; exact .nil
 | (i, x) :: ps, ps', h => by
   simp only [rowP] at h
   split at h
   ·rename_i r a h1 h2
    split at h
    ·cases h
    ·rename_i hz
     cases h
     exact .cons ⟨rfl, hz, h2⟩ (rowP_ok h1)
   ·cases h
theorem mapM_info {fs : List Field} (h : (fs.all fun f => (P.info? f.type).isSome) = true) : fs.mapM (fun f => (P.info? f.type).map fun i => (f.offset, i.size)) = some (fs.map fun f => (f.offset, szT P f.type)) := by
 induction fs with
 | nil => rfl
 | cons f fs ih =>
   simp only [List.all_cons, Bool.and_eq_true] at h
   obtain ⟨i, hi⟩ := Option.isSome_iff_exists.1 h.1
   simp [List.mapM_cons, hi, ih h.2, szT]
theorem zeroC_info {t : Nat} {z : List AV} (h : zeroC P t = some z) (m : M) (N : Pos → Prop) : ∃ i v, P.info? t = some i ∧ i.zero = some v ∧ v.cells = (concL m z).toArray ∧ ∀ x ∈ z, sc x = true ∧ okV m N x := by
 unfold zeroC at h
 split at h
 ·rename_i i hi
  split at h
  ·rename_i v hv
   obtain ⟨h1, h2⟩ := ofVals_ok h m N
   exact ⟨i, v, hi, hv, by rw [h1], h2⟩
  ·cases h
 ·cases h
theorem snd_buildS {t : Nat} {fs : Array Field} {z : List AV} {ps : Array (Nat × Operand)} {ps' : List (Nat × Nat × AO)} (hu : P.underlying t = some (.struct fs)) (hz : zeroC P t = some z) (hi : (fs.toList.all fun f => (P.info? f.type).isSome) = true) (hp : fieldsP P e fs ps.toList = some ps') :
 VSnd P e (.build t ps) (oBuild z ps') := fun ri m N lim B H w ρ L T hR hg k r h => by
 obtain ⟨i, v, z1, z2, z3, z4⟩ := zeroC_info hz m N
 obtain ⟨c', k1, _, k3, k4⟩ := fill_ok (s := fun j => fs[j]?.map fun f => (f.offset, szT P f.type)) (β := Unit) (fieldsP_ok hp) hg z4 h
 refine ⟨_, k1, ⟨(okL_iff _ _ _).2 fun x hx => (k3 x hx).2, fun x hx => (k3 x hx).1⟩, fun oper ho => ?_⟩
 unfold execOp
 rw [ho]
 have hb : P.built t (ps.map fun p => (p.1, ρ p.2)).toList = some (concL m c').toArray := by
  unfold Program.built
  rw [z1, hu]
  simp only [z2, mapM_info hi]
  rw [z3, Array.toList_map, ← k4]
  congr 1
  funext j
  simp
 simp only [Sem.run_bind, run_build w t _ _ hb, Result.andThen_ok, Sem.run_pure, conc]
theorem snd_buildA {t n el : Nat} {z : List AV} {ps : Array (Nat × Operand)} {ps' : List (Nat × Nat × AO)} (hu : P.underlying t = some (.array n el)) (hz : zeroC P t = some z) (hi : (P.info? el).isSome = true) (hp : rowP e (szT P el) ps.toList = some ps') :
 VSnd P e (.build t ps) (oBuild z ps') := fun ri m N lim B H w ρ L T hR hg k r h => by
 obtain ⟨i, v, z1, z2, z3, z4⟩ := zeroC_info hz m N
 obtain ⟨ie, hie⟩ := Option.isSome_iff_exists.1 hi
 have hs : szT P el = ie.size := by unfold szT; rw [hie]
 have hp' := rowP_ok hp
 rw [hs] at hp'
 obtain ⟨c', k1, _, k3, k4⟩ := fill_ok (s := fun j => some (j * ie.size, ie.size)) (β := Unit) hp' hg z4 h
 refine ⟨_, k1, ⟨(okL_iff _ _ _).2 fun x hx => (k3 x hx).2, fun x hx => (k3 x hx).1⟩, fun oper ho => ?_⟩
 unfold execOp
 rw [ho]
 have hb : P.built t (ps.map fun p => (p.1, ρ p.2)).toList = some (concL m c').toArray := by
  unfold Program.built
  rw [z1, hu]
  simp only [z2, hie]
  rw [z3, Array.toList_map, ← k4]
 simp only [Sem.run_bind, run_build w t _ _ hb, Result.andThen_ok, Sem.run_pure, conc]
end Av
end
section
set_option linter.unusedSimpArgs false
namespace Av
open Go Go.RowKit
variable {P : Program} {e : Operand → Option AO} {ρ : Operand → Value} {m : M} {N : Pos → Prop} {L : List AV} {T : PT AV}
theorem chk_ok {h : Sh} {q : AV} {k : R Out} {r : Out} (hh : chk h q k = .ok r) : k = .ok r ∧ ∀ ks, h = .agg ks → ∃ l, q = .agg l ∧ l.length = ks.length := by
 cases h with
 | one q => exact ⟨hh, fun ks e => by cases e⟩
 | agg ks =>
   rcases AV.unAgg_ok (show q.unAgg (fun l => Bool.rec (motive := fun _ => R Out) (.er [59]) k (Nat.beq (llen l) ks.length)) (.er [59]) = .ok r from hh) with ⟨l, rfl, h⟩ | ⟨_, h⟩
   ·rcases bool_ok h with ⟨h1, h2⟩ | ⟨_, h2⟩
    ·exact ⟨h2, fun ks' e => by cases e; exact ⟨l, rfl, by rw [← llen_eq]; exact beq_of h1⟩⟩
    ·cases h2
   ·cases h
inductive Fnd (h : Sh) (q : AV) : List ME → Option (Nat × AV) → Prop
 | nil : Fnd h q [] none
 | hit {x es} : eqsh h q x.key = some true → q = x.key → Fnd h q (x :: es) (some (0, x.val))
 | go {x es o} : eqsh h q x.key = some false → Fnd h q es o → Fnd h q (x :: es) (o.map fun y => (y.1 + 1, y.2))
theorem findK_ok {β : Type} {h : Sh} {q : AV} : ∀ {es : List ME} {k : AV → R β} {no : R β} {c : List Nat} {r : β}, findK h q es k no (.er c) = .ok r → (∃ i v, Fnd h q es (some (i, v)) ∧ k v = .ok r) ∨ (Fnd h q es none ∧ no = .ok r)
 | [], k, no, c, r, hh => .inr ⟨.nil, hh⟩
 | x :: es, k, no, c, r, hh => by
   obtain ⟨t, h1, h2, h3⟩ := eqV_ok' (show eqV h q x.key (fun t => Bool.rec (motive := fun _ => R β) (findK h q es k no (.er c)) (k x.val) t) (.er c) = .ok r from hh)
   cases t with
   | true => exact .inl ⟨0, _, .hit h1 (h3 rfl), h2⟩
   | false =>
     rcases findK_ok (show findK h q es k no (.er c) = .ok r from h2) with ⟨i, v, h4, h5⟩ | ⟨h4, h5⟩
     ·exact .inl ⟨i + 1, v, .go h1 h4, h5⟩
     ·exact .inr ⟨.go h1 h4, h5⟩
theorem Fnd.at {h : Sh} {q : AV} {es : List ME} {i : Nat} {v : AV} (hf : Fnd h q es (some (i, v))) : ∃ x, es[i]? = some x ∧ x.key = q ∧ x.val = v ∧ eqsh h q q = some true := by
 generalize ho : some (i, v) = o at hf
 induction hf generalizing i with
 | nil => cases ho
 | hit h1 h2 => cases ho; exact ⟨_, rfl, h2.symm, rfl, by rw [← h2] at h1; exact h1⟩
 | @go x es o h1 h2 ih =>
   cases o with
   | none => cases ho
   | some y => cases ho; simpa using ih (i := y.1) rfl
theorem sameNow_ok {t : Nat} {kd : Kd} {d : TypeDesc} (hq : scalK P t = some kd) (hu : P.underlying t = some d) {a b : AV} {r : Bool} (h : eqk kd a b = some r) : Instr.sameNow d (conc m a) (conc m b) = some r := by
 unfold scalK at hq
 rw [hu] at hq
 cases d <;> simp only [reduceCtorEq, Option.some.injEq] at hq <;> subst hq <;> cases a <;> cases b <;> simp only [eqk, Option.some.injEq, reduceCtorEq] at h
 ·subst h; rfl
 ·subst h; simp [conc, Instr.sameNow]
 ·split at h
  ·rename_i e; subst e; cases h; simp [conc, Instr.sameNow]
  ·cases h
 ·subst h
  simp only [conc, Instr.sameNow, Option.some.injEq]
  rw [Bool.eq_iff_iff]
  simp [MapKept.bytes_beq]
theorem findNow_ok {t : Nat} {kd : Kd} {d : TypeDesc} (hq : scalK P t = some kd) (hu : P.underlying t = some d) {q : AV} {es : List ME} {o : Option (Nat × AV)} (hf : Fnd (.one kd) q es o) :
 ∀ i, Instr.findNow d (conc m q) (es.map (meC m)) i = some (o.map fun x => (i + x.1, conc m x.2)) := by
 induction hf with
 | nil => intro i; rfl
 | hit h1 h2 =>
   intro i
   have := sameNow_ok (m := m) hq hu (show eqk kd q _ = some true from h1)
   simp only [List.map_cons, Instr.findNow]
   rw [show (meC m _).key = conc m _ from rfl, this]
   rfl
 | @go x es o h1 h2 ih =>
   intro i
   have := sameNow_ok (m := m) hq hu (show eqk kd q _ = some false from h1)
   simp only [List.map_cons, Instr.findNow]
   rw [show (meC m _).key = conc m _ from rfl, this]
   simp only [ih (i + 1)]
   cases o with
   | none => rfl
   | some y => simp only [Option.map_some]; congr 3; omega
theorem findAsking_ok {t : Nat} {h : Sh} (hs : shT P t = some h) {q : AV} {es : List ME} {o : Option (Nat × AV)} (hf : Fnd h q es o) (w : World) :
 ∀ i, (Instr.findAsking t (conc m q) (es.map (meC m)) i).run P w = .ok (o.map fun x => (i + x.1, conc m x.2)) w := by
 induction hf with
 | nil => intro i; rfl
 | hit h1 h2 =>
   intro i
   have : (Op.equal t (conc m q) (conc m _)).run P w = .ok true w := run_eqsh (m := m) hs h1 10000 (by omega) w
   simp only [List.map_cons, Instr.findAsking, Sem.run_bind]
   rw [show (meC m _).key = conc m _ from rfl, this]
   rfl
 | @go x es o h1 h2 ih =>
   intro i
   have : (Op.equal t (conc m q) (conc m _)).run P w = .ok false w := run_eqsh (m := m) hs h1 10000 (by omega) w
   simp only [List.map_cons, Instr.findAsking, Sem.run_bind]
   rw [show (meC m _).key = conc m _ from rfl, this]
   simp only [Result.andThen_ok, Bool.false_eq_true, if_false, ih (i + 1)]
   cases o with
   | none => rfl
   | some y => simp only [Option.map_some]; congr 3; omega
theorem shT_cases {t : Nat} {h : Sh} (hs : shT P t = some h) : (∃ q, h = .one q ∧ scalK P t = some q) ∨ ∃ ks, h = .agg ks ∧ scalK P t = none := by
 unfold shT at hs
 split at hs
 ·rename_i q hq; cases hs; exact .inl ⟨q, rfl, hq⟩
 ·rename_i hq
  split at hs
  ·split at hs
   ·cases hs; exact .inr ⟨_, rfl, hq⟩
   ·cases hs
  ·cases hs
theorem keyOK_agg {t : Nat} {ks : List Kd} (hk : keyOK P t = true) (hs : shT P t = some (.agg ks)) : ∃ fs, P.underlying t = some (.struct fs) ∧ kyT P 20 t = true ∧ ks.length = szT P t := by
 unfold keyOK at hk
 rw [hs] at hk
 simp only at hk
 split at hk
 ·rename_i fs hu
  refine ⟨fs, hu, hk, ?_⟩
  unfold shT at hs
  split at hs
  ·cases hs
  ·split at hs
   ·split at hs
    ·rename_i h; cases hs; exact h
    ·cases hs
   ·cases hs
 ·cases hk
theorem run_findK {t : Nat} {h : Sh} (hk : keyOK P t = true) (hs : shT P t = some h) {q : AV} {es : List ME} {o : Option (Nat × AV)} (hf : Fnd h q es o) (w : World) :
 (Instr.findKey t (conc m q) (es.map (meC m))).run P w = .ok (o.map fun x => (x.1, conc m x.2)) w := by
 have e0 : (o.map fun x => (0 + x.1, conc m x.2)) = o.map fun x => (x.1, conc m x.2) := by cases o <;> simp
 rcases shT_cases hs with ⟨kd, rfl, hq⟩ | ⟨ks, rfl, hq⟩
 ·obtain ⟨_, d, hu⟩ := scal_agg hq
  rw [MapKept.run_findKey hu (findNow_ok (m := m) hq hu hf 0), e0]
 ·obtain ⟨fs, hu, _, _⟩ := keyOK_agg hk hs
  have this := findAsking_ok (m := m) hs hf w 0
  rw [e0] at this
  cases es with
  | nil => cases hf; simp [Instr.findKey, run_underlying hu, Instr.findNow]
  | cons x es =>
    simp only [List.map_cons] at this ⊢
    simp only [Instr.findKey, Sem.run_bind, run_underlying hu, Result.andThen_ok, Instr.findNow, Instr.sameNow]
    rw [this]
theorem run_checkScal {t : Nat} {kd : Kd} (hq : scalK P t = some kd) (em : Bool) (n : Nat) (v : Value) (w : World) : (Instr.checkKey em (n + 1) t v).run P w = .ok () w := by
 obtain ⟨_, d, hu⟩ := scal_agg hq
 unfold Instr.checkKey
 simp only [Sem.run_bind, run_underlying hu, Result.andThen_ok]
 unfold scalK at hq
 rw [hu] at hq
 cases d <;> simp only [reduceCtorEq] at hq <;> rfl
theorem run_checkK (em : Bool) (w : World) : ∀ (d n t : Nat) (v : AV), d ≤ n → kyT P d t = true → (∀ fs, P.underlying t = some (.struct fs) → ∃ l, v = .agg l ∧ l.length = szT P t) → (Instr.checkKey em n t (conc m v)).run P w = .ok () w
 | 0, _, _, _, _, h, _ => by cases h
 | d + 1, 0, _, _, hn, _, _ => by omega
 | d + 1, n + 1, t, v, hn, hk, hv => by
   unfold kyT at hk
   rw [Bool.or_eq_true] at hk
   rcases hk with hk | hk
   ·obtain ⟨kd, hkd⟩ := Option.isSome_iff_exists.1 hk
    exact run_checkScal hkd em n _ w
   ·split at hk
    ·rename_i fs hu
     obtain ⟨l, rfl, hlen⟩ := hv fs hu
     simp only [List.all_eq_true, Bool.and_eq_true, decide_eq_true_eq] at hk
     show (Instr.checkKey em (n + 1) t (.agg (concL m l).toArray)).run P w = _
     unfold Instr.checkKey
     simp only [Sem.run_bind, run_underlying hu, Result.andThen_ok]
     rw [← Array.forIn_toList]
     generalize fs.toList = fl at hk
     induction fl with
     | nil => rfl
     | cons f fl ih =>
       obtain ⟨⟨h1, h2⟩, h3⟩ := hk f (List.mem_cons_self)
       simp only [List.forIn_cons, Sem.run_bind]
       have ih' := ih (fun f hf' => hk f (List.mem_cons_of_mem _ hf'))
       have hpart : ∃ x, (part f.type (concL m l).toArray f.offset).run P w = .ok (conc m x) w ∧ ∀ fs, P.underlying f.type = some (.struct fs) → ∃ l, x = .agg l ∧ l.length = szT P f.type := by
        have hx : l[f.offset]? = some (l[f.offset]'(by omega)) := List.getElem?_eq_getElem _
        cases d with
        | zero => cases h1
        | succ d =>
          unfold kyT at h1
          rw [Bool.or_eq_true] at h1
          rcases h1 with h1 | h1
          ·obtain ⟨kd, hkd⟩ := Option.isSome_iff_exists.1 h1
           obtain ⟨ha, dd, hd⟩ := scal_agg hkd
           refine ⟨_, run_part1 hd ha hx w, fun fs hfs => ?_⟩
           unfold isAggT at ha
           rw [hfs] at ha
           cases ha
          ·split at h1
           ·rename_i fs2 hu2
            have ha : isAggT P f.type = true := by unfold isAggT; rw [hu2]
            refine ⟨_, run_partN hu2 ha w, fun fs hfs => ⟨_, rfl, ?_⟩⟩
            rw [List.length_take, List.length_drop]
            omega
           ·cases h1
       obtain ⟨x, hp, hx⟩ := hpart
       by_cases hn : f.name ≠ "_"
       ·simp only [hn, ne_eq, not_false_eq_true, if_true, Sem.run_bind, hp, Result.andThen_ok, run_checkK em w d n f.type x (by omega) h1 hx, Sem.run_pure]
        exact ih'
       ·have hn' : f.name = "_" := by simpa using hn
        simp only [hn', ne_eq, not_true_eq_false, if_false, Sem.run_pure, Result.andThen_ok]
        exact ih'
    ·cases hk
theorem run_check {t : Nat} {h : Sh} (hk : keyOK P t = true) (hs : shT P t = some h) {q : AV} (hl : ∀ ks, h = .agg ks → ∃ l, q = .agg l ∧ l.length = ks.length) (em : Bool) (w : World) : (Instr.checkKey em 10000 t (conc m q)).run P w = .ok () w := by
 rcases shT_cases hs with ⟨kd, rfl, hq⟩ | ⟨ks, rfl, hq⟩
 ·exact run_checkScal hq em 9999 _ w
 ·obtain ⟨fs, hu, hf, hn⟩ := keyOK_agg hk hs
  obtain ⟨l, rfl, hlen⟩ := hl ks rfl
  exact run_checkK em w 20 10000 t _ (by omega) hf fun fs' _ => ⟨l, rfl, by omega⟩
end Av
end
section
set_option linter.unusedSimpArgs false
namespace Av
open Go Go.RowKit
variable {P : Program} {e : Operand → Option AO} {ρ : Operand → Value} {m : M} {N : Pos → Prop} {L : List AV} {T : PT AV}
theorem map_of {ri : Nat → Option RInfo} {b : Pos} {w : World} {es : List ME} {clock birth : Nat} (h : LObj ri m N b w (.map es clock birth)) : (getObj (m.ad b)).run P w = .ok (.map (es.map (meC m)).toArray clock) w := MapKept.run_getObj_map h.1
theorem run_lookup0 {t kt el : Nat} {h : Sh} {z qv : AV} (hu : P.underlying t = some (.map kt el)) (hk : keyOK P kt = true) (hs : shT P kt = some h) (hz : ∀ w, (zeroValue el).run P w = .ok (conc m z) w)
 (hl : ∀ ks, h = .agg ks → ∃ l, qv = .agg l ∧ l.length = ks.length) (b : Bool) (w : World) :
 (Instr.lookup t (.map none) (conc m qv) b).run P w = .ok (if b then .tuple #[conc m z, .bool false] else conc m z) w := by
 have h1 := run_findK (m := m) hk hs (.nil (h := h) (q := qv)) w
 unfold Instr.lookup
 simp only [Sem.run_bind, run_underlying hu, Result.andThen_ok, Sem.run_pure, run_check hk hs hl]
 simp only [List.map_nil, Option.map_none] at h1
 rw [h1]
 simp only [Result.andThen_ok, Sem.run_bind, hz, Sem.run_pure]
theorem run_lookup1 {ri : Nat → Option RInfo} {t kt el : Nat} {h : Sh} {z qv : AV} (hu : P.underlying t = some (.map kt el)) (hk : keyOK P kt = true) (hs : shT P kt = some h) (hz : ∀ w, (zeroValue el).run P w = .ok (conc m z) w)
 (hl : ∀ ks, h = .agg ks → ∃ l, qv = .agg l ∧ l.length = ks.length) {b : Pos} {w : World} {es : List ME} {clock birth : Nat} (hb : LObj ri m N b w (.map es clock birth)) {o : Option (Nat × AV)} (hf : Fnd h qv es o) (ok : Bool) :
 (Instr.lookup t (.map (some (m.ad b))) (conc m qv) ok).run P w = .ok (o.elim (if ok then .tuple #[conc m z, .bool false] else conc m z) fun x => if ok then .tuple #[conc m x.2, .bool true] else conc m x.2) w := by
 have h1 := run_findK (m := m) hk hs hf w
 unfold Instr.lookup
 simp only [Sem.run_bind, run_underlying hu, Result.andThen_ok, Sem.run_pure, map_of hb, run_check hk hs hl]
 rw [h1]
 cases o with
 | none => simp only [Option.elim, Option.map_none, Result.andThen_ok, Sem.run_bind, hz, Sem.run_pure]
 | some x => simp only [Option.elim, Option.map_some, Result.andThen_ok, Sem.run_bind, Sem.run_pure]
theorem fnd_val {ri : Nat → Option RInfo} {b : Pos} {w : World} {es : List ME} {clock birth : Nat} (hb : LObj ri m N b w (.map es clock birth)) {h : Sh} {q : AV} {i : Nat} {v : AV} (hf : Fnd h q es (some (i, v))) : okV m N v := by
 obtain ⟨x, h1, _, h3, _⟩ := hf.at
 rw [← h3]
 exact (hb.2 x (List.mem_of_getElem? h1)).2
theorem snd_look1 {t kt el : Nat} {h : Sh} {z : AV} {x q : Operand} {x' q' : AO} (hu : P.underlying t = some (.map kt el)) (hk : keyOK P kt = true) (hs : shT P kt = some h) (hz : zeroV P el = some z) (hx : e x = some x') (hq : e q = some q') :
 VSnd P e (.lookup t x q false) (oLook1 h z x' q') := fun ri m N lim B H w ρ L T hR hg k r hh => by
 have hx1 := hg.at hx
 have hN := hg.ok hx
 obtain ⟨z1, z2⟩ := zeroV_ok hz m N
 obtain ⟨hh, hl⟩ := chk_ok hh
 rcases AV.unMap_ok hh with ⟨hp, hh⟩ | ⟨b, hp, hh⟩ | hh
 ·rw [hp] at hx1
  exact ⟨_, hh, z2, fun oper ho => by unfold execOp; rw [ho]; simp only [hx1, hg.at hq, conc, Sem.run_bind, run_lookup0 hu hk hs z1 hl, Result.andThen_ok, Sem.run_pure, Bool.false_eq_true, if_false]⟩
 ·rw [hp] at hx1 hN
  obtain ⟨es, clock, birth, h1, hh⟩ := mapOf_ok hh
  have hob := hR.obj b _ hN h1
  rcases findK_ok hh with ⟨i, v, h2, h3⟩ | ⟨h2, h3⟩
  ·exact ⟨_, h3, fnd_val hob h2, fun oper ho => by unfold execOp; rw [ho]; simp only [hx1, hg.at hq, conc, Sem.run_bind, run_lookup1 hu hk hs z1 hl hob h2, Option.elim, Result.andThen_ok, Sem.run_pure, Bool.false_eq_true, if_false]⟩
  ·exact ⟨_, h3, z2, fun oper ho => by unfold execOp; rw [ho]; simp only [hx1, hg.at hq, conc, Sem.run_bind, run_lookup1 hu hk hs z1 hl hob h2, Option.elim, Result.andThen_ok, Sem.run_pure, Bool.false_eq_true, if_false]⟩
 ·cases hh
theorem snd_look2 {t kt el : Nat} {h : Sh} {z : AV} {x q : Operand} {x' q' : AO} (hu : P.underlying t = some (.map kt el)) (hk : keyOK P kt = true) (hs : shT P kt = some h) (hz : zeroV P el = some z) (hx : e x = some x') (hq : e q = some q') :
 VSnd P e (.lookup t x q true) (oLook2 h z x' q') := fun ri m N lim B H w ρ L T hR hg k r hh => by
 have hx1 := hg.at hx
 have hN := hg.ok hx
 obtain ⟨z1, z2⟩ := zeroV_ok hz m N
 obtain ⟨hh, hl⟩ := chk_ok hh
 rcases AV.unMap_ok hh with ⟨hp, hh⟩ | ⟨b, hp, hh⟩ | hh
 ·rw [hp] at hx1
  exact ⟨_, hh, ⟨z2, trivial, trivial⟩, fun oper ho => by unfold execOp; rw [ho]; simp only [hx1, hg.at hq, conc, concL, Sem.run_bind, run_lookup0 hu hk hs z1 hl, Result.andThen_ok, Sem.run_pure, if_true]⟩
 ·rw [hp] at hx1 hN
  obtain ⟨es, clock, birth, h1, hh⟩ := mapOf_ok hh
  have hob := hR.obj b _ hN h1
  rcases findK_ok hh with ⟨i, v, h2, h3⟩ | ⟨h2, h3⟩
  ·exact ⟨_, h3, ⟨fnd_val hob h2, trivial, trivial⟩, fun oper ho => by unfold execOp; rw [ho]; simp only [hx1, hg.at hq, conc, concL, Sem.run_bind, run_lookup1 hu hk hs z1 hl hob h2, Option.elim, Result.andThen_ok, Sem.run_pure, if_true]⟩
  ·exact ⟨_, h3, ⟨z2, trivial, trivial⟩, fun oper ho => by unfold execOp; rw [ho]; simp only [hx1, hg.at hq, conc, concL, Sem.run_bind, run_lookup1 hu hk hs z1 hl hob h2, Option.elim, Result.andThen_ok, Sem.run_pure, if_true]⟩
 ·cases hh
theorem snd_lenM {t kt el : Nat} {x : Operand} {x' : AO} (hu : P.underlying t = some (.map kt el)) (hx : e x = some x') : VSnd P e (.call { callee := .builtin .len, args := #[x], argTypes := #[t] }) (oLenM x') := fun ri m N lim B H w ρ L T hR hg k r hh => by
 have hx1 := hg.at hx
 have hN := hg.ok hx
 rcases AV.unMap_ok hh with ⟨hp, hh⟩ | ⟨b, hp, hh⟩ | hh
 ·rw [hp] at hx1
  exact ⟨_, hh, trivial, fun oper ho => by unfold execOp; rw [ho]; simp [resolve, invoke, Go.builtin, Builtin.len_, hx1, conc, run_underlying hu, goInt]⟩
 ·rw [hp] at hx1 hN
  obtain ⟨es, clock, birth, h1, hh⟩ := mapOf_ok hh
  have hob := hR.obj b _ hN h1
  exact ⟨_, hh, trivial, fun oper ho => by unfold execOp; rw [ho]; simp [resolve, invoke, Go.builtin, Builtin.len_, hx1, conc, run_underlying hu, goInt, map_of hob]⟩
 ·cases hh
theorem snd_next {x : Operand} {x' : AO} (hx : e x = some x') : VSnd P e (.next x false) (oNext x') := fun ri m N lim B H w ρ L T hR hg k r hh => by
 have hx1 := hg.at hx
 have hN := hg.ok hx
 rcases AV.unPtr_ok hh with ⟨b, o, hp, hh⟩ | ⟨_, hh⟩
 ·rw [hp] at hx1 hN
  rcases bool_ok hh with ⟨h0, hh⟩ | ⟨_, hh⟩
  ·obtain ⟨mo, since, stepped, birth, h1, hh⟩ := iterOf_ok hh
   have ho : o = 0 := beq_of h0
   subst ho
   obtain ⟨i1, ⟨sn, i20, i2⟩, i3⟩ := hR.obj b _ hN h1
   have hget : (getObj (m.ad b)).run P w = .ok (.mapIter (mo.map m.ad) since sn.toArray since) w := by simp [getObj, Sem.run, i2]
   cases mo with
   | none =>
     refine ⟨_, hh, ⟨trivial, trivial⟩, fun oper ho => ?_⟩
     unfold execOp
     rw [ho]
     simp [hx1, conc, concL, i1, Instr.next, hget]
   | some c =>
     obtain ⟨es, clock, birth', h2, hh⟩ := mapOf_ok hh
     cases es with
     | nil =>
       have hob := hR.obj c _ (i3 c rfl) h2
       refine ⟨_, hh, ⟨trivial, trivial⟩, fun oper ho => ?_⟩
       unfold execOp
       rw [ho]
       simp [hx1, conc, concL, i1, Instr.next, hget, map_of hob, Question.forced]
     | cons _ _ => cases hh
  ·cases hh
 ·cases hh
/-! ### all of them -/
theorem cmpEq_snd {t ty : Nat} {x y : Operand} : (∀ {o : VOp}, cmpEq P e false t x y = some o → VSnd P e (.binOp .eql t x y ty) o) ∧ ∀ {o : VOp}, cmpEq P e true t x y = some o → VSnd P e (.binOp .neq t x y ty) o := by
 constructor <;> intro o h <;> unfold cmpEq at h
 ·split at h
  ·rename_i n hn
   split at h
   ·rename_i hc
    obtain ⟨x', hx, rfl⟩ := Option.map_eq_some_iff.1 h
    exact (snd_nilR hn hc hx).1
   ·split at h
    ·rename_i hc
     obtain ⟨y', hy, rfl⟩ := Option.map_eq_some_iff.1 h
     exact (snd_nilL hn hc hy).1
    ·cases h
  ·split at h
   ·rename_i q a b h1 h2 h3
    split at h
    ·cases h
    ·rename_i hgd
     cases h
     exact snd_eq h1 (by simpa using hgd) h2 h3
   ·cases h
 ·split at h
  ·rename_i n hn
   split at h
   ·rename_i hc
    obtain ⟨x', hx, rfl⟩ := Option.map_eq_some_iff.1 h
    exact (snd_nilR hn hc hx).2
   ·split at h
    ·rename_i hc
     obtain ⟨y', hy, rfl⟩ := Option.map_eq_some_iff.1 h
     exact (snd_nilL hn hc hy).2
    ·cases h
  ·split at h
   ·rename_i q a b h1 h2 h3
    split at h
    ·cases h
    ·rename_i hgd
     cases h
     exact snd_ne h1 (by simpa using hgd) h2 h3
   ·cases h
theorem cmpBin_snd {op : BinOp} {t ty : Nat} {x y : Operand} {x' y' : AO} {o : VOp} (h : cmpBin op x' y' = some o) (hx : e x = some x') (hy : e y = some y') : VSnd P e (.binOp op t x y ty) o := by
 unfold cmpBin at h
 split at h <;> cases h
 ·exact snd_add hx hy
 ·exact snd_sub hx hy
 ·exact snd_mul hx hy
 ·exact snd_quo hx hy
 ·exact snd_rem hx hy
 ·exact snd_cmp (.inl ⟨rfl, rfl⟩) hx hy
 ·exact snd_cmp (.inr (.inl ⟨rfl, rfl⟩)) hx hy
 ·exact snd_cmp (.inr (.inr (.inl ⟨rfl, rfl⟩))) hx hy
 ·exact snd_cmp (.inr (.inr (.inr ⟨rfl, rfl⟩))) hx hy
theorem one_arr {α : Type} {a : Array α} {x : α} (h : a.toList = [x]) : a = #[x] := by apply Array.ext'; simp [h]
theorem two_arr {α : Type} {a : Array α} {x y : α} (h : a.toList = [x, y]) : a = #[x, y] := by apply Array.ext'; simp [h]
theorem bind2 {α β : Type} {a : Option α} {f : α → β} {o : β} (h : a.map f = some o) : ∃ x, a = some x ∧ f x = o := Option.map_eq_some_iff.1 h
theorem agg_of_struct {t : Nat} {d : TypeDesc} (hu : P.underlying t = some d) : isAggT P t = true ∨ isAggT P t = false := by cases isAggT P t <;> simp
theorem opdo_none {x : Option Operand} (h : opdo e x = some none) : x = none := by
 cases x with
 | none => rfl
 | some x => simp [opdo] at h
theorem hmh {mx hi : Option AO} (h : ¬ (mx.isSome = true ∧ hi.isNone = true)) : mx ≠ none → hi ≠ none := by
 intro h1 h2
 subst h2
 cases mx with
 | none => exact h1 rfl
 | some _ => exact h ⟨rfl, rfl⟩
theorem cmpV_snd {op : Op} {o : VOp} (h : cmpV P e op = some o) : VSnd P e op o := by
 unfold cmpV at h
 split at h
 ·obtain ⟨x', hx, rfl⟩ := bind2 h; exact snd_mv hx
 ·obtain ⟨x', hx, rfl⟩ := bind2 h; exact snd_as hx
 ·split at h
  ·rename_i h1 h2 h3; cases h; exact snd_pick h1 h2 h3
  ·cases h
 ·split at h
  ·rename_i hu hz
   split at h
   ·rename_i hi; obtain ⟨ps', hp, rfl⟩ := bind2 h; exact snd_buildS hu hz hi hp
   ·cases h
  ·rename_i hu hz
   split at h
   ·rename_i hi; obtain ⟨ps', hp, rfl⟩ := bind2 h; exact snd_buildA hu hz hi hp
   ·cases h
  ·cases h
 ·split at h
  ·cases h
  ·rename_i d hd
   obtain ⟨x', hx, rfl⟩ := bind2 h
   rcases agg_of_struct hd with ha | ha
   ·rw [if_pos ha]; exact snd_loadN hd ha hx
   ·rw [if_neg (by simp [ha])]; exact snd_load1 hd ha hx
 ·obtain ⟨x', hx, rfl⟩ := bind2 h; exact snd_nil hx
 ·split at h
  ·exact cmpEq_snd.1 h
  ·exact cmpEq_snd.2 h
  ·split at h
   ·rename_i h1 h2; exact cmpBin_snd h h1 h2
   ·cases h
 ·split at h
  ·obtain ⟨x', hx, rfl⟩ := bind2 h; exact snd_not hx
  ·obtain ⟨x', hx, rfl⟩ := bind2 h; exact snd_neg hx
  ·cases h
 ·split at h
  ·rename_i h1 h2; obtain ⟨x', hx, rfl⟩ := bind2 h; exact snd_conv h1 h2 hx
  ·rename_i h1 h2; obtain ⟨x', hx, rfl⟩ := bind2 h; exact snd_same h1 h2 hx
  ·cases h
 ·split at h
  ·cases h
  ·rename_i d hne hd
   obtain ⟨x', hx, rfl⟩ := bind2 h
   exact snd_mkI hd (fun ms hd' => hne ms (by rw [hd'])) hx
  ·cases h
 ·split at h
  ·rename_i h1 h2; cases h; exact snd_mkFn h1 h2
  ·cases h
 ·split at h
  ·rename_i hu hx hlo hhi hmx
   split at h
   ·cases h
   ·rename_i hc
    cases h
    have hc' := not_or.1 hc
    exact snd_slc hu hc'.1 hx hlo hhi hmx (hmh hc'.2)
  ·rename_i hu hx hlo hhi hmx
   cases h
   rw [opdo_none hmx]
   exact snd_slcS hu hx hlo hhi
  ·rename_i hu hx hlo hhi hmx
   split at h
   ·cases h
   ·rename_i hc
    cases h
    have hc' := not_or.1 hc
    exact snd_slcA hu hc'.1 hx hlo hhi hmx (hmh hc'.2)
  ·cases h
 ·split at h
  ·rename_i hu
   split at h
   ·rename_i hf
    split at h
    ·cases h
    ·rename_i hz; obtain ⟨x', hx, rfl⟩ := bind2 h; exact snd_fad hu hf hz hx
   ·cases h
  ·cases h
 ·split at h
  ·rename_i hu
   split at h
   ·rename_i hf
    split at h
    ·cases h
    ·rename_i d hd
     obtain ⟨x', hx, rfl⟩ := bind2 h
     rcases agg_of_struct hd with ha | ha
     ·rw [if_pos ha]; exact snd_fldN hu hf hd ha hx
     ·rw [if_neg (by simp [ha])]; exact snd_fld1 hu hf hd ha hx
   ·cases h
  ·cases h
 ·split at h
  ·rename_i hu hx hi
   split at h
   ·cases h
   ·rename_i hz; cases h; exact snd_iad hu hz hx hi
  ·rename_i hu hx hi
   split at h
   ·cases h
   ·rename_i hz; cases h; exact snd_iadA hu hz hx hi
  ·cases h
 ·split at h
  ·rename_i hu hx hi; cases h; exact snd_idS hu hx hi
  ·rename_i hu hx hi
   split at h
   ·cases h
   ·rename_i hz
    cases h
    have hz' := not_or.1 hz
    obtain ⟨d, hd⟩ := Option.ne_none_iff_exists'.1 (by simpa using hz'.2)
    exact snd_idA hu hz'.1 hd hx hi
  ·cases h
 ·split at h
  ·rename_i hu
   split at h
   ·rename_i hz hm hq hs
    split at h
    ·rename_i hk
     cases h
     cases ‹Bool›
     ·exact snd_look1 hu hk hs hz hm hq
     ·exact snd_look2 hu hk hs hz hm hq
    ·cases h
   ·cases h
  ·cases h
 ·obtain ⟨x', hx, rfl⟩ := bind2 h; exact snd_ext hx
 ·obtain ⟨x', hx, rfl⟩ := bind2 h; exact snd_next hx
 ·split at h
  ·rename_i ha ht
   have := one_arr ha
   have := one_arr ht
   subst_vars
   split at h
   ·rename_i hu; obtain ⟨x', hx, rfl⟩ := bind2 h; exact snd_len hu hx
   ·rename_i hu; obtain ⟨x', hx, rfl⟩ := bind2 h; exact snd_lenS hu hx
   ·rename_i hu; obtain ⟨x', hx, rfl⟩ := bind2 h; exact snd_lenM hu hx
   ·cases h
  ·rename_i ha ht
   have := one_arr ha
   have := one_arr ht
   subst_vars
   split at h
   ·rename_i hu; obtain ⟨x', hx, rfl⟩ := bind2 h; exact snd_cap hu hx
   ·cases h
  ·rename_i ha
   have := two_arr ha
   subst_vars
   split at h
   ·rename_i h1 h2; cases h; exact snd_min h1 h2
   ·cases h
  ·rename_i ha
   have := two_arr ha
   subst_vars
   split at h
   ·rename_i h1 h2; cases h; exact snd_max h1 h2
   ·cases h
  ·cases h
 ·cases h
end Av
end
section
set_option linter.unusedSimpArgs false
namespace Av
open Go Go.RowKit
structure Ext (H H' : AH) : Prop where
 back : ∀ b o', PT.get b H'.bl = some o' → (H.nx.num ≤ b.num ∧ H.cnt ≤ o'.birth) ∨ ∃ o, PT.get b H.bl = some o ∧ o.birth = o'.birth
 fams : ∀ r ids', PT.get r H'.fam = some ids' → ∀ x ∈ ids', ∀ y ∈ ids', x.num < H.nx.num → y.num < H.nx.num → x = y ∨ ∃ ids, PT.get r H.fam = some ids ∧ x ∈ ids ∧ y ∈ ids
theorem Ext.refl (H : AH) : Ext H H := ⟨fun b o' h => .inr ⟨o', h, rfl⟩, fun r ids h x hx y hy _ _ => .inr ⟨ids, h, hx, hy⟩⟩
theorem Ext.trans {H H' H'' : AH} (h : Ext H H') (h' : Ext H' H'') (hn : H.nx.num ≤ H'.nx.num) (hc : H.cnt ≤ H'.cnt) : Ext H H'' := by
 refine ⟨fun b o'' hb => ?_, fun r ids'' hr x hx y hy hxn hyn => ?_⟩
 ·rcases h'.back b o'' hb with ⟨h1, h2⟩ | ⟨o', h1, h2⟩
  ·exact .inl ⟨Nat.le_trans hn h1, Nat.le_trans hc h2⟩
  ·rcases h.back b o' h1 with ⟨h3, h4⟩ | ⟨o, h3, h4⟩
   ·exact .inl ⟨h3, by rw [← h2]; exact h4⟩
   ·exact .inr ⟨o, h3, h4.trans h2⟩
 ·rcases h'.fams r ids'' hr x hx y hy (Nat.lt_of_lt_of_le hxn hn) (Nat.lt_of_lt_of_le hyn hn) with h1 | ⟨ids', h1, h2, h3⟩
  ·exact .inl h1
  ·exact h.fams r ids' h1 x h2 y h3 hxn hyn
theorem Ext.fresh (H : AH) {o : AObj} (hb : o.birth = H.cnt) : Ext H (H.fresh o) := by
 refine ⟨fun b o' h => ?_, fun r ids h x hx y hy _ _ => .inr ⟨ids, by rw [fresh_fam] at h; exact h, hx, hy⟩⟩
 rw [fresh_bl] at h
 split at h
 ·rename_i e; cases h; subst e; exact .inl ⟨Nat.le_refl _, by rw [hb]; exact Nat.le_refl _⟩
 ·exact .inr ⟨o', h, rfl⟩
theorem Ext.set (H : AH) {b : Pos} {o : AObj} (h : PT.get b H.bl = some o) {x : Option AObj} (hx : ∀ o', x = some o' → o'.birth = o.birth) : Ext H (H.setB b x) := by
 refine ⟨fun b' o' h' => ?_, fun r ids h x hx y hy _ _ => .inr ⟨ids, by rw [setB_fam] at h; exact h, hx, hy⟩⟩
 rw [setB_bl] at h'
 split at h'
 ·rename_i e; subst e; exact .inr ⟨o, h, (hx o' h').symm⟩
 ·exact .inr ⟨o', h', rfl⟩
theorem Ext.wrote {H : AH} {b : Pos} {o : Nat} {vs l : List AV} {ty : Nat} {root : Pos} {ab g birth : Nat} (hb : PT.get b H.bl = some (.cells l ty root ab g birth)) : Ext H (wrote H b o vs l ty root ab g birth) := by
 refine ⟨fun x ox hx => ?_, fun r ids h x hx y hy _ _ => .inr ⟨ids, by rw [wrote_fam] at h; exact h, hx, hy⟩⟩
 obtain ⟨oy, h1, h2, _⟩ := wrote_old hb hx
 exact .inr ⟨oy, h1, h2⟩
structure Step (ri : Nat → Option RInfo) (m : M) (N : Pos → Prop) (lim B : Nat) (H : AH) (w : World) (m' : M) (N' : Pos → Prop) (H' : AH) (w' : World) : Prop where
 rel : Rel ri m' N' N' lim B H' w'
 ag : Agree N m m'
 sub : ∀ x, N x → N' x
 new : ∀ x, N' x → N x ∨ (H.nx.num ≤ x.num ∧ B ≤ m'.ad x)
 below : Below B w w'
 keep : Keep lim H H'
 nx : H.nx.num ≤ H'.nx.num
 cnt : H.cnt ≤ H'.cnt
 all : ∀ x : Pos, H.nx.num ≤ x.num → x.num < H'.nx.num → N' x
 ext : Ext H H'
section
variable {ri : Nat → Option RInfo} {m m' m'' : M} {N N' N'' : Pos → Prop} {lim B : Nat} {H H' H'' : AH} {w w' w'' : World}
theorem Step.refl (h : Rel ri m N N lim B H w) : Step ri m N lim B H w m N H w :=
 ⟨h, Agree.refl _ _, fun _ x => x, fun _ x => .inl x, Below.refl _ _, fun _ _ x _ => x, Nat.le_refl _, Nat.le_refl _, fun x h1 h2 => absurd h2 (Nat.not_lt.2 h1), Ext.refl _⟩
theorem Step.trans (h : Step ri m N lim B H w m' N' H' w') (h' : Step ri m' N' lim B H' w' m'' N'' H'' w'') : Step ri m N lim B H w m'' N'' H'' w'' :=
 ⟨h'.rel, h.ag.trans h'.ag h.sub, fun x hx => h'.sub x (h.sub x hx), fun x hx => by
   rcases h'.new x hx with h1 | ⟨h1, h2⟩
   ·rcases h.new x h1 with h3 | ⟨h3, h4⟩
    ·exact .inl h3
    ·exact .inr ⟨h3, by rw [h'.ag.ad x h1]; exact h4⟩
   ·exact .inr ⟨Nat.le_trans h.nx h1, h2⟩, h.below.trans h'.below, fun b o hb ho => h'.keep b o (h.keep b o hb ho) ho, Nat.le_trans h.nx h'.nx, Nat.le_trans h.cnt h'.cnt, fun x h1 h2 => by
   by_cases h3 : x.num < H'.nx.num
   ·exact h'.sub x (h.all x h1 h3)
   ·exact h'.all x (Nat.not_lt.1 h3) h2, h.ext.trans h'.ext h.nx h.cnt⟩
theorem Step.val (h : Step ri m N lim B H w m' N' H' w') {v : AV} (hv : okV m N v) : conc m' v = conc m v ∧ okV m' N' v := ⟨conc_agree h.ag v hv, okV_agree h.ag h.sub v hv⟩
theorem Rel.drew (h : Rel ri m N N lim B H w) : Rel ri m N N lim B H w.drew := h.world (fun _ _ _ _ => rfl) h.base
theorem Step.drew (h : Rel ri m N N lim B H w) : Step ri m N lim B H w m N H w.drew :=
 ⟨h.drew, Agree.refl _ _, fun _ x => x, fun _ x => .inl x, (Below.refl _ _).drew, fun _ _ x _ => x, Nat.le_refl _, Nat.le_refl _, fun x h1 h2 => absurd h2 (Nat.not_lt.2 h1), Ext.refl _⟩
theorem Step.fresh (h : Rel ri m N N lim B H w) {o : AObj} {ob : Obj} {c : Nat} (hb : o.birth = H.cnt) (hr : ∀ l ty root ab g birth, o = .cells l ty root ab g birth → root = H.nx)
 (ho : LObj ri (m.set H.nx w.heap.size 0 c) (more N H.nx) H.nx (w.alloc ob) o) :
 Step ri m N lim B H w (m.set H.nx w.heap.size 0 c) (more N H.nx) (H.fresh o) (w.alloc ob) := by
 have hrel := h.fresh hb hr ho
 refine ⟨hrel, Agree.set h.nx m _ _ _, fun x hx => .inl hx, fun x hx => ?_, (Below.refl _ _).alloc h.base _, Keep.fresh h.wf o lim, ?_, ?_, fun x h1 h2 => ?_, Ext.fresh H hb⟩
 ·rcases hx with hx | rfl
  ·exact .inl hx
  ·exact .inr ⟨Nat.le_refl _, by rw [M.set_ad]; exact h.base⟩
 ·rw [fresh_nx, Pos.num_succ]; omega
 ·rw [fresh_cnt]; omega
 ·rw [fresh_nx, Pos.num_succ] at h2
  exact .inr (Pos.num_inj (by omega))
theorem Step.row (h : Rel ri m N N lim B H w) {l : List AV} {ty g c : Nat} {cs : Array Value} {fz : Nat × Nat} (hcs : ∀ (i : Nat) (x : AV), l[i]? = some x → cs[i]? = some (conc m x)) (hl : ∀ x ∈ l, sc x = true ∧ okV m N x)
 (hfz : ∀ i, i < cs.size → ¬ (fz.1 ≤ i ∧ i < fz.2)) (hg : g ≠ 0 → c * g ≤ cs.size ∧ l.length ≤ c * g) :
 Step ri m N lim B H w (m.set H.nx w.heap.size 0 c) (more N H.nx) (newCells H l ty g) (w.alloc (.cells cs ty fz)) := by
 have ha : Agree N m (m.set H.nx w.heap.size 0 c) := Agree.set h.nx m _ _ _
 rw [newCells_eq]
 refine Step.fresh h rfl (fun _ _ _ _ _ _ e => by cases e; rfl) ⟨cs, fz, ?_, fun i x hx => ?_, fun x hx => ⟨(hl x hx).1, okV_agree ha (fun _ y => .inl y) x (hl x hx).2⟩, hfz, fun hg' => ?_⟩
 ·rw [M.set_ad]; exact alloc_last w _
 ·rw [M.set_off, Nat.zero_add, hcs i x hx, conc_agree ha x (hl x (List.mem_of_getElem? hx)).2]
 ·rw [M.set_off, M.set_cap, Nat.zero_add]; exact hg hg'
theorem Step.wrote (h : Rel ri m N N lim B H w) {b : Pos} {o : Nat} {vs l : List AV} {ty : Nat} {root : Pos} {ab g birth : Nat} (hD : N b) (hb : PT.get b H.bl = some (.cells l ty root ab g birth)) (hl : lim ≤ birth) (ho : o + vs.length ≤ l.length) (hv : ∀ x ∈ vs, sc x = true ∧ okV m N x) :
 Step ri m N lim B H w m N (wrote H b o vs l ty root ab g birth) (w.setCells (m.ad b) (m.off b + o) (concL m vs)) :=
 ⟨h.wrote hD hb ho hv, Agree.refl _ _, fun _ x => x, fun _ x => .inl x, setCells_below _ _ _ _ (h.perm b _ hD hb hl), Keep.wrote h.wf hb hl, by rw [wrote_nx]; exact Nat.le_refl _, by rw [wrote_cnt]; exact Nat.le_refl _, fun x h1 h2 => absurd (by rw [wrote_nx] at h2; exact h2) (Nat.not_lt.2 h1), Ext.wrote hb⟩
theorem Below.put {r : Nat} {o : Obj} (hr : B ≤ r) : Below B w (w.putObj r o) := ⟨rfl, rfl, rfl, by simp [World.putObj], fun k hk => World.putObj_heap_other (by omega)⟩
def AObj.isC : AObj → Bool
 | .cells .. => true
 | _ => false
theorem Rel.put {D : Pos → Prop} (h : Rel ri m N D lim B H w) {b : Pos} {o o' : AObj} {ob : Obj} (hD : D b) (ho : PT.get b H.bl = some o) (hc : o.isC = false) (hc' : o'.isC = false) (hbi : o'.birth = o.birth) (hob : LObj ri m N b (w.putObj (m.ad b) ob) o') :
 Rel ri m N D lim B (H.setB b (some o')) (w.putObj (m.ad b) ob) := by
 have hne : ∀ x ox, D x → PT.get x H.bl = some ox → x ≠ b → m.ad x ≠ m.ad b := fun x ox hx hox hxb had => by
  obtain ⟨l, ty, root, ab, g, birth, l', ty', ab', g', birth', f1, f2, _⟩ := h.apart x b ox o hx hD hox ho hxb had
  rw [ho] at f2
  cases f2
  cases hc
 refine ⟨fun x hx => by rw [setB_nx]; exact h.lt x hx, h.sub, fun x ox hx hox => ?_, fun x ox hx hox hl => ?_, fun x y ox oy hx hy hox hoy hxy had => ?_, ⟨fun x ox hx => ?_, fun x l ty root ab g birth hx => ?_, fun r ids hi => ?_, fun r ids hi x hx => ⟨?_, fun ox ho => ?_⟩, fun r ids hi x hx y hy ox oy ho hoy hl => ?_⟩, by simpa [World.putObj] using h.base⟩
 ·rw [setB_bl] at hox
  split at hox
  ·rename_i e; subst e; cases hox; exact hob
  ·rename_i e; exact (h.obj x ox hx hox).keep (h.sub x hx) (Agree.refl _ _) (fun _ y => y) (World.putObj_heap_other (hne x ox hx hox e))
 ·rw [setB_bl] at hox
  split at hox
  ·rename_i e; subst e; cases hox; exact h.perm x _ hx ho (by rw [← hbi]; exact hl)
  ·exact h.perm x ox hx hox hl
 ·rw [setB_bl] at hox hoy
  split at hox
  ·rename_i e
   subst e
   split at hoy
   ·rename_i e; exact absurd e.symm hxy
   ·exact absurd had.symm (hne y oy hy hoy (fun e => hxy e.symm))
  ·rename_i e
   split at hoy
   ·rename_i e'; subst e'; exact absurd had (hne x ox hx hox e)
   ·rename_i e'
    obtain ⟨l, ty, root, ab, g, birth, l', ty', ab', g', birth', f1, f2, f3⟩ := h.apart x y ox oy hx hy hox hoy hxy had
    exact ⟨l, ty, root, ab, g, birth, l', ty', ab', g', birth', by rw [setB_bl, if_neg e]; exact f1, by rw [setB_bl, if_neg e']; exact f2, f3⟩
 ·rw [setB_nx, setB_cnt]
  rw [setB_bl] at hx
  split at hx
  ·rename_i e; subst e; cases hx; rw [hbi]; exact h.wf.lt x o ho
  ·exact h.wf.lt x ox hx
 ·rw [setB_fam]
  rw [setB_bl] at hx
  split at hx
  ·rename_i e; subst e; cases hx; cases hc'
  ·exact h.wf.root x l ty root ab g birth hx
 ·rw [setB_fam] at hi; exact h.wf.rootIn r ids hi
 ·rw [setB_fam] at hi; rw [setB_nx]; exact (h.wf.mem r ids hi x hx).1
 ·rw [setB_fam] at hi
  rw [setB_bl] at ho
  split at ho
  ·rename_i e
   subst e
   obtain ⟨l, ty, ab, g, birth, e⟩ := (h.wf.mem r ids hi x hx).2 _ ‹PT.get x H.bl = some o›
   subst e
   cases hc
  ·exact (h.wf.mem r ids hi x hx).2 ox ho
 ·rw [setB_fam] at hi
  have nb : ∀ z oz, z ∈ ids → PT.get z (H.setB b (some o')).bl = some oz → PT.get z H.bl = some oz := fun z oz hz hoz => by
   rw [setB_bl] at hoz
   split at hoz
   ·rename_i e
    subst e
    obtain ⟨l, ty, ab, g, birth, e⟩ := (h.wf.mem r ids hi z hz).2 _ ‹PT.get z H.bl = some o›
    subst e
    cases hc
   ·exact hoz
  exact h.wf.old r ids hi x hx y hy ox oy (nb x ox hx ho) (nb y oy hy hoy) hl
theorem Step.put (h : Rel ri m N N lim B H w) {b : Pos} {o o' : AObj} {ob : Obj} (hD : N b) (ho : PT.get b H.bl = some o) (hc : o.isC = false) (hc' : o'.isC = false) (hbi : o'.birth = o.birth) (hl : lim ≤ o.birth) (hob : LObj ri m N b (w.putObj (m.ad b) ob) o') :
 Step ri m N lim B H w m N (H.setB b (some o')) (w.putObj (m.ad b) ob) :=
 ⟨h.put hD ho hc hc' hbi hob, Agree.refl _ _, fun _ x => x, fun _ x => .inl x, Below.put (h.perm b o hD ho hl), fun x ox hx hbx => by
   rw [setB_bl]
   split
   ·rename_i e; subst e; rw [ho] at hx; cases hx; omega
   ·exact hx, by rw [setB_nx]; exact Nat.le_refl _, by rw [setB_cnt]; exact Nat.le_refl _, fun x h1 h2 => absurd (by rw [setB_nx] at h2; exact h2) (Nat.not_lt.2 h1), Ext.set H ho (fun o2 e => by cases e; exact hbi)⟩
theorem Rel.drop {D : Pos → Prop} (h : Rel ri m N D lim B H w) (b : Pos) : Rel ri m N D lim B (H.setB b none) w := by
 have old : ∀ x ox, PT.get x (H.setB b none).bl = some ox → PT.get x H.bl = some ox ∧ x ≠ b := fun x ox hx => by
  rw [setB_bl] at hx
  split at hx
  ·cases hx
  ·rename_i e; exact ⟨hx, e⟩
 refine ⟨fun x hx => by rw [setB_nx]; exact h.lt x hx, h.sub, fun x ox hx hox => h.obj x ox hx (old x ox hox).1, fun x ox hx hox hl => h.perm x ox hx (old x ox hox).1 hl, fun x y ox oy hx hy hox hoy hxy had => ?_, ⟨fun x ox hx => ?_, fun x l ty root ab g birth hx => ?_, fun r ids hi => ?_, fun r ids hi x hx => ⟨?_, fun ox ho => ?_⟩, fun r ids hi x hx y hy ox oy ho hoy hl => ?_⟩, h.base⟩
 ·obtain ⟨l, ty, root, ab, g, birth, l', ty', ab', g', birth', f1, f2, f3⟩ := h.apart x y ox oy hx hy (old x ox hox).1 (old y oy hoy).1 hxy had
  exact ⟨l, ty, root, ab, g, birth, l', ty', ab', g', birth', by rw [setB_bl, if_neg (old x ox hox).2]; exact f1, by rw [setB_bl, if_neg (old y oy hoy).2]; exact f2, f3⟩
 ·rw [setB_nx, setB_cnt]; exact h.wf.lt x ox (old x ox hx).1
 ·rw [setB_fam]; exact h.wf.root x l ty root ab g birth (old x _ hx).1
 ·rw [setB_fam] at hi; exact h.wf.rootIn r ids hi
 ·rw [setB_fam] at hi; rw [setB_nx]; exact (h.wf.mem r ids hi x hx).1
 ·rw [setB_fam] at hi; exact (h.wf.mem r ids hi x hx).2 ox (old x ox ho).1
 ·rw [setB_fam] at hi; exact h.wf.old r ids hi x hx y hy ox oy (old x ox ho).1 (old y oy hoy).1 hl
end
def HSnd (P : Program) (e : Operand → Option AO) (op : Op) (o : HOp) : Prop :=
 ∀ (ri : Nat → Option RInfo) (m : M) (N : Pos → Prop) (lim B : Nat) (H : AH) (w : World) (ρ : Operand → Value) (L : List AV) (T : PT AV), Rel ri m N N lim B H w → Good e ρ m N L T → ∀ (k : AV → AH → R Out) (r : Out), o lim L T H k = .ok r →
  ∃ v H' m' N' w', k v H' = .ok r ∧ Step ri m N lim B H w m' N' H' w' ∧ okV m' N' v ∧ ∀ oper : Oper, oper.op = op → (execOp ρ oper).run P w = .ok (.value (conc m' v)) w' ∨ (v = undf ∧ (execOp ρ oper).run P w = .ok .skip w')
variable {P : Program} {e : Operand → Option AO} {ρ : Operand → Value} {m : M} {N : Pos → Prop} {L : List AV} {T : PT AV}
theorem AV.notTup_ok {β : Type} {v : AV} {c : List Nat} {k : R β} {r : β} (h : v.unTup (fun _ => .er c) k = .ok r) : (∀ l, v ≠ .tup l) ∧ k = .ok r := by
 cases v <;> first | (cases h; done) | exact ⟨by simp, h⟩
theorem snd_alloc {t : Nat} {z : List AV} (hz : zeroC P t = some z) : HSnd P e (.alloc t) (oAlloc z t) := fun ri m N lim B H w ρ L T hR hg k r h => by
 obtain ⟨v, z1, z2, z3⟩ := zeroC_ok hz m N
 refine ⟨_, _, _, _, _, h, Step.row hR (c := 0) (cs := v.cells) (fz := (0, 0)) (fun i x hx => ?_) z3 (fun i _ => by simp) (fun hg => absurd rfl hg), .inr rfl, fun oper ho => .inl ?_⟩
 ·rw [z2, List.getElem?_toArray, concL_get, hx]; rfl
 ·unfold execOp
  rw [ho]
  simp [Instr.alloc, z1, newVar, newRow, conc, M.set_ad, M.set_off]
theorem snd_box {t : Nat} {x : Operand} {x' : AO} (hx : e x = some x') : HSnd P e (.box t x) (oBox t x') := fun ri m N lim B H w ρ L T hR hg k r h => by
 obtain ⟨ht, h⟩ := AV.notTup_ok h
 have hc := cellsOf_ok (hg.ok hx)
 have hcc : (ρ x).cells = (concL m (cellsOf (x'.ev L T))).toArray := by rw [hg.at hx]; exact conc_cells m _ ht
 refine ⟨_, _, _, _, _, h, Step.row hR (c := 0) (cs := (ρ x).cells) (fz := (0, 0)) (fun i y hy => ?_) hc (fun i _ => by simp) (fun hg => absurd rfl hg), .inr rfl, fun oper ho => .inl ?_⟩
 ·rw [hcc, List.getElem?_toArray, concL_get, hy]; rfl
 ·unfold execOp
  rw [ho]
  simp [Instr.box, newVar, newRow, conc, M.set_ad, M.set_off]
end Av
end
section
set_option linter.unusedSimpArgs false
namespace Av
open Go Go.RowKit
variable {P : Program} {e : Operand → Option AO} {ρ : Operand → Value} {m : M} {N : Pos → Prop} {L : List AV} {T : PT AV}
/-! ### zeros -/
theorem lrep_len (z : List AV) : ∀ n, (lrep z n).length = n * z.length
 | 0 => by rw [Nat.zero_mul]; rfl
 | n + 1 => by show (z ++ lrep z n).length = _; rw [List.length_append, lrep_len z n, Nat.succ_mul]; omega
theorem lrep_get (z : List AV) : ∀ n i, i < n * z.length → (lrep z n)[i]? = z[i % z.length]?
 | 0, i, h => by omega
 | n + 1, i, h => by
   show (z ++ lrep z n)[i]? = _
   by_cases hi : i < z.length
   ·rw [List.getElem?_append_left hi, Nat.mod_eq_of_lt hi]
   ·rw [List.getElem?_append_right (by omega), lrep_get z n _ (by rw [Nat.succ_mul] at h; omega), ← Nat.mod_eq_sub_mod (by omega)]
theorem lrep_ok {z : List AV} (hz : ∀ x ∈ z, sc x = true ∧ okV m N x) (n : Nat) : ∀ x ∈ lrep z n, sc x = true ∧ okV m N x := by
 induction n with
 | zero => intro x hx; cases hx
 | succ n ih =>
   intro x hx
   rcases List.mem_append.1 (show x ∈ z ++ lrep z n from hx) with hx | hx
   ·exact hz x hx
   ·exact ih x hx
theorem zeros_eq {z : List AV} (n : Nat) : (Array.range (n * z.length)).map (fun i => (concL m z).toArray[i % (concL m z).toArray.size]!) = (concL m (lrep z n)).toArray := by
 have hs : (concL m z).toArray.size = z.length := by simp [concL_eq]
 apply Array.ext_getElem?
 intro i
 rw [show (concL m (lrep z n)).toArray[i]? = (lrep z n)[i]?.map (conc m) from by rw [List.getElem?_toArray, concL_get]]
 by_cases hi : i < n * z.length
 ·have hz : 0 < z.length := by rcases Nat.eq_zero_or_pos z.length with h | h; · rw [h] at hi; omega
                               ·exact h
  have hm : i % z.length < z.length := Nat.mod_lt _ hz
  rw [lrep_get z n i hi, Array.getElem?_map, Array.getElem?_range, if_pos hi, hs]
  simp only [Option.map_some]
  rw [List.getElem?_eq_getElem hm, Option.map_some, getElem!_pos _ _ (by rw [hs]; exact hm)]
  simp [concL_eq]
 ·have : (lrep z n)[i]? = none := by rw [List.getElem?_eq_none]; rw [lrep_len]; omega
  rw [this, Array.getElem?_eq_none (by simp; omega)]
  rfl
theorem zeros_eq' {z : List AV} {s : Nat} (hs : z.length = s) (n : Nat) : (Array.range (n * s)).map (fun i => (concL m z).toArray[i % (concL m z).toArray.size]!) = (concL m (lrep z n)).toArray := by
 subst hs; exact zeros_eq n
theorem conc_get (l : List AV) : ∀ (i : Nat) (x : AV), l[i]? = some x → (concL m l).toArray[i]? = some (conc m x) := fun i x hx => by rw [List.getElem?_toArray, concL_get, hx]; rfl
/-! ### new rows -/
theorem run_buildSlice0 (w : World) (t e : TypeId) (parts : Array (Nat × Value)) (cells : Array Value) (ie : TypeInfo) (hu : P.underlying t = some (.slice e)) (hie : P.info? e = some ie)
 (h : Instr.fill (fun i => some (i * ie.size, ie.size)) #[] parts.toList = some cells) : (Instr.buildSlice t 0 parts).run P w = .ok (.slice (some ⟨w.heap.size, 0, none⟩) 0 0) (w.alloc (.cells cells e)) := by
 have h0 : (Array.map (fun x => (default : Value)) (Array.range 0)) = #[] := by simp
 simp [Instr.buildSlice, run_underlying hu, Go.sizeOf, typeInfo, hie, newRow]
 rw [h0, h]
 simp
theorem snd_buildSl {t el len : Nat} {z : List AV} {ps : Array (Nat × Operand)} {ps' : List (Nat × Nat × AO)} (hu : P.underlying t = some (.slice el)) (hz : zeroC P el = some z) (hp : rowP e (szT P el) ps.toList = some ps')
 (h0 : szT P el ≠ 0) (hb : ¬ len * szT P el > 2 ^ 20) (hzl : z.length = szT P el) : HSnd P e (.buildSlice t len ps) (oBuildS z len el ps') := fun ri m N lim B H w ρ L T hR hg k r h => by
 obtain ⟨i, v, z1, z2, z3, z4⟩ := zeroC_info hz m N
 have hs : szT P el = i.size := by unfold szT; rw [z1]
 have hp' := rowP_ok hp
 rw [hs] at hp' h0 hb hzl
 obtain ⟨c', k1, _, k3, k4⟩ := fill_ok (s := fun j => some (j * i.size, i.size)) (β := Unit) hp' hg (lrep_ok z4 len) h
 refine ⟨_, _, _, _, _, k1, Step.row hR (c := 0) (cs := (concL m c').toArray) (fz := (0, 0)) (conc_get c') k3 (fun i _ => by simp) (fun hg => absurd rfl hg), .inr rfl, fun oper ho => .inl ?_⟩
 unfold execOp
 rw [ho]
 have hrun : (Instr.buildSlice t len (ps.map fun p => (p.1, ρ p.2))).run P w = .ok (.slice (some ⟨w.heap.size, 0, none⟩) len len) (w.alloc (.cells (concL m c').toArray el)) := by
  rcases Nat.eq_zero_or_pos len with hl | hl
  ·subst hl
   refine run_buildSlice0 w t el _ _ i hu z1 ?_
   rw [Array.toList_map]
   exact k4
  ·have h1 : ¬ len * i.size > 2 ^ 24 := by omega
   have h2 : ¬ len * i.size = 0 := by have := Nat.mul_pos hl (Nat.pos_of_ne_zero h0); omega
   have := run_buildSlice (P := P) w t el len (ps.map fun p => (p.1, ρ p.2)) (concL m c').toArray i v hu z1 z2 h1 h2 (by
    rw [z3, zeros_eq' hzl, Array.toList_map]
    exact k4)
   exact this
 simp only [Sem.run_bind, hrun, Result.andThen_ok, Sem.run_pure, conc, M.set_ad, M.set_off]
theorem snd_makeSl {t el : Nat} {z : List AV} {l c : Operand} {l' c' : AO} (hu : P.underlying t = some (.slice el)) (hz : zeroC P el = some z) (hl : e l = some l') (hc : e c = some c') (hb : bytesT P el ≠ 0) (hzl : z.length = szT P el) :
 HSnd P e (.makeSlice t l c) (oMkSl z el (bytesT P el) l' c') := fun ri m N lim B H w ρ L T hR hg k r h => by
 obtain ⟨i, v, z1, z2, z3, z4⟩ := zeroC_info hz m N
 have hs : szT P el = i.size := by unfold szT; rw [z1]
 have hby : bytesT P el = i.bytes := by unfold bytesT; rw [z1]
 obtain ⟨ln, h1, h⟩ := asNat_ok h
 obtain ⟨cn, h2, h⟩ := asNat_ok h
 rcases bool_ok h with ⟨h3, h⟩ | ⟨_, h⟩
 ·rw [band_eq, Bool.and_eq_true] at h3
  have h4 := ble_of h3.1
  have h5 : cn * bytesT P el ≤ 1073741824 := ble_of h3.2
  rw [hby] at h5 hb
  rw [hs] at hzl
  have h6 : cn ≤ 1073741824 := Nat.le_trans (by have := Nat.mul_le_mul_left cn (Nat.pos_of_ne_zero hb); omega) h5
  have hl1 := hg.at hl
  have hc1 := hg.at hc
  rw [h1] at hl1
  rw [h2] at hc1
  refine ⟨_, _, _, _, _, h, Step.row hR (c := 0) (cs := (concL m (lrep z cn)).toArray) (fz := (0, 0)) (conc_get _) (lrep_ok z4 cn) (fun i _ => by simp) (fun hg => absurd rfl hg), .inr rfl, fun oper ho => .inl ?_⟩
  unfold execOp
  rw [ho]
  have hrun := run_make (P := P) w t el i v hu z1 z2 .i64 .i64 ln cn (by omega) (by omega) (by have : ((cn * i.bytes : Nat) : Int) ≤ 1073741824 := Int.ofNat_le.2 h5; rw [Int.natCast_mul, Int.mul_comm] at this; omega) (by omega)
  rw [show madeCells v.cells ((cn : Int).toNat * i.size) = (concL m (lrep z cn)).toArray from by rw [z3]; exact zeros_eq' hzl cn] at hrun
  simp only [hl1, hc1, conc]
  simp only [Sem.run_bind, hrun, Result.andThen_ok, Sem.run_pure, conc, M.set_ad, M.set_off, Int.toNat_natCast]
 ·cases h
theorem snd_s2b {s d el : Nat} {x : Operand} {x' : AO} (hs : P.underlying s = some .string) (hd : P.underlying d = some (.slice el)) (he : P.underlying el = some (.int .u8)) (hx : e x = some x') : HSnd P e (.convert s d x) (oS2b el x') := fun ri m N lim B H w ρ L T hR hg k r h => by
 have hx1 := hg.at hx
 rcases AV.unStr_ok h with ⟨l, hl, h⟩ | ⟨_, h⟩
 ·rw [hl] at hx1
  rcases bool_ok h with ⟨_, h⟩ | ⟨_, h⟩
  ·have hge := grownCap_ge w l.length 0 el
   refine ⟨_, _, _, _, _, h, (Step.drew hR).trans (Step.row hR.drew (c := grownCap w l.length 0 el) (cs := bytesRow ⟨l.toArray⟩ (grownCap w l.length 0 el)) (fz := ((bytesRow ⟨l.toArray⟩ (grownCap w l.length 0 el)).size, (bytesRow ⟨l.toArray⟩ (grownCap w l.length 0 el)).size + 1)) (fun i y hy => ?_) (fun y hy => ?_) (fun i hi => ?_) (fun _ => ?_)), ⟨.inr rfl, ?_⟩, fun oper ho => .inl ?_⟩
   ·unfold bytesOf at hy
    rw [List.getElem?_map] at hy
    obtain ⟨b, hb, rfl⟩ := Option.map_eq_some_iff.1 hy
    have hlt := (List.getElem?_eq_some_iff.1 hb).1
    unfold bytesRow
    rw [Array.getElem?_append_left (by simpa using hlt)]
    simp [hb, conc]
   ·unfold bytesOf at hy
    obtain ⟨b, _, rfl⟩ := List.mem_map.1 hy
    exact ⟨rfl, trivial⟩
   ·simp only; omega
   ·unfold bytesRow bytesOf
    simp [ByteArray.size]
    omega
   ·rw [M.set_cap]; omega
   ·unfold execOp
    rw [ho]
    have hrun := run_bytes_of_string (P := P) w s d el ⟨l.toArray⟩ hs hd he
    simp only [hx1, conc]
    simp only [Sem.run_bind, hrun, Result.andThen_ok, Sem.run_pure, M.set_ad, M.set_off, M.set_cap]
    rfl
  ·cases h
 ·cases h
theorem snd_mkMap {t : Nat} : HSnd P e (.makeMap t none) oMkMap := fun ri m N lim B H w ρ L T hR hg k r h => by
 refine ⟨_, _, _, _, _, h, Step.fresh hR (c := 0) (ob := .map #[] 0) rfl (fun _ _ _ _ _ _ e => by cases e) ⟨by rw [M.set_ad]; exact alloc_last w _, fun _ h => by cases h⟩, .inr rfl, fun oper ho => .inl ?_⟩
 unfold execOp
 rw [ho]
 simp [Instr.makeMap, conc, M.set_ad]
theorem snd_rng {t kt el : Nat} {x : Operand} {x' : AO} (hu : P.underlying t = some (.map kt el)) (hx : e x = some x') : HSnd P e (.range t x) (oRng x') := fun ri m N lim B H w ρ L T hR hg k r h => by
 have hx1 := hg.at hx
 have hN := hg.ok hx
 rcases AV.unMap_ok h with ⟨hp, h⟩ | ⟨b, hp, h⟩ | h
 ·rw [hp] at hx1
  refine ⟨_, _, _, _, _, h, Step.fresh hR (c := 0) (ob := .mapIter none 0 #[] 0) rfl (fun _ _ _ _ _ _ e => by cases e) ⟨by rw [M.set_off], ⟨[], rfl, by rw [M.set_ad]; exact alloc_last w _⟩, fun _ h => by cases h⟩, .inr rfl, fun oper ho => .inl ?_⟩
  unfold execOp
  rw [ho]
  simp [Instr.range, run_underlying hu, hx1, conc, M.set_ad, M.set_off]
 ·rw [hp] at hx1 hN
  obtain ⟨es, clock, birth, h1, h⟩ := mapOf_ok h
  have hob := hR.obj b _ hN h1
  refine ⟨_, _, _, _, _, h, Step.fresh hR (c := 0) (ob := .mapIter (some (m.ad b)) clock #[] clock) rfl (fun _ _ _ _ _ _ e => by cases e) ⟨by rw [M.set_off], ⟨[], rfl, ?_⟩, fun x hx => by cases hx; exact .inl hN⟩, .inr rfl, fun oper ho => .inl ?_⟩
  ·rw [M.set_ad]
   have : (m.set H.nx w.heap.size 0 0).ad b = m.ad b := (Agree.set hR.nx m _ _ _).ad b hN
   simp only [Option.map_some, this]
   exact alloc_last w _
  ·unfold execOp
   rw [ho]
   simp [Instr.range, run_underlying hu, hx1, conc, M.set_ad, M.set_off, map_of hob]
 ·cases h
/-! ### stores -/
theorem snd_store {t : Nat} {x v : Operand} {x' v' : AO} (hz : szT P t ≠ 0) (hx : e x = some x') (hv : e v = some v') : HSnd P e (.store t x v) (oStore (szT P t) x' v') := fun ri m N lim B H w ρ L T hR hg k r h => by
 have hx1 := hg.at hx
 have hN := hg.ok hx
 rcases AV.unPtr_ok h with ⟨b, o, hp, h⟩ | ⟨_, h⟩
 ·rw [hp] at hx1 hN
  rcases bool_ok h with ⟨hn, h⟩ | ⟨_, h⟩
  ·have hn' : (cellsOf (v'.ev L T)).length = szT P t := by rw [← llen_eq]; exact beq_of hn
   obtain ⟨l, ty, root, ab, g, birth, w1, w2, w3, w4⟩ := write_ok h
   have hob := hR.obj b _ hN w1
   have hc := cellsOf_ok (hg.ok hv)
   have hcc : (ρ v).cells = (concL m (cellsOf (v'.ev L T))).toArray := by
    rw [hg.at hv]
    exact conc_cells m _ fun l hl => by rw [hl] at hn'; exact hz hn'.symm
   have hsz : (ρ v).cells.size = szT P t := by rw [hcc]; simp [concL_eq, hn']
   refine ⟨_, _, _, _, _, w4, Step.wrote hR hN w1 w2 w3 hc, trivial, fun oper ho => .inr ⟨rfl, ?_⟩⟩
   unfold execOp
   rw [ho]
   simp only [hx1, conc, Instr.storeAt, Instr.sureAddr, Sem.run_bind, Sem.run_pure, Result.andThen_ok, storeVar, run_sizeOf hz, hcc]
   rw [if_neg (by rw [← hcc, hsz]; simp)]
   simp only [run_wrote (P := P) hob w3 (fun x hx => (hc x hx).1), Result.andThen_ok]
  ·cases h
 ·cases h
theorem snd_clear {t el : Nat} {z : List AV} {x : Operand} {x' : AO} (hu : P.underlying t = some (.slice el)) (hz : zeroC P el = some z) (hx : e x = some x') (hzl : z.length = szT P el) :
 HSnd P e (.call { callee := .builtin .clear, args := #[x], argTypes := #[t] }) (oClear z x') := fun ri m N lim B H w ρ L T hR hg k r h => by
 have hx1 := hg.at hx
 have hN := hg.ok hx
 obtain ⟨v, z1, z2, z4⟩ := zeroC_ok hz m N
 have main : ∀ (b : Pos) (o len cap : Nat), N b → ρ x = .slice (some ⟨m.ad b, m.off b + o, none⟩) len cap →
  Bool.rec (motive := fun _ => R Out) (H.write lim b o (lrep z len) (fun H' => k undf H')) (k undf H) (Nat.beq len 0) = .ok r →
  ∃ v H' m' N' w', k v H' = .ok r ∧ Step ri m N lim B H w m' N' H' w' ∧ okV m' N' v ∧ ∀ oper : Oper, oper.op = .call { callee := .builtin .clear, args := #[x], argTypes := #[t] } → (execOp ρ oper).run P w = .ok (.value (conc m' v)) w' ∨ (v = undf ∧ (execOp ρ oper).run P w = .ok .skip w') := by
  intro b o len cap hNb hxv h
  rcases bool_ok h with ⟨h0, h⟩ | ⟨h0, h⟩
  ·have : len = 0 := beq_of h0
   subst this
   exact ⟨_, _, _, _, _, h, Step.refl hR, trivial, fun oper ho => .inl (by unfold execOp; rw [ho]; simp [resolve, invoke, Go.builtin, Builtin.clear_, hxv, run_underlying hu, undf, conc, concL])⟩
  ·obtain ⟨l, ty, root, ab, g, birth, w1, w2, w3, w4⟩ := write_ok h
   have hob := hR.obj b _ hNb w1
   have hne : len ≠ 0 := nbeq_of h0
   obtain ⟨len', rfl⟩ : ∃ n, len = n + 1 := ⟨len - 1, by omega⟩
   have hrun := run_wrote (P := P) hob w3 (fun x hx => (lrep_ok z4 (len' + 1) x hx).1)
   have hzc : Builtin.zeroCells v.cells (len' + 1) = (concL m (lrep z (len' + 1))).toArray := by
    unfold Builtin.zeroCells
    rw [z2]
    exact zeros_eq' (by simp [concL_eq]) _
   refine ⟨_, _, _, _, _, w4, Step.wrote hR hNb w1 w2 w3 (lrep_ok z4 _), trivial, fun oper ho => .inl ?_⟩
   unfold execOp
   rw [ho]
   simp [resolve, invoke, Go.builtin, Builtin.clear_, hxv, run_underlying hu, z1, hzc, hrun, undf, conc, concL]
 rcases AV.unSl_ok h with ⟨hp, h⟩ | ⟨b, o, len, cap, hp, h⟩ | ⟨b, o, len, cap, hp, h⟩ | h
 ·rw [hp] at hx1
  exact ⟨_, _, _, _, _, h, Step.refl hR, trivial, fun oper ho => .inl (by unfold execOp; rw [ho]; simp [resolve, invoke, Go.builtin, Builtin.clear_, hx1, run_underlying hu, undf, conc, concL])⟩
 ·rw [hp] at hx1 hN
  exact main b o len cap hN hx1 h
 ·rw [hp] at hx1 hN
  exact main b o len _ hN.1 hx1 h
 ·cases h
end Av
end
section
set_option linter.unusedSimpArgs false
namespace Av
open Go Go.RowKit
variable {P : Program} {e : Operand → Option AO} {ρ : Operand → Value} {m : M} {N : Pos → Prop} {L : List AV} {T : PT AV}
theorem Fnd.lt {h : Sh} {q : AV} {es : List ME} {i : Nat} {v : AV} (hf : Fnd h q es (some (i, v))) : i < es.length := by
 obtain ⟨x, hx, _⟩ := hf.at
 exact (List.getElem?_eq_some_iff.1 hx).1
theorem putK_ok {β : Type} {h : Sh} {q v : AV} {clock : Nat} : ∀ {es : List ME} {k : List ME → Nat → R β} {c : List Nat} {r : β}, putK h q v clock es k (.er c) = .ok r →
 (∃ i u x, Fnd h q es (some (i, u)) ∧ es[i]? = some x ∧ k (es.set i ⟨q, v, x.born⟩) clock = .ok r) ∨ (Fnd h q es none ∧ k (es ++ [⟨q, v, clock⟩]) (clock + 1) = .ok r)
 | [], k, c, r, hh => .inr ⟨.nil, hh⟩
 | x :: es, k, c, r, hh => by
   obtain ⟨t, h1, h2, h3⟩ := eqV_ok' (show eqV h q x.key (fun t => Bool.rec (motive := fun _ => R β) (putK h q v clock es (fun r' c => k (x :: r') c) (.er c)) (k (⟨q, v, x.born⟩ :: es) clock) t) (.er c) = .ok r from hh)
   cases t with
   | true => exact .inl ⟨0, _, x, .hit h1 (h3 rfl), rfl, h2⟩
   | false =>
     rcases putK_ok (show putK h q v clock es (fun r' c => k (x :: r') c) (.er c) = .ok r from h2) with ⟨i, u, y, h4, h5, h6⟩ | ⟨h4, h5⟩
     ·exact .inl ⟨i + 1, u, y, .go h1 h4, by simpa using h5, by simpa using h6⟩
     ·exact .inr ⟨.go h1 h4, by simpa using h5⟩
theorem delK_ok {β : Type} {h : Sh} {q : AV} : ∀ {es : List ME} {k : List ME → R β} {c : List Nat} {r : β}, delK h q es k (.er c) = .ok r →
 (∃ i u, Fnd h q es (some (i, u)) ∧ k (es.eraseIdx i) = .ok r) ∨ (Fnd h q es none ∧ k es = .ok r)
 | [], k, c, r, hh => .inr ⟨.nil, hh⟩
 | x :: es, k, c, r, hh => by
   obtain ⟨t, h1, h2, h3⟩ := eqV_ok' (show eqV h q x.key (fun t => Bool.rec (motive := fun _ => R β) (delK h q es (fun r' => k (x :: r')) (.er c)) (k es) t) (.er c) = .ok r from hh)
   cases t with
   | true => exact .inl ⟨0, _, .hit h1 (h3 rfl), h2⟩
   | false =>
     rcases delK_ok (show delK h q es (fun r' => k (x :: r')) (.er c) = .ok r from h2) with ⟨i, u, h4, h5⟩ | ⟨h4, h5⟩
     ·exact .inl ⟨i + 1, u, .go h1 h4, by simpa using h5⟩
     ·exact .inr ⟨.go h1 h4, h5⟩
theorem sameBits_k {kd : Kd} {a : AV} (h : eqk kd a a = some true) (n : Nat) : Instr.sameBits n (conc m a) (conc m a) = true := by
 cases kd <;> cases a <;> simp only [eqk, reduceCtorEq] at h <;> cases n <;> simp [conc, Instr.sameBits, MapKept.bytes_beq]
theorem sameBits_l {n : Nat} : ∀ {ks : List Kd} {l : List AV}, l.length = ks.length → eql ks l l = some true → ((concL m l).zip (concL m l)).all (fun x => Instr.sameBits n x.1 x.2) = true
 | [], [], _, _ => rfl
 | [], _ :: _, h, _ => by cases h
 | _ :: _, [], h, _ => by cases h
 | q :: ks, a :: l, h, he => by
   simp only [eql] at he
   split at he
   ·rename_i h1
    simp only [concL, List.zip_cons_cons, List.all_cons, Bool.and_eq_true]
    exact ⟨sameBits_k h1 n, sameBits_l (by simpa using h) he⟩
   ·cases he
   ·cases he
theorem same_self {h : Sh} {q : AV} (he : eqsh h q q = some true) (hl : ∀ ks, h = .agg ks → ∃ l, q = .agg l ∧ l.length = ks.length) : Instr.sameBits 10000 (conc m q) (conc m q) = true := by
 cases h with
 | one kd => exact sameBits_k he 10000
 | agg ks =>
   obtain ⟨l, rfl, hlen⟩ := hl ks rfl
   show Instr.sameBits (9999 + 1) (.agg (concL m l).toArray) (.agg (concL m l).toArray) = true
   simp only [Instr.sameBits, beq_self_eq_true, Bool.true_and]
   exact sameBits_l hlen he
theorem run_putObj {w : World} {r : Nat} {es : Array MapEntry} {clock : Nat} (o : Obj) (hb : w.heap[r]? = some (.map es clock)) : (setObj r o).run P w = .ok () (w.putObj r o) := MapKept.run_setObj_map o hb
theorem heap_put {w : World} {r : Nat} {o ob : Obj} (hb : w.heap[r]? = some o) : (w.putObj r ob).heap[r]? = some ob := World.putObj_heap_same (Array.getElem?_eq_some_iff.1 hb).1
theorem map_set (es : List ME) (i : Nat) (q v : AV) (x : ME) (hx : es[i]? = some x) :
 (es.map (meC m)).toArray.modify i (fun y => { y with key := conc m q, val := conc m v }) = ((es.set i ⟨q, v, x.born⟩).map (meC m)).toArray := by
 apply Array.ext_getElem?
 intro j
 have hlt := (List.getElem?_eq_some_iff.1 hx).1
 simp only [Array.getElem?_modify, List.getElem?_toArray, List.getElem?_map, List.getElem?_set]
 by_cases e : i = j
 ·subst e
  rw [if_pos rfl, hx, if_pos rfl, if_pos hlt]
  rfl
 ·rw [if_neg e, if_neg e]
theorem run_mup {ri : Nat → Option RInfo} {t kt el : Nat} {h : Sh} {qv vv : AV} (hu : P.underlying t = some (.map kt el)) (hk : keyOK P kt = true) (hs : shT P kt = some h) (hl : ∀ ks, h = .agg ks → ∃ l, qv = .agg l ∧ l.length = ks.length)
 {b : Pos} {w : World} {es es' : List ME} {clock clock' birth : Nat} (hb : LObj ri m N b w (.map es clock birth))
 (hp : (∃ i u x, Fnd h qv es (some (i, u)) ∧ es[i]? = some x ∧ es' = es.set i ⟨qv, vv, x.born⟩ ∧ clock' = clock) ∨ (Fnd h qv es none ∧ es' = es ++ [⟨qv, vv, clock⟩] ∧ clock' = clock + 1)) :
 (Instr.mapUpdate t (.map (some (m.ad b))) (conc m qv) (conc m vv)).run P w = .ok () (w.putObj (m.ad b) (.map (es'.map (meC m)).toArray clock')) := by
 unfold Instr.mapUpdate
 simp only [Sem.run_bind, run_underlying hu, Result.andThen_ok, map_of hb, run_check hk hs hl]
 rcases hp with ⟨i, u, x, h1, h2, rfl, rfl⟩ | ⟨h1, rfl, rfl⟩
 ·obtain ⟨y, g1, g2, g3, g4⟩ := h1.at
  rw [h2] at g1
  cases g1
  rw [run_findK hk hs h1]
  have e1 : (((es.map (meC m)).toArray[i]?).map (·.key)).getD (conc m qv) = conc m qv := by
   rw [List.getElem?_toArray, List.getElem?_map, h2]
   show conc m x.key = _
   rw [g2]
  have e2 : (Instr.keyThatStays (conc m qv) (conc m qv)).run P w = .ok (conc m qv) w := by simp [Instr.keyThatStays, same_self g4 hl]
  simp only [Option.map_some, Result.andThen_ok, e1, Sem.run_bind, e2, run_putObj _ hb.1, map_set es i qv vv x h2]
 ·rw [run_findK hk hs h1]
  simp only [Option.map_none, Result.andThen_ok, run_putObj _ hb.1]
  congr 3
  simp [meC]
theorem mem_put {es es' : List ME} {qv vv : AV} {clock : Nat} (hq : okV m N qv) (hv : okV m N vv) (hes : ∀ e ∈ es, okV m N e.key ∧ okV m N e.val)
 (hp : (∃ i x, es[i]? = some x ∧ es' = es.set i ⟨qv, vv, x.born⟩) ∨ es' = es ++ [⟨qv, vv, clock⟩]) : ∀ e ∈ es', okV m N e.key ∧ okV m N e.val := by
 intro x hx
 rcases hp with ⟨i, y, _, rfl⟩ | rfl
 ·rcases List.mem_or_eq_of_mem_set hx with hx | rfl
  ·exact hes x hx
  ·exact ⟨hq, hv⟩
 ·rcases List.mem_append.1 hx with hx | hx
  ·exact hes x hx
  ·rw [List.mem_singleton.1 hx]; exact ⟨hq, hv⟩
theorem mup_step {t kt el : Nat} {sh : Sh} {x q v : Operand} {x' q' v' : AO} (hu : P.underlying t = some (.map kt el)) (hk : keyOK P kt = true) (hs : shT P kt = some sh) (hx : e x = some x') (hq : e q = some q') (hv : e v = some v')
 {ri : Nat → Option RInfo} {lim B : Nat} {H : AH} {w : World} (hR : Rel ri m N N lim B H w) (hg : Good e ρ m N L T) {k : AV → AH → R Out} {r : Out} (h : oMup sh x' q' v' lim L T H k = .ok r) :
 ∃ H' w', k undf H' = .ok r ∧ Step ri m N lim B H w m N H' w' ∧ (Instr.mapUpdate t (ρ x) (ρ q) (ρ v)).run P w = .ok () w' := by
 have hx1 := hg.at hx
 have hN := hg.ok hx
 obtain ⟨h, hl⟩ := chk_ok h
 rcases AV.unMap_ok h with ⟨hp, h⟩ | ⟨b, hp, h⟩ | h
 ·cases h
 ·rw [hp] at hx1 hN
  obtain ⟨es, clock, birth, h1, h⟩ := mapOf_ok h
  have hob := hR.obj b _ hN h1
  rcases bool_ok h with ⟨h2, h⟩ | ⟨_, h⟩
  ·have fin : ∀ es' clock', ((∃ i u x, Fnd sh (q'.ev L T) es (some (i, u)) ∧ es[i]? = some x ∧ es' = es.set i ⟨q'.ev L T, v'.ev L T, x.born⟩ ∧ clock' = clock) ∨ (Fnd sh (q'.ev L T) es none ∧ es' = es ++ [⟨q'.ev L T, v'.ev L T, clock⟩] ∧ clock' = clock + 1)) →
    k undf (H.setB b (some (.map es' clock' birth))) = .ok r → ∃ H' w', k undf H' = .ok r ∧ Step ri m N lim B H w m N H' w' ∧ (Instr.mapUpdate t (ρ x) (ρ q) (ρ v)).run P w = .ok () w' := by
    intro es' clock' hput hkk
    refine ⟨_, _, hkk, Step.put (o' := .map es' clock' birth) (ob := .map (es'.map (meC m)).toArray clock') hR hN h1 rfl rfl rfl (ble_of h2) ⟨heap_put hob.1, mem_put (clock := clock) (hg.ok hq) (hg.ok hv) hob.2 ?_⟩, ?_⟩
    ·rcases hput with ⟨i, u, y, _, g2, g3, _⟩ | ⟨_, g2, _⟩
     ·exact .inl ⟨i, y, g2, g3⟩
     ·exact .inr g2
    ·rw [hx1, hg.at hq, hg.at hv]
     exact run_mup hu hk hs hl hob hput
   rcases putK_ok h with ⟨i, u, y, g1, g2, g3⟩ | ⟨g1, g2⟩
   ·exact fin _ _ (.inl ⟨i, u, y, g1, g2, rfl, rfl⟩) g3
   ·exact fin _ _ (.inr ⟨g1, rfl, rfl⟩) g2
  ·cases h
 ·cases h
theorem snd_mup {t kt el : Nat} {h : Sh} {x q v : Operand} {x' q' v' : AO} (hu : P.underlying t = some (.map kt el)) (hk : keyOK P kt = true) (hs : shT P kt = some h) (hx : e x = some x') (hq : e q = some q') (hv : e v = some v') :
 HSnd P e (.mapUpdate t x q v) (oMup h x' q' v') := fun ri m N lim B H w ρ L T hR hg k r h => by
 obtain ⟨H', w', h1, h2, h3⟩ := mup_step hu hk hs hx hq hv hR hg h
 exact ⟨_, _, _, _, _, h1, h2, trivial, fun oper ho => .inr ⟨rfl, by unfold execOp; rw [ho]; simp [h3]⟩⟩
theorem snd_ins {t kt el : Nat} {h : Sh} {x q v : Operand} {x' q' v' : AO} (hu : P.underlying t = some (.map kt el)) (hk : keyOK P kt = true) (hs : shT P kt = some h) (hx : e x = some x') (hq : e q = some q') (hv : e v = some v') :
 HSnd P e (.insert t x q v) (oMup h x' q' v') := fun ri m N lim B H w ρ L T hR hg k r h => by
 obtain ⟨H', w', h1, h2, h3⟩ := mup_step hu hk hs hx hq hv hR hg h
 exact ⟨_, _, _, _, _, h1, h2, trivial, fun oper ho => .inr ⟨rfl, by unfold execOp; rw [ho]; simp [h3]⟩⟩
theorem map_eraseIdx {α β : Type} (f : α → β) : ∀ (l : List α) (i : Nat), (l.map f).eraseIdx i = (l.eraseIdx i).map f
 | [], _ => rfl
 | a :: l, 0 => rfl
 | a :: l, i + 1 => by simp only [List.map_cons, List.eraseIdx_cons_succ, map_eraseIdx f l i]
theorem eraseIB {α : Type} (l : List α) (i : Nat) : l.toArray.eraseIdxIfInBounds i = (l.eraseIdx i).toArray := by
 unfold Array.eraseIdxIfInBounds
 split
 ·simp
 ·rename_i h
  rw [List.eraseIdx_of_length_le (by simpa using h)]
theorem snd_del {t kt el : Nat} {ts : Array TypeId} {h : Sh} {x q : Operand} {x' q' : AO} (hts : ts[0]? = some t) (hu : P.underlying t = some (.map kt el)) (hk : keyOK P kt = true) (hs : shT P kt = some h) (hx : e x = some x') (hq : e q = some q') :
 HSnd P e (.call { callee := .builtin .delete, args := #[x, q], argTypes := ts }) (oDel h x' q') := fun ri m N lim B H w ρ L T hR hg k r hh => by
 have hx1 := hg.at hx
 have hN := hg.ok hx
 obtain ⟨hh, hl⟩ := chk_ok hh
 rcases AV.unMap_ok hh with ⟨hp, hh⟩ | ⟨b, hp, hh⟩ | hh
 ·cases hh
 ·rw [hp] at hx1 hN
  obtain ⟨es, clock, birth, h1, hh⟩ := mapOf_ok hh
  have hob := hR.obj b _ hN h1
  rcases bool_ok hh with ⟨h2, hh⟩ | ⟨_, hh⟩
  ·have fin : ∀ es' o, Fnd h (q'.ev L T) es o → (∀ e ∈ es', e ∈ es) → (∀ w', (match (o.map fun x => (x.1, conc m x.2)) with | some (i, _) => setObj (m.ad b) (.map ((es.map (meC m)).toArray.eraseIdxIfInBounds i) clock) | none => setObj (m.ad b) (.map (es.map (meC m)).toArray clock)) = setObj (m.ad b) (.map (es'.map (meC m)).toArray clock) ∨ w' = w) →
    (match (o.map fun x => (x.1, conc m x.2)) with | some (i, _) => setObj (m.ad b) (.map ((es.map (meC m)).toArray.eraseIdxIfInBounds i) clock) | none => setObj (m.ad b) (.map (es.map (meC m)).toArray clock)) = setObj (m.ad b) (.map (es'.map (meC m)).toArray clock) →
    k undf (H.setB b (some (.map es' clock birth))) = .ok r → ∃ v H' m' N' w', k v H' = .ok r ∧ Step ri m N lim B H w m' N' H' w' ∧ okV m' N' v ∧ ∀ oper : Oper, oper.op = .call { callee := .builtin .delete, args := #[x, q], argTypes := ts } → (execOp ρ oper).run P w = .ok (.value (conc m' v)) w' ∨ (v = undf ∧ (execOp ρ oper).run P w = .ok .skip w') := by
    intro es' o hf hsub _ hset hkk
    refine ⟨_, _, _, _, _, hkk, Step.put (o' := .map es' clock birth) (ob := .map (es'.map (meC m)).toArray clock) hR hN h1 rfl rfl rfl (ble_of h2) ⟨heap_put hob.1, fun e he => hob.2 e (hsub e he)⟩, trivial, fun oper ho => .inl ?_⟩
    unfold execOp
    rw [ho]
    have hd : (Builtin.delete_ ts oper.type #[ρ x, ρ q]).run P w = .ok (.tuple #[]) (w.putObj (m.ad b) (.map (es'.map (meC m)).toArray clock)) := by
     unfold Builtin.delete_
     simp only [hts, hx1, conc]
     simp only [Sem.run_bind, run_underlying hu, Result.andThen_ok, map_of hob, hg.at hq, run_check hk hs hl, List.getElem?_toArray, List.getElem?_cons_zero, List.getElem?_cons_succ]
     rw [run_findK hk hs hf]
     simp only [Result.andThen_ok]
     cases o with
     | none => simp only [Option.map_none] at hset ⊢; rw [hset]; simp [run_putObj _ hob.1]
     | some y => simp only [Option.map_some] at hset ⊢; rw [hset]; simp [run_putObj _ hob.1]
    simp [resolve, invoke, Go.builtin, hd, undf, conc, concL]
   rcases delK_ok hh with ⟨i, u, g1, g2⟩ | ⟨g1, g2⟩
   ·have key : setObj (m.ad b) (.map ((es.map (meC m)).toArray.eraseIdxIfInBounds i) clock) = setObj (m.ad b) (.map ((es.eraseIdx i).map (meC m)).toArray clock) := by
     rw [eraseIB, map_eraseIdx]
    exact fin _ _ g1 (fun e he => List.mem_of_mem_eraseIdx he) (fun _ => .inl key) key g2
   ·exact fin _ _ g1 (fun e he => he) (fun _ => .inl rfl) rfl g2
  ·cases hh
 ·cases hh
end Av
end
section
set_option linter.unusedSimpArgs false
set_option linter.unusedVariables false
namespace Av
open Go Go.RowKit
variable {P : Program} {e : Operand → Option AO} {ρ : Operand → Value} {m : M} {N : Pos → Prop} {L : List AV} {T : PT AV} {ri : Nat → Option RInfo} {lim B : Nat} {H H1 : AH} {w : World}
theorem rd_ok {s : Nat} {y : AV} {k : Nat → List AV → R Out} {r : Out} (hR : Rel ri m N N lim B H w) (hy : okV m N y) (h : rdSl H s y k = .ok r) :
 ∃ n l, k n l = .ok r ∧ l.length = n * s ∧ (∀ x ∈ l, sc x = true ∧ okV m N x) ∧ (∀ w', (Builtin.lenOf (conc m y)).run P w' = .ok n w') ∧
  ∀ n', n' ≤ n → ∀ w', Rel ri m N N lim B H w' → (Builtin.firstCells s n' (conc m y)).run P w' = .ok (concL m (l.take (n' * s))).toArray w' := by
 unfold rdSl at h
 have main : ∀ (b : Pos) (o len cap : Nat), N b → conc m y = .slice (some ⟨m.ad b, m.off b + o, none⟩) len cap →
  Bool.rec (motive := fun _ => R Out) (H.read b o (Nat.mul len s) (fun l => k len l)) (k 0 []) (Nat.beq len 0) = .ok r →
  ∃ n l, k n l = .ok r ∧ l.length = n * s ∧ (∀ x ∈ l, sc x = true ∧ okV m N x) ∧ (∀ w', (Builtin.lenOf (conc m y)).run P w' = .ok n w') ∧
  ∀ n', n' ≤ n → ∀ w', Rel ri m N N lim B H w' → (Builtin.firstCells s n' (conc m y)).run P w' = .ok (concL m (l.take (n' * s))).toArray w' := by
  intro b o len cap hN hyv h
  rcases bool_ok h with ⟨h0, h⟩ | ⟨h0, h⟩
  ·have : len = 0 := beq_of h0
   subst this
   refine ⟨0, [], h, by simp, by simp, fun w' => by rw [hyv]; rfl, fun n' hn w' _ => ?_⟩
   have : n' = 0 := by omega
   subst this
   rw [hyv]
   have hz := run_loadCells_list (P := P) w' ⟨m.ad b, m.off b + o, none⟩ [] (fun j v hj => by simp at hj)
   simp only [List.length_nil] at hz
   simp only [Builtin.firstCells, Nat.zero_mul]
   rw [hz]
   rfl
  ·obtain ⟨l, ty, root, ab, g, birth, h1, _, h3, h4⟩ := read_ok h
   obtain ⟨cs, fz, _, _, c3, _⟩ := hR.obj b _ hN h1
   have h4' : len * s ≤ (l.drop o).length := h4
   refine ⟨len, _, h3, by rw [List.length_take]; exact Nat.min_eq_left h4', fun x hx => c3 x (take_drop_mem hx), fun w' => by rw [hyv]; rfl, fun n' hn w' hR' => ?_⟩
   have hle : n' * s ≤ len * s := Nat.mul_le_mul_right s hn
   rw [hyv]
   show (loadCells _ (n' * s)).run P w' = _
   rw [run_read (hR'.obj b _ hN h1) (Nat.le_trans hle h4')]
   rw [List.take_take]
   rw [Nat.min_eq_left (show n' * s ≤ Nat.mul len s from hle)]
 cases y with
 | nils => exact ⟨0, [], h, by simp, by simp, fun w' => rfl, fun n' hn w' _ => by
    have : n' = 0 := by omega
    subst this
    simp [conc, concL, Builtin.firstCells]⟩
 | sl b o len cap => exact main b o len cap hy rfl h
 | su b o len lost => exact main b o len _ hy.1 rfl h
 | str l =>
   rcases bool_ok (show Bool.rec (motive := fun _ => R Out) (.er [24]) (k l.length (bytesOf l)) (Nat.beq s 1) = .ok r from h) with ⟨h0, h⟩ | ⟨_, h⟩
   ·have : s = 1 := beq_of h0
    subst this
    refine ⟨l.length, _, h, by simp [bytesOf], fun x hx => ?_, fun w' => by simp [conc, Builtin.lenOf, ByteArray.size], fun n' hn w' _ => ?_⟩
    ·unfold bytesOf at hx
     obtain ⟨c, _, rfl⟩ := List.mem_map.1 hx
     exact ⟨rfl, trivial⟩
    ·simp only [conc, Builtin.firstCells, Sem.run_pure]
     congr 1
     apply Array.ext'
     simp [bytesOf, concL_eq, conc, List.map_take, ByteArray.data_extract, List.extract_eq_take_drop]
     congr 1
   ·cases h
 | _ => cases h
theorem snd_copy {t el : Nat} {ts : Array TypeId} {x y : Operand} {x' y' : AO} (hts : ts[0]? = some t) (hu : P.underlying t = some (.slice el)) (hz : szT P el ≠ 0) (hx : e x = some x') (hy : e y = some y') :
 HSnd P e (.call { callee := .builtin .copy, args := #[x, y], argTypes := ts }) (oCopy (szT P el) x' y') := fun ri m N lim B H w ρ L T hR hg k r h => by
 have hx1 := hg.at hx
 have hN := hg.ok hx
 have hy1 := hg.at hy
 obtain ⟨n, l, h, hl, hlo, hlen, hfc⟩ := rd_ok (P := P) hR (hg.ok hy) h
 have main : ∀ (b : Pos) (o len cap : Nat), N b → ρ x = .slice (some ⟨m.ad b, m.off b + o, none⟩) len cap →
  ltake (Nat.mul (Nat.min n len) (szT P el)) l (fun c => Bool.rec (motive := fun _ => R Out) (H.write lim b o c (fun H' => k (.int (.ofNat (Nat.min n len))) H')) (k (.int (.ofNat 0)) H) (Nat.beq (Nat.min n len) 0)) (.er [74]) = .ok r →
  ∃ v H' m' N' w', k v H' = .ok r ∧ Step ri m N lim B H w m' N' H' w' ∧ okV m' N' v ∧ ∀ oper : Oper, oper.op = .call { callee := .builtin .copy, args := #[x, y], argTypes := ts } → (execOp ρ oper).run P w = .ok (.value (conc m' v)) w' ∨ (v = undf ∧ (execOp ρ oper).run P w = .ok .skip w') := by
  intro b o len cap hNb hxv h
  obtain ⟨_, h⟩ := ltake_ok h
  have hf := hfc (Nat.min n len) (Nat.min_le_left _ _) w hR
  rcases bool_ok h with ⟨h0, h⟩ | ⟨h0, h⟩
  ·have h00 : Nat.min n len = 0 := beq_of h0
   refine ⟨_, _, _, _, _, h, Step.refl hR, trivial, fun oper ho => .inl ?_⟩
   have hcp : (Builtin.copy_ ts oper.type #[ρ x, ρ y]).run P w = .ok (goInt 0) w := by
    unfold Builtin.copy_
    simp only [hts, hxv, hy1, List.getElem?_toArray, List.getElem?_cons_zero, List.getElem?_cons_succ]
    rw [h00] at hf
    simp [run_underlying hu, hlen, run_sizeOf hz, h00, hf, storeCells, concL]
   unfold execOp
   rw [ho]
   simp [resolve, invoke, Go.builtin, hcp, conc, goInt]
  ·obtain ⟨l', ty, root, ab, g, birth, w1, w2, w3, w4⟩ := write_ok h
   have hob := hR.obj b _ hNb w1
   have hok : ∀ x ∈ l.take (Nat.mul (Nat.min n len) (szT P el)), sc x = true ∧ okV m N x := fun x hx => hlo x (List.mem_of_mem_take hx)
   have hrun := run_wrote (P := P) hob w3 (fun x hx => (hok x hx).1)
   refine ⟨_, _, _, _, _, w4, Step.wrote hR hNb w1 w2 w3 hok, trivial, fun oper ho => .inl ?_⟩
   have hcp : (Builtin.copy_ ts oper.type #[ρ x, ρ y]).run P w = .ok (goInt (Nat.min n len)) (w.setCells (m.ad b) (m.off b + o) (concL m (l.take (Nat.mul (Nat.min n len) (szT P el))))) := by
    unfold Builtin.copy_
    simp only [hts, hxv, hy1, List.getElem?_toArray, List.getElem?_cons_zero, List.getElem?_cons_succ]
    simp only [Sem.run_bind, run_underlying hu, hlen, run_sizeOf hz, hf, Result.andThen_ok, Sem.run_pure]
    have hrun' : (storeCells { block := m.ad b, off := m.off b + o } (concL m (List.take (n.min len * szT P el) l))).run P w = _ := hrun
    rw [hrun']
    rfl
   unfold execOp
   rw [ho]
   simp [resolve, invoke, Go.builtin, hcp, conc, goInt]
 rcases AV.unSl_ok h with ⟨hp, h⟩ | ⟨b, o, len, cap, hp, h⟩ | ⟨b, o, len, cap, hp, h⟩ | h
 ·rw [hp] at hx1
  have hf := hfc 0 (Nat.zero_le _) w hR
  refine ⟨_, _, _, _, _, h, Step.refl hR, trivial, fun oper ho => .inl ?_⟩
  have hcp : (Builtin.copy_ ts oper.type #[ρ x, ρ y]).run P w = .ok (goInt 0) w := by
   unfold Builtin.copy_
   simp only [hts, hx1, hy1, conc, List.getElem?_toArray, List.getElem?_cons_zero, List.getElem?_cons_succ]
   simp [run_underlying hu, hlen, run_sizeOf hz, hf]
  unfold execOp
  rw [ho]
  simp [resolve, invoke, Go.builtin, hcp, conc, goInt]
 ·rw [hp] at hx1 hN
  exact main b o len cap hN hx1 h
 ·rw [hp] at hx1 hN
  exact main b o len _ hN.1 hx1 h
 ·cases h
end Av
end
section
set_option linter.unusedSimpArgs false
set_option linter.unusedVariables false
namespace Av
open Go Go.RowKit
variable {P : Program} {e : Operand → Option AO} {ρ : Operand → Value} {m : M} {N D : Pos → Prop} {L : List AV} {T : PT AV} {ri : Nat → Option RInfo} {lim B : Nat} {H H1 : AH} {w : World}
theorem Rel.less (h : Rel ri m N D lim B H w) (e1 : H1.nx = H.nx) (e2 : H1.cnt = H.cnt) (e3 : H1.fam = H.fam) (hs : ∀ x o, PT.get x H1.bl = some o → PT.get x H.bl = some o) : Rel ri m N D lim B H1 w := by
 refine ⟨fun x hx => by rw [e1]; exact h.lt x hx, h.sub, fun x ox hx hox => h.obj x ox hx (hs x ox hox), fun x ox hx hox hl => h.perm x ox hx (hs x ox hox) hl, fun x y ox oy hx hy hox hoy hxy had => ?_, ⟨fun x ox hx => ?_, fun x l ty root ab g birth hx => ?_, fun r ids hi => ?_, fun r ids hi x hx => ⟨?_, fun ox ho => ?_⟩, fun r ids hi x hx y hy ox oy ho hoy hl => ?_⟩, h.base⟩
 ·obtain ⟨l, ty, root, ab, g, birth, l', ty', ab', g', birth', f1, f2, f3⟩ := h.apart x y ox oy hx hy (hs x ox hox) (hs y oy hoy) hxy had
  rw [hs x ox hox] at f1
  rw [hs y oy hoy] at f2
  cases f1
  cases f2
  exact ⟨l, ty, root, ab, g, birth, l', ty', ab', g', birth', hox, hoy, f3⟩
 ·rw [e1, e2]; exact h.wf.lt x ox (hs x ox hx)
 ·rw [e3]; exact h.wf.root x l ty root ab g birth (hs x _ hx)
 ·rw [e3] at hi; exact h.wf.rootIn r ids hi
 ·rw [e3] at hi; rw [e1]; exact (h.wf.mem r ids hi x hx).1
 ·rw [e3] at hi; exact (h.wf.mem r ids hi x hx).2 ox (hs x ox ho)
 ·rw [e3] at hi; exact h.wf.old r ids hi x hx y hy ox oy (hs x ox ho) (hs y oy hoy) hl
theorem Rel.poke (h : Rel ri m N D lim B H w) {a off : Nat} {vs : List Value} {cs : Array Value} {ty : Nat} {fz : Nat × Nat} (hc : w.heap[a]? = some (.cells cs ty fz))
 (hd : ∀ x l ty root ab g birth, D x → PT.get x H.bl = some (.cells l ty root ab g birth) → m.ad x = a → m.off x + l.length ≤ off ∨ off + vs.length ≤ m.off x) : Rel ri m N D lim B H (w.setCells a off vs) := by
 obtain ⟨cs', d1, d2, d3⟩ := setCells_heap a vs off w cs ty fz hc
 refine ⟨h.lt, h.sub, fun x ox hx hox => ?_, h.perm, h.apart, h.wf, by rw [setCells_size]; exact h.base⟩
 have hob := h.obj x ox hx hox
 by_cases had : m.ad x = a
 ·cases ox with
  | cells l ty' root ab g birth =>
    obtain ⟨cs0, fz0, x1, x2, x3, x4, x5⟩ := hob
    rw [had, hc] at x1
    cases x1
    refine ⟨cs', fz, by rw [had]; exact d1, fun i y hy => ?_, x3, fun i hi => x4 i (by omega), fun hg => by rw [d2]; exact x5 hg⟩
    have hi := (List.getElem?_eq_some_iff.1 hy).1
    have hsz : m.off x + i < cs.size := (Array.getElem?_eq_some_iff.1 (x2 i y hy)).1
    rw [d3 _ hsz, if_neg ?_]
    ·exact x2 i y hy
    ·rcases hd x l _ root ab g birth hx hox had with h1 | h1 <;> omega
  | map es clock birth => have := hob.1; rw [had, hc] at this; cases this
  | loop st pend code t blk birth => obtain ⟨_, _, _, _, _, _, h3⟩ := hob; rw [had, hc] at h3; cases h3
  | dblk birth => have : w.heap[m.ad x]? = _ := hob; rw [had, hc] at this; cases this
  | iter mo since stepped birth => obtain ⟨_, _, h2⟩ := hob.2.1; rw [had, hc] at h2; cases h2
 ·exact hob.keep (h.sub x hx) (Agree.refl _ _) (fun _ y => y) (setCells_other _ _ _ _ _ had)
noncomputable def viewed (bl : PT AObj) (H : AH) (l : List AV) (ty : Nat) (root : Pos) (ab g : Nat) (ids : List Pos) : AH :=
 ⟨PT.put H.nx (some (.cells l ty root ab g H.cnt)) bl, H.nx.succ, H.cnt + 1, PT.put root (some (H.nx :: ids)) H.fam⟩
theorem Rel.view (h : Rel ri m N N lim B H1 w) {l : List AV} {ty : Nat} {root : Pos} {ab g a off cap : Nat} {ids : List Pos} (hB : B ≤ a)
 (hroot : root ∈ ids) (hmem : ∀ x ∈ ids, x.num < H1.nx.num ∧ ∀ o, PT.get x H1.bl = some o → ∃ l ty ab g birth, o = .cells l ty root ab g birth)
 (hold : ∀ x ∈ ids, ∀ ox, PT.get x H1.bl = some ox → lim ≤ ox.birth) (hsub : ∀ ids0, PT.get root H1.fam = some ids0 → ∀ x ∈ ids0, x ∈ ids)
 (hlim : lim ≤ H1.cnt) (ho : LObj ri (m.set H1.nx a off cap) (more N H1.nx) H1.nx w (.cells l ty root ab g H1.cnt))
 (hfam : ∀ x ox, N x → PT.get x H1.bl = some ox → m.ad x = a → ∃ l' ty' ab' g' birth', ox = .cells l' ty' root ab' g' birth' ∧ m.off x + ab = off + ab') :
 Rel ri (m.set H1.nx a off cap) (more N H1.nx) (more N H1.nx) lim B (viewed H1.bl H1 l ty root ab g ids) w := by
 have hnx := h.nx
 have ha : Agree N m (m.set H1.nx a off cap) := Agree.set hnx m _ _ _
 have bl : ∀ x, PT.get x (viewed H1.bl H1 l ty root ab g ids).bl = if x = H1.nx then some (.cells l ty root ab g H1.cnt) else PT.get x H1.bl := fun x => PT.get_put _ _ _ _
 have fam : ∀ x, PT.get x (viewed H1.bl H1 l ty root ab g ids).fam = if x = root then some (H1.nx :: ids) else PT.get x H1.fam := fun x => PT.get_put _ _ _ _
 have hne : ∀ x, N x → x ≠ H1.nx := fun x hx e => hnx (e ▸ hx)
 have old : ∀ x ox, N x → PT.get x (viewed H1.bl H1 l ty root ab g ids).bl = some ox → PT.get x H1.bl = some ox := fun x ox hx hox => by rwa [bl, if_neg (hne x hx)] at hox
 have idne : ∀ x ∈ ids, x ≠ H1.nx := fun x hx e => by have := (hmem x hx).1; rw [e] at this; exact Nat.lt_irrefl _ this
 have nw : PT.get H1.nx (viewed H1.bl H1 l ty root ab g ids).bl = some (.cells l ty root ab g H1.cnt) := by rw [bl, if_pos rfl]
 refine ⟨fun x hx => ?_, fun x hx => hx, fun x ox hx hox => ?_, fun x ox hx hox hl => ?_, fun x y ox oy hx hy hox hoy hxy had => ?_, ⟨fun x ox hx => ?_, fun x l' ty' root' ab' g' birth' hx => ?_, fun r ids0 hi => ?_, fun r ids0 hi x hx => ⟨?_, fun ox ho => ?_⟩, fun r ids0 hi x hx y hy ox oy ho hoy hl => ?_⟩, h.base⟩
 ·show x.num < H1.nx.succ.num
  rw [Pos.num_succ]
  rcases hx with hx | rfl
  ·have := h.lt x hx; omega
  ·omega
 ·rcases hx with hx | rfl
  ·exact (h.obj x ox hx (old x ox hx hox)).keep hx ha (fun _ y => .inl y) rfl
  ·rw [nw] at hox; cases hox; exact ho
 ·rcases hx with hx | rfl
  ·rw [ha.ad x hx]; exact h.perm x ox hx (old x ox hx hox) hl
  ·rw [M.set_ad]; exact hB
 ·rcases hx with hx | rfl
  ·have hox' := old x ox hx hox
   rcases hy with hy | rfl
   ·rw [ha.ad x hx, ha.ad y hy] at had
    obtain ⟨l1, ty1, root1, ab1, g1, birth1, l2, ty2, ab2, g2, birth2, f1, f2, f3⟩ := h.apart x y ox oy hx hy hox' (old y oy hy hoy) hxy had
    rw [hox'] at f1
    rw [old y oy hy hoy] at f2
    cases f1
    cases f2
    exact ⟨l1, ty1, root1, ab1, g1, birth1, l2, ty2, ab2, g2, birth2, hox, hoy, by rw [ha.off x hx, ha.off y hy]; exact f3⟩
   ·rw [ha.ad x hx, M.set_ad] at had
    obtain ⟨l', ty', ab', g', birth', rfl, f⟩ := hfam x ox hx hox' had
    exact ⟨_, _, _, _, _, _, _, _, _, _, _, hox, nw, by rw [ha.off x hx, M.set_off]; exact f⟩
  ·rcases hy with hy | rfl
   ·have hoy' := old y oy hy hoy
    rw [ha.ad y hy, M.set_ad] at had
    obtain ⟨l', ty', ab', g', birth', rfl, f⟩ := hfam y oy hy hoy' had.symm
    exact ⟨_, _, _, _, _, _, _, _, _, _, _, nw, hoy, by rw [ha.off y hy, M.set_off]; omega⟩
   ·exact absurd rfl hxy
 ·show x.num < H1.nx.succ.num ∧ ox.birth < H1.cnt + 1
  rw [Pos.num_succ]
  rw [bl] at hx
  split at hx
  ·rename_i e; subst e; cases hx; simp [AObj.birth]
  ·have := h.wf.lt x ox hx; omega
 ·rw [fam]
  rw [bl] at hx
  split at hx
  ·rename_i e; subst e; cases hx; exact .inr ⟨_, by rw [if_pos rfl], List.mem_cons_self⟩
  ·rcases h.wf.root x l' ty' root' ab' g' birth' hx with h1 | ⟨ids0, h1, h2⟩
   ·exact .inl h1
   ·by_cases e : root' = root
    ·subst e
     exact .inr ⟨_, by rw [if_pos rfl], List.mem_cons_of_mem _ (hsub ids0 h1 x h2)⟩
    ·exact .inr ⟨ids0, by rw [if_neg e]; exact h1, h2⟩
 ·rw [fam] at hi
  split at hi
  ·rename_i e; subst e; cases hi; exact List.mem_cons_of_mem _ hroot
  ·exact h.wf.rootIn r ids0 hi
 ·show x.num < H1.nx.succ.num
  rw [Pos.num_succ]
  rw [fam] at hi
  split at hi
  ·cases hi
   rcases List.mem_cons.1 hx with rfl | hx
   ·omega
   ·have := (hmem x hx).1; omega
  ·have := (h.wf.mem r ids0 hi x hx).1; omega
 ·rw [fam] at hi
  rw [bl] at ho
  split at hi
  ·rename_i e
   subst e
   cases hi
   split at ho
   ·cases ho; exact ⟨_, _, _, _, _, rfl⟩
   ·rename_i e
    rcases List.mem_cons.1 hx with e' | hx
    ·exact absurd e' e
    ·exact (hmem x hx).2 ox ho
  ·have hxn : x ≠ H1.nx := fun e => by have := (h.wf.mem r ids0 hi x hx).1; rw [e] at this; exact Nat.lt_irrefl _ this
   rw [if_neg hxn] at ho
   exact (h.wf.mem r ids0 hi x hx).2 ox ho
 ·rw [fam] at hi
  rw [bl] at ho hoy
  split at hi
  ·cases hi
   split at hoy
   ·cases hoy; exact hlim
   ·rename_i e
    rcases List.mem_cons.1 hy with e' | hy
    ·exact absurd e' e
    ·exact hold y hy oy hoy
  ·have hxn : ∀ z ∈ ids0, z ≠ H1.nx := fun z hz e => by have := (h.wf.mem r ids0 hi z hz).1; rw [e] at this; exact Nat.lt_irrefl _ this
   rw [if_neg (hxn x hx)] at ho
   rw [if_neg (hxn y hy)] at hoy
   exact h.wf.old r ids0 hi x hx y hy ox oy ho hoy hl
theorem grow_ok {b : Pos} {l old new : List AV} {ty : Nat} {root : Pos} {ab o s len n g birth : Nat} {k : AV → AH → R Out} {r : Out} (hW : Wf lim H) (hb : PT.get b H.bl = some (.cells l ty root ab g birth)) (hp : ab + l.length < ab + o + (len + n) * s)
 (h : grow H b l ty root ab o s len n old new k = .ok r) :
 ∃ ids bl1, k (.su H.nx 0 (len + n) 0) (viewed bl1 H (old ++ new) ty root (ab + o) s ids) = .ok r ∧ (∀ x ox, PT.get x bl1 = some ox → PT.get x H.bl = some ox) ∧ (∀ x, x ∉ ids → PT.get x bl1 = PT.get x H.bl) ∧ b ∈ ids ∧ root ∈ ids ∧
  (∀ x ∈ ids, x.num < H.nx.num ∧ ∀ o, PT.get x H.bl = some o → ∃ l ty ab g birth, o = .cells l ty root ab g birth) ∧ (lim ≤ birth → ∀ x ∈ ids, ∀ ox, PT.get x H.bl = some ox → lim ≤ ox.birth) ∧
  (∀ ids0, PT.get root H.fam = some ids0 → ids0 = ids) ∧ (∀ x l' ty' ab' g' birth', PT.get x H.bl = some (.cells l' ty' root ab' g' birth') → x ∈ ids) ∧
  (∀ x ∈ ids, ∀ l' ty' ab' g' birth', PT.get x bl1 = some (.cells l' ty' root ab' g' birth') → ab' + l'.length ≤ ab + o + len * s ∨ ab + o + len * s + n * s ≤ ab') ∧ (PT.get root H.fam = some ids ∨ ids = [b]) := by
 unfold grow at h
 cases hf : PT.get root H.fam with
 | none =>
   have hroot : root = b := by
    rcases hW.root b l ty root ab g birth hb with h1 | ⟨ids, h1, _⟩
    ·exact h1
    ·rw [hf] at h1; cases h1
   have hlt := (hW.lt b _ hb).1
   rw [hf] at h
   refine ⟨[b], Bool.rec (motive := fun _ => PT AObj) H.bl (PT.put b none H.bl) (Nat.ble (Nat.succ (ab + o + len * s)) (ab + llen l)), by cases H; exact h, fun x ox hx => ?_, fun x hx => ?_, by simp, by simp [hroot], fun x hx => ?_, fun hl x hx ox hox => ?_, (fun _ e => by cases e), fun x l' ty' ab' g' birth' hx => ?_, fun x hx l' ty' ab' g' birth' hox => ?_, .inr rfl⟩
   ·cases hc : Nat.ble (Nat.succ (ab + o + len * s)) (ab + llen l) with
    | true =>
      rw [hc] at hx
      rw [PT.get_put] at hx
      split at hx
      ·cases hx
      ·exact hx
    | false => rw [hc] at hx; exact hx
   ·have hxb : x ≠ b := by simpa using hx
    cases hc : Nat.ble (Nat.succ (ab + o + len * s)) (ab + llen l) with
    | true => show PT.get x (PT.put b none H.bl) = _; rw [PT.get_put, if_neg hxb]
    | false => rfl
   ·rw [List.mem_singleton.1 hx]
    exact ⟨hlt, fun o ho => by rw [hb] at ho; cases ho; exact ⟨_, _, _, _, _, rfl⟩⟩
   ·rw [List.mem_singleton.1 hx, hb] at hox
    cases hox
    exact hl
   ·rcases hW.root x l' ty' root ab' g' birth' hx with h1 | ⟨ids, h1, _⟩
    ·rw [← h1, hroot]; simp
    ·rw [hf] at h1; cases h1
   ·rw [List.mem_singleton.1 hx] at hox
    cases hc : Nat.ble (Nat.succ (ab + o + len * s)) (ab + llen l) with
    | true => rw [hc] at hox; rw [PT.get_put, if_pos rfl] at hox; cases hox
    | false =>
      rw [hc] at hox
      have hox' : PT.get b H.bl = _ := hox
      rw [hb] at hox'
      cases hox'
      have := nble_of hc
      rw [llen_eq] at this
      left
      omega
 | some ids =>
   rw [hf] at h
   have hnx : ∀ x ∈ ids, x ≠ H.nx := fun x hx e => by have := (hW.mem root ids hf x hx).1; rw [e] at this; exact Nat.lt_irrefl _ this
   have hbi : ∀ x l' ty' ab' g' birth', PT.get x H.bl = some (.cells l' ty' root ab' g' birth') → x ∈ ids := fun x l' ty' ab' g' birth' hx => by
    rcases hW.root x l' ty' root ab' g' birth' hx with h1 | ⟨ids', h1, h2⟩
    ·rw [← h1]; exact hW.rootIn root ids hf
    ·rw [hf] at h1; cases h1; exact h2
   have hb' := hbi b l ty ab g birth hb
   refine ⟨ids, killIn H.nx (ab + o + len * s) (ab + o + len * s + n * s) ids H.bl, by cases H; exact h, fun x ox hx => ?_, fun x hx => ?_, hb', hW.rootIn root ids hf, fun x hx => hW.mem root ids hf x hx, fun hl x hx ox hox => hW.old root ids hf b hb' x hx _ ox hb hox hl, fun ids0 e => by cases e; rfl, hbi, fun x hx l' ty' ab' g' birth' hox => ?_, .inl rfl⟩
   ·rcases killIn_get H.nx (ab + o + len * s) (ab + o + len * s + n * s) ids H.bl x with ⟨h1, _⟩ | ⟨h1, _⟩
    ·rw [h1] at hx; cases hx
    ·rw [h1] at hx; exact hx
   ·rcases killIn_get H.nx (ab + o + len * s) (ab + o + len * s + n * s) ids H.bl x with ⟨_, h1, _⟩ | ⟨h1, _⟩
    ·exact absurd h1 hx
    ·exact h1
   ·rcases killIn_get H.nx (ab + o + len * s) (ab + o + len * s + n * s) ids H.bl x with ⟨h1, _⟩ | ⟨h1, h2⟩
    ·rw [h1] at hox; cases hox
    ·have h3 := h2 hx (hnx x hx)
     rw [h1] at hox
     by_cases hh : ab' < ab + o + len * s + n * s ∧ ab + o + len * s < ab' + l'.length
     ·exact absurd ⟨l', ty', root, ab', g', birth', hox, hh.1, hh.2⟩ h3
     ·omega
end Av
end
section
set_option linter.unusedSimpArgs false
set_option linter.unusedVariables false
namespace Av
open Go Go.RowKit
variable {P : Program} {e : Operand → Option AO} {ρ : Operand → Value} {m : M} {N D : Pos → Prop} {L : List AV} {T : PT AV} {ri : Nat → Option RInfo} {lim B : Nat} {H H1 : AH} {w : World}
theorem concL_append (m : M) (a b : List AV) : concL m (a ++ b) = concL m a ++ concL m b := by simp [concL_eq]
theorem concL_len (m : M) (a : List AV) : (concL m a).length = a.length := by simp [concL_eq]
theorem src_of {u s n : Nat} {y : AV} {l : List AV} (hu : isSeqT P u = true) (hR : Rel ri m N N lim B H w) (hl : l.length = n * s) (hlo : ∀ x ∈ l, sc x = true ∧ okV m N x) (hlen : ∀ w', (Builtin.lenOf (conc m y)).run P w' = .ok n w')
 (hfc : ∀ n', n' ≤ n → ∀ w', Rel ri m N N lim B H w' → (Builtin.firstCells s n' (conc m y)).run P w' = .ok (concL m (l.take (n' * s))).toArray w') : Src P s u (conc m y) n (concL m l) w := by
 have h1 := hfc n (Nat.le_refl _) w hR
 have h2 := hfc n (Nat.le_refl _) w.drew hR.drew
 rw [← hl, List.take_length] at h1 h2
 refine ⟨?_, hlen, h1, h2, by rw [concL_len, hl], fun x hx => ?_⟩
 ·unfold isSeqT at hu
  split at hu
  ·rename_i h; exact .inl ⟨_, h⟩
  ·rename_i h; exact .inr h
  ·cases hu
 ·rw [concL_eq] at hx
  obtain ⟨y, hy, rfl⟩ := List.mem_map.1 hx
  exact sc_oneCell (hlo y hy).1
theorem ld_len {s n : Nat} {z : List AV} {v : Value} (hv : v.cells = (concL m z).toArray) (hz : z.length = s) : (Builtin.zeroCells v.cells n).size = n * s := by
 unfold Builtin.zeroCells
 simp [hv, concL_len, hz]
theorem run_grown {t u ty el n s sLen sCap : Nat} {z : List AV} {y : AV} {base : Option Addr} {old new : List AV} (hu : P.underlying t = some (.slice el)) (hz : zeroC P el = some z) (hs : szT P el = s) (hzl : z.length = s) (hby : bytesT P el ≤ 2 ^ 20)
 (hold : (Builtin.firstCells s sLen (.slice base sLen sCap)).run P w.drew = .ok (concL m old).toArray w.drew) (hlo : old.length = sLen * s) (hln : new.length = n * s) (hsrc : Src P s u (conc m y) n (concL m new) w) (hg : sCap < sLen + n) (hneed : sLen + n ≤ maxNeed) :
 ∃ c cs, (Builtin.append_ #[t, u] ty #[.slice base sLen sCap, conc m y]).run P w = .ok (.slice (some ⟨w.heap.size, 0, none⟩) (sLen + n) c) (w.drew.alloc (.cells cs el)) ∧ sLen + n ≤ c ∧ cs.size = c * s ∧ ∀ (i : Nat) (x : AV), (old ++ new)[i]? = some x → cs[i]? = some (conc m x) := by
 obtain ⟨i, v, z1, z2, z3, _⟩ := zeroC_info hz m (fun _ => True)
 have hsi : i.size = s := by rw [← hs]; unfold szT; rw [z1]
 have hbi : i.bytes ≤ 2 ^ 20 := by unfold bytesT at hby; rw [z1] at hby; exact hby
 have hneed' : sLen + n ≤ 1048576 := hneed
 subst hsi
 have hfit : Builtin.nextslicecap (sLen + n) sCap * i.bytes ≤ 281474976710656 := by
  refine growslice_fits hg ?_
  have := Nat.mul_le_mul hneed' hbi
  have e : (1048576 * 2 ^ 20 : Nat) = 1099511627776 := by decide
  omega
 have hrun := run_append_grow_src (P := P) w t u ty el i v hu z1 z2 base sLen sCap (concL m old) hold (conc m y) n (concL m new) hsrc hg (by omega) hfit
 have hge := grownCap_ge w (sLen + n) sCap el
 refine ⟨_, _, hrun, hge, ?_, fun j x hx => ?_⟩
 ·rw [Array.size_append, ld_len z3 hzl, List.size_toArray, List.length_append, concL_len, concL_len, hlo, hln, ← Nat.add_mul, ← Nat.add_mul]
  congr 1
  omega
 ·have hlt := (List.getElem?_eq_some_iff.1 hx).1
  rw [Array.getElem?_append_left (by rw [← concL_append, List.size_toArray, concL_len]; exact hlt), ← concL_append]
  exact conc_get _ j x hx
def AppR (P : Program) (ri : Nat → Option RInfo) (m : M) (N : Pos → Prop) (lim B : Nat) (H : AH) (w : World) (t u : Nat) (x y : Value) (k : AV → AH → R Out) (r : Out) : Prop :=
 ∃ v H' m' N' w', k v H' = .ok r ∧ Step ri m N lim B H w m' N' H' w' ∧ okV m' N' v ∧ ∀ ty, (Builtin.append_ #[t, u] ty #[x, y]).run P w = .ok (conc m' v) w'
theorem app_new {t u el n s sLen sCap : Nat} {z : List AV} {y : AV} {base : Option Addr} {old new : List AV} {k : AV → AH → R Out} {r : Out} (hR : Rel ri m N N lim B H w) (hu : P.underlying t = some (.slice el)) (hz : zeroC P el = some z) (hs : szT P el = s) (hzl : z.length = s) (hby : bytesT P el ≤ 2 ^ 20)
 (hold : (Builtin.firstCells s sLen (.slice base sLen sCap)).run P w.drew = .ok (concL m old).toArray w.drew) (hlo : old.length = sLen * s) (hln : new.length = n * s) (hsrc : Src P s u (conc m y) n (concL m new) w) (hg : sCap < sLen + n) (hneed : sLen + n ≤ maxNeed)
 (ho : ∀ x ∈ old ++ new, sc x = true ∧ okV m N x) (h : k (.su H.nx 0 (sLen + n) 0) (newCells H (old ++ new) el s) = .ok r) : AppR P ri m N lim B H w t u (.slice base sLen sCap) (conc m y) k r := by
 obtain ⟨c, cs, hrun, hc, hsz, hget⟩ := run_grown (ty := 0) hu hz hs hzl hby hold hlo hln hsrc hg hneed
 refine ⟨_, _, m.set H.nx w.heap.size 0 c, more N H.nx, w.drew.alloc (.cells cs el), h, (Step.drew hR).trans (Step.row hR.drew hget ho (fun i _ => by simp) (fun _ => ⟨by rw [hsz]; exact Nat.le_refl _, ?_⟩)), ⟨.inr rfl, by rw [M.set_cap]; omega⟩, fun ty => ?_⟩
 ·rw [List.length_append, hlo, hln, ← Nat.add_mul]; exact Nat.mul_le_mul_right _ hc
 ·have e : (Builtin.append_ #[t, u] ty #[.slice base sLen sCap, conc m y]) = Builtin.append_ #[t, u] 0 #[.slice base sLen sCap, conc m y] := rfl
  rw [e, hrun]
  simp [conc, M.set_ad, M.set_off, M.set_cap]
theorem app_write {t u el n s len capV : Nat} {v0 y : AV} {b : Pos} {o : Nat} {new : List AV} {k : AV → AH → R Out} {r : Out} (hR : Rel ri m N N lim B H w) (hN : N b) (hu : P.underlying t = some (.slice el)) (hs : szT P el = s) (h0 : s ≠ 0)
 (hln : new.length = n * s) (hlo : ∀ x ∈ new, sc x = true ∧ okV m N x) (hsrc : Src P s u (conc m y) n (concL m new) w) (hroom : len + n ≤ capV) (hv0 : okV m N v0) (hv : conc m v0 = .slice (some ⟨m.ad b, m.off b + o, none⟩) (len + n) capV)
 (h : H.write lim b (Nat.add o (Nat.mul len s)) new (fun H' => k v0 H') = .ok r) : AppR P ri m N lim B H w t u (.slice (some ⟨m.ad b, m.off b + o, none⟩) len capV) (conc m y) k r := by
 obtain ⟨l, ty, root, ab, g, birth, w1, w2, w3, w4⟩ := write_ok h
 have hob := hR.obj b _ hN w1
 obtain ⟨i, hi, hsi⟩ := szT_info (P := P) (t := el) (by rw [hs]; exact h0)
 rw [hs] at hsi
 subst hsi
 have w3' : o + len * i.size + new.length ≤ l.length := w3
 refine ⟨_, _, _, _, _, w4, Step.wrote hR hN w1 w2 w3 hlo, hv0, fun ty => ?_⟩
 rw [hv]
 have hrun := run_append_room_src (P := P) w t u ty el i hu hi (m.ad b) (m.off b + o) len capV (conc m y) n (concL m new) hsrc hroom (fun j hj => ?_) (fun j hj => ?_)
 ·rw [hrun]
  rw [show m.off b + o + len * i.size = m.off b + (Nat.add o (Nat.mul len i.size)) from Nat.add_assoc _ _ _]
 ·rw [concL_len] at hj
  rw [show m.off b + o + len * i.size + j = m.off b + (o + len * i.size + j) from by omega, cell_of hob (List.getElem?_eq_getElem (by omega : o + len * i.size + j < l.length))]
  rfl
 ·rw [concL_len] at hj
  rw [show m.off b + o + len * i.size + j = m.off b + (o + len * i.size + j) from by omega]
  exact frozen_of hob (by omega)
theorem app_grow {t u el n s len lost : Nat} {z : List AV} {y : AV} {b : Pos} {o : Nat} {l new : List AV} {root : Pos} {ab birth : Nat} {k : AV → AH → R Out} {r : Out} (hR : Rel ri m N N lim B H w) (hN : N b) (hc : lost + len ≤ m.cap b) (hb : PT.get b H.bl = some (.cells l el root ab s birth))
 (hu : P.underlying t = some (.slice el)) (hz : zeroC P el = some z) (hs : szT P el = s) (hzl : z.length = s) (h0 : s ≠ 0) (hby : bytesT P el ≤ 2 ^ 20) (hneed : len + n ≤ maxNeed)
 (hln : new.length = n * s) (hlo : ∀ x ∈ new, sc x = true ∧ okV m N x) (hsrc : Src P s u (conc m y) n (concL m new) w) (ho : o = lost * s) (hl : lim ≤ birth) (hlong : l.length < o + (len + n) * s) (hle : len * s ≤ (l.drop o).length)
 (h : grow H b l el root ab o s len n ((l.drop o).take (len * s)) new k = .ok r) : AppR P ri m N lim B H w t u (.slice (some ⟨m.ad b, m.off b + o, none⟩) len (m.cap b - lost)) (conc m y) k r := by
 have hob := hR.obj b _ hN hb
 obtain ⟨cs, fz, c1, c2, c3, c4, c5⟩ := id hob
 obtain ⟨c5a, c5b⟩ := c5 h0
 have hspos := Nat.pos_of_ne_zero h0
 obtain ⟨ids, bl1, g1, g2, g3, g4, g4r, g5, g6, g7, g8, g9, g10⟩ := grow_ok (lim := lim) hR.wf hb (by omega) h
 have hcnt := (hR.wf.lt b _ hb).2
 have hlc : lim ≤ H.cnt := Nat.le_trans hl (Nat.le_of_lt hcnt)
 have hBb := hR.perm b _ hN hb hl
 have holdok : ∀ x ∈ (l.drop o).take (len * s) ++ new, sc x = true ∧ okV m N x := fun x hx => by
  rcases List.mem_append.1 hx with hx | hx
  ·exact c3 x (take_drop_mem hx)
  ·exact hlo x hx
 have hol : ((l.drop o).take (len * s)).length = len * s := by rw [List.length_take]; exact Nat.min_eq_left hle
 have hall : ((l.drop o).take (len * s) ++ new).length = (len + n) * s := by rw [List.length_append, hol, hln, ← Nat.add_mul]
 have hless : Rel ri m N N lim B ⟨bl1, H.nx, H.cnt, H.fam⟩ w := hR.less rfl rfl rfl g2
 have hkeep : ∀ (w' : World) (a off cap : Nat), Rel ri (m.set H.nx a off cap) (more N H.nx) (more N H.nx) lim B (viewed bl1 H ((l.drop o).take (len * s) ++ new) el root (ab + o) s ids) w' → B ≤ a → Below B w w' →
  Step ri m N lim B H w (m.set H.nx a off cap) (more N H.nx) (viewed bl1 H ((l.drop o).take (len * s) ++ new) el root (ab + o) s ids) w' := by
  intro w' a off cap hrel hBa hbel
  refine ⟨hrel, Agree.set hR.nx m _ _ _, fun x hx => .inl hx, fun x hx => ?_, hbel, fun x ox hx hbi => ?_, ?_, ?_, fun x h1 h2 => ?_, fun x ox hx => ?_, fun r ids2 hr x hx y hy hxn hyn => ?_⟩
  ·rcases hx with hx | rfl
   ·exact .inl hx
   ·exact .inr ⟨Nat.le_refl _, by rw [M.set_ad]; exact hBa⟩
  ·show PT.get x (PT.put H.nx _ bl1) = _
   rw [PT.get_put]
   split
   ·rename_i e; subst e; rw [hR.wf.no] at hx; cases hx
   ·by_cases hxi : x ∈ ids
    ·have := g6 hl x hxi ox hx; omega
    ·rw [g3 x hxi]; exact hx
  ·show H.nx.num ≤ H.nx.succ.num; rw [Pos.num_succ]; omega
  ·show H.cnt ≤ H.cnt + 1; omega
  ·have h2 : x.num < H.nx.succ.num := h2
   rw [Pos.num_succ] at h2
   exact .inr (Pos.num_inj (by omega))
  ·have hx2 : PT.get x (PT.put H.nx (some (.cells ((l.drop o).take (len * s) ++ new) el root (ab + o) s H.cnt)) bl1) = some ox := hx
   clear hx
   rw [PT.get_put] at hx2
   split at hx2
   ·rename_i e; subst e; cases hx2; exact .inl ⟨Nat.le_refl _, Nat.le_refl _⟩
   ·exact .inr ⟨ox, g2 x ox hx2, rfl⟩
  ·have hr2 : PT.get r (PT.put root (some (H.nx :: ids)) H.fam) = some ids2 := hr
   clear hr
   rw [PT.get_put] at hr2
   split at hr2
   ·rename_i e
    subst e
    cases hr2
    have n1 : ∀ z ∈ H.nx :: ids, z.num < H.nx.num → z ∈ ids := fun z hz hzn => by
     rcases List.mem_cons.1 hz with e | e
     ·subst e; exact absurd hzn (Nat.lt_irrefl _)
     ·exact e
    have hx1 := n1 x hx hxn
    have hy1 := n1 y hy hyn
    rcases g10 with e | e
    ·exact .inr ⟨ids, e, hx1, hy1⟩
    ·rw [e] at hx1 hy1
     exact .inl ((List.mem_singleton.1 hx1).trans (List.mem_singleton.1 hy1).symm)
   ·exact .inr ⟨ids2, hr2, hx, hy⟩
 have hmem1 : ∀ x ∈ ids, x.num < H.nx.num ∧ ∀ o, PT.get x bl1 = some o → ∃ l ty ab g birth, o = .cells l ty root ab g birth := fun x hx => ⟨(g5 x hx).1, fun ox hox => (g5 x hx).2 ox (g2 x ox hox)⟩
 have hold1 : ∀ x ∈ ids, ∀ ox, PT.get x bl1 = some ox → lim ≤ ox.birth := fun x hx ox hox => g6 hl x hx ox (g2 x ox hox)
 have hsub1 : ∀ ids0, PT.get root H.fam = some ids0 → ∀ x ∈ ids0, x ∈ ids := fun ids0 e x hx => by rw [← g7 ids0 e]; exact hx
 have hagree : ∀ a off cap, Agree N m (m.set H.nx a off cap) := fun a off cap => Agree.set hR.nx m _ _ _
 by_cases hroom : len + n ≤ m.cap b - lost
 ·-- in place
  obtain ⟨i, hi, hsi⟩ := szT_info (P := P) (t := el) (by rw [hs]; exact h0)
  rw [hs] at hsi
  have hcap : (lost + len + n) * s ≤ m.cap b * s := Nat.mul_le_mul_right _ (by omega)
  rw [Nat.add_mul, Nat.add_mul] at hcap
  rw [Nat.add_mul] at hlong
  have hcells : ∀ j, j < n * s → m.off b + o + len * s + j < cs.size := fun j hj => by omega
  obtain ⟨cs', d1, d2, d3⟩ := setCells_heap (m.ad b) (concL m new) (m.off b + o + len * s) w cs el fz c1
  rw [concL_len, hln] at d3
  have hpoke : Rel ri m N N lim B ⟨bl1, H.nx, H.cnt, H.fam⟩ (w.setCells (m.ad b) (m.off b + o + len * s) (concL m new)) := by
   refine hless.poke c1 fun x l' ty' root' ab' g' birth' hx hox had => ?_
   rw [concL_len, hln]
   have hox' := g2 x _ hox
   by_cases hxb : x = b
   ·subst hxb
    rw [hb] at hox'
    cases hox'
    rcases g9 x g4 _ _ _ _ _ hox with h1 | h1 <;> omega
   ·obtain ⟨l1, ty1, root1, ab1, g1', birth1, l2, ty2, ab2, g2', birth2, f1, f2, f3⟩ := hR.apart x b _ _ hx hN hox' hb hxb had
    rw [hox'] at f1
    rw [hb] at f2
    cases f1
    cases f2
    rcases g9 x (g8 x _ _ _ _ _ hox') _ _ _ _ _ hox with h1 | h1 <;> omega
  have hview : Rel ri (m.set H.nx (m.ad b) (m.off b + o) (m.cap b - lost)) (more N H.nx) (more N H.nx) lim B (viewed bl1 H ((l.drop o).take (len * s) ++ new) el root (ab + o) s ids) (w.setCells (m.ad b) (m.off b + o + len * s) (concL m new)) := by
   refine Rel.view (H1 := ⟨bl1, H.nx, H.cnt, H.fam⟩) hpoke hBb g4r hmem1 hold1 hsub1 hlc ?_ (fun x ox hx hox had => ?_)
   ·refine ⟨cs', fz, by rw [M.set_ad]; exact d1, fun j x hx => ?_, fun x hx => ⟨(holdok x hx).1, okV_agree (hagree _ _ _) (fun _ y => .inl y) x (holdok x hx).2⟩, fun j hj => c4 j (by omega), fun _ => ⟨?_, ?_⟩⟩
    ·rw [M.set_off, conc_agree (hagree _ _ _) x (holdok x (List.mem_of_getElem? hx)).2]
     have hj := (List.getElem?_eq_some_iff.1 hx).1
     rw [hall, Nat.add_mul] at hj
     rw [d3 _ (by omega)]
     by_cases hjl : j < len * s
     ·rw [if_neg (by omega)]
      rw [List.getElem?_append_left (by rw [hol]; exact hjl), List.getElem?_take_of_lt hjl, List.getElem?_drop] at hx
      rw [Nat.add_assoc]
      exact c2 _ x hx
     ·rw [if_pos (by omega)]
      rw [List.getElem?_append_right (by rw [hol]; omega), hol] at hx
      rw [show m.off b + o + j - (m.off b + o + len * s) = j - len * s from by omega, concL_get, hx]
      rfl
    ·rw [M.set_off, M.set_cap, Nat.sub_mul, d2]; omega
    ·rw [M.set_cap, hall]; exact Nat.mul_le_mul_right _ hroom
   ·have hox' := g2 x ox hox
    by_cases hxb : x = b
    ·subst hxb
     rw [hb] at hox'
     cases hox'
     exact ⟨_, _, _, _, _, rfl, by omega⟩
    ·obtain ⟨l1, ty1, root1, ab1, g1', birth1, l2, ty2, ab2, g2', birth2, f1, f2, f3⟩ := hR.apart x b _ _ hx hN hox' hb hxb had
     rw [hox'] at f1
     rw [hb] at f2
     cases f1
     cases f2
     exact ⟨_, _, _, _, _, rfl, by omega⟩
  refine ⟨_, _, _, _, _, g1, hkeep _ _ _ _ hview hBb (setCells_below _ _ _ _ hBb), ⟨.inr rfl, by show 0 + (len + n) ≤ (m.set H.nx _ _ _).cap H.nx; rw [M.set_cap]; omega⟩, fun ty => ?_⟩
  have hrun := run_append_room_src (P := P) w t u ty el i hu hi (m.ad b) (m.off b + o) len (m.cap b - lost) (conc m y) n (concL m new) (by rw [hsi]; exact hsrc) hroom (fun j hj => ?_) (fun j hj => ?_)
  ·rw [hrun, hsi]
   simp [conc, M.set_ad, M.set_off, M.set_cap]
  ·rw [concL_len, hln] at hj
   rw [hsi]
   have := hcells j hj
   simp [World.cell?, c1, Array.getElem?_eq_getElem this]
  ·rw [concL_len, hln] at hj
   rw [hsi]
   have h1 := hcells j hj
   have h2 := c4 _ h1
   simp only [World.frozen?, c1]
   simp only [Bool.and_eq_false_iff, decide_eq_false_iff_not]
   omega
 ·-- a new row
  have holdr : (Builtin.firstCells s len (.slice (some ⟨m.ad b, m.off b + o, none⟩) len (m.cap b - lost))).run P w.drew = .ok (concL m ((l.drop o).take (len * s))).toArray w.drew := run_read (hR.drew.obj b _ hN hb) hle
  obtain ⟨c, cs2, hrun, hcge, hsz, hget⟩ := run_grown (ty := 0) hu hz hs hzl hby holdr hol hln hsrc (by omega) hneed
  have hw : Rel ri m N N lim B ⟨bl1, H.nx, H.cnt, H.fam⟩ (w.drew.alloc (.cells cs2 el)) := hless.world (fun x ox hx hox => getElem?_push_lt (w := w.drew) ((hless.obj x ox hx hox).lt)) (by rw [alloc_size]; exact Nat.le_succ_of_le hR.base)
  have hview : Rel ri (m.set H.nx w.heap.size 0 c) (more N H.nx) (more N H.nx) lim B (viewed bl1 H ((l.drop o).take (len * s) ++ new) el root (ab + o) s ids) (w.drew.alloc (.cells cs2 el)) := by
   refine Rel.view (H1 := ⟨bl1, H.nx, H.cnt, H.fam⟩) hw hR.base g4r hmem1 hold1 hsub1 hlc ?_ (fun x ox hx hox had => ?_)
   ·refine ⟨cs2, (0, 0), by rw [M.set_ad]; exact alloc_last w.drew _, fun j x hx => ?_, fun x hx => ⟨(holdok x hx).1, okV_agree (hagree _ _ _) (fun _ y => .inl y) x (holdok x hx).2⟩, fun j hj => by simp, fun _ => ⟨?_, ?_⟩⟩
    ·rw [M.set_off, Nat.zero_add, conc_agree (hagree _ _ _) x (holdok x (List.mem_of_getElem? hx)).2]
     exact hget j x hx
    ·rw [M.set_off, M.set_cap, hsz]; omega
    ·rw [M.set_cap, hall]; exact Nat.mul_le_mul_right _ hcge
   ·have := (hless.obj x ox hx hox).lt
    rw [had] at this
    exact absurd this (Nat.lt_irrefl _)
  refine ⟨_, _, _, _, _, g1, hkeep _ _ _ _ hview hR.base ((Below.refl B w).drew.alloc hR.base _), ⟨.inr rfl, by show 0 + (len + n) ≤ (m.set H.nx _ _ _).cap H.nx; rw [M.set_cap]; omega⟩, fun ty => ?_⟩
  have e : (Builtin.append_ #[t, u] ty #[.slice (some ⟨m.ad b, m.off b + o, none⟩) len (m.cap b - lost), conc m y]) = Builtin.append_ #[t, u] 0 #[.slice (some ⟨m.ad b, m.off b + o, none⟩) len (m.cap b - lost), conc m y] := rfl
  rw [e, hrun]
  simp [conc, M.set_ad, M.set_off, M.set_cap]
end Av
end

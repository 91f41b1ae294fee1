/- A part of the proof. -/
import Derived.Test.YtfekipocjifehaaGreatDoorPar
import Derived.Test.YtfekipocjifehaaGreatDoorPas
set_option linter.all false
namespace Go.Proofs.Seat7
open Go.RowKit Go.Proofs.Seat4
def comb (x old : Mt) : Mt := ⟨x.name, x.index, x.count + old.count, x.sum + old.sum, max x.mx old.mx⟩
def addV (d : List Mt) (x : Mt) : Mt := (findM d x).elim x (comb x)
def addM (d : List Mt) (x : Mt) : List Mt := putM d (addV d x)
def foldM (l : List Mt) : List Mt := l.foldl addM []
def overM (m : Mt) : Bool := decide (1099511627776 < m.count) || !wi m.sum (-1152921504606846976) 1152921504606846976
theorem foldM_snoc (l : List Mt) (k : Nat) (h : k < l.length) : foldM (l.take (k + 1)) = addM (foldM (l.take k)) l[k] := by
  unfold foldM
  rw [take_snoc l k h, List.foldl_append]
  rfl
def GoodN (l : List Mt) : Prop := ∀ k (h : k < l.length) old, findM (foldM (l.take k)) l[k] = some old → rngB old = true ∧ rngB l[k] = true
structure Bx (b : Nat) (w w' : World) : Prop where
  os : w'.os = w.os
  tape : w'.tape = w.tape
  output : w'.output = w.output
  size : w.heap.size ≤ w'.heap.size
  block : ∀ k, k < w.heap.size → k ≠ b → w'.heap[k]? = w.heap[k]?
theorem Bx.refl (b : Nat) (w : World) : Bx b w w := ⟨rfl, rfl, rfl, Nat.le_refl _, fun _ _ _ => rfl⟩
theorem Bx.trans {b : Nat} {w w' w'' : World} (h : Bx b w w') (k : Bx b w' w'') : Bx b w w'' :=
  ⟨k.os.trans h.os, k.tape.trans h.tape, k.output.trans h.output, Nat.le_trans h.size k.size, fun i hi hn => (k.block i (Nat.lt_of_lt_of_le hi h.size) hn).trans (h.block i hi hn)⟩
theorem Bx.of_below {b : Nat} {w w' : World} (h : Below w.heap.size w w') : Bx b w w' := ⟨h.os, h.tape, h.output, h.size, fun k hk _ => h.block k hk⟩
theorem Bx.to_below {b B : Nat} {w w' : World} (h : Bx b w w') (hB : B ≤ b) (hs : b ≤ w.heap.size) : Below B w w' := ⟨h.os, h.tape, h.output, h.size, fun k hk => h.block k (by omega) (by omega)⟩
theorem Bx.row {b c off : Nat} {w w' : World} {cs : List Value} (h : Bx b w w') (hr : Row w c off cs) (hc : c < w.heap.size) (hn : c ≠ b) : Row w' c off cs := fun j v hj => by
  rw [World.cell?_of_block (a := ⟨c, off + j, none⟩) (h.block c hc hn)]
  exact hr j v hj
def MPost (a b : List Mt) (w : World) (e : Ending) (w' : World) : Prop :=
  Below w.heap.size w w' ∧
  if chk a = 0 ∧ chk b = 0 then ∃ D, D.Perm (foldM (a ++ b)) ∧ InOrd D ∧ (if D.any overM = true then e = .returned (.tuple #[.slice none 0 0, .int .i64 14]) else ∃ v, e = .returned (.tuple #[v, .int .i64 0]) ∧ w'.ownsRow w.heap.size 32 5 v D.length (D.flatMap mtCells))
  else e = .returned (.tuple #[.slice none 0 0, .int .i64 1])
theorem row_of_heap {w : World} {b : Nat} {cs : Array Value} {t : TypeId} (h : w.heap[b]? = some (.cells cs t (0, 0))) : Row w b 0 cs.toList := fun j v hj => by
  rw [Nat.zero_add, Lib.cell_of_heap h]
  simpa using hj
theorem putM_len (x : Mt) : ∀ d : List Mt, (putM d x).length ≤ d.length + 1
  | [] => by simp [putM]
  | y :: r => by
    have := putM_len x r
    unfold putM
    split
    · simp
    · simp; omega
theorem foldM_len (l : List Mt) : (foldM l).length ≤ l.length := by
  suffices h : ∀ (l d : List Mt), (l.foldl addM d).length ≤ d.length + l.length by simpa [foldM] using h l []
  intro l
  induction l with
  | nil => intro d; simp
  | cons x r ih =>
    intro d
    have h1 := ih (addM d x)
    have h2 := putM_len (addV d x) d
    show (r.foldl addM (addM d x)).length ≤ _
    simp only [List.length_cons]
    unfold addM at h1 ⊢
    omega
theorem ownsRow_mono' {w : World} {lo lo' e size n : Nat} {v : Value} {xs : List Value} (h : w.ownsRow lo e size v n xs) (hl : lo' ≤ lo) : w.ownsRow lo' e size v n xs := by
  refine ⟨h.1, ?_⟩
  rcases h.2 with h | ⟨g, cap, cur, h1, h2, h3⟩
  · exact .inl h
  · exact .inr ⟨g, cap, cur, h1, Nat.le_trans hl h2, h3⟩
theorem mpost_over {a b L Ds : List Mt} {w w' : World} (ca : chk a = 0) (cb : chk b = 0) (hL : a ++ b = L) (p1 : Ds.Perm (foldM L)) (p2 : InOrd Ds) (m : Mt) (hm : m ∈ Ds) (ho : overM m = true) (hb : Below w.heap.size w w') :
    MPost a b w (.returned (.tuple #[.slice none 0 0, .int .i64 14])) w' := by
  refine ⟨hb, ?_⟩
  rw [if_pos ⟨ca, cb⟩, hL]
  exact ⟨Ds, p1, p2, by rw [if_pos (List.any_eq_true.2 ⟨m, hm, ho⟩)]⟩
theorem mpost_ok {a b L Ds : List Mt} {w w' : World} {v : Value} (ca : chk a = 0) (cb : chk b = 0) (hL : a ++ b = L) (p1 : Ds.Perm (foldM L)) (p2 : InOrd Ds) (ho : Ds.any overM = false) (hv : w'.ownsRow w.heap.size 32 5 v Ds.length (Ds.flatMap mtCells)) (hb : Below w.heap.size w w') :
    MPost a b w (.returned (.tuple #[v, .int .i64 0])) w' := by
  refine ⟨hb, ?_⟩
  rw [if_pos ⟨ca, cb⟩, hL]
  exact ⟨Ds, p1, p2, by rw [if_neg (by rw [ho]; decide)]; exact ⟨v, rfl, hv⟩⟩
theorem own_below {w w' : World} {lo e size n : Nat} {v : Value} {xs : List Value} (h : w.ownsRow lo e size v n xs) (hb : Below w.heap.size w w') : w'.ownsRow lo e size v n xs :=
  h.kept (row := none) ⟨hb.os, hb.tape, hb.output, hb.size, fun k hk _ => hb.block k hk⟩ (by cases v.ownBlock <;> simp)
theorem run_mkMap (w : World) : (Instr.makeMap 54 none).run Tryz.prog w = .ok (.map (some w.heap.size)) (w.alloc (.map #[] 0)) := rfl
set_option maxRecDepth 100000 in
set_option maxHeartbeats 1000000 in
theorem merge7 (a b : List Mt) (va vb : Value) (w : World) (ha : LV ME w va a) (hb : LV ME w vb b) (hna : NilOk va) (hnb : NilOk vb) (hlen : chk a = 0 → chk b = 0 → a.length + b.length ≤ 500) (hg : chk a = 0 → chk b = 0 → GoodN (a ++ b)) :
    Calls Tryz.prog 7 #[va, vb] w (MPost a b w) := by
  obtain ⟨A1, c1, hva⟩ := lv_len ha
  obtain ⟨A2, c2, hvb⟩ := lv_len hb
  have Hcka := Lib.hid (check a va w ha)
  have Hckb := Lib.hid (fun w1 (h1 : Below w.heap.size w w1) => check b vb w1 (hb.below h1))
  subst hva hvb
  have Ha := Lib.hid ha
  have Hb := Lib.hid hb
  have Hna := Lib.hid hna
  have Hnb := Lib.hid hnb
  have Hlen := Lib.hid hlen
  have Hg := Lib.hid hg
  clear ha hb hna hnb hlen hg
  by_cases ca : chk a = 0
  · by_cases cb : chk b = 0
    · rw [ca] at Hcka
      rw [cb] at Hckb
      go_enter Tryz.func7, Tryz.ntmps7
      go_upto_region 3 with (go_at_call 11; first | (with_reducible refine Calls.mono Hcka.out ?_; rintro e w1 ⟨rfl, hb1⟩) | (with_reducible refine Calls.mono (Hckb.out _ hb1) ?_; rintro e w2 ⟨rfl, hb2⟩))
      go_upto_region 4 with fail
      rw [run_mkMap]
      simp only [Result.andThen]
      rw [Oper.upon_value]
      have hM0 : MapIs (w2.alloc (.map #[] 0)) w2.heap.size (([] : List Mt).map mtKV) := heap_alloc_new w2 _
      have hbw : Below w.heap.size w (w2.alloc (.map #[] 0)) := (hb1.trans (below_mono hb2 hb1.size)).alloc (Nat.le_trans hb1.size hb2.size) _
      have hmb : w2.heap.size < (w2.alloc (.map #[] 0)).heap.size := by simp
      have hmw : w.heap.size ≤ w2.heap.size := Nat.le_trans hb1.size hb2.size
      generalize w2.heap.size = mb at *
      generalize w2.alloc (.map #[] 0) = W3 at *
      have HM0 := Lib.hid hM0
      have Hbw := Lib.hid hbw
      clear hM0 hbw hb1 hb2 Hcka Hckb
      go_upto_region 4 with fail
      have hrow := Go.Proofs.Seat4.Row.new W3 #[.slice A1 a.length c1, .slice A2 b.length c2] 22 W3.heap.size rfl
      have hb4 : Below W3.heap.size W3 (W3.alloc (.cells #[.slice A1 a.length c1, .slice A2 b.length c2] 22)) := (Below.refl _ _).alloc (Nat.le_refl _) _
      have hla := Ha.out.below (Hbw.out.alloc (Nat.le_trans hmw (Nat.le_of_lt hmb)) (.cells #[.slice A1 a.length c1, .slice A2 b.length c2] 22))
      have hlb := Hb.out.below (Hbw.out.alloc (Nat.le_trans hmw (Nat.le_of_lt hmb)) (.cells #[.slice A1 a.length c1, .slice A2 b.length c2] 22))
      have hW : W3.heap.size < (W3.alloc (.cells #[.slice A1 a.length c1, .slice A2 b.length c2] 22)).heap.size := by simp
      have hM4 := HM0.out.below hb4 hmb
      have hw4 := Hbw.out.trans (below_mono hb4 (Nat.le_trans hmw (Nat.le_of_lt hmb)))
      have hcon := concat17 a b _ _ W3.heap.size _ hW hrow hla hlb Hna.out Hnb.out (Nat.le_trans (Hlen.out ca cb) (by omega))
      have hlen := Hlen.out ca cb
      have hgd := Hg.out ca cb
      rw [← List.length_append] at hcon hlen
      generalize hLL : a ++ b = L at hcon hlen hgd
      have HLL := Lib.hid hLL
      have Hcon := Lib.hid hcon
      have Hgd := Lib.hid hgd
      clear hcon hLL hgd
      have HM4 := Lib.hid hM4
      have Hw4 := Lib.hid hw4
      clear hla hlb hrow hb4 HM0 Hbw hM4 hw4
      go_upto_region 5 with (go_at_call 17; refine Hcon.out.mono ?_; rintro e w5 ⟨v5, rfl, hown, hb5⟩; obtain ⟨A, c, hv5⟩ : ∃ A c, v5 = .slice A L.length c := lv_len (lv_own (E := ME) (l := L) hown); subst hv5)
      have hM5 := HM4.out.below hb5 (Nat.lt_trans hmb hW)
      have hw5 := Hw4.out.trans (below_mono hb5 (Nat.le_trans hmw (Nat.le_of_lt (Nat.lt_trans hmb hW))))
      have hmb5 : mb < w5.heap.size := Nat.lt_of_lt_of_le (Nat.lt_trans hmb hW) hb5.size
      have hrows : ∀ k (h : k < L.length), ∃ g off, A = some ⟨g, off, none⟩ ∧ g < w5.heap.size ∧ g ≠ mb ∧ Row w5 g (off + k * 5) (mtCells L[k]) := by
        intro k hk
        obtain ⟨A', c', e1, _, hr⟩ := lv_own (E := ME) (l := L) hown
        cases e1
        have hne : L ≠ [] := fun e => by rw [e] at hk; exact absurd hk (Nat.not_lt_zero _)
        obtain ⟨g, off, rfl, h2, h3⟩ := hr hne
        refine ⟨g, off, rfl, h2, ?_, h3 k hk⟩
        have := (hown.lt g rfl).1
        omega
      have HM5 := Lib.hid hM5
      have Hw5 := Lib.hid hw5
      have Hrows := Lib.hid hrows
      have hm5 : w.heap.size ≤ w5.heap.size := Nat.le_trans hmw (Nat.le_of_lt hmb5)
      clear Hcon HM4 Hw4 hM5 hw5 hrows hown hb5 hW hmb Ha Hb Hna Hnb Hlen Hg
      go_loopw [29] (fun v wr => ∃ k : Nat, k ≤ L.length ∧ v = .int .i64 k ∧ MapIs wr mb ((foldM (L.take k)).map mtKV) ∧ Bx mb w5 wr) (fun v _ => L.length - (intOf v).toNat)
      case atStart => exact ⟨0, Nat.zero_le _, rfl, HM5.out, Bx.refl _ _⟩
      case round =>
        obtain ⟨k, hk, rfl, hMr, hbx⟩ := hrel
        clear HM5
        by_cases hlt : k < L.length
        · obtain ⟨g, off, rfl, hg1, hg2, hrow5⟩ := Hrows.out k hlt
          have hr' := hbx.row hrow5 hg1 hg2
          have hsn := foldM_snoc L k hlt
          have hgk := Hgd.out k hlt
          generalize hX : L[k] = X at *
          generalize hD : foldM (L.take k) = D at *
          have hmr : mb < wr.heap.size := Nat.lt_of_lt_of_le hmb5 hbx.size
          have HX := Lib.hid hX
          have HD := Lib.hid hD
          have HMr := Lib.hid hMr
          have Hbx := Lib.hid hbx
          have Hsn := Lib.hid hsn
          have Hgk := Lib.hid hgk
          clear hX hD hMr hbx hsn hgk hrow5
          go_upto_region 7 with ((with_reducible refine wpList_load_agg (o := ⟨some 32, .load 32 (.tmp 31), _, _, _, none⟩) rfl 32 _ rfl g (off + k * 5) ?_ _ hr' _ Tryz.underlying32 rfl ?_ ?_); (focus rfl); (focus kernel_rfl); simp only [mtCells])
          have hx7 : (wr.alloc (.cells #[.string ⟨X.name.toArray⟩, .int .i64 X.index, .int .i64 X.count, .int .i64 X.sum, .int .i64 X.mx] 32)).heap[wr.heap.size]? = some (.cells #[.string ⟨X.name.toArray⟩, .int .i64 X.index, .int .i64 X.count, .int .i64 X.sum, .int .i64 X.mx] 32 (0, 0)) := heap_alloc_new wr _
          have hb7 : Below wr.heap.size wr (wr.alloc (.cells #[.string ⟨X.name.toArray⟩, .int .i64 X.index, .int .i64 X.count, .int .i64 X.sum, .int .i64 X.mx] 32)) := (Below.refl _ _).alloc (Nat.le_refl _) _
          have hs7 : (wr.alloc (.cells #[.string ⟨X.name.toArray⟩, .int .i64 X.index, .int .i64 X.count, .int .i64 X.sum, .int .i64 X.mx] 32)).heap.size = wr.heap.size + 1 := by simp
          generalize (wr.alloc (.cells #[.string ⟨X.name.toArray⟩, .int .i64 X.index, .int .i64 X.count, .int .i64 X.sum, .int .i64 X.mx] 32)) = W7 at *
          have c0 : W7.cell? ⟨wr.heap.size, 0, none⟩ = some (.string ⟨X.name.toArray⟩) := by rw [Lib.cell_of_heap hx7]; rfl
          have c1' : W7.cell? ⟨wr.heap.size, 1, none⟩ = some (.int .i64 X.index) := by rw [Lib.cell_of_heap hx7]; rfl
          have Hb7 := Lib.hid hb7
          have Hs7 := Lib.hid hs7
          have Hx7 := Lib.hid hx7
          clear hb7 hs7 hx7 hr'
          go_upto_region 8 with fail
          have hx8 : (W7.alloc (.cells #[.string ⟨X.name.toArray⟩, .int .i64 X.index] 57)).heap[wr.heap.size]? = some (.cells #[.string ⟨X.name.toArray⟩, .int .i64 X.index, .int .i64 X.count, .int .i64 X.sum, .int .i64 X.mx] 32 (0, 0)) := (Lib.alloc_old W7 _ _ (heap_lt Hx7.out)).trans Hx7.out
          have hk8 : (W7.alloc (.cells #[.string ⟨X.name.toArray⟩, .int .i64 X.index] 57)).heap[W7.heap.size]? = some (.cells #[.string ⟨X.name.toArray⟩, .int .i64 X.index] 57 (0, 0)) := heap_alloc_new W7 _
          have hb8 : Below wr.heap.size wr (W7.alloc (.cells #[.string ⟨X.name.toArray⟩, .int .i64 X.index] 57)) := Hb7.out.alloc (by rw [Hs7.out]; omega) _
          have hs8 : (W7.alloc (.cells #[.string ⟨X.name.toArray⟩, .int .i64 X.index] 57)).heap.size = wr.heap.size + 2 := by simp [Hs7.out]
          rw [Hs7.out] at hk8
          have hs7 := Hs7.out
          rw [hs7]
          generalize (W7.alloc (.cells #[.string ⟨X.name.toArray⟩, .int .i64 X.index] 57)) = W8 at *
          have hM8 := HMr.out.below hb8 hmr
          have hrk := row_of_heap hk8
          have Hk8 := Lib.hid hk8
          have Hx8 := Lib.hid hx8
          have Hb8 := Lib.hid hb8
          have Hs8 := Lib.hid hs8
          clear hk8 hx8 hb8 hs8 c0 c1' Hb7 Hs7 Hx7 hs7
          go_upto_region 9 with (first | ((with_reducible refine wpList_load_agg (o := ⟨some 40, .load 57 (.tmp 9), _, _, _, none⟩) rfl 57 _ rfl (wr.heap.size + 1) 0 ?_ _ hrk _ Tryz.underlying57 rfl ?_ ?_); (focus rfl); (focus kernel_rfl)) | ((with_reducible refine wpList_look (o := ⟨some 41, .lookup 54 (.tmp 39) (.tmp 40) true, _, _, _, none⟩) rfl _ _ rfl mb D X ?_ ?_ hM8 ?_); (focus rfl); (focus rfl); simp only [mtCells]))
          generalize hO : (findM D X).getD ⟨[], 0, 0, 0, 0⟩ = O at *
          have hs8 := Hs8.out
          have hx9 : (W8.alloc (.cells #[.string ⟨O.name.toArray⟩, .int .i64 O.index, .int .i64 O.count, .int .i64 O.sum, .int .i64 O.mx] 32)).heap[wr.heap.size]? = some (.cells #[.string ⟨X.name.toArray⟩, .int .i64 X.index, .int .i64 X.count, .int .i64 X.sum, .int .i64 X.mx] 32 (0, 0)) := (Lib.alloc_old W8 _ _ (heap_lt Hx8.out)).trans Hx8.out
          have hk9 : (W8.alloc (.cells #[.string ⟨O.name.toArray⟩, .int .i64 O.index, .int .i64 O.count, .int .i64 O.sum, .int .i64 O.mx] 32)).heap[wr.heap.size + 1]? = some (.cells #[.string ⟨X.name.toArray⟩, .int .i64 X.index] 57 (0, 0)) := (Lib.alloc_old W8 _ _ (heap_lt Hk8.out)).trans Hk8.out
          have ho9 : (W8.alloc (.cells #[.string ⟨O.name.toArray⟩, .int .i64 O.index, .int .i64 O.count, .int .i64 O.sum, .int .i64 O.mx] 32)).heap[W8.heap.size]? = some (.cells #[.string ⟨O.name.toArray⟩, .int .i64 O.index, .int .i64 O.count, .int .i64 O.sum, .int .i64 O.mx] 32 (0, 0)) := heap_alloc_new W8 _
          have hb9 : Below wr.heap.size wr (W8.alloc (.cells #[.string ⟨O.name.toArray⟩, .int .i64 O.index, .int .i64 O.count, .int .i64 O.sum, .int .i64 O.mx] 32)) := Hb8.out.alloc (by omega) _
          have hs9 : (W8.alloc (.cells #[.string ⟨O.name.toArray⟩, .int .i64 O.index, .int .i64 O.count, .int .i64 O.sum, .int .i64 O.mx] 32)).heap.size = wr.heap.size + 3 := by simp [hs8]
          rw [hs8] at ho9
          rw [hs8]
          generalize (W8.alloc (.cells #[.string ⟨O.name.toArray⟩, .int .i64 O.index, .int .i64 O.count, .int .i64 O.sum, .int .i64 O.mx] 32)) = W9 at *
          have HO := Lib.hid hO
          have Hx9 := Lib.hid hx9
          have Hk9 := Lib.hid hk9
          have Ho9 := Lib.hid ho9
          have Hb9 := Lib.hid hb9
          have Hs9 := Lib.hid hs9
          clear hO hx9 hk9 ho9 hb9 hs9 hs8 hM8 hrk Hk8 Hx8 Hb8 Hs8
          cases hf : findM D X with
          | none =>
            simp only [Option.isSome]
            have hM9 := HMr.out.below Hb9.out hmr
            have hrk := row_of_heap Hk9.out
            have hrx := row_of_heap Hx9.out
            go_upto_region 11 with fail
            go_wp2_with (first | ((with_reducible refine wpList_load_agg (o := ⟨some 64, .load 57 (.tmp 9), _, _, _, none⟩) rfl 57 _ rfl (wr.heap.size + 1) 0 ?_ _ hrk _ Tryz.underlying57 rfl ?_ ?_); (focus rfl); (focus kernel_rfl)) | ((with_reducible refine wpList_load_agg (o := ⟨some 65, .load 32 (.tmp 8), _, _, _, none⟩) rfl 32 _ rfl wr.heap.size 0 ?_ _ hrx _ Tryz.underlying32 rfl ?_ ?_); (focus rfl); (focus kernel_rfl)) | ((with_reducible refine wpList_put (o := ⟨none, .mapUpdate 54 (.tmp 63) (.tmp 64) (.tmp 65), _, _, _, none⟩) rfl _ _ _ rfl mb D X ?_ ?_ ?_ hM9 ?_); (focus rfl); (focus rfl); (focus rfl); intro w10 hM10 hb10 hs10 ho10))
            refine ⟨⟨k + 1, hlt, by simp, ?_, ?_⟩, by simp [intOf]; omega⟩
            · rw [Hsn.out, addM, addV, hf]
              exact hM10
            · exact Hbx.out.trans ((Bx.of_below Hb9.out).trans ⟨hb10.os, hb10.tape, hb10.output, Nat.le_of_eq hs10.symm, fun k _ hn => ho10 k hn⟩)
          | some z =>
            simp only [Option.isSome]
            obtain rfl : z = O := by
              have := HO.out
              rw [hf] at this
              exact this
            obtain ⟨hr1, hr2⟩ := Hgk.out _ hf
            simp only [rngB, wi, Bool.and_eq_true, decide_eq_true_eq] at hr1 hr2
            obtain ⟨⟨⟨_, n1, n2⟩, n3, n4⟩, n5, n6⟩ := hr1
            obtain ⟨⟨⟨_, n7, n8⟩, n9, n10⟩, n11, n12⟩ := hr2
            go_upto_region 10 with fail
            refine wp_region_detG (by kernel_rfl) (by kernel_rfl) (S3 W9.drew wr.heap.size (.int .i64 (X.count + z.count)) (.int .i64 (X.sum + z.sum)) (.int .i64 (max X.mx z.mx))) rfl ?_
            have hx9 : W9.drew.heap[wr.heap.size]? = _ := Hx9.out
            have ho9 : W9.drew.heap[wr.heap.size + 2]? = _ := Ho9.out
            have p2 : W9.drew.cell? ⟨wr.heap.size, 2, none⟩ = some (.int .i64 X.count) := by rw [Lib.cell_of_heap hx9]; rfl
            have p3 : W9.drew.cell? ⟨wr.heap.size, 3, none⟩ = some (.int .i64 X.sum) := by rw [Lib.cell_of_heap hx9]; rfl
            have p4 : W9.drew.cell? ⟨wr.heap.size, 4, none⟩ = some (.int .i64 X.mx) := by rw [Lib.cell_of_heap hx9]; rfl
            have Hxw := Lib.hid hx9
            have How := Lib.hid ho9
            clear hx9 ho9
            apply wpDetG_cons
            · intro E wx hD hC hdep hS
              go_wp2
              exact ⟨rfl, rfl, S3_keep hS rfl rfl rfl⟩
            go_frame
            apply wpDetG_cons
            · intro E wx hD hC hdep hS
              have h16 : E 16 = false := by
                cases e : E 16 with
                | false => rfl
                | true => have := clo_dep (i := 1) hC (by kernel_rfl) e; rw [hD] at this; cases this
              obtain rfl := S3_no hS h16 (fun e => clo_dep hC (by kernel_rfl) e) (fun e => clo_dep hC (by kernel_rfl) e)
              go_wp2
              exact ⟨rfl, rfl, S3_keep hS rfl rfl rfl⟩
            go_frame
            apply wpDetG_cons
            · intro E wx hD hC hdep hS
              go_wp2
              exact ⟨rfl, rfl, S3_keep hS rfl rfl rfl⟩
            go_frame
            apply wpDetG_cons
            · intro E wx hD hC hdep hS
              have hq := S3_o hS (by omega) How.out
              have q : wx.cell? ⟨wr.heap.size + 2, 2, none⟩ = some (.int .i64 z.count) := by rw [Lib.cell_of_heap hq]; rfl
              clear hq
              go_wp2
              exact ⟨rfl, rfl, S3_keep hS rfl rfl rfl⟩
            go_frame
            apply wpDetG_cons
            · intro E wx hD hC hdep hS
              go_wp2
              exact ⟨rfl, rfl, S3_keep hS rfl rfl rfl⟩
            go_frame
            apply wpDetG_cons
            · intro E wx hD hC hdep hS
              go_wp2
              exact ⟨rfl, rfl, S3_keep hS rfl rfl rfl⟩
            go_frame
            apply wpDetG_cons
            · intro E wx hD hC hdep hS
              have h16 : E 16 = false := by
                cases e : E 16 with
                | false => rfl
                | true => have := clo_dep (i := 6) hC (by kernel_rfl) e; rw [hD] at this; cases this
              obtain rfl := S3_no hS h16 (fun e => clo_dep hC (by kernel_rfl) e) (fun e => clo_dep hC (by kernel_rfl) e)
              go_wp2
              exact ⟨rfl, rfl, S3_keep hS rfl rfl rfl⟩
            go_frame
            apply wpDetG_cons
            · intro E wx hD hC hdep hS
              go_wp2
              exact ⟨rfl, rfl, S3_keep hS rfl rfl rfl⟩
            go_frame
            apply wpDetG_cons
            · intro E wx hD hC hdep hS
              have hq := S3_o hS (by omega) How.out
              have q : wx.cell? ⟨wr.heap.size + 2, 3, none⟩ = some (.int .i64 z.sum) := by rw [Lib.cell_of_heap hq]; rfl
              clear hq
              go_wp2
              exact ⟨rfl, rfl, S3_keep hS rfl rfl rfl⟩
            go_frame
            apply wpDetG_cons
            · intro E wx hD hC hdep hS
              go_wp2
              exact ⟨rfl, rfl, S3_keep hS rfl rfl rfl⟩
            go_frame
            apply wpDetG_cons
            · intro E wx hD hC hdep hS
              go_wp2
              exact ⟨rfl, rfl, S3_keep hS rfl rfl rfl⟩
            go_frame
            apply wpDetG_cons
            · intro E wx hD hC hdep hS
              have h16 : E 16 = false := by
                cases e : E 16 with
                | false => rfl
                | true => have := clo_dep (i := 11) hC (by kernel_rfl) e; rw [hD] at this; cases this
              obtain rfl := S3_no hS h16 (fun e => clo_dep hC (by kernel_rfl) e) (fun e => clo_dep hC (by kernel_rfl) e)
              go_wp2
              exact ⟨rfl, rfl, S3_keep hS rfl rfl rfl⟩
            go_frame
            apply wpDetG_cons
            · intro E wx hD hC hdep hS
              go_wp2
              exact ⟨rfl, rfl, S3_keep hS rfl rfl rfl⟩
            go_frame
            apply wpDetG_cons
            · intro E wx hD hC hdep hS
              have hq := S3_o hS (by omega) How.out
              have q : wx.cell? ⟨wr.heap.size + 2, 4, none⟩ = some (.int .i64 z.mx) := by rw [Lib.cell_of_heap hq]; rfl
              clear hq
              go_wp2
              exact ⟨rfl, rfl, S3_keep hS rfl rfl rfl⟩
            go_frame
            apply wpDetG_cons
            · intro E wx hD hC hdep hS
              go_wp2
              exact ⟨rfl, rfl, S3_keep hS rfl rfl rfl⟩
            go_frame
            apply wpDetG_cons
            · intro E wx hD hC hdep hS
              go_wp2
              exact ⟨rfl, rfl, S3_keep hS rfl rfl rfl⟩
            go_frame
            refine wpDetG_cons (v := undef) ?_ ?_
            · intro E wx hD hC hdep hS
              obtain ⟨y2, y3, y4, hq⟩ := S3_x hS Hxw.out
              have q : wx.cell? ⟨wr.heap.size, 2, none⟩ = some y2 := by rw [Lib.cell_of_heap hq]; rfl
              have q' : wx.frozen? ⟨wr.heap.size, 2, none⟩ = false := Lib.frozen_of_heap hq 2
              have hn := S3_1 hS hD (fun e => clo_dep hC (by kernel_rfl) e) (fun e => clo_dep hC (by kernel_rfl) e)
              clear hq
              go_wp2
              exact ⟨rfl, rfl, hn⟩
            go_frame
            apply wpDetG_cons
            · intro E wx hD hC hdep hS
              go_wp2
              exact ⟨rfl, rfl, S3_keep hS rfl rfl rfl⟩
            go_frame
            refine wpDetG_cons (v := undef) ?_ ?_
            · intro E wx hD hC hdep hS
              obtain ⟨y2, y3, y4, hq⟩ := S3_x hS Hxw.out
              have q : wx.cell? ⟨wr.heap.size, 3, none⟩ = some y3 := by rw [Lib.cell_of_heap hq]; rfl
              have q' : wx.frozen? ⟨wr.heap.size, 3, none⟩ = false := Lib.frozen_of_heap hq 3
              have hn := S3_2 hS (dep_of hdep (by kernel_rfl)) hD (fun e => clo_dep hC (by kernel_rfl) e)
              clear hq
              go_wp2
              exact ⟨rfl, rfl, hn⟩
            go_frame
            apply wpDetG_cons
            · intro E wx hD hC hdep hS
              go_wp2
              exact ⟨rfl, rfl, S3_keep hS rfl rfl rfl⟩
            go_frame
            refine wpDetG_cons (v := undef) ?_ ?_
            · intro E wx hD hC hdep hS
              obtain ⟨y2, y3, y4, hq⟩ := S3_x hS Hxw.out
              have q : wx.cell? ⟨wr.heap.size, 4, none⟩ = some y4 := by rw [Lib.cell_of_heap hq]; rfl
              have q' : wx.frozen? ⟨wr.heap.size, 4, none⟩ = false := Lib.frozen_of_heap hq 4
              have h18 : E 18 = true := dep_of hdep (by kernel_rfl)
              have hn := S3_3 hS (clo_dep hC (by kernel_rfl) h18) h18 hD
              clear hq
              go_wp2
              exact ⟨rfl, rfl, hn⟩
            go_frame
            intro E wx hall hS
            have e16 := hall 16 (by decide)
            have e18 := hall 18 (by decide)
            have e20 := hall 20 (by decide)
            unfold S3 at hS
            rw [e16, e18, e20] at hS
            have hxx : wx.heap[wr.heap.size]? = some (.cells (mtCells (comb X z)).toArray 32 (0, 0)) := by rw [hS]; exact SW_at true true true Hxw.out
            have hkx : wx.heap[wr.heap.size + 1]? = some (.cells #[.string ⟨X.name.toArray⟩, .int .i64 X.index] 57 (0, 0)) := by rw [hS, SW_block true true true _ (by omega)]; exact Hk9.out
            have hbx : Below wr.heap.size wr wx := by rw [hS]; exact SW_bx Hb9.out.drew (Nat.le_refl _)
            have Hbb := Lib.hid hbx
            have hM9 := HMr.out.below hbx hmr
            have hrk := row_of_heap hkx
            have hrx := row_of_heap hxx
            clear hS hxx hkx hbx hall e16 e18 e20 Hxw How p2 p3 p4
            go_upto_region 11 with fail
            go_wp2_with (first | ((with_reducible refine wpList_load_agg (o := ⟨some 64, .load 57 (.tmp 9), _, _, _, none⟩) rfl 57 _ rfl (wr.heap.size + 1) 0 ?_ _ hrk _ Tryz.underlying57 rfl ?_ ?_); (focus rfl); (focus kernel_rfl)) | ((with_reducible refine wpList_load_agg (o := ⟨some 65, .load 32 (.tmp 8), _, _, _, none⟩) rfl 32 _ rfl wr.heap.size 0 ?_ _ hrx _ Tryz.underlying32 rfl ?_ ?_); (focus rfl); (focus kernel_rfl)) | ((with_reducible refine wpList_put (o := ⟨none, .mapUpdate 54 (.tmp 63) (.tmp 64) (.tmp 65), _, _, _, none⟩) rfl _ _ _ rfl mb D (comb X z) ?_ ?_ ?_ hM9 ?_); (focus rfl); (focus rfl); (focus rfl); intro w10 hM10 hb10 hs10 ho10))
            refine ⟨⟨k + 1, hlt, by simp, ?_, ?_⟩, by simp [intOf]; omega⟩
            · rw [Hsn.out, addM, addV, hf]
              exact hM10
            · exact Hbx.out.trans ((Bx.of_below Hbb.out).trans ⟨hb10.os, hb10.tape, hb10.output, Nat.le_of_eq hs10.symm, fun k _ hn => ho10 k hn⟩)
        · obtain rfl : k = L.length := by omega
          rw [List.take_length] at hMr
          have hid : ((foldM L).map fun m => (keyV m, m)).map (·.2) = foldM L := by simp [List.map_map, Function.comp_def]
          have hfl := foldM_len L
          have hs := sorted18 ((foldM L).map fun m => (keyV m, m)) mb wr (by rw [List.map_map]; exact hMr) (by rw [List.length_map]; omega)
          rw [hid] at hs
          have Hs := Lib.hid hs
          have hbr : Below w.heap.size w wr := Hw5.out.trans (hbx.to_below hmw (Nat.le_of_lt hmb5))
          have Hbr := Lib.hid hbr
          clear hs hid hMr hbx Hrows hbr hlt hk
          go_upto_region 14 with (go_at_call 18; refine Hs.out.mono ?_; rintro e ws ⟨v, Ds, rfl, p1, p2, p3, p4⟩; rw [← p1.length_eq] at p3; obtain ⟨As, cs, hvs⟩ : ∃ A c, v = .slice A Ds.length c := lv_len (lv_own (E := ME) p3); subst hvs)
          have hbs : Below w.heap.size w ws := Hbr.out.trans (below_mono p4 Hbr.out.size)
          have hlv : LV ME ws (.slice As Ds.length cs) Ds := lv_own (E := ME) p3
          have hdl : Ds.length ≤ 500 := by rw [p1.length_eq]; omega
          have P1 := Lib.hid p1
          have P2 := Lib.hid p2
          have P3 := Lib.hid (ownsRow_mono' p3 Hbr.out.size)
          have Hbs := Lib.hid hbs
          have Hlv := Lib.hid hlv
          clear p1 p2 p3 p4 Hs Hbr hbs hlv
          go_upto_region 15 with fail
          go_loopw [71] (fun v wq => ∃ j : Nat, j ≤ Ds.length ∧ v = .int .i64 j ∧ (Ds.take j).any overM = false ∧ Below ws.heap.size ws wq) (fun v _ => Ds.length - (intOf v).toNat)
          case atStart => exact ⟨0, Nat.zero_le _, rfl, rfl, Below.refl _ _⟩
          case round =>
            rename_i wq _ _
            obtain ⟨j, hj, rfl, hov, hbq⟩ := hrel
            by_cases hlj : j < Ds.length
            · obtain ⟨A', c', e1, _, hr⟩ := Hlv.out
              cases e1
              obtain ⟨g, off, rfl, hg, hat⟩ := hr (fun e => by rw [e] at hlj; exact absurd hlj (Nat.not_lt_zero _))
              have hr' : Row wr g (off + j * 5) (mtCells Ds[j]) := (hat j hlj).below hbq hg
              have hsn := take_snoc Ds j hlj
              have hmem : Ds[j] ∈ Ds := List.getElem_mem hlj
              generalize hM : Ds[j] = M at *
              have HM := Lib.hid hM
              have Hov := Lib.hid hov
              have Hbq := Lib.hid hbq
              have Hsn := Lib.hid hsn
              have Hmem := Lib.hid hmem
              have hqs := hbq.size
              clear hM hov hbq hsn hat hr hmem
              go_upto_region 17 with ((with_reducible refine wpList_load_agg (o := ⟨some 74, .load 32 (.tmp 73), _, _, _, none⟩) rfl 32 _ rfl g (off + j * 5) ?_ _ hr' _ Tryz.underlying32 rfl ?_ ?_); (focus rfl); (focus kernel_rfl); simp only [mtCells])
              have hx7 : (wr.alloc (.cells #[.string ⟨M.name.toArray⟩, .int .i64 M.index, .int .i64 M.count, .int .i64 M.sum, .int .i64 M.mx] 32)).heap[wr.heap.size]? = some (.cells #[.string ⟨M.name.toArray⟩, .int .i64 M.index, .int .i64 M.count, .int .i64 M.sum, .int .i64 M.mx] 32 (0, 0)) := heap_alloc_new wr _
              have hb7 : Below ws.heap.size ws (wr.alloc (.cells #[.string ⟨M.name.toArray⟩, .int .i64 M.index, .int .i64 M.count, .int .i64 M.sum, .int .i64 M.mx] 32)) := Hbq.out.alloc hqs _
              generalize (wr.alloc (.cells #[.string ⟨M.name.toArray⟩, .int .i64 M.index, .int .i64 M.count, .int .i64 M.sum, .int .i64 M.mx] 32)) = W7 at *
              have c2 : W7.cell? ⟨wr.heap.size, 2, none⟩ = some (.int .i64 M.count) := by rw [Lib.cell_of_heap hx7]; rfl
              have c3 : W7.cell? ⟨wr.heap.size, 3, none⟩ = some (.int .i64 M.sum) := by rw [Lib.cell_of_heap hx7]; rfl
              have Hb7 := Lib.hid hb7
              clear hb7 hx7 hr'
              by_cases h1 : (1099511627776 : Int) < M.count
              · go_wp2
                go_ret2
                exact mpost_over ca cb HLL.out P1.out P2.out M Hmem.out (by simp [overM, h1]) (Hbs.out.trans (below_mono Hb7.out Hbs.out.size))
              · cases hwi : wi M.sum (-1152921504606846976) 1152921504606846976 with
                | false =>
                  have Hwi := Lib.hid hwi
                  clear hwi
                  go_wp2_with (go_at_call 19; refine (within19 _ _ _ _).mono ?_; rintro e w' ⟨rfl, rfl⟩; rw [Hwi.out])
                  go_ret2
                  exact mpost_over ca cb HLL.out P1.out P2.out M Hmem.out (by simp [overM, Hwi.out]) (Hbs.out.trans (below_mono Hb7.out Hbs.out.size))
                | true =>
                  have Hwi := Lib.hid hwi
                  clear hwi
                  go_wp2_with (go_at_call 19; refine (within19 _ _ _ _).mono ?_; rintro e w' ⟨rfl, rfl⟩; rw [Hwi.out])
                  refine ⟨⟨j + 1, hlj, by simp, ?_, Hb7.out⟩, by simp [intOf]; omega⟩
                  rw [Hsn.out, List.any_append, Hov.out]
                  simp [overM, h1, Hwi.out]
            · obtain rfl : j = Ds.length := by omega
              rw [List.take_length] at hov
              go_wp2
              go_ret2
              exact mpost_ok ca cb HLL.out P1.out P2.out hov (own_below P3.out hbq) (Hbs.out.trans (below_mono hbq Hbs.out.size))
    · rw [ca] at Hcka
      go_enter Tryz.func7, Tryz.ntmps7
      go_wp2_with (go_at_call 11; first | (with_reducible refine Calls.mono Hcka.out ?_; rintro e w1 ⟨rfl, hb1⟩) | (with_reducible refine Calls.mono (Hckb.out _ hb1) ?_; rintro e w2 ⟨rfl, hb2⟩))
      go_ret2
      refine ⟨hb1.trans (below_mono hb2 hb1.size), ?_⟩
      rw [if_neg (fun h => cb h.2)]
      rfl
  · go_enter Tryz.func7, Tryz.ntmps7
    go_wp2_with (go_at_call 11; with_reducible refine Calls.mono Hcka.out ?_; rintro e w1 ⟨rfl, hb1⟩)
    go_ret2
    refine ⟨hb1, ?_⟩
    rw [if_neg (fun h => ca h.1)]
    rfl
end Go.Proofs.Seat7

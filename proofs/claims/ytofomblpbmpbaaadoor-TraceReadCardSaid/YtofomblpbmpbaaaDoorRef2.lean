/- The reference's names of the visible operations. -/
import Derived.Test.YtofomblpbmpbaaaDoorRef1
import Derived.Test.YtofomblpbmpbaaaDoorChk
namespace Go.Proofs.YtofomblpbmpbaaaDoor
open Go.RowKit
def OpNamePost (k : Int) (w : World) (e : Ending) (w' : World) : Prop := e = .returned (.string ⟨(wordOf k).toArray⟩) ∧ Below w.heap.size w w'
theorem names14 : (#[Value.string { data := #[108, 111, 97, 100] }, Value.string { data := #[115, 116, 111, 114, 101] }, Value.string { data := #[102, 101, 116, 99, 104, 97, 100, 100] }, Value.string { data := #[99, 111, 109, 112, 97, 114, 101, 115, 119, 97, 112] }, Value.string { data := #[115, 112, 97, 119, 110] }, Value.string { data := #[111, 112, 101, 110] }, Value.string { data := #[99, 108, 111, 115, 101] }, Value.string { data := #[99, 97, 110, 99, 101, 108] }, Value.string { data := #[99, 104, 101, 99, 107, 112, 111, 105, 110, 116] }, Value.string { data := #[121, 105, 101, 108, 100] }, Value.string { data := #[115, 108, 101, 101, 112] }, Value.string { data := #[101, 109, 105, 116] }, Value.string { data := #[98, 101, 103, 105, 110] }, Value.string { data := #[101, 110, 100] }] : Array Value).toList = (List.range 14).map (fun i => Value.string ⟨(wordOf ((i : Nat) + 30 : Int)).toArray⟩) := by kernel_rfl
theorem names25 : (#[Value.string { data := #[108, 111, 99, 107] }, Value.string { data := #[116, 114, 121, 108, 111, 99, 107] }, Value.string { data := #[117, 110, 108, 111, 99, 107] }, Value.string { data := #[114, 101, 97, 100, 108, 111, 99, 107] }, Value.string { data := #[114, 101, 97, 100, 117, 110, 108, 111, 99, 107] }, Value.string { data := #[119, 114, 105, 116, 101, 108, 111, 99, 107] }, Value.string { data := #[119, 114, 105, 116, 101, 117, 110, 108, 111, 99, 107] }, Value.string { data := #[119, 97, 105, 116] }, Value.string { data := #[115, 105, 103, 110, 97, 108] }, Value.string { data := #[98, 114, 111, 97, 100, 99, 97, 115, 116] }, Value.string { data := #[97, 99, 113, 117, 105, 114, 101] }, Value.string { data := #[116, 114, 121, 97, 99, 113, 117, 105, 114, 101] }, Value.string { data := #[114, 101, 108, 101, 97, 115, 101] }, Value.string { data := #[97, 114, 114, 105, 118, 101] }, Value.string { data := #[115, 101, 110, 100] }, Value.string { data := #[114, 101, 99, 101, 105, 118, 101] }, Value.string { data := #[99, 108, 111, 115, 101, 99, 104, 97, 110, 110, 101, 108] }, Value.string { data := #[115, 101, 108, 101, 99, 116] }, Value.string { data := #[112, 117, 98, 108, 105, 115, 104] }, Value.string { data := #[115, 117, 98, 115, 99, 114, 105, 98, 101] }, Value.string { data := #[110, 101, 120, 116] }, Value.string { data := #[117, 110, 115, 117, 98, 115, 99, 114, 105, 98, 101] }, Value.string { data := #[116, 97, 107, 101] }, Value.string { data := #[99, 111, 109, 112, 108, 101, 116, 101] }, Value.string { data := #[97, 119, 97, 105, 116] }] : Array Value).toList = (List.range 25).map (fun i => Value.string ⟨(wordOf ((i : Nat) + 50 : Int)).toArray⟩) := by kernel_rfl
theorem names_at {cs : Array Value} {n : Nat} {b : Int} (h : cs.toList = (List.range n).map (fun i => Value.string ⟨(wordOf ((i : Nat) + b : Int)).toArray⟩)) (k : Int) (h1 : b ≤ k) (h2 : k < b + n) :
    cs[(k - b).toNat]? = some (.string ⟨(wordOf k).toArray⟩) := by
  rw [← Array.getElem?_toList, h, List.getElem?_map, List.getElem?_range (by omega)]
  simp only [Option.map_some]
  rw [show (((k - b).toNat : Nat) : Int) + b = k from by omega]
set_option maxRecDepth 100000 in
set_option maxHeartbeats 1000000 in
theorem opName_lo (k : Int) (w : World) (h1 : 30 ≤ k) (h2 : k ≤ 43) : Calls Tryd.prog 66 #[.int .i64 k] w (OpNamePost k w) := by
  go_enter Tryd.func66, Tryd.ntmps66
  go_wp2_with ((with_reducible refine wpList_load_one (o := ⟨some 22, .load 9 (.tmp 21), _, _, _, none⟩) rfl 9 _ rfl ⟨w.heap.size + 1, (k - 30).toNat, none⟩ ?_ (.string ⟨(wordOf k).toArray⟩) ?_ _ Tryd.underlying9 rfl ?_); (focus rfl); (focus (rw [World.cell?_alloc_at _ _ _ _ (by simp)]; exact names_at names14 k h1 (by omega))))
  go_ret
  exact ⟨rfl, ((Below.refl _ _).alloc (Nat.le_refl _) _).alloc (by simp) _⟩
set_option maxRecDepth 100000 in
set_option maxHeartbeats 1000000 in
theorem opName_hi (k : Int) (w : World) (h1 : 50 ≤ k) (h2 : k ≤ 74) : Calls Tryd.prog 66 #[.int .i64 k] w (OpNamePost k w) := by
  go_enter Tryd.func66, Tryd.ntmps66
  go_wp2_with ((with_reducible refine wpList_load_one (o := ⟨some 28, .load 9 (.tmp 27), _, _, _, none⟩) rfl 9 _ rfl ⟨w.heap.size + 1 + 1, (k - 50).toNat, none⟩ ?_ (.string ⟨(wordOf k).toArray⟩) ?_ _ Tryd.underlying9 rfl ?_); (focus rfl); (focus (rw [World.cell?_alloc_at _ _ _ _ (by simp)]; exact names_at names25 k h1 (by omega))))
  go_ret
  exact ⟨rfl, (((Below.refl _ _).alloc (Nat.le_refl _) _).alloc (by simp) _).alloc (by simp; omega) _⟩
theorem opName66 (k : Int) (w : World) (hv : visB k = true) : Calls Tryd.prog 66 #[.int .i64 k] w (OpNamePost k w) := by
  rcases of_decide_eq_true hv with ⟨h1, h2⟩ | ⟨h1, h2⟩
  · exact opName_lo k w h1 h2
  · exact opName_hi k w h1 h2
end Go.Proofs.YtofomblpbmpbaaaDoor

/- A part of the proof. -/
import Derived.JoinedOf
import Derived.KernelRfl
set_option linter.all false
namespace Go.Proofs.Clo
open Go
def run (P : Program) : Nat → List FuncId × List FuncId → List FuncId × List FuncId
 | 0, s => s
 | _ + 1, ([], seen) => ([], seen)
 | k + 1, (f :: todo, seen) => if seen.contains f then run P k (todo, seen) else run P k ((P.funcs[f]?).elim [] P.leadsTo ++ todo, f :: seen)
theorem via_run (P : Program) : ∀ (k n : Nat) (todo seen : List FuncId), P.closureVia (k + n) todo seen = P.closureVia n (run P k (todo, seen)).1 (run P k (todo, seen)).2
 | 0, n, todo, seen => by rw [Nat.zero_add]; rfl
 | k + 1, n, [], seen => by
   have h : ∀ n, P.closureVia n [] seen = seen.reverse := fun n => by cases n <;> rfl
   show P.closureVia (k + 1 + n) [] seen = P.closureVia n [] seen
   rw [h, h]
 | k + 1, n, f :: todo, seen => by
   rw [show k + 1 + n = (k + n) + 1 from by omega]
   show (if seen.contains f then P.closureVia (k + n) todo seen else P.closureVia (k + n) ((P.funcs[f]?).elim [] P.leadsTo ++ todo) (f :: seen)) = P.closureVia n (if seen.contains f then run P k (todo, seen) else run P k ((P.funcs[f]?).elim [] P.leadsTo ++ todo, f :: seen)).1 (if seen.contains f then run P k (todo, seen) else run P k ((P.funcs[f]?).elim [] P.leadsTo ++ todo, f :: seen)).2
   split
   ·exact via_run P k n todo seen
   ·exact via_run P k n _ _
theorem run_add (P : Program) : ∀ (a b : Nat) (s : List FuncId × List FuncId), run P (a + b) s = run P b (run P a s)
 | 0, b, s => by rw [Nat.zero_add]; rfl
 | a + 1, b, ([], seen) => by
   have h : ∀ n, run P n ([], seen) = ([], seen) := fun n => by cases n <;> rfl
   rw [h, h, h]
 | a + 1, b, (f :: todo, seen) => by
   rw [show a + 1 + b = (a + b) + 1 from by omega]
   show (if seen.contains f then run P (a + b) (todo, seen) else run P (a + b) ((P.funcs[f]?).elim [] P.leadsTo ++ todo, f :: seen)) = run P b (if seen.contains f then run P a (todo, seen) else run P a ((P.funcs[f]?).elim [] P.leadsTo ++ todo, f :: seen))
   split
   ·exact run_add P a b _
   ·exact run_add P a b _
theorem via_end (P : Program) (k fuel f : Nat) (seen : List FuncId) (h : run P k ([f], []) = ([], seen)) (hk : Nat.ble k fuel = true) : P.closureVia fuel [f] [] = seen.reverse := by
 obtain ⟨n, rfl⟩ : ∃ n, fuel = k + n := ⟨fuel - k, by have := Nat.le_of_ble_eq_true hk; omega⟩
 rw [via_run, h]
 cases n <;> rfl
end Go.Proofs.Clo

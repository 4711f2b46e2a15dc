/- What lies beside Side. -/
import Derived.Test.YtgkcenhopmjmlaaGeoHit
import Derived.Test.YtgkcenhopmjmlaaArea2
namespace Go.Proofs.Ytgkcenhopmjmlaa
open Go.RowKit Go.Shelf
attribute [local go_sem] Oper.semAt_some
def oddL (xs : List Pt) (p : Pt) (l : List Nat) : Bool := l.foldl (fun o k => xor o (crE xs p k)) false
theorem oddL_snoc (xs : List Pt) (p : Pt) (l : List Nat) (k : Nat) : oddL xs p (l ++ [k]) = xor (oddL xs p l) (crE xs p k) := by simp [oddL]
theorem oddL_range (xs : List Pt) (p : Pt) (n : Nat) : oddL xs p (List.range n) = oddN xs p n := by
  induction n with
  | zero => rfl
  | succ n ih => rw [List.range_succ, oddL_snoc, ih]; rfl
end Go.Proofs.Ytgkcenhopmjmlaa

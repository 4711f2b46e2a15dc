/- A quiet operation of a drawn region, taken first: the step in short. -/
import Derived.Deep.RegionHeld3
import Derived.KernelRfl
import Derived.WalkKit
namespace Go.Proofs.YtgkcenhopmjmlaaGreat
open Go
section
variable {P : Program} {ops : Array Oper} {Q : Exit → Act → World → Prop} {md : Region.Mode} {S : World → Prop}
/-- Number 'i' next: it yields 'v' in every world that meets S; the state behind it is 'a1', spelled out. -/
theorem tk (i : Nat) {oi : Oper} {v : Value} {fuel : Nat} {l l1 : Array Bool} {a a1 : Act} {w : World} (h : wpAnyH P md ops Q S fuel l1 a1 w)
    (hi : ops[i]? = some oi := by rfl) (h1 : Region.noSelect ops = true := by kernel_rfl) (h2 : Region.free md ops l i = true := by kernel_rfl)
    (h3 : (Region.ready md ops l).contains i = true := by kernel_rfl) (hw : Region.wanted oi (yielded ops a.tmps) = true := by first | rfl | kernel_rfl)
    (hS : S w := by assumption)
    (hy : ∀ w, S w → (execOp a.eval oi).run P w = .ok (.value v) w := by intro w hSw; (try dsimp only at hSw); go_simp; try with_reducible rfl)
    (hl : l.setIfInBounds i true = l1 := by conv => (lhs; simp only [List.setIfInBounds_toArray, List.set_cons_zero, List.set_cons_succ]))
    (ha : a.put oi.dst v = a1 := by conv => (lhs; simp only [Act.put, List.setIfInBounds_toArray, List.set_cons_zero, List.set_cons_succ, List.getElem_toArray, List.getElem_cons_zero, List.getElem_cons_succ]))
    (hQ : ∀ c a w, Q (.panic c) (a.put oi.dst v) w → Q (.panic c) a w := by exact fun _ _ _ h => h) : wpAnyH P md ops Q S (fuel + 1) l a w := by
  subst hl ha
  exact wpAnyH_take hi h1 h2 h3 hQ (.inl ⟨hw, hy⟩) hS h
/-- Number 'i' is left out by its guard. -/
theorem tu (i : Nat) {oi : Oper} {fuel : Nat} {l l1 : Array Bool} {a a1 : Act} {w : World} (h : wpAnyH P md ops Q S fuel l1 a1 w)
    (hi : ops[i]? = some oi := by rfl) (h1 : Region.noSelect ops = true := by kernel_rfl) (h2 : Region.free md ops l i = true := by kernel_rfl)
    (h3 : (Region.ready md ops l).contains i = true := by kernel_rfl) (hw : Region.wanted oi (yielded ops a.tmps) = false := by first | kernel_rfl | rfl)
    (hS : S w := by assumption)
    (hl : l.setIfInBounds i true = l1 := by conv => (lhs; simp only [List.setIfInBounds_toArray, List.set_cons_zero, List.set_cons_succ]))
    (ha : a.put oi.dst undef = a1 := by conv => (lhs; simp only [Act.put, List.setIfInBounds_toArray, List.set_cons_zero, List.set_cons_succ]))
    (hQ : ∀ c a w, Q (.panic c) (a.put oi.dst undef) w → Q (.panic c) a w := by exact fun _ _ _ h => h) : wpAnyH P md ops Q S (fuel + 1) l a w := by
  subst hl ha
  exact wpAnyH_take hi h1 h2 h3 hQ (.inr ⟨hw, rfl⟩) hS h
end
end Go.Proofs.YtgkcenhopmjmlaaGreat

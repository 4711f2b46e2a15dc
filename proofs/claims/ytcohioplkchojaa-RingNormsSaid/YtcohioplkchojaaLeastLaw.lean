/- Plain law: where the least corner of a ring stands. -/
import Derived.Test.YtcohioplkchojaaTurnLaw
namespace Go.Proofs.Ytcohioplkchojaa
/-- The place of the least of the first m corners, the first of those that are alike. -/
def leastN (xs : List Pt) : Nat → Nat
  | 0 => 0
  | m + 1 => if ordI (ptAt xs m) (ptAt xs (leastN xs m)) < 0 then m else leastN xs m
theorem leastN_lt (xs : List Pt) {m : Nat} (h : 0 < m) : leastN xs m < m := by
  induction m with
  | zero => omega
  | succ m ih =>
    unfold leastN
    split
    · omega
    · rcases Nat.eq_zero_or_pos m with h0 | h0
      · subst h0; unfold leastN; omega
      · have := ih h0; omega
theorem ordI_eq {a b : Pt} : ordI a b = 0 ↔ a = b := by
  obtain ⟨ax, ay⟩ := a
  obtain ⟨bx, by_⟩ := b
  unfold ordI orI
  simp only [Pt.mk.injEq]
  rcases cmpI_cases ax bx with ⟨h, e⟩ | ⟨h, e⟩ | ⟨h, e⟩ <;> rcases cmpI_cases ay by_ with ⟨h', e'⟩ | ⟨h', e'⟩ | ⟨h', e'⟩ <;> rw [e, e'] <;> simp <;> omega
end Go.Proofs.Ytcohioplkchojaa

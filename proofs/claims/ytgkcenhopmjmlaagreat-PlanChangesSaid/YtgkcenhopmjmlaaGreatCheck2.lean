/- What lies beside Check. -/
import Derived.Test.YtgkcenhopmjmlaaGreatSide2
import Derived.Test.YtgkcenhopmjmlaaGreatCheck
namespace Go.Proofs.YtgkcenhopmjmlaaGreat
open Go.RowKit
end Go.Proofs.YtgkcenhopmjmlaaGreat
namespace Go.Proofs.YtgkcenhopmjmlaaGreat
open Go.RowKit
noncomputable def sideE (xs : List Pt) (p : Pt) : Int := if checkI xs ≠ 0 then checkI xs else if good p = true then 0 else 3
noncomputable def sideV (xs : List Pt) (p : Pt) : Int := if checkI xs ≠ 0 then 0 else if good p = true then sideI xs p else 0
theorem reads_onePt (w : World) (p : Pt) (k : Nat) (hk : k = w.heap.size) : Reads (w.alloc (.cells #[.int .i64 p.x, .int .i64 p.y] 53)) (w.alloc (.cells #[.int .i64 p.x, .int .i64 p.y] 53)).heap.size 2 (some ⟨k, 0, none⟩) 1 (ptsV [p]) := by
  subst hk
  exact Reads.made w _ _ _ 2 1 _ rfl rfl
end Go.Proofs.YtgkcenhopmjmlaaGreat
namespace Go.Proofs.YtgkcenhopmjmlaaGreat
open Go.RowKit
theorem sq_side : sideI sqR ⟨2, 2⟩ = 1 := by
  rw [sideI_off, if_pos (by decide)]
  intro i hi
  have hi' : i < 4 := hi
  have h : i = 0 ∨ i = 1 ∨ i = 2 ∨ i = 3 := by omega
  rcases h with rfl | rfl | rfl | rfl <;> decide
theorem sq_sideW : sideV sqR ⟨2, 2⟩ = 1 ∧ sideE sqR ⟨2, 2⟩ = 0 := by
  have hg : good ⟨2, 2⟩ = true := by decide
  constructor
  · unfold sideV; rw [if_neg (by rw [sq_check]; decide), if_pos hg]; exact sq_side
  · unfold sideE; rw [if_neg (by rw [sq_check]; decide), if_pos hg]
end Go.Proofs.YtgkcenhopmjmlaaGreat
namespace Go.Proofs.YtgkcenhopmjmlaaGreat
open Go.RowKit
end Go.Proofs.YtgkcenhopmjmlaaGreat

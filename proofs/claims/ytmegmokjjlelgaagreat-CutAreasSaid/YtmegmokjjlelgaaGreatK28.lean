/- What lies beside Begin. -/
import Derived.Test.YtmegmokjjlelgaaGreatK20
import Derived.Test.YtmegmokjjlelgaaGreatK26
namespace Go.Proofs.YtmegmokjjlelgaaGreat
open Go.RowKit
end Go.Proofs.YtmegmokjjlelgaaGreat
namespace Go.Proofs.YtmegmokjjlelgaaGreat
end Go.Proofs.YtmegmokjjlelgaaGreat
namespace Go.Proofs.YtmegmokjjlelgaaGreat
open Go.RowKit
theorem planAt_nil (W : World) : PlanAt W W.heap.size none 0 0 none 0 0 ⟨[], []⟩ := ⟨Reads.none_, ⟨rfl, fun h => absurd h (Nat.lt_irrefl _)⟩, ⟨Nat.le_refl _, by omega⟩, ⟨Nat.le_refl _, by omega⟩, ⟨⟨by simp, by simp⟩, by simp, by simp⟩⟩
end Go.Proofs.YtmegmokjjlelgaaGreat

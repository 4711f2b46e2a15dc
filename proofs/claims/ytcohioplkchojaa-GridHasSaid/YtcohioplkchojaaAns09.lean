/- merestonelaw09.answers: the walk: true. -/
import Derived.Test.YtcohioplkchojaaAt
namespace Go.Proofs.Ytcohioplkchojaa
open Go.RowKit
theorem atV_m1 : atV ⟨-1, 0⟩ = (⟨-1, 0⟩, 0) := by decide
set_option maxHeartbeats 400000 in
theorem ans09_any (w : World) :
    Calls Try.prog 27 #[] w fun e w' => e = .returned (.bool true) ∧ Below w.heap.size w w' := by
  have H := Lib.hid atV_m1
  go_enter Try.func27, Try.ntmps27
  go_wp2_with fail
  refine (at_any ⟨-1, 0⟩ _ (by unfold Pt.inI; simp)).mono ?_
  rintro e w1 ⟨rfl, hb1⟩
  rw [H.out]
  unfold ptV
  go_wp2_with fail
  go_ret
  exact ⟨rfl, (hb1.alloc hb1.size _)⟩
end Go.Proofs.Ytcohioplkchojaa

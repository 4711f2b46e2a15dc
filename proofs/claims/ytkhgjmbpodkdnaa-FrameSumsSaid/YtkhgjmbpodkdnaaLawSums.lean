/- FrameSums: the walk: true, and older memory is as it was. -/
import Derived.Test.YtkhgjmbpodkdnaaAns13
import Derived.Test.YtkhgjmbpodkdnaaOwn8
import Derived.Test.YtkhgjmbpodkdnaaSumR
namespace Go.Proofs.Ytkhgjmbpodkdnaa
open Go.RowKit
set_option maxHeartbeats 400000 in
theorem sums_any (xs : List UInt8) (A : Option Addr) (n cap : Nat) (w : World) (hr : Reads w w.heap.size 1 A n (u8s xs)) (hn : n ≤ 140737488351232) :
    Calls Try.prog 3 #[.slice A n cap] w fun e w' => e = .returned (.bool true) ∧ Below w.heap.size w w' := by
  have hl := hr.len8
  obtain rfl : n = xs.length := hl.symm
  clear hl
  go_enter Try.func3, Try.ntmps3
  go_wp2_with fail
  refine (ans13_any _).mono ?_
  rintro e w1 ⟨rfl, hb1⟩
  have hr1 := (hr.below hb1).more hb1.size
  go_wp2_with fail
  refine (own8_any xs _ _ _ _ hr1 hn).mono ?_
  rintro e w2 ⟨A2, c2, rfl, hown, hb2⟩
  have hr2 := (hr1.below hb2).more hb2.size
  have ho2 := Reads.of_own hown
  clear hown
  go_wp2_with fail
  refine (sum_any xs _ _ _ _ ho2 (by omega)).mono ?_
  rintro e w3 ⟨rfl, hb3⟩
  have hr3 := (hr2.below hb3).more hb3.size
  go_wp2_with fail
  refine (sumR_any xs _ _ _ _ hr3 (by omega)).mono ?_
  rintro e w4 ⟨rfl, rfl⟩
  go_wp2_with fail
  go_ret
  exact ⟨rfl, (hb1.trans (hb2.mono hb1.size)).trans (hb3.mono (Nat.le_trans hb1.size hb2.size))⟩
end Go.Proofs.Ytkhgjmbpodkdnaa

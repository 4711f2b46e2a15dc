/- FrameOpens: the walk: true, and older memory is as it was. -/
import Derived.Test.YtkhgjmbpodkdnaaAns13
import Derived.Test.YtkhgjmbpodkdnaaOpenR
import Derived.Test.YtkhgjmbpodkdnaaStr
namespace Go.Proofs.Ytkhgjmbpodkdnaa
open Go.RowKit
set_option maxHeartbeats 400000 in
theorem opens_any (xs : List UInt8) (A : Option Addr) (n cap : Nat) (w : World) (hr : Reads w w.heap.size 1 A n (u8s xs)) (hn : n ≤ 140737488351232) (hc : n ≤ cap) (hc2 : cap ≤ 9223372036854775807) :
    Calls Try.prog 8 #[.slice A n cap] w fun e w' => e = .returned (.bool true) ∧ Below w.heap.size w w' := by
  have hl := hr.len8
  obtain rfl : n = xs.length := hl.symm
  clear hl
  go_enter Try.func8, Try.ntmps8
  go_wp2_with fail
  refine (own8_any xs _ _ _ _ hr hn).mono ?_
  rintro e w1 ⟨A1, c1, rfl, ho1, hb1⟩
  have hr1 := hr.on hb1
  have hcap := own_cap ho1
  go_wp2_with fail
  refine (open_any xs _ _ _ _ (Reads.of_own ho1) hcap.1 hcap.2).mono ?_
  rintro e w2 ⟨A2, c2, rfl, ho2, hb2⟩
  have hr2 := hr1.on hb2
  have hx2 := Reads.of_own ho2
  have hB2 := below_on hb1 (Nat.le_refl _) hb2
  clear ho1 ho2 hr1
  go_wp2_with fail
  refine (openR_any xs _ _ _ _ hr2 hc hc2).mono ?_
  rintro e w3 ⟨A3, c3, rfl, ho3, hb3⟩
  have hx3 := hx2.on hb3
  have hy3 := Reads.of_own ho3
  have hB3 := below_on hB2 (Nat.le_refl _) hb3
  clear ho3 hx2 hr2
  go_wp2_with fail
  refine (ans13_any _).mono ?_
  rintro e w4 ⟨rfl, hb4⟩
  have sx := run_str (c := c2) (hx3.on hb4)
  have sy := run_str (c := c3) (hy3.on hb4)
  have hB4 := below_on hB3 (Nat.le_refl _) hb4
  go_wp2
  go_ret
  exact ⟨rfl, hB4⟩
end Go.Proofs.Ytkhgjmbpodkdnaa

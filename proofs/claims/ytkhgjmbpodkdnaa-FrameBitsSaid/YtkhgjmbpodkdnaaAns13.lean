/- merestonelaw13.answers: the walk: true. -/
import Derived.Test.YtkhgjmbpodkdnaaBase
import Derived.Test.YtkhgjmbpodkdnaaRows
import Derived.Test.YtkhgjmbpodkdnaaSum
import Derived.Lib.SlBytesConst
import Derived.Test.YtkhgjmbpodkdnaaWords
namespace Go.Proofs.Ytkhgjmbpodkdnaa
open Go.RowKit
def nine : List UInt8 := [49, 50, 51, 52, 53, 54, 55, 56, 57]
theorem nine_crc : crcS nine = 3421780262 := by decide +kernel
theorem nine_crc' : ((crcS nine : Nat) : Int) = 3421780262 := by rw [nine_crc]; rfl

set_option maxHeartbeats 400000 in
theorem ans13_any (w : World) :
    Calls Try.prog 11 #[] w fun e w' => e = .returned (.bool true) ∧ Below w.heap.size w w' := by
  have kc := fun (w : World) (C : Array Value) (n c : Nat) => Lib.run_convert_bytes_const (P := Try.prog) w 22 5 C n c Try.underlying22 Try.underlying5
  go_enter Try.func11, Try.ntmps11
  have h9 := nine_crc'
  go_wp2_with fail
  refine (sum_any nine (some ⟨w.heap.size, 0, none⟩) 9 9 _ (Reads.made w _ _ _ 1 9 _ rfl rfl) (by omega)).mono ?_
  rintro e w1 ⟨rfl, hb1⟩
  go_wp2
  go_ret
  exact ⟨rfl, ((Below.refl _ _).alloc (Nat.le_refl _) _).trans (hb1.mono (by simp))⟩
end Go.Proofs.Ytkhgjmbpodkdnaa

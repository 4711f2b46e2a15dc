/- grid.cell, merestoneref02.cell: the walks. -/
import Derived.Test.YtcohioplkchojaaGood
namespace Go.Proofs.Ytcohioplkchojaa
open Go.RowKit
theorem cell_any (n : Int) (w : World) :
    Calls Try.prog 64 #[.int .i64 n] w fun e w' => e = .returned (.int .i64 (n / 268435456)) ∧ w = w' := by
  go_enter Try.func64, Try.ntmps64
  go_wp2_with fail
  go_ret
  exact ⟨rfl, rfl⟩
theorem tdiv_neg (n : Int) (h : n < 0) : n.tdiv 268435456 = -((-n) / 268435456) := by
  have h1 : n.tdiv 268435456 = -((-n).tdiv 268435456) := by rw [Int.neg_tdiv]; omega
  rw [h1, Int.tdiv_eq_ediv_of_nonneg (by omega)]
theorem tmod_neg (n : Int) (h : n < 0) : n.tmod 268435456 = -((-n) % 268435456) := by
  have h1 : n.tmod 268435456 = -((-n).tmod 268435456) := by rw [Int.neg_tmod]; omega
  rw [h1, Int.tmod_eq_emod_of_nonneg (by omega)]
theorem cellR_any (n : Int) (w : World) (h1 : -9223372036854775808 ≤ n) (h2 : n ≤ 9223372036854775807) :
    Calls Try.prog 63 #[.int .i64 n] w fun e w' => e = .returned (.int .i64 (n / 268435456)) ∧ w = w' := by
  by_cases h : n < 0
  · have e1 := tdiv_neg n h
    have e2 := tmod_neg n h
    by_cases hm : (-n) % 268435456 = 0
    · have hb : (n.tmod 268435456 != 0) = false := by rw [e2, hm]; rfl
      have E1 := Lib.hid e1
      have HM := Lib.hid hm
      clear e1 e2 hm
      go_enter Try.func63, Try.ntmps63
      go_wp2_with fail
      go_ret
      refine ⟨?_, rfl⟩
      show Ending.returned (.int .i64 (n.tdiv 268435456)) = _
      rw [E1.out]
      have := HM.out
      rw [show -(-n / 268435456) = n / 268435456 from by omega]
    · have hb : (n.tmod 268435456 != 0) = true := by rw [e2]; simp; omega
      have E1 := Lib.hid e1
      have HM := Lib.hid hm
      clear e1 e2 hm
      go_enter Try.func63, Try.ntmps63
      go_wp2_with fail
      go_ret
      refine ⟨?_, rfl⟩
      show Ending.returned (.int .i64 (wrap64 (n.tdiv 268435456 - 1))) = _
      rw [E1.out]
      have := HM.out
      rw [show wrap64 (-(-n / 268435456) - 1) = n / 268435456 from by unfold wrap64; omega]
  · have h0 : 0 ≤ n := by omega
    clear h
    go_enter Try.func63, Try.ntmps63
    go_wp2_with fail
    go_ret
    exact ⟨rfl, rfl⟩
end Go.Proofs.Ytcohioplkchojaa

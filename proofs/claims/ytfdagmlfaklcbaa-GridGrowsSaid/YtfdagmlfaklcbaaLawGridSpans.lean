/- GridSpans: the walk: true, and older memory is as it was. -/
import Derived.Test.YtfdagmlfaklcbaaSame
import Derived.Test.YtfdagmlfaklcbaaAns09
namespace Go.Proofs.Ytfdagmlfaklcbaa
open Go.RowKit
theorem ref_span {v : Win} (h : winE v = 0) : refW v 9 = spanC v := by
  obtain ⟨⟨g1, g2, g3⟩, g4, g5, g6⟩ := win_good h
  unfold refW spanC
  rw [if_pos h]
  unfold spanW nRow nCol
  exact spanF_eq _ _ _ _ (by omega) (by omega) (by omega) (by omega) (by omega) (by omega)
set_option maxHeartbeats 1600000 in
theorem gridSpans_any (v : Win) (w : World) (hv : v.inI) :
    Calls Try.prog 6 #[winV v] w fun e w' => e = .returned (.bool true) ∧ Below w.heap.size w w' := by
  have hW := HasWin.new w v 36
  obtain ⟨k1, k2, k3, k4, k5⟩ := hW
  have hW := HasWin.new w v 36
  have hB : Below w.heap.size w (w.alloc (.cells #[.int .i64 v.lx, .int .i64 v.ly, .int .i64 v.hx, .int .i64 v.hy] 36)) := (Below.refl _ _).alloc (Nat.le_refl _) _
  unfold winV
  go_enter Try.func6, Try.ntmps6
  go_wp2_with fail
  refine (span_any v _ hv).mono ?_
  rintro e w1 ⟨A, c, rfl, ho1, hb1⟩
  have hW1 := hW.on hb1
  have hB1 := hB.trans (hb1.mono hB.size)
  clear hW hb1 hB k1 k2 k3 k4 k5
  obtain ⟨k1, k2, k3, k4, k5⟩ := hW1
  have hr1 := Reads.of_own ho1
  have hc1 := own_cap ho1
  clear ho1
  go_wp2_with fail
  refine (winOK_any v _ hv).mono ?_
  rintro e w2 ⟨rfl, hb2⟩
  have hW2 := HasWin.on ⟨k1, k2, k3, k4, k5⟩ hb2
  have hB2 := below_on hB1 (Nat.le_refl _) hb2
  have hr2 := hr1.on hb2
  clear hb2 hB1 hr1 k1 k2 k3 k4 k5
  have hself : (winE v == winE v) = true := by simp
  by_cases hE : winE v = 0
  · have h0 : (winE v != 0) = false := by rw [hE]; rfl
    have HS := Lib.hid (ref_span hE)
    have HE := Lib.hid hE
    have hr2' := Lib.hid hr2
    obtain ⟨n, hn⟩ : ∃ n, n = (spanC v).length := ⟨_, rfl⟩
    rw [← hn] at hc1
    rw [← hn]
    have HN := Lib.hid hn
    clear hE hn hr2
    go_wp2_with fail
    refine (ans09_any _).mono ?_
    rintro e w3 ⟨rfl, hb3⟩
    have hW3 := hW2.on hb3
    have hB3 := below_on hB2 (Nat.le_refl _) hb3
    have hr3 := Lib.hid (hr2'.out.on hb3)
    clear hb3 hB2 hr2' hW2
    obtain ⟨k1, k2, k3, k4, k5⟩ := hW3
    rw [HE.out]
    go_wp2_with fail
    refine (refSpan_any v _ hv).mono ?_
    rintro e w4 ⟨A4, c4, rfl, ho4, hb4⟩
    have hB4 := below_on hB3 (Nat.le_refl _) hb4
    have hr4 := hr3.out.on hb4
    have hr4' := Reads.of_own ho4
    have hc4 := own_cap ho4
    clear ho4 hb4 hB3 hr3 k1 k2 k3 k4 k5
    rw [HS.out] at hr4' hc4
    rw [HS.out]
    rw [← HN.out] at hc4 hr4 hr4'
    rw [← HN.out]
    have HR := Lib.hid (And.intro hr4 hr4')
    clear hr4 hr4'
    go_wp2_with fail
    refine (same_any (spanC v) (spanC v) _ _ _ _ _ _ _ HR.out.1 HR.out.2 (by omega) (by omega)).mono ?_
    rintro e w5 ⟨rfl, hb5⟩
    have hd : decide (spanC v = spanC v) = true := by simp
    rw [hd]
    have hB5 := below_on hB4 (Nat.le_refl _) hb5
    clear hb5 hB4 hd
    go_wp2
    go_ret
    exact ⟨rfl, hB5⟩
  · have h0 : (winE v != 0) = true := by simpa using hE
    have hl : (spanC v).length = 0 := by unfold spanC; rw [if_neg hE]; rfl
    rw [hl]
    clear hE hl hr2 hc1
    go_wp2_with fail
    refine (ans09_any _).mono ?_
    rintro e w3 ⟨rfl, hb3⟩
    have hB3 := below_on hB2 (Nat.le_refl _) hb3
    clear hb3 hB2
    go_wp2
    go_ret
    exact ⟨rfl, hB3⟩
end Go.Proofs.Ytfdagmlfaklcbaa

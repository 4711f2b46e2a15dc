/- WindowHas: the walk: true, and older memory is as it was. -/
import Derived.Test.YtfdagmlfaklcbaaWinHas
namespace Go.Proofs.Ytfdagmlfaklcbaa
open Go.RowKit
set_option maxHeartbeats 1600000 in
theorem windowHas_any (v : Win) (p : Pt) (w : World) (hv : v.inI) (hp : p.inI) :
    Calls Try.prog 5 #[winV v, ptV p] w fun e w' => e = .returned (.bool true) ∧ Below w.heap.size w w' := by
  have hW := (HasWin.new w v 36).alloc (.cells #[.int .i64 p.x, .int .i64 p.y] 23)
  have hP := HasPt.new (w.alloc (.cells #[.int .i64 v.lx, .int .i64 v.ly, .int .i64 v.hx, .int .i64 v.hy] 36)) p 23
  rw [World.size_alloc] at hP
  have hB : Below w.heap.size w ((w.alloc (.cells #[.int .i64 v.lx, .int .i64 v.ly, .int .i64 v.hx, .int .i64 v.hy] 36)).alloc (.cells #[.int .i64 p.x, .int .i64 p.y] 23)) := ((Below.refl _ _).alloc (Nat.le_refl _) _).alloc (by simp) _
  have hcase : (winE v ≠ 0 ∧ hasE v p = winE v ∧ hasR v p = false) ∨ (winE v = 0 ∧ good p = false ∧ hasE v p = 3 ∧ hasR v p = false) ∨ (winE v = 0 ∧ good p = true ∧ hasE v p = 0 ∧ hasR v p = hasB v p) := by
    by_cases hE : winE v = 0
    · rcases hg : good p with _ | _
      · right; left
        have e1 : hasE v p = 3 := by unfold hasE; rw [if_pos hE, if_neg (by rw [hg]; decide)]
        exact ⟨hE, rfl, e1, by unfold hasR; rw [if_neg (by rw [e1]; decide)]⟩
      · right; right
        have e1 : hasE v p = 0 := by unfold hasE; rw [if_pos hE, if_pos hg]
        exact ⟨hE, rfl, e1, by unfold hasR; rw [if_pos e1]⟩
    · left
      have e1 : hasE v p = winE v := by unfold hasE; rw [if_neg hE]
      exact ⟨hE, e1, by unfold hasR; rw [if_neg (by rw [e1]; exact hE)]⟩
  unfold winV ptV
  go_enter Try.func5, Try.ntmps5
  go_wp2_with fail
  refine (winOK_any v _ hv).mono ?_
  rintro e w1 ⟨rfl, hb1⟩
  have hp1 := hP.on hb1
  have hw1 := hW.on hb1
  have hB1 := hB.trans (hb1.mono hB.size)
  obtain ⟨k1, k2, k3, k4, k5⟩ := hw1
  have hx := hp1.1
  have hy := hp1.2.1
  have hw1 := hW.on hb1
  clear hb1 hP hW hB
  go_wp2_with fail
  refine (has_any v p _ hv hp).mono ?_
  rintro e w2 ⟨rfl, hb2⟩
  have hp2 := hp1.on hb2
  have hw2 := hw1.on hb2
  have hB2 := hB1.trans (hb2.mono hB1.size)
  clear hb2 hp1 hw1 hB1 hx hy k1 k2 k3 k4 k5
  go_wp2_with fail
  refine (ans04_any _).mono ?_
  rintro e w3 ⟨rfl, hb3⟩
  have hp3 := hp2.on hb3
  have hw3 := hw2.on hb3
  have hB3 := hB2.trans (hb3.mono hB2.size)
  obtain ⟨k1, k2, k3, k4, k5⟩ := hw3
  have hw3 := hw2.on hb3
  clear hb3 hp2 hw2 hB2
  go_wp2_with fail
  refine (check_any v _ hv).mono ?_
  rintro e w4 ⟨rfl, hb4⟩
  have hp4 := hp3.on hb4
  have hw4 := hw3.on hb4
  have hB4 := hB3.trans (hb4.mono hB3.size)
  have hx4 := hp4.1
  have hy4 := hp4.2.1
  have hself : (winE v != winE v) = false := by simp
  have hself2 : (winE v == winE v) = true := by simp
  clear hb4 hp3 hw3 hB3 k1 k2 k3 k4 k5
  rcases hcase with ⟨hE, e1, e2⟩ | ⟨hE, hg, e1, e2⟩ | ⟨hE, hg, e1, e2⟩
  · rw [e1, e2]
    have h0 : (winE v == 0) = false := by simpa using hE
    clear e1 e2 hE
    go_wp2
    go_ret
    exact ⟨rfl, hB4⟩
  all_goals
    have hgl : goodL [p] = good p := by simp [goodL]
    rw [hg] at hgl
    rw [e1, e2, hE]
    have HG := Lib.hid hgl
    clear e1 e2 hE hg hgl hself hself2
    go_wp2_with fail
    refine (goodR_any [p] _ 1 1 _ ?hq (by omega) (by simpa using hp)).mono ?_
    case hq => exact Reads.new_pt' _ p.x p.y _ _ _ rfl
    rintro e w5 ⟨rfl, hb5⟩
    rw [HG.out]
    have hp5 := (hp4.alloc _).on hb5
    obtain ⟨k1, k2, k3, k4, k5⟩ := (hw4.alloc _).on hb5
    have hx5 := hp5.1
    have hy5 := hp5.2.1
    have hB5 := (hB4.alloc hB4.size _).trans (hb5.mono (by simp; have := hB4.size; omega))
    clear hb5 hx4 hy4 hp4 hw4 hB4 hp5
    go_wp2_with fail
  · go_ret
    exact ⟨rfl, hB5⟩
  · refine (hasR_any v p _).mono ?_
    rintro e w6 ⟨rfl, hb6⟩
    have hself3 : (hasB v p == hasB v p) = true := by simp
    go_wp2
    go_ret
    exact ⟨by simp, hB5.trans (hb6.mono hB5.size)⟩
end Go.Proofs.Ytfdagmlfaklcbaa

/- Windows: Check, Has and their references: the walks. -/
import Derived.Test.YtcohioplkchojaaGood
namespace Go.Proofs.Ytcohioplkchojaa
open Go.RowKit
theorem win_cases (a b c d : Int) : (goodL [⟨a, b⟩, ⟨c, d⟩] = false ∧ winE ⟨a, b, c, d⟩ = 3) ∨ (goodL [⟨a, b⟩, ⟨c, d⟩] = true ∧ c < a ∧ winE ⟨a, b, c, d⟩ = 1) ∨ (goodL [⟨a, b⟩, ⟨c, d⟩] = true ∧ a ≤ c ∧ d < b ∧ winE ⟨a, b, c, d⟩ = 1) ∨ (goodL [⟨a, b⟩, ⟨c, d⟩] = true ∧ a ≤ c ∧ b ≤ d ∧ winE ⟨a, b, c, d⟩ = 0) := by
  unfold winE Win.low Win.high
  simp only
  rcases hg : goodL [⟨a, b⟩, ⟨c, d⟩] with _ | _
  · left; exact ⟨rfl, by simp⟩
  · right
    simp only [if_true]
    by_cases h1 : c < a
    · left; exact ⟨trivial, h1, by rw [if_pos (.inl h1)]⟩
    · by_cases h2 : d < b
      · right; left; exact ⟨trivial, by omega, h2, by rw [if_pos (.inr h2)]⟩
      · right; right; exact ⟨trivial, by omega, by omega, by rw [if_neg (by omega)]⟩
set_option maxHeartbeats 400000 in
theorem winOK_any (wi : Win) (w : World) (hw : wi.inI) :
    Calls Try.prog 37 #[winV wi] w fun e w' => e = .returned (.int .i64 (winE wi)) ∧ Below w.heap.size w w' := by
  have hpts : ∀ p ∈ [wi.low, wi.high], p.inI := by simpa [Win.inI] using hw
  obtain ⟨a, b, c, d⟩ := wi
  have hcase := win_cases a b c d
  unfold Win.low Win.high at hpts
  simp only at hpts
  rcases hcase with ⟨hg, hE⟩ | ⟨hg, h1, hE⟩ | ⟨hg, h1, h2, hE⟩ | ⟨hg, h1, h2, hE⟩
  all_goals
    have HG := Lib.hid hg
    rw [hE]
    clear hg hE
    unfold winV
    go_enter Try.func37, Try.ntmps37
    go_wp2_with fail
    refine (goodR_any [⟨a, b⟩, ⟨c, d⟩] _ 2 2 _ ?hq (by omega) hpts).mono ?_
    case hq => exact reads_two _ a b c d _ _ (by simp)
    rintro e w1 ⟨rfl, hb1⟩
    rw [HG.out]
    obtain ⟨hc, hf⟩ := bcell hb1
    have HB := Lib.hid hb1
    clear hb1 hf
    go_wp2_with fail
    go_ret
    exact ⟨rfl, (((Below.refl w.heap.size w).alloc (Nat.le_refl _) _).alloc (by simp) _).trans (HB.out.mono (by simp; omega))⟩
set_option maxHeartbeats 400000 in
theorem wcheck_any (wi : Win) (w : World) (hw : wi.inI) :
    Calls Try.prog 65 #[winV wi] w fun e w' => e = .returned (.int .i64 (winE wi)) ∧ Below w.heap.size w w' := by
  have hpts : ∀ p ∈ [wi.low, wi.high], p.inI := by simpa [Win.inI] using hw
  obtain ⟨a, b, c, d⟩ := wi
  have hcase := win_cases a b c d
  unfold Win.low Win.high at hpts
  simp only at hpts
  rcases hcase with ⟨hg, hE⟩ | ⟨hg, h1, hE⟩ | ⟨hg, h1, h2, hE⟩ | ⟨hg, h1, h2, hE⟩
  all_goals
    have HG := Lib.hid hg
    rw [hE]
    clear hg hE
    unfold winV
    go_enter Try.func65, Try.ntmps65
    go_wp2_with fail
    refine (good_any [⟨a, b⟩, ⟨c, d⟩] _ 2 2 _ ?hq (by omega) hpts).mono ?_
    case hq => exact reads_two _ a b c d _ _ (by simp)
    rintro e w1 ⟨rfl, hb1⟩
    rw [HG.out]
    obtain ⟨hc, hf⟩ := bcell hb1
    have HB := Lib.hid hb1
    clear hb1 hf
    go_wp2_with fail
    go_ret
    exact ⟨rfl, (((Below.refl w.heap.size w).alloc (Nat.le_refl _) _).alloc (by simp) _).trans (HB.out.mono (by simp; omega))⟩
theorem has_cases (a b c d x y : Int) : (x < a ∧ hasB ⟨a, b, c, d⟩ ⟨x, y⟩ = false) ∨ (a ≤ x ∧ c < x ∧ hasB ⟨a, b, c, d⟩ ⟨x, y⟩ = false) ∨ (a ≤ x ∧ x ≤ c ∧ y < b ∧ hasB ⟨a, b, c, d⟩ ⟨x, y⟩ = false) ∨
    (a ≤ x ∧ x ≤ c ∧ b ≤ y ∧ d < y ∧ hasB ⟨a, b, c, d⟩ ⟨x, y⟩ = false) ∨ (a ≤ x ∧ x ≤ c ∧ b ≤ y ∧ y ≤ d ∧ hasB ⟨a, b, c, d⟩ ⟨x, y⟩ = true) := by
  unfold hasB
  simp only [decide_eq_false_iff_not, decide_eq_true_eq]
  omega
theorem hasR_any (wi : Win) (p : Pt) (w : World) :
    Calls Try.prog 34 #[winV wi, ptV p] w fun e w' => e = .returned (.bool (hasB wi p)) ∧ Below w.heap.size w w' := by
  obtain ⟨a, b, c, d⟩ := wi
  obtain ⟨x, y⟩ := p
  rcases has_cases a b c d x y with ⟨h1, hE⟩ | ⟨h1, h2, hE⟩ | ⟨h1, h2, h3, hE⟩ | ⟨h1, h2, h3, h4, hE⟩ | ⟨h1, h2, h3, h4, hE⟩
  all_goals
    rw [hE]
    clear hE
    unfold winV ptV
    go_enter Try.func34, Try.ntmps34
    go_wp2_with fail
    go_ret
    have hB := ((Below.refl w.heap.size w).alloc (Nat.le_refl _) (.cells #[.int .i64 a, .int .i64 b, .int .i64 c, .int .i64 d] 52)).alloc (by simp) (.cells #[.int .i64 x, .int .i64 y] 35)
    first
    | exact ⟨rfl, hB⟩
    | exact ⟨by show Ending.returned (.bool (decide (y ≤ d))) = _; rw [decide_eq_false (by omega)], hB⟩
    | exact ⟨by show Ending.returned (.bool (decide (y ≤ d))) = _; rw [decide_eq_true (by omega)], hB⟩
theorem fhas_any (wi : Win) (p : Pt) (w : World) :
    Calls Try.prog 71 #[winV wi, ptV p] w fun e w' => e = .returned (.bool (hasB wi p)) ∧ Below w.heap.size w w' := by
  obtain ⟨a, b, c, d⟩ := wi
  obtain ⟨x, y⟩ := p
  rcases has_cases a b c d x y with ⟨h1, hE⟩ | ⟨h1, h2, hE⟩ | ⟨h1, h2, h3, hE⟩ | ⟨h1, h2, h3, h4, hE⟩ | ⟨h1, h2, h3, h4, hE⟩
  all_goals
    rw [hE]
    clear hE
    unfold winV ptV
    go_enter Try.func71, Try.ntmps71
    go_wp2_with fail
    go_ret
    have hB := ((Below.refl w.heap.size w).alloc (Nat.le_refl _) (.cells #[.int .i64 a, .int .i64 b, .int .i64 c, .int .i64 d] 95)).alloc (by simp) (.cells #[.int .i64 x, .int .i64 y] 35)
    first
    | exact ⟨rfl, hB⟩
    | exact ⟨by show Ending.returned (.bool (decide (y ≤ d))) = _; rw [decide_eq_false (by omega)], hB⟩
    | exact ⟨by show Ending.returned (.bool (decide (y ≤ d))) = _; rw [decide_eq_true (by omega)], hB⟩
end Go.Proofs.Ytcohioplkchojaa

/- What lies beside GeoLaw. -/
import Derived.Test.YtmegmokjjlelgaaGreatK03
import Derived.Test.YtmegmokjjlelgaaGreatK04
namespace Go.Proofs.YtmegmokjjlelgaaGreat
theorem sgn_gt {z : Int} : 0 < sgn z ↔ 0 < z := by unfold sgn; split <;> (try split) <;> omega
end Go.Proofs.YtmegmokjjlelgaaGreat
namespace Go.Proofs.YtmegmokjjlelgaaGreat
end Go.Proofs.YtmegmokjjlelgaaGreat
namespace Go.Proofs.YtmegmokjjlelgaaGreat
end Go.Proofs.YtmegmokjjlelgaaGreat
namespace Go.Proofs.YtmegmokjjlelgaaGreat
/-- A point of a stretch that lies on another one, between two corners. -/
theorem on_param {a b c : Pt} (h : onB a b c = true) : ∃ N t : Int, 0 < N ∧ 0 ≤ t ∧ t ≤ N ∧ (N - t) * a.x + t * b.x = N * c.x ∧ (N - t) * a.y + t * b.y = N * c.y := by
  rw [onB_iff] at h
  obtain ⟨z, hx, hy⟩ := h
  unfold cr at z
  by_cases h1 : a.x = b.x
  · by_cases h2 : a.y = b.y
    · exact ⟨1, 0, by omega, by omega, by omega, by omega, by omega⟩
    · have hc : c.x = a.x := by omega
      by_cases h3 : a.y < b.y
      · refine ⟨b.y - a.y, c.y - a.y, by omega, by omega, by omega, ?_, ?_⟩
        · rw [hc, h1]; grind
        · grind
      · refine ⟨a.y - b.y, a.y - c.y, by omega, by omega, by omega, ?_, ?_⟩
        · rw [hc, h1]; grind
        · grind
  · by_cases h3 : a.x < b.x
    · refine ⟨b.x - a.x, c.x - a.x, by omega, by omega, by omega, ?_, ?_⟩ <;> grind
    · refine ⟨a.x - b.x, a.x - c.x, by omega, by omega, by omega, ?_, ?_⟩ <;> grind
theorem conv_le {A B p q m : Int} (hA : 0 ≤ A) (hB : 0 ≤ B) (h1 : p ≤ m) (h2 : q ≤ m) : A * p + B * q ≤ (A + B) * m := by
  have := Int.mul_le_mul_of_nonneg_left h1 hA
  have := Int.mul_le_mul_of_nonneg_left h2 hB
  rw [Int.add_mul]
  omega
theorem conv_ge {A B p q m : Int} (hA : 0 ≤ A) (hB : 0 ≤ B) (h1 : m ≤ p) (h2 : m ≤ q) : (A + B) * m ≤ A * p + B * q := by
  have := Int.mul_le_mul_of_nonneg_left h1 hA
  have := Int.mul_le_mul_of_nonneg_left h2 hB
  rw [Int.add_mul]
  omega
end Go.Proofs.YtmegmokjjlelgaaGreat
namespace Go.Proofs.YtmegmokjjlelgaaGreat
open Go.RowKit
end Go.Proofs.YtmegmokjjlelgaaGreat
namespace Go.Proofs.YtmegmokjjlelgaaGreat
end Go.Proofs.YtmegmokjjlelgaaGreat
namespace Go.Proofs.YtmegmokjjlelgaaGreat
theorem touch_iff (a b c d : Pt) : 0 < meetR a b c d ↔ Touch a b c d := by
  rw [meetR_pos]
  unfold Touch endsL
  cases onB c d a <;> cases onB c d b <;> cases onB a b c <;> cases onB a b d <;> simp
theorem Touch.swap {a b c d : Pt} (h : Touch a b d c) : Touch a b c d := by
  unfold Touch at *
  rw [onB_swap c d a, onB_swap c d b]
  rcases h with h | h | h | h | h
  · exact .inl h
  · exact .inr (.inl h)
  · exact .inr (.inr (.inr (.inl h)))
  · exact .inr (.inr (.inl h))
  · refine .inr (.inr (.inr (.inr ?_)))
    rw [prB_iff] at h ⊢
    rw [cr_swapT c d a, cr_swapT c d b] at h
    omega
theorem mul_le {N x y : Int} (hN : 0 < N) : N * x ≤ N * y ↔ x ≤ y := ⟨fun h => le_of_mul hN h, fun h => Int.mul_le_mul_of_nonneg_left h (by omega)⟩
/-- A point of a stretch lies between its ends. -/
theorem conv_btw {N t x y : Int} (g2 : 0 ≤ t) (g3 : t ≤ N) : (N * x ≤ (N - t) * x + t * y ∧ (N - t) * x + t * y ≤ N * y) ∨ (N * y ≤ (N - t) * x + t * y ∧ (N - t) * x + t * y ≤ N * x) := by
  have e : N - t + t = N := by omega
  by_cases h : x ≤ y
  · left
    have h1 := conv_ge (m := x) (by omega : 0 ≤ N - t) g2 (Int.le_refl x) h
    have h2 := conv_le (m := y) (by omega : 0 ≤ N - t) g2 h (Int.le_refl y)
    rw [e] at h1 h2
    exact ⟨h1, h2⟩
  · right
    have h1 := conv_ge (m := y) (by omega : 0 ≤ N - t) g2 (by omega : y ≤ x) (Int.le_refl y)
    have h2 := conv_le (m := x) (by omega : 0 ≤ N - t) g2 (Int.le_refl x) (by omega : y ≤ x)
    rw [e] at h1 h2
    exact ⟨h1, h2⟩
end Go.Proofs.YtmegmokjjlelgaaGreat

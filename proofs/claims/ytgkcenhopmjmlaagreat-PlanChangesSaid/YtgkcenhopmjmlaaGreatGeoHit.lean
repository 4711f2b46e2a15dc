/- What lies beside GeoLaw. -/
import Derived.Test.YtgkcenhopmjmlaaGreatPtW2
import Derived.Test.YtgkcenhopmjmlaaGreatGeoLaw
namespace Go.Proofs.YtgkcenhopmjmlaaGreat
theorem sgn_cmp (z : Int) : sgn z = cmpI z 0 := rfl
theorem ordI_bd (a b : Pt) : -1 ≤ ordI a b ∧ ordI a b ≤ 1 := by
  unfold ordI orI
  have := cmpI_bd a.x b.x
  have := cmpI_bd a.y b.y
  split <;> omega
theorem sgn_lt {z : Int} : sgn z < 0 ↔ z < 0 := by unfold sgn; split <;> (try split) <;> omega
theorem sgn_gt {z : Int} : 0 < sgn z ↔ 0 < z := by unfold sgn; split <;> (try split) <;> omega
end Go.Proofs.YtgkcenhopmjmlaaGreat
namespace Go.Proofs.YtgkcenhopmjmlaaGreat
end Go.Proofs.YtgkcenhopmjmlaaGreat
namespace Go.Proofs.YtgkcenhopmjmlaaGreat
end Go.Proofs.YtgkcenhopmjmlaaGreat
namespace Go.Proofs.YtgkcenhopmjmlaaGreat
/-- A point of the stretch, as a fraction of its way, lies in the window. -/
def Hit (w : Win) (a b : Pt) : Prop :=
  ∃ N t : Int, 0 < N ∧ 0 ≤ t ∧ t ≤ N ∧ N * w.lx ≤ (N - t) * a.x + t * b.x ∧ (N - t) * a.x + t * b.x ≤ N * w.hx ∧ N * w.ly ≤ (N - t) * a.y + t * b.y ∧ (N - t) * a.y + t * b.y ≤ N * w.hy
theorem hasB_iff (w : Win) (p : Pt) : hasB w p = true ↔ w.lx ≤ p.x ∧ p.x ≤ w.hx ∧ w.ly ≤ p.y ∧ p.y ≤ w.hy := by unfold hasB; exact decide_eq_true_iff
theorem hit_a {w : Win} {a b : Pt} (h : hasB w a = true) : Hit w a b := by
  rw [hasB_iff] at h
  exact ⟨1, 0, by omega, by omega, by omega, by omega, by omega, by omega, by omega⟩
theorem hit_b {w : Win} {a b : Pt} (h : hasB w b = true) : Hit w a b := by
  rw [hasB_iff] at h
  exact ⟨1, 1, by omega, by omega, by omega, by omega, by omega, by omega, by omega⟩
/-- A point of a stretch that lies on another one, between two corners. -/
theorem on_param {a b c : Pt} (h : onB a b c = true) : ∃ N t : Int, 0 < N ∧ 0 ≤ t ∧ t ≤ N ∧ (N - t) * a.x + t * b.x = N * c.x ∧ (N - t) * a.y + t * b.y = N * c.y := by
  rw [onB_iff] at h
  obtain ⟨z, hx, hy⟩ := h
  unfold cr at z
  by_cases h1 : a.x = b.x
  · by_cases h2 : a.y = b.y
    · exact ⟨1, 0, by omega, by omega, by omega, by omega, by omega⟩
    · have hc : c.x = a.x := by omega
      by_cases h3 : a.y < b.y
      · refine ⟨b.y - a.y, c.y - a.y, by omega, by omega, by omega, ?_, ?_⟩
        · rw [hc, h1]; grind
        · grind
      · refine ⟨a.y - b.y, a.y - c.y, by omega, by omega, by omega, ?_, ?_⟩
        · rw [hc, h1]; grind
        · grind
  · by_cases h3 : a.x < b.x
    · refine ⟨b.x - a.x, c.x - a.x, by omega, by omega, by omega, ?_, ?_⟩ <;> grind
    · refine ⟨a.x - b.x, a.x - c.x, by omega, by omega, by omega, ?_, ?_⟩ <;> grind
theorem conv_le {A B p q m : Int} (hA : 0 ≤ A) (hB : 0 ≤ B) (h1 : p ≤ m) (h2 : q ≤ m) : A * p + B * q ≤ (A + B) * m := by
  have := Int.mul_le_mul_of_nonneg_left h1 hA
  have := Int.mul_le_mul_of_nonneg_left h2 hB
  rw [Int.add_mul]
  omega
theorem conv_ge {A B p q m : Int} (hA : 0 ≤ A) (hB : 0 ≤ B) (h1 : m ≤ p) (h2 : m ≤ q) : (A + B) * m ≤ A * p + B * q := by
  have := Int.mul_le_mul_of_nonneg_left h1 hA
  have := Int.mul_le_mul_of_nonneg_left h2 hB
  rw [Int.add_mul]
  omega
/-- Two that cross: a point of the one, between the other's ends. -/
theorem pr_param {a b c d : Pt} (h : prB a b c d = true) : ∃ N t A B : Int, 0 < N ∧ 0 ≤ t ∧ t ≤ N ∧ 0 ≤ A ∧ 0 ≤ B ∧ A + B = N ∧ (N - t) * a.x + t * b.x = A * c.x + B * d.x ∧ (N - t) * a.y + t * b.y = A * c.y + B * d.y := by
  rw [prB_iff] at h
  obtain ⟨i1, i2, i3⟩ := cr_ids a b c d
  generalize cr a b c = C at *
  generalize cr a b d = D at *
  generalize cr c d a = A at *
  generalize cr c d b = B at *
  obtain ⟨hcd, hab⟩ := h
  rcases hab with ⟨h1, h2⟩ | ⟨h1, h2⟩
  · refine ⟨B - A, -A, -D, C, by omega, by omega, by omega, by omega, by omega, by omega, ?_, ?_⟩ <;> grind
  · refine ⟨A - B, A, D, -C, by omega, by omega, by omega, by omega, by omega, by omega, ?_, ?_⟩ <;> grind
/-- A stretch that meets one within the window has a point there. -/
theorem hit_meet {w : Win} {a b c d : Pt} (hc : hasB w c = true) (hd : hasB w d = true) (h : 0 < meetR a b c d) : Hit w a b := by
  rw [meetR_pos] at h
  rcases h with h | h
  · obtain ⟨e, he⟩ := List.exists_mem_of_ne_nil _ h
    obtain ⟨h1, h2⟩ := endsL_mem he
    rw [hasB_iff] at hc hd
    have h2' := (onB_iff _ _ _).1 h2
    obtain ⟨N, t, g1, g2, g3, g4, g5⟩ := on_param h1
    have m1 := Int.mul_le_mul_of_nonneg_left (by omega : w.lx ≤ e.x) (by omega : 0 ≤ N)
    have m2 := Int.mul_le_mul_of_nonneg_left (by omega : e.x ≤ w.hx) (by omega : 0 ≤ N)
    have m3 := Int.mul_le_mul_of_nonneg_left (by omega : w.ly ≤ e.y) (by omega : 0 ≤ N)
    have m4 := Int.mul_le_mul_of_nonneg_left (by omega : e.y ≤ w.hy) (by omega : 0 ≤ N)
    exact ⟨N, t, g1, g2, g3, by omega, by omega, by omega, by omega⟩
  · obtain ⟨N, t, A, B, g1, g2, g3, g4, g5, g6, g7, g8⟩ := pr_param h
    rw [hasB_iff] at hc hd
    refine ⟨N, t, g1, g2, g3, ?_, ?_, ?_, ?_⟩
    · rw [g7, ← g6]; exact conv_ge g4 g5 hc.1 hd.1
    · rw [g7, ← g6]; exact conv_le g4 g5 hc.2.1 hd.2.1
    · rw [g8, ← g6]; exact conv_ge g4 g5 hc.2.2.1 hd.2.2.1
    · rw [g8, ← g6]; exact conv_le g4 g5 hc.2.2.2 hd.2.2.2
end Go.Proofs.YtgkcenhopmjmlaaGreat
namespace Go.Proofs.YtgkcenhopmjmlaaGreat
open Go.RowKit
end Go.Proofs.YtgkcenhopmjmlaaGreat
namespace Go.Proofs.YtgkcenhopmjmlaaGreat
theorem HitE.negx {ax ay bx b_y lx ly hx hy : Int} (h : HitE (-ax) ay (-bx) b_y (-hx) ly (-lx) hy) : HitE ax ay bx b_y lx ly hx hy := by
  obtain ⟨N, t, g1, g2, g3, ⟨g4, g5, g6, g7⟩, g8⟩ := h
  refine ⟨N, t, g1, g2, g3, ⟨by grind, by grind, g6, g7⟩, ?_⟩
  rcases g8 with g8 | g8 | g8 | g8 | g8
  · exact .inl g8
  · exact .inr (.inr (.inl (by grind)))
  · exact .inr (.inl (by grind))
  · exact .inr (.inr (.inr (.inl g8)))
  · exact .inr (.inr (.inr (.inr g8)))
theorem HitE.negy {ax ay bx b_y lx ly hx hy : Int} (h : HitE ax (-ay) bx (-b_y) lx (-hy) hx (-ly)) : HitE ax ay bx b_y lx ly hx hy := by
  obtain ⟨N, t, g1, g2, g3, ⟨g4, g5, g6, g7⟩, g8⟩ := h
  refine ⟨N, t, g1, g2, g3, ⟨g4, g5, by grind, by grind⟩, ?_⟩
  rcases g8 with g8 | g8 | g8 | g8 | g8
  · exact .inl g8
  · exact .inr (.inl g8)
  · exact .inr (.inr (.inl g8))
  · exact .inr (.inr (.inr (.inr (by grind))))
  · exact .inr (.inr (.inr (.inl (by grind))))
/-- Does the stretch lie beyond one of the window's sides? -/
def beyB (w : Win) (a b : Pt) : Bool := decide ((a.x < w.lx ∧ b.x < w.lx) ∨ (w.hx < a.x ∧ w.hx < b.x) ∨ (a.y < w.ly ∧ b.y < w.ly) ∨ (w.hy < a.y ∧ w.hy < b.y))
def cor0 (w : Win) : Pt := ⟨w.lx, w.ly⟩
def cor1 (w : Win) : Pt := ⟨w.hx, w.ly⟩
def cor2 (w : Win) : Pt := ⟨w.hx, w.hy⟩
def cor3 (w : Win) : Pt := ⟨w.lx, w.hy⟩
def leftB (w : Win) (a b : Pt) : Bool := decide (0 ≤ cr a b (cor0 w) ∨ 0 ≤ cr a b (cor1 w) ∨ 0 ≤ cr a b (cor2 w) ∨ 0 ≤ cr a b (cor3 w))
def rightB (w : Win) (a b : Pt) : Bool := decide (cr a b (cor0 w) ≤ 0 ∨ cr a b (cor1 w) ≤ 0 ∨ cr a b (cor2 w) ≤ 0 ∨ cr a b (cor3 w) ≤ 0)
def cutsR (w : Win) (a b : Pt) : Bool := hasB w a || (hasB w b || (!beyB w a b && (leftB w a b && rightB w a b)))
theorem lr_hit {w : Win} {a b : Pt} (h1 : w.lx ≤ w.hx) (h2 : w.ly ≤ w.hy) (hb : beyB w a b = false) (hl : leftB w a b = true) (hr : rightB w a b = true) : HitE a.x a.y b.x b.y w.lx w.ly w.hx w.hy := by
  unfold beyB at hb
  rw [decide_eq_false_iff_not] at hb
  unfold leftB at hl
  unfold rightB at hr
  rw [decide_eq_true_eq] at hl hr
  unfold cr cor0 cor1 cor2 cor3 at hl hr
  simp only at hl hr
  obtain ⟨ax, ay⟩ := a
  obtain ⟨bx, b_y⟩ := b
  obtain ⟨lx, ly, hx, hy⟩ := w
  simp only at *
  have hw : 0 ≤ hx - lx := by omega
  have hh : 0 ≤ hy - ly := by omega
  by_cases dx : ax ≤ bx
  · by_cases dy : ay ≤ b_y
    · have m1 := Int.mul_nonneg (by omega : 0 ≤ bx - ax) hh
      have m2 := Int.mul_nonneg (by omega : 0 ≤ b_y - ay) hw
      exact lb dx dy h1 h2 (by omega) (by omega) (by omega) (by omega) (by grind) (by grind)
    · have m1 := Int.mul_nonneg (by omega : 0 ≤ bx - ax) hh
      have m2 := Int.mul_nonneg (by omega : 0 ≤ ay - b_y) hw
      exact HitE.negy (lb (by omega) (by omega) (by omega) (by omega) (by omega) (by omega) (by omega) (by omega) (by grind) (by grind))
  · by_cases dy : ay ≤ b_y
    · have m1 := Int.mul_nonneg (by omega : 0 ≤ ax - bx) hh
      have m2 := Int.mul_nonneg (by omega : 0 ≤ b_y - ay) hw
      exact HitE.negx (lb (by omega) (by omega) (by omega) (by omega) (by omega) (by omega) (by omega) (by omega) (by grind) (by grind))
    · have m1 := Int.mul_nonneg (by omega : 0 ≤ ax - bx) hh
      have m2 := Int.mul_nonneg (by omega : 0 ≤ ay - b_y) hw
      exact HitE.negx (HitE.negy (lb (by omega) (by omega) (by omega) (by omega) (by omega) (by omega) (by omega) (by omega) (by grind) (by grind)))
theorem hit_bey {w : Win} {a b : Pt} (h : Hit w a b) : beyB w a b = false := by
  obtain ⟨N, t, g1, g2, g3, g4, g5, g6, g7⟩ := h
  unfold beyB
  rw [decide_eq_false_iff_not]
  have e : N - t + t = N := by omega
  rintro (⟨h1, h2⟩ | ⟨h1, h2⟩ | ⟨h1, h2⟩ | ⟨h1, h2⟩)
  · have := conv_le (m := w.lx - 1) (by omega : 0 ≤ N - t) g2 (by omega : a.x ≤ w.lx - 1) (by omega : b.x ≤ w.lx - 1)
    rw [e, Int.mul_sub] at this
    omega
  · have := conv_ge (m := w.hx + 1) (by omega : 0 ≤ N - t) g2 (by omega : w.hx + 1 ≤ a.x) (by omega : w.hx + 1 ≤ b.x)
    rw [e, Int.mul_add] at this
    omega
  · have := conv_le (m := w.ly - 1) (by omega : 0 ≤ N - t) g2 (by omega : a.y ≤ w.ly - 1) (by omega : b.y ≤ w.ly - 1)
    rw [e, Int.mul_sub] at this
    omega
  · have := conv_ge (m := w.hy + 1) (by omega : 0 ≤ N - t) g2 (by omega : w.hy + 1 ≤ a.y) (by omega : w.hy + 1 ≤ b.y)
    rw [e, Int.mul_add] at this
    omega
theorem nn_of {N z : Int} (hN : 0 < N) (h : 0 ≤ N * z) : 0 ≤ z := nn_of_mul hN h
theorem np_of {N z : Int} (hN : 0 < N) (h : N * z ≤ 0) : z ≤ 0 := by
  have := nn_of_mul (t := -z) hN (by rw [Int.mul_neg]; omega)
  omega
theorem hit_lr {w : Win} {a b : Pt} (h : Hit w a b) : leftB w a b = true ∧ rightB w a b = true := by
  obtain ⟨N, t, g1, g2, g3, g4, g5, g6, g7⟩ := h
  unfold leftB rightB
  rw [decide_eq_true_eq, decide_eq_true_eq]
  unfold cr cor0 cor1 cor2 cor3
  simp only
  obtain ⟨ax, ay⟩ := a
  obtain ⟨bx, b_y⟩ := b
  obtain ⟨lx, ly, hx, hy⟩ := w
  simp only at *
  by_cases dx : ax ≤ bx
  · by_cases dy : ay ≤ b_y
    · have m1 := Int.mul_nonneg (by omega : 0 ≤ bx - ax) (by omega : 0 ≤ N * hy - ((N - t) * ay + t * b_y))
      have m2 := Int.mul_nonneg (by omega : 0 ≤ b_y - ay) (by omega : 0 ≤ ((N - t) * ax + t * bx) - N * lx)
      have m3 := Int.mul_nonneg (by omega : 0 ≤ bx - ax) (by omega : 0 ≤ ((N - t) * ay + t * b_y) - N * ly)
      have m4 := Int.mul_nonneg (by omega : 0 ≤ b_y - ay) (by omega : 0 ≤ N * hx - ((N - t) * ax + t * bx))
      exact ⟨.inr (.inr (.inr (nn_of g1 (by grind)))), .inr (.inl (np_of g1 (by grind)))⟩
    · have m1 := Int.mul_nonneg (by omega : 0 ≤ bx - ax) (by omega : 0 ≤ N * hy - ((N - t) * ay + t * b_y))
      have m2 := Int.mul_nonneg (by omega : 0 ≤ ay - b_y) (by omega : 0 ≤ ((N - t) * ax + t * bx) - N * lx)
      have m3 := Int.mul_nonneg (by omega : 0 ≤ bx - ax) (by omega : 0 ≤ ((N - t) * ay + t * b_y) - N * ly)
      have m4 := Int.mul_nonneg (by omega : 0 ≤ ay - b_y) (by omega : 0 ≤ N * hx - ((N - t) * ax + t * bx))
      exact ⟨.inr (.inr (.inl (nn_of g1 (by grind)))), .inl (np_of g1 (by grind))⟩
  · by_cases dy : ay ≤ b_y
    · have m1 := Int.mul_nonneg (by omega : 0 ≤ ax - bx) (by omega : 0 ≤ N * hy - ((N - t) * ay + t * b_y))
      have m2 := Int.mul_nonneg (by omega : 0 ≤ b_y - ay) (by omega : 0 ≤ ((N - t) * ax + t * bx) - N * lx)
      have m3 := Int.mul_nonneg (by omega : 0 ≤ ax - bx) (by omega : 0 ≤ ((N - t) * ay + t * b_y) - N * ly)
      have m4 := Int.mul_nonneg (by omega : 0 ≤ b_y - ay) (by omega : 0 ≤ N * hx - ((N - t) * ax + t * bx))
      exact ⟨.inl (nn_of g1 (by grind)), .inr (.inr (.inl (np_of g1 (by grind))))⟩
    · have m1 := Int.mul_nonneg (by omega : 0 ≤ ax - bx) (by omega : 0 ≤ N * hy - ((N - t) * ay + t * b_y))
      have m2 := Int.mul_nonneg (by omega : 0 ≤ ay - b_y) (by omega : 0 ≤ ((N - t) * ax + t * bx) - N * lx)
      have m3 := Int.mul_nonneg (by omega : 0 ≤ ax - bx) (by omega : 0 ≤ ((N - t) * ay + t * b_y) - N * ly)
      have m4 := Int.mul_nonneg (by omega : 0 ≤ ay - b_y) (by omega : 0 ≤ N * hx - ((N - t) * ax + t * bx))
      exact ⟨.inr (.inl (nn_of g1 (by grind))), .inr (.inr (.inr (np_of g1 (by grind))))⟩
theorem HitE.hit {w : Win} {a b : Pt} (h : HitE a.x a.y b.x b.y w.lx w.ly w.hx w.hy) : Hit w a b := by
  obtain ⟨N, t, g1, g2, g3, ⟨g4, g5, g6, g7⟩, _⟩ := h
  exact ⟨N, t, g1, g2, g3, g4, g5, g6, g7⟩
theorem hit_hitE {w : Win} {a b : Pt} (h1 : w.lx ≤ w.hx) (h2 : w.ly ≤ w.hy) (h : Hit w a b) : HitE a.x a.y b.x b.y w.lx w.ly w.hx w.hy :=
  lr_hit h1 h2 (hit_bey h) (hit_lr h).1 (hit_lr h).2
/-- The document's answer is right: it says so just if some point of the stretch lies within. -/
theorem cutsR_iff {w : Win} {a b : Pt} (h1 : w.lx ≤ w.hx) (h2 : w.ly ≤ w.hy) : cutsR w a b = true ↔ Hit w a b := by
  unfold cutsR
  simp only [Bool.or_eq_true, Bool.and_eq_true, Bool.not_eq_true']
  constructor
  · rintro (h | h | ⟨h, h', h''⟩)
    · exact hit_a h
    · exact hit_b h
    · exact (lr_hit h1 h2 h h' h'').hit
  · intro h
    exact .inr (.inr ⟨hit_bey h, hit_lr h⟩)
end Go.Proofs.YtgkcenhopmjmlaaGreat
namespace Go.Proofs.YtgkcenhopmjmlaaGreat
theorem touch_iff (a b c d : Pt) : 0 < meetR a b c d ↔ Touch a b c d := by
  rw [meetR_pos]
  unfold Touch endsL
  cases onB c d a <;> cases onB c d b <;> cases onB a b c <;> cases onB a b d <;> simp
theorem Touch.swap {a b c d : Pt} (h : Touch a b d c) : Touch a b c d := by
  unfold Touch at *
  rw [onB_swap c d a, onB_swap c d b]
  rcases h with h | h | h | h | h
  · exact .inl h
  · exact .inr (.inl h)
  · exact .inr (.inr (.inr (.inl h)))
  · exact .inr (.inr (.inl h))
  · refine .inr (.inr (.inr (.inr ?_)))
    rw [prB_iff] at h ⊢
    rw [cr_swapT c d a, cr_swapT c d b] at h
    omega
theorem mul_le {N x y : Int} (hN : 0 < N) : N * x ≤ N * y ↔ x ≤ y := ⟨fun h => le_of_mul hN h, fun h => Int.mul_le_mul_of_nonneg_left h (by omega)⟩
/-- A point of a stretch lies between its ends. -/
theorem conv_btw {N t x y : Int} (g2 : 0 ≤ t) (g3 : t ≤ N) : (N * x ≤ (N - t) * x + t * y ∧ (N - t) * x + t * y ≤ N * y) ∨ (N * y ≤ (N - t) * x + t * y ∧ (N - t) * x + t * y ≤ N * x) := by
  have e : N - t + t = N := by omega
  by_cases h : x ≤ y
  · left
    have h1 := conv_ge (m := x) (by omega : 0 ≤ N - t) g2 (Int.le_refl x) h
    have h2 := conv_le (m := y) (by omega : 0 ≤ N - t) g2 h (Int.le_refl y)
    rw [e] at h1 h2
    exact ⟨h1, h2⟩
  · right
    have h1 := conv_ge (m := y) (by omega : 0 ≤ N - t) g2 (by omega : y ≤ x) (Int.le_refl y)
    have h2 := conv_le (m := x) (by omega : 0 ≤ N - t) g2 (Int.le_refl x) (by omega : y ≤ x)
    rw [e] at h1 h2
    exact ⟨h1, h2⟩
/-- A stretch that has a point on an upright one. -/
theorem touch_v {a b : Pt} {X p q N t : Int} (g1 : 0 < N) (g2 : 0 ≤ t) (g3 : t ≤ N) (hx : (N - t) * a.x + t * b.x = N * X) (h1 : N * p ≤ (N - t) * a.y + t * b.y) (h2 : (N - t) * a.y + t * b.y ≤ N * q) : Touch a b ⟨X, p⟩ ⟨X, q⟩ := by
  obtain ⟨ax, ay⟩ := a
  obtain ⟨bx, b_y⟩ := b
  simp only at hx h1 h2
  have bx1 := conv_btw (x := ax) (y := bx) g2 g3
  have by1 := conv_btw (x := ay) (y := b_y) g2 g3
  have hpq : p ≤ q := (mul_le g1).1 (by omega)
  rw [hx, mul_le g1, mul_le g1, mul_le g1, mul_le g1] at bx1
  unfold Touch
  simp only [onB_iff, prB_iff]
  unfold cr
  simp only
  obtain ⟨Y, hY⟩ : ∃ Y, Y = (N - t) * ay + t * b_y := ⟨_, rfl⟩
  rw [← hY] at h1 h2 by1
  have k1 : N * ((bx - ax) * (p - ay) - (b_y - ay) * (X - ax)) = (bx - ax) * (N * p - Y) := by grind
  have k2 : N * ((bx - ax) * (q - ay) - (b_y - ay) * (X - ax)) = (bx - ax) * (N * q - Y) := by grind
  have k3 : (X - X) * (ay - p) - (q - p) * (ax - X) = (q - p) * (X - ax) := by grind
  have k4 : (X - X) * (b_y - p) - (q - p) * (bx - X) = (q - p) * (X - bx) := by grind
  have s1 := pos_sgn g1 k1
  have s2 := pos_sgn g1 k2
  rw [k3, k4]
  generalize (bx - ax) * (p - ay) - (b_y - ay) * (X - ax) = C at *
  generalize (bx - ax) * (q - ay) - (b_y - ay) * (X - ax) = D at *
  by_cases hd : ax = bx
  · have hX : X = ax := by omega
    have hC : C = 0 := s1.2.2.2 (by rw [hd]; simp)
    have hD : D = 0 := s2.2.2.2 (by rw [hd]; simp)
    have hA0 : (q - p) * (X - ax) = 0 := by rw [hX]; simp
    have hB0 : (q - p) * (X - bx) = 0 := by rw [hX, hd]; simp
    have hb : (ay ≤ p ∧ p ≤ b_y) ∨ (b_y ≤ p ∧ p ≤ ay) ∨ (p ≤ ay ∧ ay ≤ q) ∨ (p ≤ b_y ∧ b_y ≤ q) := by
      by_cases e1 : p ≤ ay
      · by_cases e2 : ay ≤ q
        · exact .inr (.inr (.inl ⟨e1, e2⟩))
        · by_cases e3 : b_y ≤ q
          · by_cases e4 : p ≤ b_y
            · exact .inr (.inr (.inr ⟨e4, e3⟩))
            · exact .inr (.inl ⟨by omega, e1⟩)
          · exfalso
            have := (mul_lt g1).2 (by omega : q < ay)
            have := (mul_lt g1).2 (by omega : q < b_y)
            omega
      · by_cases e4 : p ≤ b_y
        · exact .inl ⟨by omega, e4⟩
        · exfalso
          have := (mul_lt g1).2 (by omega : ay < p)
          have := (mul_lt g1).2 (by omega : b_y < p)
          omega
    rcases hb with h | h | h | h
    · exact .inr (.inr (.inl ⟨hC, by omega, by omega⟩))
    · exact .inr (.inr (.inl ⟨hC, by omega, by omega⟩))
    · exact .inl ⟨hA0, by omega, by omega⟩
    · exact .inr (.inl ⟨hB0, by omega, by omega⟩)
  · by_cases z1 : N * p = Y
    · have : C = 0 := s1.2.2.2 (by rw [z1]; simp)
      rw [← z1, mul_le g1, mul_le g1, mul_le g1, mul_le g1] at by1
      exact .inr (.inr (.inl ⟨this, bx1, by1⟩))
    · by_cases z2 : N * q = Y
      · have : D = 0 := s2.2.2.2 (by rw [z2]; simp)
        rw [← z2, mul_le g1, mul_le g1, mul_le g1, mul_le g1] at by1
        exact .inr (.inr (.inr (.inl ⟨this, bx1, by1⟩)))
      · have hlt : p < q := by
          have : N * p < N * q := by omega
          exact (mul_lt g1).1 this
        by_cases e1 : ax = X
        · have e0 : (q - p) * (X - ax) = 0 := by rw [e1]; simp
          have ht : t * (bx - ax) = 0 := by
            have : (N - t) * ax + t * bx = N * ax + t * (bx - ax) := by grind
            rw [this, e1] at hx
            rw [e1]
            omega
          have ht0 : t = 0 := by
            rcases Int.mul_eq_zero.1 ht with h | h
            · exact h
            · omega
          have hYa : Y = N * ay := by rw [hY, ht0]; grind
          rw [hYa, mul_le g1] at h1
          rw [hYa, mul_le g1] at h2
          left
          refine ⟨e0, by omega, by omega⟩
        · by_cases e2 : bx = X
          · have e0 : (q - p) * (X - bx) = 0 := by rw [e2]; simp
            have ht : (N - t) * (ax - bx) = 0 := by
              have : (N - t) * ax + t * bx = N * bx + (N - t) * (ax - bx) := by grind
              rw [this, e2] at hx
              rw [e2]
              omega
            have ht0 : t = N := by
              rcases Int.mul_eq_zero.1 ht with h | h
              · omega
              · omega
            have hYa : Y = N * b_y := by rw [hY, ht0]; grind
            rw [hYa, mul_le g1] at h1
            rw [hYa, mul_le g1] at h2
            right; left
            refine ⟨e0, by omega, by omega⟩
          · right; right; right; right
            rcases bx1 with ⟨f1, f2⟩ | ⟨f1, f2⟩
            · have u1 := Int.mul_pos (by omega : 0 < bx - ax) (by omega : 0 < Y - N * p)
              have u2 := Int.mul_pos (by omega : 0 < bx - ax) (by omega : 0 < N * q - Y)
              have u3 := Int.mul_pos (by omega : 0 < q - p) (by omega : 0 < X - ax)
              have u4 := Int.mul_pos (by omega : 0 < q - p) (by omega : 0 < bx - X)
              have v1 : (bx - ax) * (N * p - Y) < 0 := by grind
              have v4 : (q - p) * (X - bx) < 0 := by grind
              exact ⟨.inl ⟨s1.2.1.2 v1, s2.1.2 u2⟩, .inr ⟨v4, u3⟩⟩
            · have u1 := Int.mul_pos (by omega : 0 < ax - bx) (by omega : 0 < Y - N * p)
              have u2 := Int.mul_pos (by omega : 0 < ax - bx) (by omega : 0 < N * q - Y)
              have u3 := Int.mul_pos (by omega : 0 < q - p) (by omega : 0 < ax - X)
              have u4 := Int.mul_pos (by omega : 0 < q - p) (by omega : 0 < X - bx)
              have v1 : 0 < (bx - ax) * (N * p - Y) := by grind
              have v2 : (bx - ax) * (N * q - Y) < 0 := by grind
              have v3 : (q - p) * (X - ax) < 0 := by grind
              exact ⟨.inr ⟨s2.2.1.2 v2, s1.1.2 v1⟩, .inl ⟨v3, u4⟩⟩
/-- The points with their coordinates exchanged. -/
def tr (p : Pt) : Pt := ⟨p.y, p.x⟩
theorem cr_tr (a b c : Pt) : cr (tr a) (tr b) (tr c) = - cr a b c := by unfold cr tr; grind
theorem onB_tr (a b c : Pt) : onB (tr a) (tr b) (tr c) = onB a b c := by
  rw [Bool.eq_iff_iff, onB_iff, onB_iff, cr_tr]
  unfold tr
  simp only
  omega
theorem Touch.tr {a b c d : Pt} (h : Touch (tr a) (tr b) (tr c) (tr d)) : Touch a b c d := by
  unfold Touch at *
  rw [onB_tr, onB_tr, onB_tr, onB_tr] at h
  rcases h with h | h | h | h | h
  · exact .inl h
  · exact .inr (.inl h)
  · exact .inr (.inr (.inl h))
  · exact .inr (.inr (.inr (.inl h)))
  · refine .inr (.inr (.inr (.inr ?_)))
    rw [prB_iff] at h ⊢
    rw [cr_tr, cr_tr, cr_tr, cr_tr] at h
    omega
theorem touch_h {a b : Pt} {Y p q N t : Int} (g1 : 0 < N) (g2 : 0 ≤ t) (g3 : t ≤ N) (hy : (N - t) * a.y + t * b.y = N * Y) (h1 : N * p ≤ (N - t) * a.x + t * b.x) (h2 : (N - t) * a.x + t * b.x ≤ N * q) : Touch a b ⟨p, Y⟩ ⟨q, Y⟩ :=
  Touch.tr (touch_v (a := tr a) (b := tr b) (X := Y) (p := p) (q := q) g1 g2 g3 hy h1 h2)
def cutsP (w : Win) (a b : Pt) : Bool := hasB w a || (hasB w b || (decide (0 < meetP a b (cor0 w) (cor1 w)) || (decide (0 < meetP a b (cor1 w) (cor2 w)) || (decide (0 < meetP a b (cor2 w) (cor3 w)) || decide (0 < meetP a b (cor3 w) (cor0 w))))))
theorem cor_good {w : Win} (h : winE w = 0) : good (cor0 w) = true ∧ good (cor1 w) = true ∧ good (cor2 w) = true ∧ good (cor3 w) = true ∧ w.lx ≤ w.hx ∧ w.ly ≤ w.hy := by
  unfold winE at h
  split at h
  · rename_i hg
    simp only [goodL, List.all_cons, List.all_nil, Bool.and_true, Bool.and_eq_true, good_iff, Win.low, Win.high] at hg
    simp only [good_iff, cor0, cor1, cor2, cor3]
    split at h
    · omega
    · omega
  · omega
theorem cutsP_eq {w : Win} {a b : Pt} (h : winE w = 0) (ha : good a = true) (hb : good b = true) : cutsP w a b = cutsR w a b := by
  obtain ⟨g0, g1, g2, g3, hx, hy⟩ := cor_good h
  have b0 : hasB w (cor0 w) = true := by rw [hasB_iff]; simp only [cor0]; omega
  have b1 : hasB w (cor1 w) = true := by rw [hasB_iff]; simp only [cor1]; omega
  have b2 : hasB w (cor2 w) = true := by rw [hasB_iff]; simp only [cor2]; omega
  have b3 : hasB w (cor3 w) = true := by rw [hasB_iff]; simp only [cor3]; omega
  rw [Bool.eq_iff_iff, cutsR_iff hx hy]
  unfold cutsP
  rw [meet_eq ha hb g0 g1, meet_eq ha hb g1 g2, meet_eq ha hb g2 g3, meet_eq ha hb g3 g0]
  simp only [Bool.or_eq_true, decide_eq_true_eq]
  constructor
  · rintro (q | q | q | q | q | q)
    · exact hit_a q
    · exact hit_b q
    · exact hit_meet b0 b1 q
    · exact hit_meet b1 b2 q
    · exact hit_meet b2 b3 q
    · exact hit_meet b3 b0 q
  · intro q
    rw [touch_iff, touch_iff, touch_iff, touch_iff]
    obtain ⟨N, t, f1, f2, f3, ⟨f4, f5, f6, f7⟩, e⟩ := hit_hitE hx hy q
    rcases e with e | e | e | e | e
    · left
      subst e
      simp only [Int.sub_zero, Int.zero_mul, Int.add_zero] at f4 f5 f6 f7
      rw [mul_le f1] at f4 f5 f6 f7
      rw [hasB_iff]
      exact ⟨f4, f5, f6, f7⟩
    · right; right; right; right; right
      exact (touch_v f1 f2 f3 e f6 f7).swap
    · right; right; right; left
      exact touch_v f1 f2 f3 e f6 f7
    · right; right; left
      exact touch_h f1 f2 f3 e f4 f5
    · right; right; right; right; left
      exact (touch_h f1 f2 f3 e f4 f5).swap
end Go.Proofs.YtgkcenhopmjmlaaGreat

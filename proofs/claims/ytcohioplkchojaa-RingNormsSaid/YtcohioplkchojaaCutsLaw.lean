/- Plain law: a stretch has a point in a window just if the document says so, and just if the program does. -/
import Derived.Test.YtcohioplkchojaaGeoLaw
namespace Go.Proofs.Ytcohioplkchojaa
/-- One of a stretch's points lies within, and the first such one is its begin, or on a border. -/
def HitE (ax ay bx b_y lx ly hx hy : Int) : Prop :=
  ∃ N t : Int, 0 < N ∧ 0 ≤ t ∧ t ≤ N ∧ (N * lx ≤ (N - t) * ax + t * bx ∧ (N - t) * ax + t * bx ≤ N * hx ∧ N * ly ≤ (N - t) * ay + t * b_y ∧ (N - t) * ay + t * b_y ≤ N * hy) ∧
    (t = 0 ∨ (N - t) * ax + t * bx = N * lx ∨ (N - t) * ax + t * bx = N * hx ∨ (N - t) * ay + t * b_y = N * ly ∨ (N - t) * ay + t * b_y = N * hy)
theorem lb {ax ay bx b_y lx ly hx hy : Int} (hdx : ax ≤ bx) (hdy : ay ≤ b_y) (h1 : lx ≤ hx) (h2 : ly ≤ hy) (b1 : lx ≤ bx) (b2 : ax ≤ hx) (b3 : ly ≤ b_y) (b4 : ay ≤ hy)
    (c1 : 0 ≤ (bx - ax) * (hy - ay) - (b_y - ay) * (lx - ax)) (c2 : (bx - ax) * (ly - ay) - (b_y - ay) * (hx - ax) ≤ 0) : HitE ax ay bx b_y lx ly hx hy := by
  by_cases q1 : lx ≤ ax
  · by_cases q2 : ly ≤ ay
    · exact ⟨1, 0, by omega, by omega, by omega, ⟨by omega, by omega, by omega, by omega⟩, .inl rfl⟩
    · have m1 := Int.mul_nonneg (by omega : 0 ≤ b_y - ay) (by omega : 0 ≤ ax - lx)
      have m2 := Int.mul_nonneg (by omega : 0 ≤ ly - ay) (by omega : 0 ≤ bx - ax)
      have m3 := Int.mul_nonneg (by omega : 0 ≤ b_y - ay) (by omega : 0 ≤ hy - ly)
      exact ⟨b_y - ay, ly - ay, by omega, by omega, by omega, ⟨by grind, by grind, by grind, by grind⟩, .inr (.inr (.inr (.inl (by grind))))⟩
  · by_cases q2 : ly ≤ ay ∨ (ly - ay) * (bx - ax) ≤ (lx - ax) * (b_y - ay)
    · have m1 := Int.mul_nonneg (by omega : 0 ≤ lx - ax) (by omega : 0 ≤ b_y - ay)
      have m3 := Int.mul_nonneg (by omega : 0 ≤ bx - ax) (by omega : 0 ≤ hx - lx)
      refine ⟨bx - ax, lx - ax, by omega, by omega, by omega, ⟨by grind, by grind, ?_, by grind⟩, .inr (.inl (by grind))⟩
      rcases q2 with q2 | q2
      · have m2 := Int.mul_nonneg (by omega : 0 ≤ bx - ax) (by omega : 0 ≤ ay - ly)
        grind
      · grind
    · have q3 : ay < ly := by omega
      have q4 : (lx - ax) * (b_y - ay) < (ly - ay) * (bx - ax) := by omega
      have m3 := Int.mul_nonneg (by omega : 0 ≤ b_y - ay) (by omega : 0 ≤ hy - ly)
      exact ⟨b_y - ay, ly - ay, by omega, by omega, by omega, ⟨by grind, by grind, by grind, by grind⟩, .inr (.inr (.inr (.inl (by grind))))⟩
theorem HitE.negx {ax ay bx b_y lx ly hx hy : Int} (h : HitE (-ax) ay (-bx) b_y (-hx) ly (-lx) hy) : HitE ax ay bx b_y lx ly hx hy := by
  obtain ⟨N, t, g1, g2, g3, ⟨g4, g5, g6, g7⟩, g8⟩ := h
  refine ⟨N, t, g1, g2, g3, ⟨by grind, by grind, g6, g7⟩, ?_⟩
  rcases g8 with g8 | g8 | g8 | g8 | g8
  · exact .inl g8
  · exact .inr (.inr (.inl (by grind)))
  · exact .inr (.inl (by grind))
  · exact .inr (.inr (.inr (.inl g8)))
  · exact .inr (.inr (.inr (.inr g8)))
theorem HitE.negy {ax ay bx b_y lx ly hx hy : Int} (h : HitE ax (-ay) bx (-b_y) lx (-hy) hx (-ly)) : HitE ax ay bx b_y lx ly hx hy := by
  obtain ⟨N, t, g1, g2, g3, ⟨g4, g5, g6, g7⟩, g8⟩ := h
  refine ⟨N, t, g1, g2, g3, ⟨g4, g5, by grind, by grind⟩, ?_⟩
  rcases g8 with g8 | g8 | g8 | g8 | g8
  · exact .inl g8
  · exact .inr (.inl g8)
  · exact .inr (.inr (.inl g8))
  · exact .inr (.inr (.inr (.inr (by grind))))
  · exact .inr (.inr (.inr (.inl (by grind))))
/-- Does the stretch lie beyond one of the window's sides? -/
def beyB (w : Win) (a b : Pt) : Bool := decide ((a.x < w.lx ∧ b.x < w.lx) ∨ (w.hx < a.x ∧ w.hx < b.x) ∨ (a.y < w.ly ∧ b.y < w.ly) ∨ (w.hy < a.y ∧ w.hy < b.y))
def cor0 (w : Win) : Pt := ⟨w.lx, w.ly⟩
def cor1 (w : Win) : Pt := ⟨w.hx, w.ly⟩
def cor2 (w : Win) : Pt := ⟨w.hx, w.hy⟩
def cor3 (w : Win) : Pt := ⟨w.lx, w.hy⟩
def leftB (w : Win) (a b : Pt) : Bool := decide (0 ≤ cr a b (cor0 w) ∨ 0 ≤ cr a b (cor1 w) ∨ 0 ≤ cr a b (cor2 w) ∨ 0 ≤ cr a b (cor3 w))
def rightB (w : Win) (a b : Pt) : Bool := decide (cr a b (cor0 w) ≤ 0 ∨ cr a b (cor1 w) ≤ 0 ∨ cr a b (cor2 w) ≤ 0 ∨ cr a b (cor3 w) ≤ 0)
def cutsR (w : Win) (a b : Pt) : Bool := hasB w a || (hasB w b || (!beyB w a b && (leftB w a b && rightB w a b)))
theorem lr_hit {w : Win} {a b : Pt} (h1 : w.lx ≤ w.hx) (h2 : w.ly ≤ w.hy) (hb : beyB w a b = false) (hl : leftB w a b = true) (hr : rightB w a b = true) : HitE a.x a.y b.x b.y w.lx w.ly w.hx w.hy := by
  unfold beyB at hb
  rw [decide_eq_false_iff_not] at hb
  unfold leftB at hl
  unfold rightB at hr
  rw [decide_eq_true_eq] at hl hr
  unfold cr cor0 cor1 cor2 cor3 at hl hr
  simp only at hl hr
  obtain ⟨ax, ay⟩ := a
  obtain ⟨bx, b_y⟩ := b
  obtain ⟨lx, ly, hx, hy⟩ := w
  simp only at *
  have hw : 0 ≤ hx - lx := by omega
  have hh : 0 ≤ hy - ly := by omega
  by_cases dx : ax ≤ bx
  · by_cases dy : ay ≤ b_y
    · have m1 := Int.mul_nonneg (by omega : 0 ≤ bx - ax) hh
      have m2 := Int.mul_nonneg (by omega : 0 ≤ b_y - ay) hw
      exact lb dx dy h1 h2 (by omega) (by omega) (by omega) (by omega) (by grind) (by grind)
    · have m1 := Int.mul_nonneg (by omega : 0 ≤ bx - ax) hh
      have m2 := Int.mul_nonneg (by omega : 0 ≤ ay - b_y) hw
      exact HitE.negy (lb (by omega) (by omega) (by omega) (by omega) (by omega) (by omega) (by omega) (by omega) (by grind) (by grind))
  · by_cases dy : ay ≤ b_y
    · have m1 := Int.mul_nonneg (by omega : 0 ≤ ax - bx) hh
      have m2 := Int.mul_nonneg (by omega : 0 ≤ b_y - ay) hw
      exact HitE.negx (lb (by omega) (by omega) (by omega) (by omega) (by omega) (by omega) (by omega) (by omega) (by grind) (by grind))
    · have m1 := Int.mul_nonneg (by omega : 0 ≤ ax - bx) hh
      have m2 := Int.mul_nonneg (by omega : 0 ≤ ay - b_y) hw
      exact HitE.negx (HitE.negy (lb (by omega) (by omega) (by omega) (by omega) (by omega) (by omega) (by omega) (by omega) (by grind) (by grind)))
theorem hit_bey {w : Win} {a b : Pt} (h : Hit w a b) : beyB w a b = false := by
  obtain ⟨N, t, g1, g2, g3, g4, g5, g6, g7⟩ := h
  unfold beyB
  rw [decide_eq_false_iff_not]
  have e : N - t + t = N := by omega
  rintro (⟨h1, h2⟩ | ⟨h1, h2⟩ | ⟨h1, h2⟩ | ⟨h1, h2⟩)
  · have := conv_le (m := w.lx - 1) (by omega : 0 ≤ N - t) g2 (by omega : a.x ≤ w.lx - 1) (by omega : b.x ≤ w.lx - 1)
    rw [e, Int.mul_sub] at this
    omega
  · have := conv_ge (m := w.hx + 1) (by omega : 0 ≤ N - t) g2 (by omega : w.hx + 1 ≤ a.x) (by omega : w.hx + 1 ≤ b.x)
    rw [e, Int.mul_add] at this
    omega
  · have := conv_le (m := w.ly - 1) (by omega : 0 ≤ N - t) g2 (by omega : a.y ≤ w.ly - 1) (by omega : b.y ≤ w.ly - 1)
    rw [e, Int.mul_sub] at this
    omega
  · have := conv_ge (m := w.hy + 1) (by omega : 0 ≤ N - t) g2 (by omega : w.hy + 1 ≤ a.y) (by omega : w.hy + 1 ≤ b.y)
    rw [e, Int.mul_add] at this
    omega
theorem nn_of {N z : Int} (hN : 0 < N) (h : 0 ≤ N * z) : 0 ≤ z := nn_of_mul hN h
theorem np_of {N z : Int} (hN : 0 < N) (h : N * z ≤ 0) : z ≤ 0 := by
  have := nn_of_mul (t := -z) hN (by rw [Int.mul_neg]; omega)
  omega
theorem hit_lr {w : Win} {a b : Pt} (h : Hit w a b) : leftB w a b = true ∧ rightB w a b = true := by
  obtain ⟨N, t, g1, g2, g3, g4, g5, g6, g7⟩ := h
  unfold leftB rightB
  rw [decide_eq_true_eq, decide_eq_true_eq]
  unfold cr cor0 cor1 cor2 cor3
  simp only
  obtain ⟨ax, ay⟩ := a
  obtain ⟨bx, b_y⟩ := b
  obtain ⟨lx, ly, hx, hy⟩ := w
  simp only at *
  by_cases dx : ax ≤ bx
  · by_cases dy : ay ≤ b_y
    · have m1 := Int.mul_nonneg (by omega : 0 ≤ bx - ax) (by omega : 0 ≤ N * hy - ((N - t) * ay + t * b_y))
      have m2 := Int.mul_nonneg (by omega : 0 ≤ b_y - ay) (by omega : 0 ≤ ((N - t) * ax + t * bx) - N * lx)
      have m3 := Int.mul_nonneg (by omega : 0 ≤ bx - ax) (by omega : 0 ≤ ((N - t) * ay + t * b_y) - N * ly)
      have m4 := Int.mul_nonneg (by omega : 0 ≤ b_y - ay) (by omega : 0 ≤ N * hx - ((N - t) * ax + t * bx))
      exact ⟨.inr (.inr (.inr (nn_of g1 (by grind)))), .inr (.inl (np_of g1 (by grind)))⟩
    · have m1 := Int.mul_nonneg (by omega : 0 ≤ bx - ax) (by omega : 0 ≤ N * hy - ((N - t) * ay + t * b_y))
      have m2 := Int.mul_nonneg (by omega : 0 ≤ ay - b_y) (by omega : 0 ≤ ((N - t) * ax + t * bx) - N * lx)
      have m3 := Int.mul_nonneg (by omega : 0 ≤ bx - ax) (by omega : 0 ≤ ((N - t) * ay + t * b_y) - N * ly)
      have m4 := Int.mul_nonneg (by omega : 0 ≤ ay - b_y) (by omega : 0 ≤ N * hx - ((N - t) * ax + t * bx))
      exact ⟨.inr (.inr (.inl (nn_of g1 (by grind)))), .inl (np_of g1 (by grind))⟩
  · by_cases dy : ay ≤ b_y
    · have m1 := Int.mul_nonneg (by omega : 0 ≤ ax - bx) (by omega : 0 ≤ N * hy - ((N - t) * ay + t * b_y))
      have m2 := Int.mul_nonneg (by omega : 0 ≤ b_y - ay) (by omega : 0 ≤ ((N - t) * ax + t * bx) - N * lx)
      have m3 := Int.mul_nonneg (by omega : 0 ≤ ax - bx) (by omega : 0 ≤ ((N - t) * ay + t * b_y) - N * ly)
      have m4 := Int.mul_nonneg (by omega : 0 ≤ b_y - ay) (by omega : 0 ≤ N * hx - ((N - t) * ax + t * bx))
      exact ⟨.inl (nn_of g1 (by grind)), .inr (.inr (.inl (np_of g1 (by grind))))⟩
    · have m1 := Int.mul_nonneg (by omega : 0 ≤ ax - bx) (by omega : 0 ≤ N * hy - ((N - t) * ay + t * b_y))
      have m2 := Int.mul_nonneg (by omega : 0 ≤ ay - b_y) (by omega : 0 ≤ ((N - t) * ax + t * bx) - N * lx)
      have m3 := Int.mul_nonneg (by omega : 0 ≤ ax - bx) (by omega : 0 ≤ ((N - t) * ay + t * b_y) - N * ly)
      have m4 := Int.mul_nonneg (by omega : 0 ≤ ay - b_y) (by omega : 0 ≤ N * hx - ((N - t) * ax + t * bx))
      exact ⟨.inr (.inl (nn_of g1 (by grind))), .inr (.inr (.inr (np_of g1 (by grind))))⟩
theorem HitE.hit {w : Win} {a b : Pt} (h : HitE a.x a.y b.x b.y w.lx w.ly w.hx w.hy) : Hit w a b := by
  obtain ⟨N, t, g1, g2, g3, ⟨g4, g5, g6, g7⟩, _⟩ := h
  exact ⟨N, t, g1, g2, g3, g4, g5, g6, g7⟩
theorem hit_hitE {w : Win} {a b : Pt} (h1 : w.lx ≤ w.hx) (h2 : w.ly ≤ w.hy) (h : Hit w a b) : HitE a.x a.y b.x b.y w.lx w.ly w.hx w.hy :=
  lr_hit h1 h2 (hit_bey h) (hit_lr h).1 (hit_lr h).2
/-- The document's answer is right: it says so just if some point of the stretch lies within. -/
theorem cutsR_iff {w : Win} {a b : Pt} (h1 : w.lx ≤ w.hx) (h2 : w.ly ≤ w.hy) : cutsR w a b = true ↔ Hit w a b := by
  unfold cutsR
  simp only [Bool.or_eq_true, Bool.and_eq_true, Bool.not_eq_true']
  constructor
  · rintro (h | h | ⟨h, h', h''⟩)
    · exact hit_a h
    · exact hit_b h
    · exact (lr_hit h1 h2 h h' h'').hit
  · intro h
    exact .inr (.inr ⟨hit_bey h, hit_lr h⟩)
end Go.Proofs.Ytcohioplkchojaa

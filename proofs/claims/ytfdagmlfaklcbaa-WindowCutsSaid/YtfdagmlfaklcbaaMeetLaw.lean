/- Plain law: the program's answer on two stretches is the document's. No condition but that the points are of the grid. -/
import Derived.Test.YtfdagmlfaklcbaaGeoLaw
namespace Go.Proofs.Ytfdagmlfaklcbaa
theorem cmpI_cases (x y : Int) : (x < y ∧ cmpI x y = -1) ∨ (y < x ∧ cmpI x y = 1) ∨ (x = y ∧ cmpI x y = 0) := by unfold cmpI; split <;> (try split) <;> omega
/-- A point as one number, by X, then by Y. -/
def key (p : Pt) : Int := p.x * 8589934592 + p.y
theorem key_ord {p q : Pt} (hp : good p = true) (hq : good q = true) : (key p < key q ∧ ordI p q = -1) ∨ (key q < key p ∧ ordI p q = 1) ∨ (p = q ∧ key p = key q ∧ ordI p q = 0) := by
  rw [good_iff] at hp hq
  unfold key ordI orI
  rcases cmpI_cases p.x q.x with ⟨h, e⟩ | ⟨h, e⟩ | ⟨h, e⟩ <;> rw [e]
  · left; exact ⟨by omega, by simp⟩
  · right; left; exact ⟨by omega, by simp⟩
  · rcases cmpI_cases p.y q.y with ⟨h', e'⟩ | ⟨h', e'⟩ | ⟨h', e'⟩ <;> rw [e']
    · left; exact ⟨by omega, by simp⟩
    · right; left; exact ⟨by omega, by simp⟩
    · right; right
      obtain ⟨px, py⟩ := p
      obtain ⟨qx, qy⟩ := q
      simp only at h h'
      subst h h'
      exact ⟨rfl, rfl, by simp⟩
theorem ends_key {a b : Pt} (ha : good a = true) (hb : good b = true) : (key a ≤ key b ∧ endA a b = a ∧ endB a b = b) ∨ (key b < key a ∧ endA a b = b ∧ endB a b = a) := by
  unfold endA endB
  rcases key_ord ha hb with ⟨h, e⟩ | ⟨h, e⟩ | ⟨h, h', e⟩ <;> rw [e]
  · left; exact ⟨by omega, by simp, by simp⟩
  · right; exact ⟨by omega, by simp, by simp⟩
  · left; exact ⟨by omega, by simp, by simp⟩
/-- Is p on the stretch, by keys? -/
theorem onP_key {a b p : Pt} (ha : good a = true) (hb : good b = true) (hp : good p = true) : onP a b p = true ↔ cr a b p = 0 ∧ ((key a ≤ key p ∧ key p ≤ key b) ∨ (key b ≤ key p ∧ key p ≤ key a)) := by
  unfold onP
  simp only [Bool.and_eq_true, decide_eq_true_eq, sgn_eq]
  rcases ends_key ha hb with ⟨h, e1, e2⟩ | ⟨h, e1, e2⟩ <;> rw [e1, e2]
  · have h1 := key_ord ha hp
    have h2 := key_ord hp hb
    constructor
    · rintro ⟨h0, h3, h4⟩; exact ⟨h0, by omega⟩
    · rintro ⟨h0, h3⟩; exact ⟨h0, by omega, by omega⟩
  · have h1 := key_ord hb hp
    have h2 := key_ord hp ha
    constructor
    · rintro ⟨h0, h3, h4⟩; exact ⟨h0, by omega⟩
    · rintro ⟨h0, h3⟩; exact ⟨h0, by omega, by omega⟩
theorem nn_of_mul {u t : Int} (hu : 0 < u) (h : 0 ≤ u * t) : 0 ≤ t := by
  by_cases ht : 0 ≤ t
  · exact ht
  · have := Int.mul_neg_of_pos_of_neg hu (by omega : t < 0)
    omega
theorem le_of_mul {u s t : Int} (hu : 0 < u) (h : u * s ≤ u * t) : s ≤ t := by
  have : 0 ≤ u * (t - s) := by rw [Int.mul_sub]; omega
  have := nn_of_mul hu this
  omega
/-- Along a stretch that is not upright: where x lies between, so does y. -/
theorem line_btw {u v s t : Int} (hu : 0 < u) (h : u * t = v * s) (h0 : 0 ≤ s) (h1 : s ≤ u) : (0 ≤ t ∧ t ≤ v) ∨ (v ≤ t ∧ t ≤ 0) := by
  by_cases hv : 0 ≤ v
  · left
    have a1 := Int.mul_nonneg hv h0
    have a2 := Int.mul_le_mul_of_nonneg_left h1 hv
    refine ⟨nn_of_mul hu (by omega), le_of_mul hu ?_⟩
    rw [h, Int.mul_comm u v]; exact a2
  · right
    have a1 := Int.mul_nonneg (by omega : 0 ≤ -v) h0
    have a2 := Int.mul_le_mul_of_nonneg_left h1 (by omega : 0 ≤ -v)
    simp only [Int.neg_mul] at a1 a2
    refine ⟨le_of_mul hu ?_, ?_⟩
    · rw [h, Int.mul_comm u v]; omega
    · have : 0 ≤ u * (-t) := by rw [Int.mul_neg, h]; exact a1
      have := nn_of_mul hu this
      omega
theorem line_zero {u t : Int} (hu : u ≠ 0) (h : u * t = 0) : t = 0 := by
  rcases Int.mul_eq_zero.1 h with h | h
  · exact absurd h hu
  · exact h
/-- The two ways to ask whether p is between. -/
theorem btw_key {a b p : Pt} (ha : good a = true) (hb : good b = true) (hp : good p = true) (h : cr a b p = 0) :
    ((key a ≤ key p ∧ key p ≤ key b) ∨ (key b ≤ key p ∧ key p ≤ key a)) ↔ (((a.x ≤ p.x ∧ p.x ≤ b.x) ∨ (b.x ≤ p.x ∧ p.x ≤ a.x)) ∧ ((a.y ≤ p.y ∧ p.y ≤ b.y) ∨ (b.y ≤ p.y ∧ p.y ≤ a.y))) := by
  rw [good_iff] at ha hb hp
  unfold cr at h
  unfold key
  obtain ⟨u, hu⟩ : ∃ u, u = b.x - a.x := ⟨_, rfl⟩
  obtain ⟨v, hv⟩ : ∃ v, v = b.y - a.y := ⟨_, rfl⟩
  obtain ⟨s, hs⟩ : ∃ s, s = p.x - a.x := ⟨_, rfl⟩
  obtain ⟨t, ht⟩ : ∃ t, t = p.y - a.y := ⟨_, rfl⟩
  rw [← hu, ← hv, ← hs, ← ht] at h
  have h3 : 0 < u ∨ u < 0 ∨ u = 0 := by omega
  rcases h3 with h3 | h3 | h3
  · have e := line_btw (s := s) (t := t) (v := v) h3 (by omega)
    have z1 : s = 0 → t = 0 := fun q => line_zero (by omega : u ≠ 0) (by rw [q] at h; simpa using h)
    have z2 : s = u → t = v := fun q => by
      have : u * (t - v) = 0 := by rw [Int.mul_sub]; rw [q, Int.mul_comm v u] at h; omega
      have := line_zero (by omega : u ≠ 0) this
      omega
    constructor
    · intro q
      have := e (by omega) (by omega)
      omega
    · intro q
      have := e (by omega) (by omega)
      by_cases q1 : s = 0
      · have := z1 q1; omega
      · by_cases q2 : s = u
        · have := z2 q2; omega
        · omega
  · have e := line_btw (u := -u) (s := -s) (t := -t) (v := -v) (by omega) (by rw [Int.neg_mul_neg, Int.neg_mul_neg]; omega)
    have z1 : s = 0 → t = 0 := fun q => line_zero (by omega : u ≠ 0) (by rw [q] at h; simpa using h)
    have z2 : s = u → t = v := fun q => by
      have : u * (t - v) = 0 := by rw [Int.mul_sub]; rw [q, Int.mul_comm v u] at h; omega
      have := line_zero (by omega : u ≠ 0) this
      omega
    constructor
    · intro q
      have := e (by omega) (by omega)
      omega
    · intro q
      have := e (by omega) (by omega)
      by_cases q1 : s = 0
      · have := z1 q1; omega
      · by_cases q2 : s = u
        · have := z2 q2; omega
        · omega
  · subst h3
    have h' : v * s = 0 := by simp only [Int.zero_mul] at h; omega
    rcases Int.mul_eq_zero.1 h' with q | q
    · constructor
      · intro; omega
      · intro; omega
    · constructor
      · intro; omega
      · intro; omega
theorem onB_iff (a b p : Pt) : onB a b p = true ↔ cr a b p = 0 ∧ ((a.x ≤ p.x ∧ p.x ≤ b.x) ∨ (b.x ≤ p.x ∧ p.x ≤ a.x)) ∧ ((a.y ≤ p.y ∧ p.y ≤ b.y) ∨ (b.y ≤ p.y ∧ p.y ≤ a.y)) := by
  unfold onB btw
  simp only [Bool.and_eq_true, decide_eq_true_eq]
theorem onP_eq {a b p : Pt} (ha : good a = true) (hb : good b = true) (hp : good p = true) : onP a b p = onB a b p := by
  rw [Bool.eq_iff_iff, onP_key ha hb hp, onB_iff]
  constructor
  · rintro ⟨h, q⟩; exact ⟨h, (btw_key ha hb hp h).1 q⟩
  · rintro ⟨h, q⟩; exact ⟨h, (btw_key ha hb hp h).2 q⟩
end Go.Proofs.Ytfdagmlfaklcbaa

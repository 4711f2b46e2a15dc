/- Plain law: the program's Cuts is the document's. -/
import Derived.Test.YtcohioplkchojaaCutsLaw
namespace Go.Proofs.Ytcohioplkchojaa
/-- Have two stretches a point in common? -/
def Touch (a b c d : Pt) : Prop := onB c d a = true ∨ onB c d b = true ∨ onB a b c = true ∨ onB a b d = true ∨ prB a b c d = true
theorem touch_iff (a b c d : Pt) : 0 < meetR a b c d ↔ Touch a b c d := by
  rw [meetR_pos]
  unfold Touch endsL
  cases onB c d a <;> cases onB c d b <;> cases onB a b c <;> cases onB a b d <;> simp
theorem onB_swap (a b p : Pt) : onB a b p = onB b a p := by
  rw [Bool.eq_iff_iff, onB_iff, onB_iff]
  have e : cr b a p = - cr a b p := by unfold cr; grind
  rw [e]
  omega
theorem cr_swapT (a b p : Pt) : cr b a p = - cr a b p := by unfold cr; grind
theorem Touch.swap {a b c d : Pt} (h : Touch a b d c) : Touch a b c d := by
  unfold Touch at *
  rw [onB_swap c d a, onB_swap c d b]
  rcases h with h | h | h | h | h
  · exact .inl h
  · exact .inr (.inl h)
  · exact .inr (.inr (.inr (.inl h)))
  · exact .inr (.inr (.inl h))
  · refine .inr (.inr (.inr (.inr ?_)))
    rw [prB_iff] at h ⊢
    rw [cr_swapT c d a, cr_swapT c d b] at h
    omega
theorem mul_lt {N x y : Int} (hN : 0 < N) : N * x < N * y ↔ x < y := by
  constructor
  · intro h
    have := le_of_mul hN (by omega : N * x ≤ N * y)
    by_cases e : x = y
    · subst e; omega
    · omega
  · intro h
    exact Int.mul_lt_mul_of_pos_left h hN
theorem mul_le {N x y : Int} (hN : 0 < N) : N * x ≤ N * y ↔ x ≤ y := ⟨fun h => le_of_mul hN h, fun h => Int.mul_le_mul_of_nonneg_left h (by omega)⟩
theorem mul_eq {N x y : Int} (hN : 0 < N) : N * x = N * y ↔ x = y := ⟨fun h => Int.eq_of_mul_eq_mul_left (by omega) h, fun h => by rw [h]⟩
/-- A point of a stretch lies between its ends. -/
theorem conv_btw {N t x y : Int} (g2 : 0 ≤ t) (g3 : t ≤ N) : (N * x ≤ (N - t) * x + t * y ∧ (N - t) * x + t * y ≤ N * y) ∨ (N * y ≤ (N - t) * x + t * y ∧ (N - t) * x + t * y ≤ N * x) := by
  have e : N - t + t = N := by omega
  by_cases h : x ≤ y
  · left
    have h1 := conv_ge (m := x) (by omega : 0 ≤ N - t) g2 (Int.le_refl x) h
    have h2 := conv_le (m := y) (by omega : 0 ≤ N - t) g2 h (Int.le_refl y)
    rw [e] at h1 h2
    exact ⟨h1, h2⟩
  · right
    have h1 := conv_ge (m := y) (by omega : 0 ≤ N - t) g2 (by omega : y ≤ x) (Int.le_refl y)
    have h2 := conv_le (m := x) (by omega : 0 ≤ N - t) g2 (Int.le_refl x) (by omega : y ≤ x)
    rw [e] at h1 h2
    exact ⟨h1, h2⟩
theorem pos_sgn {N x y : Int} (hN : 0 < N) (h : N * x = y) : (0 < x ↔ 0 < y) ∧ (x < 0 ↔ y < 0) ∧ (x = 0 ↔ y = 0) := by
  have h1 := mul_lt (x := 0) (y := x) hN
  have h2 := mul_lt (x := x) (y := 0) hN
  have h3 := mul_eq (x := x) (y := 0) hN
  rw [Int.mul_zero] at h1 h2 h3
  rw [h] at h1 h2 h3
  exact ⟨h1.symm, h2.symm, h3.symm⟩
/-- A stretch that has a point on an upright one. -/
theorem touch_v {a b : Pt} {X p q N t : Int} (g1 : 0 < N) (g2 : 0 ≤ t) (g3 : t ≤ N) (hx : (N - t) * a.x + t * b.x = N * X) (h1 : N * p ≤ (N - t) * a.y + t * b.y) (h2 : (N - t) * a.y + t * b.y ≤ N * q) : Touch a b ⟨X, p⟩ ⟨X, q⟩ := by
  obtain ⟨ax, ay⟩ := a
  obtain ⟨bx, b_y⟩ := b
  simp only at hx h1 h2
  have bx1 := conv_btw (x := ax) (y := bx) g2 g3
  have by1 := conv_btw (x := ay) (y := b_y) g2 g3
  have hpq : p ≤ q := (mul_le g1).1 (by omega)
  rw [hx, mul_le g1, mul_le g1, mul_le g1, mul_le g1] at bx1
  unfold Touch
  simp only [onB_iff, prB_iff]
  unfold cr
  simp only
  obtain ⟨Y, hY⟩ : ∃ Y, Y = (N - t) * ay + t * b_y := ⟨_, rfl⟩
  rw [← hY] at h1 h2 by1
  have k1 : N * ((bx - ax) * (p - ay) - (b_y - ay) * (X - ax)) = (bx - ax) * (N * p - Y) := by grind
  have k2 : N * ((bx - ax) * (q - ay) - (b_y - ay) * (X - ax)) = (bx - ax) * (N * q - Y) := by grind
  have k3 : (X - X) * (ay - p) - (q - p) * (ax - X) = (q - p) * (X - ax) := by grind
  have k4 : (X - X) * (b_y - p) - (q - p) * (bx - X) = (q - p) * (X - bx) := by grind
  have s1 := pos_sgn g1 k1
  have s2 := pos_sgn g1 k2
  rw [k3, k4]
  generalize (bx - ax) * (p - ay) - (b_y - ay) * (X - ax) = C at *
  generalize (bx - ax) * (q - ay) - (b_y - ay) * (X - ax) = D at *
  by_cases hd : ax = bx
  · have hX : X = ax := by omega
    have hC : C = 0 := s1.2.2.2 (by rw [hd]; simp)
    have hD : D = 0 := s2.2.2.2 (by rw [hd]; simp)
    have hA0 : (q - p) * (X - ax) = 0 := by rw [hX]; simp
    have hB0 : (q - p) * (X - bx) = 0 := by rw [hX, hd]; simp
    have hb : (ay ≤ p ∧ p ≤ b_y) ∨ (b_y ≤ p ∧ p ≤ ay) ∨ (p ≤ ay ∧ ay ≤ q) ∨ (p ≤ b_y ∧ b_y ≤ q) := by
      by_cases e1 : p ≤ ay
      · by_cases e2 : ay ≤ q
        · exact .inr (.inr (.inl ⟨e1, e2⟩))
        · by_cases e3 : b_y ≤ q
          · by_cases e4 : p ≤ b_y
            · exact .inr (.inr (.inr ⟨e4, e3⟩))
            · exact .inr (.inl ⟨by omega, e1⟩)
          · exfalso
            have := (mul_lt g1).2 (by omega : q < ay)
            have := (mul_lt g1).2 (by omega : q < b_y)
            omega
      · by_cases e4 : p ≤ b_y
        · exact .inl ⟨by omega, e4⟩
        · exfalso
          have := (mul_lt g1).2 (by omega : ay < p)
          have := (mul_lt g1).2 (by omega : b_y < p)
          omega
    rcases hb with h | h | h | h
    · exact .inr (.inr (.inl ⟨hC, by omega, by omega⟩))
    · exact .inr (.inr (.inl ⟨hC, by omega, by omega⟩))
    · exact .inl ⟨hA0, by omega, by omega⟩
    · exact .inr (.inl ⟨hB0, by omega, by omega⟩)
  · by_cases z1 : N * p = Y
    · have : C = 0 := s1.2.2.2 (by rw [z1]; simp)
      rw [← z1, mul_le g1, mul_le g1, mul_le g1, mul_le g1] at by1
      exact .inr (.inr (.inl ⟨this, bx1, by1⟩))
    · by_cases z2 : N * q = Y
      · have : D = 0 := s2.2.2.2 (by rw [z2]; simp)
        rw [← z2, mul_le g1, mul_le g1, mul_le g1, mul_le g1] at by1
        exact .inr (.inr (.inr (.inl ⟨this, bx1, by1⟩)))
      · have hlt : p < q := by
          have : N * p < N * q := by omega
          exact (mul_lt g1).1 this
        by_cases e1 : ax = X
        · have e0 : (q - p) * (X - ax) = 0 := by rw [e1]; simp
          have ht : t * (bx - ax) = 0 := by
            have : (N - t) * ax + t * bx = N * ax + t * (bx - ax) := by grind
            rw [this, e1] at hx
            rw [e1]
            omega
          have ht0 : t = 0 := by
            rcases Int.mul_eq_zero.1 ht with h | h
            · exact h
            · omega
          have hYa : Y = N * ay := by rw [hY, ht0]; grind
          rw [hYa, mul_le g1] at h1
          rw [hYa, mul_le g1] at h2
          left
          refine ⟨e0, by omega, by omega⟩
        · by_cases e2 : bx = X
          · have e0 : (q - p) * (X - bx) = 0 := by rw [e2]; simp
            have ht : (N - t) * (ax - bx) = 0 := by
              have : (N - t) * ax + t * bx = N * bx + (N - t) * (ax - bx) := by grind
              rw [this, e2] at hx
              rw [e2]
              omega
            have ht0 : t = N := by
              rcases Int.mul_eq_zero.1 ht with h | h
              · omega
              · omega
            have hYa : Y = N * b_y := by rw [hY, ht0]; grind
            rw [hYa, mul_le g1] at h1
            rw [hYa, mul_le g1] at h2
            right; left
            refine ⟨e0, by omega, by omega⟩
          · right; right; right; right
            rcases bx1 with ⟨f1, f2⟩ | ⟨f1, f2⟩
            · have u1 := Int.mul_pos (by omega : 0 < bx - ax) (by omega : 0 < Y - N * p)
              have u2 := Int.mul_pos (by omega : 0 < bx - ax) (by omega : 0 < N * q - Y)
              have u3 := Int.mul_pos (by omega : 0 < q - p) (by omega : 0 < X - ax)
              have u4 := Int.mul_pos (by omega : 0 < q - p) (by omega : 0 < bx - X)
              have v1 : (bx - ax) * (N * p - Y) < 0 := by grind
              have v4 : (q - p) * (X - bx) < 0 := by grind
              exact ⟨.inl ⟨s1.2.1.2 v1, s2.1.2 u2⟩, .inr ⟨v4, u3⟩⟩
            · have u1 := Int.mul_pos (by omega : 0 < ax - bx) (by omega : 0 < Y - N * p)
              have u2 := Int.mul_pos (by omega : 0 < ax - bx) (by omega : 0 < N * q - Y)
              have u3 := Int.mul_pos (by omega : 0 < q - p) (by omega : 0 < ax - X)
              have u4 := Int.mul_pos (by omega : 0 < q - p) (by omega : 0 < X - bx)
              have v1 : 0 < (bx - ax) * (N * p - Y) := by grind
              have v2 : (bx - ax) * (N * q - Y) < 0 := by grind
              have v3 : (q - p) * (X - ax) < 0 := by grind
              exact ⟨.inr ⟨s2.2.1.2 v2, s1.1.2 v1⟩, .inl ⟨v3, u4⟩⟩
/-- The points with their coordinates exchanged. -/
def tr (p : Pt) : Pt := ⟨p.y, p.x⟩
theorem cr_tr (a b c : Pt) : cr (tr a) (tr b) (tr c) = - cr a b c := by unfold cr tr; grind
theorem onB_tr (a b c : Pt) : onB (tr a) (tr b) (tr c) = onB a b c := by
  rw [Bool.eq_iff_iff, onB_iff, onB_iff, cr_tr]
  unfold tr
  simp only
  omega
theorem Touch.tr {a b c d : Pt} (h : Touch (tr a) (tr b) (tr c) (tr d)) : Touch a b c d := by
  unfold Touch at *
  rw [onB_tr, onB_tr, onB_tr, onB_tr] at h
  rcases h with h | h | h | h | h
  · exact .inl h
  · exact .inr (.inl h)
  · exact .inr (.inr (.inl h))
  · exact .inr (.inr (.inr (.inl h)))
  · refine .inr (.inr (.inr (.inr ?_)))
    rw [prB_iff] at h ⊢
    rw [cr_tr, cr_tr, cr_tr, cr_tr] at h
    omega
theorem touch_h {a b : Pt} {Y p q N t : Int} (g1 : 0 < N) (g2 : 0 ≤ t) (g3 : t ≤ N) (hy : (N - t) * a.y + t * b.y = N * Y) (h1 : N * p ≤ (N - t) * a.x + t * b.x) (h2 : (N - t) * a.x + t * b.x ≤ N * q) : Touch a b ⟨p, Y⟩ ⟨q, Y⟩ :=
  Touch.tr (touch_v (a := tr a) (b := tr b) (X := Y) (p := p) (q := q) g1 g2 g3 hy h1 h2)
def cutsP (w : Win) (a b : Pt) : Bool := hasB w a || (hasB w b || (decide (0 < meetP a b (cor0 w) (cor1 w)) || (decide (0 < meetP a b (cor1 w) (cor2 w)) || (decide (0 < meetP a b (cor2 w) (cor3 w)) || decide (0 < meetP a b (cor3 w) (cor0 w))))))
theorem cor_good {w : Win} (h : winE w = 0) : good (cor0 w) = true ∧ good (cor1 w) = true ∧ good (cor2 w) = true ∧ good (cor3 w) = true ∧ w.lx ≤ w.hx ∧ w.ly ≤ w.hy := by
  unfold winE at h
  split at h
  · rename_i hg
    simp only [goodL, List.all_cons, List.all_nil, Bool.and_true, Bool.and_eq_true, good_iff, Win.low, Win.high] at hg
    simp only [good_iff, cor0, cor1, cor2, cor3]
    split at h
    · omega
    · omega
  · omega
theorem cutsP_eq {w : Win} {a b : Pt} (h : winE w = 0) (ha : good a = true) (hb : good b = true) : cutsP w a b = cutsR w a b := by
  obtain ⟨g0, g1, g2, g3, hx, hy⟩ := cor_good h
  have b0 : hasB w (cor0 w) = true := by rw [hasB_iff]; simp only [cor0]; omega
  have b1 : hasB w (cor1 w) = true := by rw [hasB_iff]; simp only [cor1]; omega
  have b2 : hasB w (cor2 w) = true := by rw [hasB_iff]; simp only [cor2]; omega
  have b3 : hasB w (cor3 w) = true := by rw [hasB_iff]; simp only [cor3]; omega
  rw [Bool.eq_iff_iff, cutsR_iff hx hy]
  unfold cutsP
  rw [meet_eq ha hb g0 g1, meet_eq ha hb g1 g2, meet_eq ha hb g2 g3, meet_eq ha hb g3 g0]
  simp only [Bool.or_eq_true, decide_eq_true_eq]
  constructor
  · rintro (q | q | q | q | q | q)
    · exact hit_a q
    · exact hit_b q
    · exact hit_meet b0 b1 q
    · exact hit_meet b1 b2 q
    · exact hit_meet b2 b3 q
    · exact hit_meet b3 b0 q
  · intro q
    rw [touch_iff, touch_iff, touch_iff, touch_iff]
    obtain ⟨N, t, f1, f2, f3, ⟨f4, f5, f6, f7⟩, e⟩ := hit_hitE hx hy q
    rcases e with e | e | e | e | e
    · left
      subst e
      simp only [Int.sub_zero, Int.zero_mul, Int.add_zero] at f4 f5 f6 f7
      rw [mul_le f1] at f4 f5 f6 f7
      rw [hasB_iff]
      exact ⟨f4, f5, f6, f7⟩
    · right; right; right; right; right
      exact (touch_v f1 f2 f3 e f6 f7).swap
    · right; right; right; left
      exact touch_v f1 f2 f3 e f6 f7
    · right; right; left
      exact touch_h f1 f2 f3 e f4 f5
    · right; right; right; right; left
      exact (touch_h f1 f2 f3 e f4 f5).swap
end Go.Proofs.Ytcohioplkchojaa

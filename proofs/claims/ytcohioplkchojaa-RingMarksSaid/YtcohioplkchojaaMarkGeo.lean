/- Plain law: stretches, and a point on one of them. -/
import Derived.Test.YtcohioplkchojaaTurnLaw
namespace Go.Proofs.Ytcohioplkchojaa
theorem onB_key {a b p : Pt} (ha : good a = true) (hb : good b = true) (hp : good p = true) : onB a b p = true ↔ cr a b p = 0 ∧ ((key a ≤ key p ∧ key p ≤ key b) ∨ (key b ≤ key p ∧ key p ≤ key a)) := by
  rw [← onP_eq ha hb hp]
  exact onP_key ha hb hp
/-- A point in common, as a share of either's ends. -/
def Com (a b c d : Pt) (N t A B : Int) : Prop := 0 < N ∧ 0 ≤ t ∧ t ≤ N ∧ 0 ≤ A ∧ 0 ≤ B ∧ A + B = N ∧ (N - t) * a.x + t * b.x = A * c.x + B * d.x ∧ (N - t) * a.y + t * b.y = A * c.y + B * d.y
theorem on_conv {a b c : Pt} {N t : Int} (hN : 0 < N) (h0 : 0 ≤ t) (h1 : t ≤ N) (hx : (N - t) * a.x + t * b.x = N * c.x) (hy : (N - t) * a.y + t * b.y = N * c.y) : onB a b c = true := by
  rw [onB_iff]
  refine ⟨?_, ?_, ?_⟩
  · have : N * cr a b c = 0 := by unfold cr; grind
    exact line_zero (by omega) this
  · have := conv_btw (x := a.x) (y := b.x) h0 h1
    rw [hx, mul_le hN, mul_le hN, mul_le hN, mul_le hN] at this
    exact this
  · have := conv_btw (x := a.y) (y := b.y) h0 h1
    rw [hy, mul_le hN, mul_le hN, mul_le hN, mul_le hN] at this
    exact this
theorem com_of_touch {a b c d : Pt} (h : Touch a b c d) : ∃ N t A B, Com a b c d N t A B := by
  rcases h with h | h | h | h | h
  · obtain ⟨N, t, h1, h2, h3, h4, h5⟩ := on_param h
    exact ⟨N, 0, N - t, t, h1, by omega, by omega, by omega, by omega, by omega, by rw [h4]; grind, by rw [h5]; grind⟩
  · obtain ⟨N, t, h1, h2, h3, h4, h5⟩ := on_param h
    exact ⟨N, N, N - t, t, h1, by omega, by omega, by omega, by omega, by omega, by rw [h4]; grind, by rw [h5]; grind⟩
  · obtain ⟨N, t, h1, h2, h3, h4, h5⟩ := on_param h
    exact ⟨N, t, N, 0, h1, h2, h3, by omega, by omega, by omega, by rw [h4]; grind, by rw [h5]; grind⟩
  · obtain ⟨N, t, h1, h2, h3, h4, h5⟩ := on_param h
    exact ⟨N, t, 0, N, h1, h2, h3, by omega, by omega, by omega, by rw [h4]; grind, by rw [h5]; grind⟩
  · obtain ⟨N, t, A, B, h⟩ := pr_param h
    exact ⟨N, t, A, B, h⟩
theorem Com.other {a b c d : Pt} {N t A B : Int} (h : Com a b c d N t A B) : Com c d a b N B (N - t) t := by
  obtain ⟨h1, h2, h3, h4, h5, h6, h7, h8⟩ := h
  exact ⟨h1, h5, by omega, by omega, h2, by omega, by rw [show N - B = A by omega]; exact h7.symm, by rw [show N - B = A by omega]; exact h8.symm⟩
theorem com_sum {a b c d : Pt} {N t A B : Int} (h : Com a b c d N t A B) : A * cr a b c + B * cr a b d = 0 := by
  obtain ⟨h1, h2, h3, h4, h5, h6, h7, h8⟩ := h
  unfold cr
  grind
theorem signs {A B C D : Int} (hA : 0 ≤ A) (hB : 0 ≤ B) (hN : 0 < A + B) (h : A * C + B * D = 0) : (C = 0 ∧ D = 0) ∨ (C < 0 ∧ 0 < D) ∨ (D < 0 ∧ 0 < C) ∨ A = 0 ∨ B = 0 := by
  by_cases h1 : A = 0
  · simp [h1]
  · by_cases h2 : B = 0
    · simp [h2]
    · have hA' : 0 < A := by omega
      have hB' : 0 < B := by omega
      have m1 := smul (u := A) (v := C) hA'
      have m2 := smul (u := B) (v := D) hB'
      omega
theorem touch_of_com {a b c d : Pt} (ha : good a = true) (hb : good b = true) (hc : good c = true) (hd : good d = true) {N t A B : Int} (h : Com a b c d N t A B) : Touch a b c d := by
  have k1 := com_sum h
  have k2 := com_sum h.other
  obtain ⟨h1, h2, h3, h4, h5, h6, h7, h8⟩ := h
  have s1 := signs h4 h5 (by omega) k1
  have s2 := signs (by omega : 0 ≤ N - t) h2 (by omega) k2
  by_cases eA : A = 0
  · exact .inr (.inr (.inr (.inl (on_conv h1 h2 h3 (by rw [h7, eA]; rw [show B = N by omega]; grind) (by rw [h8, eA]; rw [show B = N by omega]; grind)))))
  by_cases eB : B = 0
  · exact .inr (.inr (.inl (on_conv h1 h2 h3 (by rw [h7, eB]; rw [show A = N by omega]; grind) (by rw [h8, eB]; rw [show A = N by omega]; grind))))
  by_cases e0 : N - t = 0
  · exact .inr (.inl (on_conv h1 h5 (by omega) (by rw [show N - B = A by omega, ← h7, e0, show t = N by omega]; grind) (by rw [show N - B = A by omega, ← h8, e0, show t = N by omega]; grind)))
  by_cases e1 : t = 0
  · exact .inl (on_conv h1 h5 (by omega) (by rw [show N - B = A by omega, ← h7, e1]; grind) (by rw [show N - B = A by omega, ← h8, e1]; grind))
  by_cases hz : cr a b c = 0 ∧ cr a b d = 0 ∧ cr c d a = 0 ∧ cr c d b = 0
  · obtain ⟨z1, z2, z3, z4⟩ := hz
    have hk : (N - t) * key a + t * key b = A * key c + B * key d := by unfold key; grind
    have c1 := conv_btw (N := N) (t := t) (x := key a) (y := key b) h2 h3
    have c2 := conv_btw (N := N) (t := B) (x := key c) (y := key d) h5 (by omega)
    rw [show N - B = A by omega] at c2
    rw [← hk] at c2
    generalize (N - t) * key a + t * key b = X at *
    have m : ∀ x y : Int, N * x ≤ N * y → x ≤ y := fun x y h => (mul_le h1).1 h
    have mm : ∀ x y : Int, N * x ≤ X → X ≤ N * y → x ≤ y := fun x y p q => m x y (by omega)
    have g1 := onB_key hc hd ha
    have g2 := onB_key hc hd hb
    have g3 := onB_key ha hb hc
    have g4 := onB_key ha hb hd
    unfold Touch
    rw [g1, g2, g3, g4]
    simp only [z1, z2, z3, z4, true_and]
    rcases c1 with ⟨c11, c12⟩ | ⟨c11, c12⟩ <;> rcases c2 with ⟨c21, c22⟩ | ⟨c21, c22⟩
    · have := mm _ _ c11 c22; have := mm _ _ c21 c12; have := mm _ _ c11 c12; have := mm _ _ c21 c22; omega
    · have := mm _ _ c11 c22; have := mm _ _ c21 c12; have := mm _ _ c11 c12; have := mm _ _ c21 c22; omega
    · have := mm _ _ c11 c22; have := mm _ _ c21 c12; have := mm _ _ c11 c12; have := mm _ _ c21 c22; omega
    · have := mm _ _ c11 c22; have := mm _ _ c21 c12; have := mm _ _ c11 c12; have := mm _ _ c21 c22; omega
  · right; right; right; right
    rw [prB_iff]
    have p1 : (cr a b c = 0 ∧ cr a b d = 0) → (cr c d a = 0 ∧ cr c d b = 0) → False := fun q1 q2 => hz ⟨q1.1, q1.2, q2⟩
    have p2 : cr a b d - cr a b c = cr c d a - cr c d b := by unfold cr; grind
    omega
theorem touch_other {a b c d : Pt} : Touch c d a b ↔ Touch a b c d := by
  rw [← touch_iff, ← touch_iff, meetR_comm]
/-- Of a stretch's part. -/
theorem com_part {a b p c d : Pt} (hp : onB a b p = true) {N t A B : Int} (h : Com a p c d N t A B) : ∃ N t A B, Com a b c d N t A B := by
  obtain ⟨M, s, g1, g2, g3, g4, g5⟩ := on_param hp
  obtain ⟨h1, h2, h3, h4, h5, h6, h7, h8⟩ := h
  have hle : t * s ≤ N * M := Int.mul_le_mul h3 g3 g2 (by omega)
  refine ⟨N * M, t * s, M * A, M * B, Int.mul_pos h1 g1, Int.mul_nonneg h2 g2, hle, Int.mul_nonneg (by omega) h4, Int.mul_nonneg (by omega) h5, by rw [← Int.mul_add, h6]; exact Int.mul_comm _ _, ?_, ?_⟩
  · have : M * ((N - t) * a.x + t * p.x) = M * (A * c.x + B * d.x) := by rw [h7]
    grind
  · have : M * ((N - t) * a.y + t * p.y) = M * (A * c.y + B * d.y) := by rw [h8]
    grind
theorem touch_part {a b p c d : Pt} (ha : good a = true) (hb : good b = true) (hc : good c = true) (hd : good d = true) (hp : onB a b p = true) (h : Touch a p c d) : Touch a b c d := by
  obtain ⟨N, t, A, B, h⟩ := com_of_touch h
  obtain ⟨N, t, A, B, h⟩ := com_part hp h
  exact touch_of_com ha hb hc hd h
theorem meetR_nn (a b c d : Pt) : 0 ≤ meetR a b c d := by
  unfold meetR
  split <;> (try split) <;> (try split) <;> omega
theorem meet_zero {a b c d : Pt} : meetR a b c d = 0 ↔ ¬ Touch a b c d := by
  have := meetR_nn a b c d
  rw [← touch_iff]
  omega
theorem prB_swap1 (a b c d : Pt) : prB b a c d = prB a b c d := by
  rw [Bool.eq_iff_iff, prB_iff, prB_iff, cr_swapT a b c, cr_swapT a b d]
  omega
theorem meetR_swap1 (a b c d : Pt) : meetR b a c d = meetR a b c d := by
  have hm : ∀ e, e ∈ endsL b a c d ↔ e ∈ endsL a b c d := fun e => by
    unfold endsL
    rw [onB_swap b a c, onB_swap b a d]
    simp only [List.mem_append]
    constructor <;> rintro (h | h | h | h) <;> simp only [h, true_or, or_true]
  have h1 : difB (endsL b a c d) = difB (endsL a b c d) := by
    rw [Bool.eq_iff_iff, difB_iff, difB_iff]
    simp only [hm]
  have h2 : endsL b a c d ≠ [] ↔ endsL a b c d ≠ [] := by
    constructor <;> intro h <;> obtain ⟨e, he⟩ := List.exists_mem_of_ne_nil _ h
    · exact List.ne_nil_of_mem ((hm e).1 he)
    · exact List.ne_nil_of_mem ((hm e).2 he)
  unfold meetR
  rw [h1, prB_swap1]
  by_cases h : endsL a b c d ≠ []
  · rw [if_pos (h2.2 h), if_pos h]
  · rw [if_neg (fun h' => h (h2.1 h')), if_neg h]
theorem meetR_swap2 (a b c d : Pt) : meetR a b d c = meetR a b c d := by rw [← meetR_comm, meetR_swap1, meetR_comm]
/-- Two stretches with one end in common and no other point. -/
theorem one_iff {a b d : Pt} : meetR a b b d = 1 ↔ (onB b d a = true → a = b) ∧ (onB a b d = true → d = b) := by
  have hb1 := (onB_self b d).1
  have hb2 := (onB_self a b).2
  have hne : endsL a b b d ≠ [] := by unfold endsL; rw [hb1, hb2]; simp
  have hd : difB (endsL a b b d) = true ↔ ¬ ((onB b d a = true → a = b) ∧ (onB a b d = true → d = b)) := by
    rw [difB_iff]
    have hmem : ∀ e, e ∈ endsL a b b d ↔ e = b ∨ (onB b d a = true ∧ e = a) ∨ (onB a b d = true ∧ e = d) := fun e => by
      unfold endsL
      rw [hb1, hb2]
      rcases q1 : onB b d a with _ | _ <;> rcases q2 : onB a b d with _ | _ <;> simp <;> grind
    constructor
    · rintro ⟨p, q, hp, hq, hne⟩ ⟨g1, g2⟩
      have e : ∀ e, e ∈ endsL a b b d → e = b := fun e he => by
        rcases (hmem e).1 he with h | ⟨h, h'⟩ | ⟨h, h'⟩
        · exact h
        · rw [h', g1 h]
        · rw [h', g2 h]
      exact hne ((e p hp).trans (e q hq).symm)
    · intro h
      by_cases q1 : onB b d a = true ∧ a ≠ b
      · exact ⟨a, b, (hmem a).2 (.inr (.inl ⟨q1.1, rfl⟩)), (hmem b).2 (.inl rfl), q1.2⟩
      · by_cases q2 : onB a b d = true ∧ d ≠ b
        · exact ⟨d, b, (hmem d).2 (.inr (.inr ⟨q2.1, rfl⟩)), (hmem b).2 (.inl rfl), q2.2⟩
        · exact absurd ⟨fun h1 => Classical.byContradiction fun h2 => q1 ⟨h1, h2⟩, fun h1 => Classical.byContradiction fun h2 => q2 ⟨h1, h2⟩⟩ h
  unfold meetR
  by_cases hD : difB (endsL a b b d) = true
  · rw [if_pos hD]
    constructor
    · intro h; omega
    · intro h; exact absurd h (hd.1 hD)
  · rw [if_neg hD, if_pos hne]
    constructor
    · intro _
      exact Classical.byContradiction fun h => hD (hd.2 h)
    · intro _; rfl
end Go.Proofs.Ytcohioplkchojaa

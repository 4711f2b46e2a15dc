/- What lies beside PlanLaw; Plain law: two stretches with a point within both have more in common than one end. Rotations of a ring without repetition; Plain law: a corner more on an edge; A corner that is put into a ring: plain law; Rings stored into an own plan; ref02.Least at longer rings; least twice is least; cut.Split: the model, and what a plan that is cut is made of: plain law. -/
import Derived.Test.YtmegmokjjlelgaaGreatK07
import Derived.Test.YtmegmokjjlelgaaGreatK08
import Derived.Test.YtmegmokjjlelgaaGreatK09
import Derived.Test.YtmegmokjjlelgaaGreatK18
import Derived.Test.YtmegmokjjlelgaaGreatK19
namespace Go.Proofs.YtmegmokjjlelgaaGreat
end Go.Proofs.YtmegmokjjlelgaaGreat
namespace Go.Proofs.YtmegmokjjlelgaaGreat
theorem smul {u v : Int} (hu : 0 < u) : (0 < u * v ↔ 0 < v) ∧ (u * v < 0 ↔ v < 0) := by
  have := pos_sgn (N := u) (x := v) (y := u * v) hu rfl
  exact ⟨this.1.symm, this.2.1.symm⟩
end Go.Proofs.YtmegmokjjlelgaaGreat
namespace Go.Proofs.YtmegmokjjlelgaaGreat
theorem ptAt_rot1 {k i : Nat} {xs : List Pt} (h : k < xs.length) : ptAt (rot k xs) ((i + 1) % xs.length) = ptAt xs (((k + i) % xs.length + 1) % xs.length) := by
  rw [ptAt_rot h (Nat.mod_lt _ (by omega))]
  congr 1
  rw [Nat.add_mod_mod, Nat.mod_add_mod, Nat.add_assoc]
def adjB (n i j : Nat) : Bool := decide ((i + 1) % n = j) || decide ((j + 1) % n = i)
theorem next_adj {n i j : Nat} (hi : i < j) (hj : j < n) : nextB n i j = adjB n i j := by
  unfold nextB adjB
  rw [Nat.mod_eq_of_lt (by omega : i + 1 < n)]
  by_cases h : j + 1 = n
  · rw [h, Nat.mod_self]
    rw [Bool.eq_iff_iff]
    simp only [Bool.or_eq_true, Bool.and_eq_true, decide_eq_true_eq]
    omega
  · rw [Nat.mod_eq_of_lt (by omega : j + 1 < n)]
    rw [Bool.eq_iff_iff]
    simp only [Bool.or_eq_true, Bool.and_eq_true, decide_eq_true_eq]
    omega
def pairS (xs : List Pt) (i j : Nat) : Prop := ptAt xs i ≠ ptAt xs j ∧ meetOf xs i j = if adjB xs.length i j = true then 1 else 0
theorem pairS_comm {xs : List Pt} {i j : Nat} (h : pairS xs i j) : pairS xs j i := by
  unfold pairS meetOf at *
  refine ⟨fun e => h.1 e.symm, ?_⟩
  rw [meetR_comm, h.2]
  unfold adjB
  rw [Bool.or_comm]
theorem pairs_iff (xs : List Pt) : PairsOK xs ↔ ∀ i j, i < xs.length → j < xs.length → i ≠ j → pairS xs i j := by
  have key : ∀ i j, i < j → j < xs.length → (pairOK xs i j = true ↔ pairS xs i j) := fun i j hi hj => by
    unfold pairOK pairS
    rw [next_adj hi hj, Bool.and_eq_true, decide_eq_true_eq, decide_eq_true_eq]
  constructor
  · intro h i j hi hj hne
    rcases Nat.lt_or_gt_of_ne hne with hlt | hlt
    · exact (key i j hlt hj).1 (h i j hlt hj)
    · exact pairS_comm ((key j i hlt hi).1 (h j i hlt hi))
  · intro h i j hi hj
    exact (key i j hi hj).2 (h i j (by omega) hj (by omega))
end Go.Proofs.YtmegmokjjlelgaaGreat
namespace Go.Proofs.YtmegmokjjlelgaaGreat
theorem onB_key {a b p : Pt} (ha : good a = true) (hb : good b = true) (hp : good p = true) : onB a b p = true ↔ cr a b p = 0 ∧ ((key a ≤ key p ∧ key p ≤ key b) ∨ (key b ≤ key p ∧ key p ≤ key a)) := by
  rw [← onP_eq ha hb hp]
  exact onP_key ha hb hp
theorem on_conv {a b c : Pt} {N t : Int} (hN : 0 < N) (h0 : 0 ≤ t) (h1 : t ≤ N) (hx : (N - t) * a.x + t * b.x = N * c.x) (hy : (N - t) * a.y + t * b.y = N * c.y) : onB a b c = true := by
  rw [onB_iff]
  refine ⟨?_, ?_, ?_⟩
  · have : N * cr a b c = 0 := by unfold cr; grind
    exact line_zero (by omega) this
  · have := conv_btw (x := a.x) (y := b.x) h0 h1
    rw [hx, mul_le hN, mul_le hN, mul_le hN, mul_le hN] at this
    exact this
  · have := conv_btw (x := a.y) (y := b.y) h0 h1
    rw [hy, mul_le hN, mul_le hN, mul_le hN, mul_le hN] at this
    exact this
theorem com_sum {a b c d : Pt} {N t A B : Int} (h : Com a b c d N t A B) : A * cr a b c + B * cr a b d = 0 := by
  obtain ⟨h1, h2, h3, h4, h5, h6, h7, h8⟩ := h
  unfold cr
  grind
theorem signs {A B C D : Int} (hA : 0 ≤ A) (hB : 0 ≤ B) (hN : 0 < A + B) (h : A * C + B * D = 0) : (C = 0 ∧ D = 0) ∨ (C < 0 ∧ 0 < D) ∨ (D < 0 ∧ 0 < C) ∨ A = 0 ∨ B = 0 := by
  by_cases h1 : A = 0
  · simp [h1]
  · by_cases h2 : B = 0
    · simp [h2]
    · have hA' : 0 < A := by omega
      have hB' : 0 < B := by omega
      have m1 := smul (u := A) (v := C) hA'
      have m2 := smul (u := B) (v := D) hB'
      omega
theorem touch_of_com {a b c d : Pt} (ha : good a = true) (hb : good b = true) (hc : good c = true) (hd : good d = true) {N t A B : Int} (h : Com a b c d N t A B) : Touch a b c d := by
  have k1 := com_sum h
  have k2 := com_sum h.other
  obtain ⟨h1, h2, h3, h4, h5, h6, h7, h8⟩ := h
  have s1 := signs h4 h5 (by omega) k1
  have s2 := signs (by omega : 0 ≤ N - t) h2 (by omega) k2
  by_cases eA : A = 0
  · exact .inr (.inr (.inr (.inl (on_conv h1 h2 h3 (by rw [h7, eA]; rw [show B = N by omega]; grind) (by rw [h8, eA]; rw [show B = N by omega]; grind)))))
  by_cases eB : B = 0
  · exact .inr (.inr (.inl (on_conv h1 h2 h3 (by rw [h7, eB]; rw [show A = N by omega]; grind) (by rw [h8, eB]; rw [show A = N by omega]; grind))))
  by_cases e0 : N - t = 0
  · exact .inr (.inl (on_conv h1 h5 (by omega) (by rw [show N - B = A by omega, ← h7, e0, show t = N by omega]; grind) (by rw [show N - B = A by omega, ← h8, e0, show t = N by omega]; grind)))
  by_cases e1 : t = 0
  · exact .inl (on_conv h1 h5 (by omega) (by rw [show N - B = A by omega, ← h7, e1]; grind) (by rw [show N - B = A by omega, ← h8, e1]; grind))
  by_cases hz : cr a b c = 0 ∧ cr a b d = 0 ∧ cr c d a = 0 ∧ cr c d b = 0
  · obtain ⟨z1, z2, z3, z4⟩ := hz
    have hk : (N - t) * key a + t * key b = A * key c + B * key d := by unfold key; grind
    have c1 := conv_btw (N := N) (t := t) (x := key a) (y := key b) h2 h3
    have c2 := conv_btw (N := N) (t := B) (x := key c) (y := key d) h5 (by omega)
    rw [show N - B = A by omega] at c2
    rw [← hk] at c2
    generalize (N - t) * key a + t * key b = X at *
    have m : ∀ x y : Int, N * x ≤ N * y → x ≤ y := fun x y h => (mul_le h1).1 h
    have mm : ∀ x y : Int, N * x ≤ X → X ≤ N * y → x ≤ y := fun x y p q => m x y (by omega)
    have g1 := onB_key hc hd ha
    have g2 := onB_key hc hd hb
    have g3 := onB_key ha hb hc
    have g4 := onB_key ha hb hd
    unfold Touch
    rw [g1, g2, g3, g4]
    simp only [z1, z2, z3, z4, true_and]
    rcases c1 with ⟨c11, c12⟩ | ⟨c11, c12⟩ <;> rcases c2 with ⟨c21, c22⟩ | ⟨c21, c22⟩
    · have := mm _ _ c11 c22; have := mm _ _ c21 c12; have := mm _ _ c11 c12; have := mm _ _ c21 c22; omega
    · have := mm _ _ c11 c22; have := mm _ _ c21 c12; have := mm _ _ c11 c12; have := mm _ _ c21 c22; omega
    · have := mm _ _ c11 c22; have := mm _ _ c21 c12; have := mm _ _ c11 c12; have := mm _ _ c21 c22; omega
    · have := mm _ _ c11 c22; have := mm _ _ c21 c12; have := mm _ _ c11 c12; have := mm _ _ c21 c22; omega
  · right; right; right; right
    rw [prB_iff]
    have p1 : (cr a b c = 0 ∧ cr a b d = 0) → (cr c d a = 0 ∧ cr c d b = 0) → False := fun q1 q2 => hz ⟨q1.1, q1.2, q2⟩
    have p2 : cr a b d - cr a b c = cr c d a - cr c d b := by unfold cr; grind
    omega
theorem meetR_nn (a b c d : Pt) : 0 ≤ meetR a b c d := by
  unfold meetR
  split <;> (try split) <;> (try split) <;> omega
theorem meet_zero {a b c d : Pt} : meetR a b c d = 0 ↔ ¬ Touch a b c d := by
  have := meetR_nn a b c d
  rw [← touch_iff]
  omega
/-- Two stretches with one end in common and no other point. -/
theorem one_iff {a b d : Pt} : meetR a b b d = 1 ↔ (onB b d a = true → a = b) ∧ (onB a b d = true → d = b) := by
  have hb1 := (onB_self b d).1
  have hb2 := (onB_self a b).2
  have hne : endsL a b b d ≠ [] := by unfold endsL; rw [hb1, hb2]; simp
  have hd : difB (endsL a b b d) = true ↔ ¬ ((onB b d a = true → a = b) ∧ (onB a b d = true → d = b)) := by
    rw [difB_iff]
    have hmem : ∀ e, e ∈ endsL a b b d ↔ e = b ∨ (onB b d a = true ∧ e = a) ∨ (onB a b d = true ∧ e = d) := fun e => by
      unfold endsL
      rw [hb1, hb2]
      rcases q1 : onB b d a with _ | _ <;> rcases q2 : onB a b d with _ | _ <;> simp <;> grind
    constructor
    · rintro ⟨p, q, hp, hq, hne⟩ ⟨g1, g2⟩
      have e : ∀ e, e ∈ endsL a b b d → e = b := fun e he => by
        rcases (hmem e).1 he with h | ⟨h, h'⟩ | ⟨h, h'⟩
        · exact h
        · rw [h', g1 h]
        · rw [h', g2 h]
      exact hne ((e p hp).trans (e q hq).symm)
    · intro h
      by_cases q1 : onB b d a = true ∧ a ≠ b
      · exact ⟨a, b, (hmem a).2 (.inr (.inl ⟨q1.1, rfl⟩)), (hmem b).2 (.inl rfl), q1.2⟩
      · by_cases q2 : onB a b d = true ∧ d ≠ b
        · exact ⟨d, b, (hmem d).2 (.inr (.inr ⟨q2.1, rfl⟩)), (hmem b).2 (.inl rfl), q2.2⟩
        · exact absurd ⟨fun h1 => Classical.byContradiction fun h2 => q1 ⟨h1, h2⟩, fun h1 => Classical.byContradiction fun h2 => q2 ⟨h1, h2⟩⟩ h
  unfold meetR
  by_cases hD : difB (endsL a b b d) = true
  · rw [if_pos hD]
    constructor
    · intro h; omega
    · intro h; exact absurd h (hd.1 hD)
  · rw [if_neg hD, if_pos hne]
    constructor
    · intro _
      exact Classical.byContradiction fun h => hD (hd.2 h)
    · intro _; rfl
end Go.Proofs.YtmegmokjjlelgaaGreat
namespace Go.Proofs.YtmegmokjjlelgaaGreat
end Go.Proofs.YtmegmokjjlelgaaGreat
namespace Go.Proofs.YtmegmokjjlelgaaGreat
end Go.Proofs.YtmegmokjjlelgaaGreat
namespace Go.Proofs.YtmegmokjjlelgaaGreat
theorem par0 {ux uy vx vy wx wy : Int} (h1 : ux * vy - uy * vx = 0) (h2 : vx * wy - vy * wx = 0) (hv : vx ≠ 0 ∨ vy ≠ 0) : ux * wy - uy * wx = 0 := by
  rcases hv with h | h
  · have e : vx * (ux * wy - uy * wx) = ux * (vx * wy - vy * wx) + wx * (ux * vy - uy * vx) := by grind
    rw [h1, h2] at e
    rcases Int.mul_eq_zero.1 (e.trans (by simp)) with h3 | h3
    · exact absurd h3 h
    · exact h3
  · have e : vy * (ux * wy - uy * wx) = uy * (vx * wy - vy * wx) + wy * (ux * vy - uy * vx) := by grind
    rw [h1, h2] at e
    rcases Int.mul_eq_zero.1 (e.trans (by simp)) with h3 | h3
    · exact absurd h3 h
    · exact h3
theorem pt_sub_ne {p q : Pt} (h : p ≠ q) : p.x - q.x ≠ 0 ∨ p.y - q.y ≠ 0 := by
  by_cases hx : p.x = q.x
  · by_cases hy : p.y = q.y
    · exact absurd (by obtain ⟨a, b⟩ := p; obtain ⟨c, d⟩ := q; simp at hx hy; rw [hx, hy]) h
    · exact .inr (by omega)
  · exact .inl (by omega)
/-- Two points of two straight lines: all four ends lie on one. -/
theorem line_of {a b c d e q : Pt} (hcd : c ≠ d) (heq : e ≠ q) (h1 : cr a b e = 0) (h2 : cr a b q = 0) (h3 : cr c d e = 0) (h4 : cr c d q = 0) : cr a b c = 0 ∧ cr a b d = 0 := by
  unfold cr at *
  have k1 : (b.x - a.x) * (e.y - q.y) - (b.y - a.y) * (e.x - q.x) = 0 := by grind
  have k2 : (e.x - q.x) * (d.y - c.y) - (e.y - q.y) * (d.x - c.x) = 0 := by grind
  have k3 := par0 k1 k2 (pt_sub_ne heq)
  have k4 : (d.x - c.x) * (q.y - c.y) - (d.y - c.y) * (q.x - c.x) = 0 := h4
  have k5 := par0 k3 k4 (pt_sub_ne (Ne.symm hcd))
  have k6 : (d.x - c.x) * (q.y - d.y) - (d.y - c.y) * (q.x - d.x) = 0 := by grind
  have k7 := par0 k3 k6 (pt_sub_ne (Ne.symm hcd))
  exact ⟨by grind, by grind⟩
/-- A point within a stretch: on it, and neither of its ends. -/
def inS (a b q : Pt) : Prop := onB a b q = true ∧ q ≠ a ∧ q ≠ b
theorem inS_ne {a b q : Pt} (h : inS a b q) : a ≠ b := fun e => by
  subst e
  have h1 := (onB_iff a a q).1 h.1
  apply h.2.1
  obtain ⟨x, y⟩ := q
  obtain ⟨u, v⟩ := a
  simp only [Pt.mk.injEq]
  simp only at h1
  omega
theorem key_lt_or {p q : Pt} (hp : good p = true) (hq : good q = true) (h : p ≠ q) : key p < key q ∨ key q < key p := by
  rcases key_ord hp hq with h1 | h1 | h1
  · exact .inl h1.1
  · exact .inr h1.1
  · exact absurd h1.1 h
theorem inS_touch {a b c d q : Pt} (ha : good a = true) (hb : good b = true) (hc : good c = true) (hd : good d = true) (h1 : inS a b q) (h2 : inS c d q) : meetR a b c d ≠ 0 := fun h => by
  apply (meet_zero (a := a) (b := b) (c := c) (d := d)).1 h
  obtain ⟨N, t, n1, n2, n3, n4, n5⟩ := on_param h1.1
  obtain ⟨M, s, m1, m2, m3, m4, m5⟩ := on_param h2.1
  have hs : 0 ≤ M - s := by omega
  have ht : 0 ≤ N - t := by omega
  have ht2 := Int.mul_le_mul_of_nonneg_right n3 (Int.le_of_lt m1)
  refine touch_of_com (N := N * M) (t := t * M) (A := N * (M - s)) (B := N * s) ha hb hc hd ⟨Int.mul_pos n1 m1, Int.mul_nonneg n2 (Int.le_of_lt m1), ht2, Int.mul_nonneg (Int.le_of_lt n1) hs, Int.mul_nonneg (Int.le_of_lt n1) m2, ?_, ?_, ?_⟩
  · grind
  · have e1 : (N * M - t * M) * a.x + t * M * b.x = M * ((N - t) * a.x + t * b.x) := by grind
    have e2 : N * (M - s) * c.x + N * s * d.x = N * ((M - s) * c.x + s * d.x) := by grind
    rw [e1, e2, n4, m4]
    grind
  · have e1 : (N * M - t * M) * a.y + t * M * b.y = M * ((N - t) * a.y + t * b.y) := by grind
    have e2 : N * (M - s) * c.y + N * s * d.y = N * ((M - s) * c.y + s * d.y) := by grind
    rw [e1, e2, n5, m5]
    grind
theorem inS_one {a b c d q : Pt} (ha : good a = true) (hb : good b = true) (hc : good c = true) (hd : good d = true) (hq : good q = true) (h1 : inS a b q) (h2 : inS c d q) : meetR a b c d ≠ 1 := fun h => by
  unfold meetR at h
  have hnd : ¬ difB (endsL a b c d) = true := fun hd' => by rw [if_pos hd'] at h; cases h
  rw [if_neg hnd] at h
  have hne : endsL a b c d ≠ [] := fun hn => by
    rw [if_neg (fun h' => h' hn)] at h
    split at h <;> cases h
  obtain ⟨e, he⟩ := List.exists_mem_of_ne_nil _ hne
  have hab := inS_ne h1
  have hcd := inS_ne h2
  have hends : ∀ x, x ∈ endsL a b c d ↔ (x = a ∧ onB c d a = true) ∨ (x = b ∧ onB c d b = true) ∨ (x = c ∧ onB a b c = true) ∨ (x = d ∧ onB a b d = true) := fun x => by
    unfold endsL
    rcases onB c d a with _ | _ <;> rcases onB c d b with _ | _ <;> rcases onB a b c with _ | _ <;> rcases onB a b d with _ | _ <;> simp
  have heq : e ≠ q := fun e' => by
    rw [e'] at he
    rcases (hends q).1 he with ⟨h', -⟩ | ⟨h', -⟩ | ⟨h', -⟩ | ⟨h', -⟩
    · exact h1.2.1 h'
    · exact h1.2.2 h'
    · exact h2.2.1 h'
    · exact h2.2.2 h'
  obtain ⟨o1, o2⟩ := endsL_mem he
  have z1 := ((onB_iff a b e).1 o1).1
  have z2 := ((onB_iff a b q).1 h1.1).1
  have z3 := ((onB_iff c d e).1 o2).1
  have z4 := ((onB_iff c d q).1 h2.1).1
  obtain ⟨l1, l2⟩ := line_of hcd heq z1 z2 z3 z4
  obtain ⟨l3, l4⟩ := line_of hab heq z3 z4 z1 z2
  have k1 := ((onB_key ha hb hq).1 h1.1).2
  have k2 := ((onB_key hc hd hq).1 h2.1).2
  have s1 := key_lt_or hq ha h1.2.1
  have s2 := key_lt_or hq hb h1.2.2
  have s3 := key_lt_or hq hc h2.2.1
  have s4 := key_lt_or hq hd h2.2.2
  apply hnd
  rw [difB_iff]
  have hA : (key c ≤ key a ∧ key a ≤ key d) ∨ (key d ≤ key a ∧ key a ≤ key c) → a ∈ endsL a b c d := fun h' => (hends a).2 (.inl ⟨rfl, (onB_key hc hd ha).2 ⟨l3, h'⟩⟩)
  have hB : (key c ≤ key b ∧ key b ≤ key d) ∨ (key d ≤ key b ∧ key b ≤ key c) → b ∈ endsL a b c d := fun h' => (hends b).2 (.inr (.inl ⟨rfl, (onB_key hc hd hb).2 ⟨l4, h'⟩⟩))
  have hC : (key a ≤ key c ∧ key c ≤ key b) ∨ (key b ≤ key c ∧ key c ≤ key a) → c ∈ endsL a b c d := fun h' => (hends c).2 (.inr (.inr (.inl ⟨rfl, (onB_key ha hb hc).2 ⟨l1, h'⟩⟩)))
  have hD : (key a ≤ key d ∧ key d ≤ key b) ∨ (key b ≤ key d ∧ key d ≤ key a) → d ∈ endsL a b c d := fun h' => (hends d).2 (.inr (.inr (.inr ⟨rfl, (onB_key ha hb hd).2 ⟨l2, h'⟩⟩)))
  have lo : ∃ x, x ∈ endsL a b c d ∧ key x < key q := by
    by_cases g1 : key a < key q <;> by_cases g2 : key c < key q <;> by_cases g3 : key a ≤ key c <;> by_cases g4 : key a ≤ key d <;> by_cases g5 : key b ≤ key c <;> by_cases g6 : key b ≤ key d <;>
      first
      | exact ⟨a, hA (by omega), by omega⟩
      | exact ⟨b, hB (by omega), by omega⟩
      | exact ⟨c, hC (by omega), by omega⟩
      | exact ⟨d, hD (by omega), by omega⟩
  have hi : ∃ x, x ∈ endsL a b c d ∧ key q < key x := by
    by_cases g1 : key a < key q <;> by_cases g2 : key c < key q <;> by_cases g3 : key a ≤ key c <;> by_cases g4 : key a ≤ key d <;> by_cases g5 : key b ≤ key c <;> by_cases g6 : key b ≤ key d <;>
      first
      | exact ⟨a, hA (by omega), by omega⟩
      | exact ⟨b, hB (by omega), by omega⟩
      | exact ⟨c, hC (by omega), by omega⟩
      | exact ⟨d, hD (by omega), by omega⟩
  obtain ⟨x, hx, hxq⟩ := lo
  obtain ⟨y, hy, hyq⟩ := hi
  exact ⟨x, y, hx, hy, fun e => by rw [e] at hxq; omega⟩
-- rotations
theorem ring_ext {xs ys : List Pt} (hl : xs.length = ys.length) (h : ∀ i, i < xs.length → ptAt xs i = ptAt ys i) : xs = ys := by
  refine List.ext_getElem hl fun i h1 h2 => ?_
  rw [← ptAt_lt h1, ← ptAt_lt h2]
  exact h i h1
theorem nodup_ptAt {xs : List Pt} (hn : xs.Nodup) {i j : Nat} (hi : i < xs.length) (hj : j < xs.length) (h : ptAt xs i = ptAt xs j) : i = j := by
  rw [ptAt_lt hi, ptAt_lt hj] at h
  exact (List.getElem_inj hn).1 h
theorem lst_eq_rot (xs : List Pt) : ∃ j, (xs ≠ [] → j < xs.length) ∧ lst xs = rot j xs := by
  refine ⟨leastN xs xs.length, fun h => leastN_lt xs (List.length_pos_iff.2 h), rfl⟩
-- sound plans
theorem sound_nodup {p : Plan} {xs : List Pt} (hs : SoundP p) (h : ringOf p xs) : xs.Nodup ∧ lst xs = xs ∧ xs ≠ [] := by
  obtain ⟨-, -, h3, hc⟩ := sound_ring hs h
  refine ⟨pairs_nodup (checkI_zero hc).2.2.2.2, ?_, fun e => by rw [e] at h3; simp at h3⟩
  rcases h with rfl | ⟨x, hx, rfl⟩
  · exact hs.2.1.2.symm
  · exact (hs.2.2.1 x hx).2.symm
theorem mem_lst {xs : List Pt} {p : Pt} : p ∈ lst xs ↔ p ∈ xs := by
  refine ⟨lst_mem, fun h => ?_⟩
  obtain ⟨j, -, e⟩ := lst_eq_rot xs
  rw [e]
  unfold rot
  rw [← List.take_append_drop j xs] at h
  rw [List.mem_append] at h ⊢
  exact h.symm
theorem each_sound {g : List Pt → List Pt} {p : Plan} {y : Parc} (hy : y ∈ (eachP g p).parcels) : ∃ x ∈ p.parcels, y = eachX g x := by
  obtain ⟨x, hx, e⟩ := List.mem_map.1 hy
  exact ⟨x, hx, e.symm⟩
end Go.Proofs.YtmegmokjjlelgaaGreat
namespace Go.Proofs.YtmegmokjjlelgaaGreat
end Go.Proofs.YtmegmokjjlelgaaGreat
namespace Go.Proofs.YtmegmokjjlelgaaGreat
/-- The ring with a corner more behind the k-th. -/
def mark (k : Nat) (p : Pt) (xs : List Pt) : List Pt := xs.take (k + 1) ++ [p] ++ xs.drop (k + 1)
end Go.Proofs.YtmegmokjjlelgaaGreat
namespace Go.Proofs.YtmegmokjjlelgaaGreat
theorem insK_in (xs : List Pt) (q : Pt) (k : Nat) : (inS (ptAt xs k) (ptAt xs ((k + 1) % xs.length)) q → insK xs q k = [ptAt xs k, q]) ∧ (¬ inS (ptAt xs k) (ptAt xs ((k + 1) % xs.length)) q → insK xs q k = [ptAt xs k]) := by
  unfold insK inS
  generalize ptAt xs ((k + 1) % xs.length) = b
  generalize ptAt xs k = a
  rcases onB a b q with _ | _ <;> by_cases h1 : q = a <;> by_cases h2 : q = b <;> simp [h1, h2]
theorem insL_range (xs : List Pt) (q : Pt) : ∀ m, m ≤ xs.length → (∀ i, i < xs.length → ¬ inS (ptAt xs i) (ptAt xs ((i + 1) % xs.length)) q) → insL xs q (List.range m) = xs.take m := fun m => by
  induction m with
  | zero => intro _ _; simp [insL]
  | succ m ih =>
    intro hm hn
    have h1 := (insK_in xs q m).2 (hn m (by omega))
    have h2 := ih (by omega) hn
    unfold insL at *
    rw [List.range_succ, List.flatMap_append, h2, List.flatMap_singleton, h1, ptAt_lt (by omega), List.take_succ_eq_append_getElem (by omega)]
theorem ins_none {xs : List Pt} {q : Pt} (hn : ∀ i, i < xs.length → ¬ inS (ptAt xs i) (ptAt xs ((i + 1) % xs.length)) q) : insG q xs = xs := by
  unfold insG
  rw [insL_range xs q _ (Nat.le_refl _) hn, List.take_length]
theorem insL_one {xs : List Pt} {q : Pt} {k : Nat} (hk : k < xs.length) (hin : inS (ptAt xs k) (ptAt xs ((k + 1) % xs.length)) q) (hn : ∀ i, i < xs.length → i ≠ k → ¬ inS (ptAt xs i) (ptAt xs ((i + 1) % xs.length)) q) :
    ∀ m, m ≤ xs.length → insL xs q (List.range m) = if k < m then xs.take (k + 1) ++ [q] ++ (xs.take m).drop (k + 1) else xs.take m := fun m => by
  induction m with
  | zero => intro _; simp [insL]
  | succ m ih =>
    intro hm
    have h2 := ih (by omega)
    have ht : xs.take (m + 1) = xs.take m ++ [ptAt xs m] := by rw [ptAt_lt (by omega), List.take_succ_eq_append_getElem (by omega)]
    unfold insL at *
    rw [List.range_succ, List.flatMap_append, h2, List.flatMap_singleton]
    by_cases h : m = k
    · subst h
      rw [(insK_in xs q m).1 hin, if_neg (by omega), if_pos (by omega), ht, List.drop_of_length_le (by simp; omega)]
      simp
    · rw [(insK_in xs q m).2 (hn m (by omega) h)]
      by_cases h3 : k < m
      · rw [if_pos h3, if_pos (by omega), ht, List.drop_append_of_le_length (by rw [List.length_take]; omega)]
        simp
      · rw [if_neg h3, if_neg (by omega), ht]
theorem ins_one {xs : List Pt} {q : Pt} {k : Nat} (hk : k < xs.length) (hin : inS (ptAt xs k) (ptAt xs ((k + 1) % xs.length)) q) (hn : ∀ i, i < xs.length → i ≠ k → ¬ inS (ptAt xs i) (ptAt xs ((i + 1) % xs.length)) q) : insG q xs = mark k q xs := by
  unfold insG mark
  rw [insL_one hk hin hn _ (Nat.le_refl _), if_pos hk, List.take_length]
theorem ptAt_goodL {xs : List Pt} (hg : goodL xs = true) {k : Nat} (hk : k < xs.length) : good (ptAt xs k) = true := goodL_mem hg (ptAt_mem hk)
/-- A point lies within one edge of a ring at most. -/
theorem ins_uniq {xs : List Pt} {q : Pt} (hc : checkI xs = 0) (hq : good q = true) {i k : Nat} (hi : i < xs.length) (hk : k < xs.length) (h1 : inS (ptAt xs i) (ptAt xs ((i + 1) % xs.length)) q) (h2 : inS (ptAt xs k) (ptAt xs ((k + 1) % xs.length)) q) : i = k := by
  obtain ⟨-, hg, h3, -, hP⟩ := checkI_zero hc
  refine Classical.byContradiction fun hne => ?_
  have hp := ((pairs_iff xs).1 hP i k hi hk hne).2
  have hm : ∀ j, (j + 1) % xs.length < xs.length := fun j => Nat.mod_lt _ (by omega)
  have g := fun j (hj : j < xs.length) => ptAt_goodL hg hj
  have e : meetOf xs i k = meetR (ptAt xs i) (ptAt xs ((i + 1) % xs.length)) (ptAt xs k) (ptAt xs ((k + 1) % xs.length)) := rfl
  rw [e] at hp
  split at hp
  · exact inS_one (g i hi) (g _ (hm i)) (g k hk) (g _ (hm k)) hq h1 h2 hp
  · exact inS_touch (g i hi) (g _ (hm i)) (g k hk) (g _ (hm k)) h1 h2 hp
/-- What comes of a point that is no corner: nothing, or a corner more on just one edge. -/
theorem ins_cases {xs : List Pt} {q : Pt} (hc : checkI xs = 0) (hq : good q = true) : (insG q xs = xs ∧ ∀ i, i < xs.length → ¬ inS (ptAt xs i) (ptAt xs ((i + 1) % xs.length)) q) ∨ ∃ k, k < xs.length ∧ inS (ptAt xs k) (ptAt xs ((k + 1) % xs.length)) q ∧ insG q xs = mark k q xs := by
  by_cases h : ∃ k, k < xs.length ∧ inS (ptAt xs k) (ptAt xs ((k + 1) % xs.length)) q
  · obtain ⟨k, hk, hin⟩ := h
    exact .inr ⟨k, hk, hin, ins_one hk hin fun i hi hne h1 => hne (ins_uniq hc hq hi hk h1 hin)⟩
  · have hn : ∀ i, i < xs.length → ¬ inS (ptAt xs i) (ptAt xs ((i + 1) % xs.length)) q := fun i hi h1 => h ⟨i, hi, h1⟩
    exact .inl ⟨ins_none hn, hn⟩
theorem mark_lo {xs : List Pt} {q : Pt} {k i : Nat} (hk : k < xs.length) (hi : i ≤ k) : ptAt (mark k q xs) i = ptAt xs i := by
  have h0 : i < (xs.take (k + 1)).length := by rw [List.length_take]; omega
  unfold ptAt mark
  rw [List.append_assoc, List.getElem?_append_left h0, List.getElem?_take_of_lt (by omega)]
theorem mark_mid {xs : List Pt} {q : Pt} {k : Nat} (hk : k < xs.length) : ptAt (mark k q xs) (k + 1) = q := by
  have h0 : (xs.take (k + 1)).length = k + 1 := by rw [List.length_take]; omega
  unfold ptAt mark
  rw [List.append_assoc, List.getElem?_append_right (by omega), h0]
  simp
theorem mark_hi {xs : List Pt} {q : Pt} {k i : Nat} (hk : k < xs.length) (hi : k + 1 ≤ i) : ptAt (mark k q xs) (i + 1) = ptAt xs i := by
  have h0 : (xs.take (k + 1) ++ [q]).length = k + 2 := by simp; omega
  unfold ptAt mark
  rw [List.getElem?_append_right (by omega), h0, List.getElem?_drop, show k + 1 + (i + 1 - (k + 2)) = i by omega]
theorem ringOf_each {g : List Pt → List Pt} {p : Plan} {ys : List Pt} (h : ringOf (eachP g p) ys) : ∃ xs, ringOf p xs ∧ ys = lst (g xs) := by
  rcases h with rfl | ⟨y, hy, rfl⟩
  · exact ⟨p.outer, .inl rfl, rfl⟩
  · obtain ⟨x, hx, rfl⟩ := each_sound hy
    exact ⟨x.ring, .inr ⟨x, hx, rfl⟩, rfl⟩
end Go.Proofs.YtmegmokjjlelgaaGreat
namespace Go.Proofs.YtmegmokjjlelgaaGreat
open Go.RowKit Go.Lib
theorem rowPV_set {ps : List Parc} {hs : List Hd} (hl : hs.length = ps.length) {k : Nat} (hk : k < ps.length) (ys : List Pt) (h : Hd) :
    rowPV (ps.set k ⟨(pcAt ps k).id, ys, (pcAt ps k).owner⟩) (hs.set k h) = (rowPV ps hs).set (k * 3 + 1) (.slice h.1 h.2.1 h.2.2) := by
  induction ps generalizing hs k with
  | nil => simp at hk
  | cons y ps ih =>
    rcases hs with _ | ⟨g, hs⟩
    · simp at hl
    · rcases k with _ | k
      · rfl
      · have h1 := ih (hs := hs) (by simpa using hl) (k := k) (by simpa using hk)
        have h2 : pcAt (y :: ps) (k + 1) = pcAt ps k := by unfold pcAt; simp
        rw [h2]
        show pcV y g ++ rowPV (ps.set k _) (hs.set k h) = _
        rw [h1, show (k + 1) * 3 + 1 = k * 3 + 1 + 1 + 1 + 1 by omega]
        rfl
def setR (p : Plan) (k : Nat) (ys : List Pt) : Plan := ⟨p.outer, p.parcels.set k ⟨(pcAt p.parcels k).id, ys, (pcAt p.parcels k).owner⟩⟩
theorem hdAt_set {hs : List Hd} {k j : Nat} {h : Hd} (hk : k < hs.length) : hdAt (hs.set k h) j = if j = k then h else hdAt hs j := by
  unfold hdAt
  rw [List.getElem?_set]
  by_cases e : k = j
  · rw [if_pos e, if_pos e.symm, if_pos (by omega)]; rfl
  · rw [if_neg e, if_neg (fun h => e h.symm)]
theorem pcAt_set {ps : List Parc} {k j : Nat} {x : Parc} (hk : k < ps.length) : pcAt (ps.set k x) j = if j = k then x else pcAt ps j := by
  unfold pcAt
  rw [List.getElem?_set]
  by_cases e : k = j
  · rw [if_pos e, if_pos e.symm, if_pos (by omega)]; rfl
  · rw [if_neg e, if_neg (fun h => e h.symm)]
theorem PlanOwn.setRing {B n c n' c' k m c3 : Nat} {W : World} {A A3 : Option Addr} {ad : Addr} {p : Plan} {hs : List Hd} {ys : List Pt} (h : PlanOwn B W A n c (some ad) n' c' p hs) (hk : k < n')
    (hnew : W.ownsRow B 44 2 (.slice A3 m c3) m (ptsV ys)) (hf : (setR p k ys).fits) :
    PlanOwn B (W.setCell ⟨(ad.add (k * 3)).block, (ad.add (k * 3)).off + 1, none⟩ (.slice A3 m c3)) A n c (some ad) n' c' (setR p k ys) (hs.set k (A3, m, c3)) ∧ ad.block < W.heap.size ∧ B ≤ ad.block := by
  obtain ⟨g, cap, e, hb, hlt⟩ := h.row.form (by omega)
  have e1 : ad = ⟨g, 0, none⟩ := by cases e; rfl
  have e2 : cap = c' := by cases e; rfl
  subst e1 e2
  have hrow := (h.row.stored (k * 3 + 1) (.slice A3 m c3)).1
  have hadr : (⟨((⟨g, 0, none⟩ : Addr).add (k * 3)).block, ((⟨g, 0, none⟩ : Addr).add (k * 3)).off + 1, none⟩ : Addr) = ⟨g, k * 3 + 1, none⟩ := by rw [add_off3 _ _ _ (by omega)]; simp [Addr.add]
  rw [hadr]
  have hkeep : ∀ {v : Value} {j : Nat} {xs : List Value}, W.ownsRow B 44 2 v j xs → (W.setCell ⟨g, k * 3 + 1, none⟩ (.slice A3 m c3)).ownsRow B 44 2 v j xs := fun {v j xs} ho =>
    ownsRow_setCell_other ho (fun e' => own_own_ne h.row ho (by decide) (g := g) rfl e') _
  have hkl : k < p.parcels.length := by rw [h.lenp]; exact hk
  refine ⟨⟨hkeep h.out, ?_, by rw [List.length_set]; exact h.len, by show (List.set _ _ _).length = _; rw [List.length_set]; exact h.lenp, fun j hj => ?_, hf⟩, hlt, hb⟩
  · show World.ownsRow _ _ _ _ _ _ (rowPV (p.parcels.set k _) _)
    rw [rowPV_set (by rw [h.len, h.lenp]) hkl]
    exact hrow
  · show World.ownsRow _ _ _ _ _ _ (ptsV (pcAt (p.parcels.set k _) j).ring)
    rw [hdAt_set (by rw [h.len]; exact hk), pcAt_set hkl]
    by_cases e' : j = k
    · rw [if_pos e', if_pos e']
      exact hkeep hnew
    · rw [if_neg e', if_neg e']
      exact hkeep (h.rings j hj)
end Go.Proofs.YtmegmokjjlelgaaGreat
namespace Go.Proofs.YtmegmokjjlelgaaGreat
def firstK (xs : List Pt) (s : Nat) (t : Pt) : Nat := (List.range xs.length).findIdx fun j => decide (ptAt xs ((s + j) % xs.length) = t)
/-- The corners from behind one to ahead of another. -/
def wayI (xs : List Pt) (f t : Pt) : List Pt := wayL xs ((idxPt xs f).toNat + 1) (firstK xs ((idxPt xs f).toNat + 1) t)
theorem firstK_eq {xs : List Pt} {s K : Nat} {t : Pt} (hK : K < xs.length) (h1 : ptAt xs ((s + K) % xs.length) = t) (h2 : ∀ j, j < K → ptAt xs ((s + j) % xs.length) ≠ t) : firstK xs s t = K := by
  unfold firstK
  rw [List.findIdx_eq (by rw [List.length_range]; exact hK)]
  refine ⟨by simp [h1], fun j hj => ?_⟩
  simp
  exact h2 j hj
theorem wayI_eq {xs : List Pt} {f t : Pt} {i K : Nat} (hi : idxPt xs f = (i : Int)) (hK : K < xs.length) (h1 : ptAt xs ((i + 1 + K) % xs.length) = t) (h2 : ∀ j, j < K → ptAt xs ((i + 1 + j) % xs.length) ≠ t) : wayI xs f t = wayL xs (i + 1) K := by
  unfold wayI
  rw [hi, Int.toNat_natCast, firstK_eq hK h1 h2]
/-- A ring without repeats from f on: what lies between f and t. -/
theorem wayI_rot {u v : List Pt} {f t : Pt} {j : Nat} (hn : (f :: u ++ t :: v).Nodup) (hj : j < (f :: u ++ t :: v).length) : wayI (rot j (f :: u ++ t :: v)) f t = u := by
  obtain ⟨ys, hys⟩ : ∃ ys, ys = f :: u ++ t :: v := ⟨_, rfl⟩
  rw [← hys] at hn hj ⊢
  have hlen : ys.length = u.length + v.length + 2 := by rw [hys]; simp; omega
  have hrl : (rot j ys).length = ys.length := rot_len (by omega)
  have h0 : ptAt ys 0 = f := by rw [hys]; rfl
  have hu : ∀ m, m < u.length → ptAt ys (m + 1) = ptAt u m := fun m hm => by
    rw [hys]
    unfold ptAt
    rw [List.cons_append, List.getElem?_cons_succ, List.getElem?_append_left hm]
  have ht : ptAt ys (u.length + 1) = t := by
    rw [hys]
    unfold ptAt
    rw [List.cons_append, List.getElem?_cons_succ, List.getElem?_append_right (Nat.le_refl _)]
    simp
  have hfm : f ∈ rot j ys := by
    have : f ∈ ys := by rw [hys]; simp
    unfold rot
    rw [List.mem_append]
    rw [← List.take_append_drop j ys, List.mem_append] at this
    exact this.symm
  obtain ⟨i, hi, hidx, hfi, -⟩ := idx_lt hfm
  rw [hrl] at hi
  have hji : (j + i) % ys.length = 0 := by
    rw [ptAt_rot hj hi] at hfi
    exact nodup_ptAt hn (Nat.mod_lt _ (by omega)) (by omega) (by rw [hfi, h0])
  have hat : ∀ m, ptAt (rot j ys) ((i + 1 + m) % ys.length) = ptAt ys ((m + 1) % ys.length) := fun m => by
    rw [ptAt_rot hj (Nat.mod_lt _ (by omega))]
    congr 1
    rw [Nat.add_mod, Nat.mod_mod, ← Nat.add_mod, show j + (i + 1 + m) = (j + i) + (m + 1) by omega, Nat.add_mod, hji, Nat.zero_add, Nat.mod_mod]
  have hw := wayI_eq (xs := rot j ys) (f := f) (t := t) (K := u.length) hidx (by omega) (by rw [hrl, hat, Nat.mod_eq_of_lt (by omega), ht]) (fun m hm e => by
    rw [hrl, hat, Nat.mod_eq_of_lt (by omega), ← ht] at e
    have := nodup_ptAt hn (by omega) (by omega) e
    omega)
  rw [hw]
  refine ring_ext (by rw [wayL_len]) fun m hm => ?_
  rw [wayL_len] at hm
  have e : ptAt (wayL (rot j ys) (i + 1) u.length) m = ptAt (rot j ys) ((i + 1 + m) % ys.length) := by
    unfold wayL
    rw [hrl]
    unfold ptAt
    simp [hm]
  rw [e, hat, Nat.mod_eq_of_lt (by omega), hu m hm]
/-- A plan with two corners more. -/
def spB (p : Plan) (a b : Pt) : Plan := eachP (insG b) (eachP (insG a) p)
def cutRing (p : Plan) (k : Nat) (a b : Pt) : List Pt := (pcAt (spB p a b).parcels k).ring
def path0 (path : List Pt) : Pt := ptAt path 0
def path1 (path : List Pt) : Pt := ptAt path (path.length - 1)
def partA (r path : List Pt) : List Pt := lst (path.reverse ++ wayI r (path0 path) (path1 path))
def partB (r path : List Pt) : List Pt := lst (path ++ wayI r (path1 path) (path0 path))
/-- A parcel more, by its number. -/
def putId (x : Parc) (ps : List Parc) : List Parc := ps.filter (fun y => decide (y.id < x.id)) ++ x :: ps.filter (fun y => decide (x.id < y.id))
def spQ (p : Plan) (k : Nat) (path : List Pt) (fresh : Int) : Plan :=
  ⟨(spB p (path0 path) (path1 path)).outer, putId ⟨fresh, partB (cutRing p k (path0 path) (path1 path)) path, (pcAt p.parcels k).owner⟩ (setR (spB p (path0 path) (path1 path)) k (partA (cutRing p k (path0 path) (path1 path)) path)).parcels⟩
noncomputable def spE (p : Plan) (id : Int) (path : List Pt) (fresh : Int) : Int :=
  if faultI p id path fresh ≠ 0 then faultI p id path fresh else if planB (spQ p (atP p.parcels id).toNat path fresh) = true then 0 else 8
noncomputable def spP (p : Plan) (id : Int) (path : List Pt) (fresh : Int) : Plan :=
  if spE p id path fresh = 0 then spQ p (atP p.parcels id).toNat path fresh else ⟨[], []⟩
theorem spP_no {p : Plan} {id fresh z : Int} {path : List Pt} (h : spE p id path fresh = z) (hz : z ≠ 0) : spP p id path fresh = ⟨[], []⟩ := by
  unfold spP
  rw [h, if_neg hz]
theorem spE_fault {p : Plan} {id fresh z : Int} {path : List Pt} (h : faultI p id path fresh = z) (hz : z ≠ 0) : spE p id path fresh = z := by
  unfold spE
  rw [h, if_pos hz]
theorem spE_zero {p : Plan} {id fresh : Int} {path : List Pt} (h : spE p id path fresh = 0) : faultI p id path fresh = 0 ∧ planB (spQ p (atP p.parcels id).toNat path fresh) = true ∧ spP p id path fresh = spQ p (atP p.parcels id).toNat path fresh := by
  have h1 : faultI p id path fresh = 0 := Classical.byContradiction fun hn => by
    unfold spE at h
    rw [if_pos hn] at h
    exact hn h
  refine ⟨h1, ?_, by unfold spP; rw [if_pos h]⟩
  unfold spE at h
  rw [if_neg (by simp [h1])] at h
  split at h
  · assumption
  · cases h
end Go.Proofs.YtmegmokjjlelgaaGreat

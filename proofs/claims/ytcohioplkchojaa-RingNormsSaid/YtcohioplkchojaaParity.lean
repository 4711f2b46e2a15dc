/- Plain law: a point that moves where no edge touches its way stays on its side of a ring. -/
import Derived.Test.YtcohioplkchojaaRingLaw
import Derived.Test.YtcohioplkchojaaCutsEq
namespace Go.Proofs.Ytcohioplkchojaa
/-- The sum, over two, of a closed way's steps is nothing. -/
def xsum (f : Nat → Bool) : Nat → Bool
  | 0 => false
  | k + 1 => xor (xsum f k) (f k)
theorem xsum_tel (h : Nat → Bool) (k : Nat) : xsum (fun i => xor (h i) (h (i + 1))) k = xor (h 0) (h k) := by
  induction k with
  | zero => simp [xsum]
  | succ k ih =>
    rw [xsum, ih]
    cases h 0 <;> cases h k <;> cases h (k + 1) <;> rfl
theorem xsum_congr {f g : Nat → Bool} {n : Nat} (h : ∀ k, k < n → f k = g k) : xsum f n = xsum g n := by
  induction n with
  | zero => rfl
  | succ n ih => rw [xsum, xsum, ih fun k hk => h k (by omega), h n (by omega)]
theorem xsum_xor (f g : Nat → Bool) (n : Nat) : xsum (fun k => xor (f k) (g k)) n = xor (xsum f n) (xsum g n) := by
  induction n with
  | zero => rfl
  | succ n ih =>
    rw [xsum, xsum, xsum, ih]
    cases xsum f n <;> cases xsum g n <;> cases f n <;> cases g n <;> rfl
theorem xsum_cyc (h : Nat → Bool) {n : Nat} (hn : 0 < n) : xsum (fun k => xor (h k) (h ((k + 1) % n))) n = false := by
  obtain ⟨m, rfl⟩ : ∃ m, n = m + 1 := ⟨n - 1, by omega⟩
  have : xsum (fun k => xor (h k) (h ((k + 1) % (m + 1)))) m = xsum (fun i => xor (h i) (h (i + 1))) m := xsum_congr fun k hk => by rw [Nat.mod_eq_of_lt (by omega)]
  rw [xsum, this, xsum_tel, Nat.mod_self]
  cases h 0 <;> cases h m <;> rfl
theorem oddN_xsum (xs : List Pt) (p : Pt) (k : Nat) : oddN xs p k = xsum (fun i => crE xs p i) k := by
  induction k with
  | zero => rfl
  | succ k ih => rw [oddN, xsum, ih]
/-- An edge (a, b) that goes up from y1's half to y2's: the strip's right part. -/
def inH (X y1 y2 : Int) (p : Pt) : Bool := decide (y1 < p.y) && (decide (p.y ≤ y2) && decide (X < p.x))
theorem not_touch {a b c d : Pt} (h : ¬ Touch a b c d) : onB c d a = false ∧ onB c d b = false ∧ onB a b c = false ∧ onB a b d = false ∧ prB a b c d = false := by
  unfold Touch at h
  refine ⟨?_, ?_, ?_, ?_, ?_⟩ <;> rw [← Bool.not_eq_true] <;> intro h' <;> exact h (by simp [h'])
/-- Of an upright way (X, y1) to (X, y2), and an edge that does not touch it. -/
theorem off_end {X y1 y2 : Int} {p : Pt} (h : onB ⟨X, y1⟩ ⟨X, y2⟩ p = false) (h1 : y1 ≤ p.y) (h2 : p.y ≤ y2) : p.x ≠ X := fun e => by
  have : onB ⟨X, y1⟩ ⟨X, y2⟩ p = true := by
    rw [onB_iff]
    refine ⟨?_, ?_, ?_⟩
    · unfold cr
      simp only [e, Int.sub_self, Int.zero_mul, Int.mul_zero]
    · simp only; omega
    · simp only; omega
  rw [this] at h
  cases h
theorem on_up {a b p : Pt} (h : onB a b p = false) (hc : cr a b p = 0) (h1 : a.y ≤ p.y) (h2 : p.y ≤ b.y) (h3 : a.y < b.y) : False := by
  have hx : ¬ ((a.x ≤ p.x ∧ p.x ≤ b.x) ∨ (b.x ≤ p.x ∧ p.x ≤ a.x)) := fun hx => by
    have := (onB_iff a b p).2 ⟨hc, hx, .inl ⟨h1, h2⟩⟩
    rw [h] at this
    cases this
  apply hx
  unfold cr at hc
  have h1 : (b.y - a.y) * (p.x - a.x) = (b.x - a.x) * (p.y - a.y) := by omega
  have := line_btw (u := b.y - a.y) (v := b.x - a.x) (s := p.y - a.y) (t := p.x - a.x) (by omega) h1 (by omega) (by omega)
  omega
/-- The sign of X against an edge at a height of its own: which of its ends tells. -/
theorem cr_at (a b : Pt) (X y : Int) : cr a b ⟨X, y⟩ = (b.y - y) * (a.x - X) + (y - a.y) * (b.x - X) := by
  unfold cr
  grind
theorem pos_mul {u v : Int} (hu : 0 ≤ u) (hv : 0 ≤ v) : 0 ≤ u * v := Int.mul_nonneg hu hv
theorem pr_up {a b : Pt} {X y1 y2 : Int} (hy : y1 < y2) : prB a b ⟨X, y1⟩ ⟨X, y2⟩ = true ↔ ((cr a b ⟨X, y1⟩ < 0 ∧ 0 < cr a b ⟨X, y2⟩) ∨ (cr a b ⟨X, y2⟩ < 0 ∧ 0 < cr a b ⟨X, y1⟩)) ∧ ((a.x < X ∧ X < b.x) ∨ (b.x < X ∧ X < a.x)) := by
  rw [prB_iff]
  have e : ∀ p : Pt, cr ⟨X, y1⟩ ⟨X, y2⟩ p = (y2 - y1) * (X - p.x) := fun p => by
    unfold cr
    simp only [Int.sub_self, Int.zero_mul]
    grind
  have hp : ∀ z : Int, ((y2 - y1) * z < 0 ↔ z < 0) ∧ (0 < (y2 - y1) * z ↔ 0 < z) := fun z => by
    have := pos_sgn (N := y2 - y1) (x := z) (y := (y2 - y1) * z) (by omega) rfl
    exact ⟨this.2.1.symm, this.1.symm⟩
  rw [e, e, (hp _).1, (hp _).2, (hp _).1, (hp _).2]
  constructor
  · rintro ⟨h1, h2⟩; exact ⟨h1, by omega⟩
  · rintro ⟨h1, h2⟩; exact ⟨h1, by omega⟩
theorem smul {u v : Int} (hu : 0 < u) : (0 < u * v ↔ 0 < v) ∧ (u * v < 0 ↔ v < 0) := by
  have := pos_sgn (N := u) (x := v) (y := u * v) hu rfl
  exact ⟨this.1.symm, this.2.1.symm⟩
theorem nmul {u v : Int} (hu : 0 ≤ u) : (0 ≤ v → 0 ≤ u * v) ∧ (v ≤ 0 → u * v ≤ 0) :=
  ⟨fun h => Int.mul_nonneg hu h, fun h => Int.mul_nonpos_of_nonneg_of_nonpos hu h⟩
theorem npmul {u v : Int} (hu : u ≤ 0) : (0 ≤ v → u * v ≤ 0) ∧ (v ≤ 0 → 0 ≤ u * v) :=
  ⟨fun h => Int.mul_nonpos_of_nonpos_of_nonneg hu h, fun h => Int.mul_nonneg_of_nonpos_of_nonpos hu h⟩
/-- The facts of an edge that does not touch the upright way, in numbers. -/
structure Off (a b : Pt) (X y1 y2 : Int) : Prop where
  ea : y1 ≤ a.y → a.y ≤ y2 → a.x ≠ X
  eb : y1 ≤ b.y → b.y ≤ y2 → b.x ≠ X
  c1 : a.y ≤ y1 → y1 ≤ b.y → a.y < b.y → cr a b ⟨X, y1⟩ ≠ 0
  c2 : a.y ≤ y2 → y2 ≤ b.y → a.y < b.y → cr a b ⟨X, y2⟩ ≠ 0
  pr : ¬ (((cr a b ⟨X, y1⟩ < 0 ∧ 0 < cr a b ⟨X, y2⟩) ∨ (cr a b ⟨X, y2⟩ < 0 ∧ 0 < cr a b ⟨X, y1⟩)) ∧ ((a.x < X ∧ X < b.x) ∨ (b.x < X ∧ X < a.x)))
  fl : a.y = b.y → a.y = y2 → ¬ ((a.x < X ∧ X < b.x) ∨ (b.x < X ∧ X < a.x))
theorem Off.of {a b : Pt} {X y1 y2 : Int} (hy : y1 < y2) (h : ¬ Touch a b ⟨X, y1⟩ ⟨X, y2⟩) : Off a b X y1 y2 := by
  obtain ⟨h1, h2, h3, h4, h5⟩ := not_touch h
  refine ⟨off_end h1, off_end h2, fun g1 g2 g3 g4 => on_up h3 g4 g1 g2 g3, fun g1 g2 g3 g4 => on_up h4 g4 g1 g2 g3, fun g => ?_, fun g1 g2 g3 => ?_⟩
  · rw [(pr_up hy).2 g] at h5
    cases h5
  · have : onB a b ⟨X, y2⟩ = true := by
      rw [onB_iff]
      refine ⟨?_, ?_, ?_⟩
      · rw [cr_at, ← g1, g2, Int.sub_self]
        simp
      · simp only; omega
      · simp only; omega
    rw [this] at h4
    cases h4
theorem Off.swap {a b : Pt} {X y1 y2 : Int} (hy : y1 < y2) (h : ¬ Touch a b ⟨X, y1⟩ ⟨X, y2⟩) : ¬ Touch b a ⟨X, y1⟩ ⟨X, y2⟩ := by
  obtain ⟨h1, h2, h3, h4, h5⟩ := not_touch h
  rintro (g | g | g | g | g)
  · rw [h2] at g; cases g
  · rw [h1] at g; cases g
  · rw [onB_swap, h3] at g; cases g
  · rw [onB_swap, h4] at g; cases g
  · have : prB a b ⟨X, y1⟩ ⟨X, y2⟩ = true := by
      rw [pr_up hy] at g ⊢
      rw [cr_swapT, cr_swapT a b] at g
      omega
    rw [h5] at this
    cases this
theorem up_par {a b : Pt} {X y1 y2 : Int} (hy : y1 < y2) (hab : a.y ≤ b.y) (h : Off a b X y1 y2) :
    ((a.y ≤ y1 ∧ y1 < b.y ∧ b.y ≤ y2) → (0 < cr a b ⟨X, y1⟩ ↔ X < b.x)) ∧
    ((y1 < a.y ∧ a.y ≤ y2 ∧ y2 < b.y) → (0 < cr a b ⟨X, y2⟩ ↔ X < a.x)) ∧
    ((a.y ≤ y1 ∧ y2 < b.y) → (0 < cr a b ⟨X, y1⟩ ↔ 0 < cr a b ⟨X, y2⟩)) ∧
    ((y1 < a.y ∧ b.y ≤ y2) → (X < a.x ↔ X < b.x)) := by
  obtain ⟨ea, eb, hc1, hc2, hpr, hfl⟩ := h
  have f1 := cr_at a b X y1
  have f2 := cr_at a b X y2
  have hd : cr a b ⟨X, y2⟩ - cr a b ⟨X, y1⟩ = (y2 - y1) * (b.x - a.x) := by rw [f1, f2]; grind
  generalize cr a b ⟨X, y1⟩ = c at *
  generalize cr a b ⟨X, y2⟩ = d at *
  obtain ⟨A, hA⟩ : ∃ A, A = a.x - X := ⟨_, rfl⟩
  obtain ⟨B, hB⟩ : ∃ B, B = b.x - X := ⟨_, rfl⟩
  rw [← hA, ← hB] at f1 f2
  rw [show b.x - a.x = B - A by omega] at hd
  refine ⟨?_, ?_, ?_, ?_⟩
  · rintro ⟨g1, g2, g3⟩
    have e := eb (by omega) g3
    have m1 := smul (u := b.y - y1) (v := A) (by omega)
    have m2 := nmul (u := y1 - a.y) (v := B) (by omega)
    have m3 := npmul (u := b.y - y2) (v := A) (by omega)
    have m4 := smul (u := y2 - a.y) (v := B) (by omega)
    have k := hc1 g1 (by omega) (by omega)
    omega
  · rintro ⟨g1, g2, g3⟩
    have e := ea (by omega) g2
    have m1 := smul (u := b.y - y2) (v := A) (by omega)
    have m2 := nmul (u := y2 - a.y) (v := B) (by omega)
    have m3 := smul (u := b.y - y1) (v := A) (by omega)
    have m4 := npmul (u := y1 - a.y) (v := B) (by omega)
    have k := hc2 g2 (by omega) (by omega)
    omega
  · rintro ⟨g1, g2⟩
    have m1 := smul (u := b.y - y1) (v := A) (by omega)
    have m2 := nmul (u := y1 - a.y) (v := B) (by omega)
    have m3 := smul (u := b.y - y2) (v := A) (by omega)
    have m4 := smul (u := y2 - a.y) (v := B) (by omega)
    have m5 := smul (u := y2 - y1) (v := B - A) (by omega)
    have k1 := hc1 g1 (by omega) (by omega)
    have k2 := hc2 (by omega) (by omega) (by omega)
    omega
  · rintro ⟨g1, g2⟩
    have e1 := ea (by omega) (by omega)
    have e2 := eb (by omega) (by omega)
    have m1 := smul (u := b.y - y1) (v := A) (by omega)
    have m2 := npmul (u := y1 - a.y) (v := B) (by omega)
    have m2' := smul (u := a.y - y1) (v := B) (by omega)
    have m2e : (y1 - a.y) * B = -((a.y - y1) * B) := by grind
    have m3 := npmul (u := b.y - y2) (v := A) (by omega)
    have m4 := nmul (u := y2 - a.y) (v := B) (by omega)
    by_cases h1 : b.y = y2
    · by_cases h2 : a.y = y2
      · have := hfl (by omega) h2
        omega
      · have m6 := smul (u := y2 - a.y) (v := B) (by omega)
        omega
    · have m7 := smul (u := y2 - b.y) (v := A) (by omega)
      have m7e : (b.y - y2) * A = -((y2 - b.y) * A) := by grind
      omega
theorem crB_up {a b p : Pt} (h : a.y ≤ b.y) : crB a b p = true ↔ (a.y ≤ p.y ∧ p.y < b.y ∧ 0 < cr a b p) := by
  unfold crB
  rw [if_neg (by omega)]
  simp only [Bool.and_eq_true, decide_eq_true_eq]
theorem crB_swap (a b p : Pt) : crB a b p = crB b a p := by
  unfold crB
  by_cases h1 : b.y < a.y
  · rw [if_pos h1, if_neg (by omega)]
  · by_cases h2 : a.y < b.y
    · rw [if_neg h1, if_pos h2]
    · rw [if_neg h1, if_neg h2]
      by_cases h3 : a.y ≤ p.y
      · rw [decide_eq_false (by omega : ¬ p.y < b.y), decide_eq_false (by omega : ¬ p.y < a.y)]
        simp
      · rw [decide_eq_false h3, decide_eq_false (by omega : ¬ b.y ≤ p.y)]
        simp
theorem inH_iff (X y1 y2 : Int) (p : Pt) : inH X y1 y2 p = true ↔ (y1 < p.y ∧ p.y ≤ y2 ∧ X < p.x) := by
  unfold inH
  simp only [Bool.and_eq_true, decide_eq_true_eq]
theorem edge_up {a b : Pt} {X y1 y2 : Int} (hy : y1 < y2) (hab : a.y ≤ b.y) (h : ¬ Touch a b ⟨X, y1⟩ ⟨X, y2⟩) :
    xor (crB a b ⟨X, y1⟩) (crB a b ⟨X, y2⟩) = xor (inH X y1 y2 a) (inH X y1 y2 b) := by
  obtain ⟨p1, p2, p3, p4⟩ := up_par hy hab (Off.of hy h)
  have e1 := crB_up (p := ⟨X, y1⟩) hab
  have e2 := crB_up (p := ⟨X, y2⟩) hab
  have e3 := inH_iff X y1 y2 a
  have e4 := inH_iff X y1 y2 b
  simp only at e1 e2
  generalize cr a b ⟨X, y1⟩ = c at *
  generalize cr a b ⟨X, y2⟩ = d at *
  generalize crB a b ⟨X, y1⟩ = b1 at *
  generalize crB a b ⟨X, y2⟩ = b2 at *
  generalize inH X y1 y2 a = b3 at *
  generalize inH X y1 y2 b = b4 at *
  clear h
  rcases b1 with _ | _ <;> rcases b2 with _ | _ <;> rcases b3 with _ | _ <;> rcases b4 with _ | _
  all_goals first
    | rfl
    | (exfalso; simp only [Bool.false_eq_true, false_iff, true_iff] at e1 e2 e3 e4; omega)
theorem edge_par {a b : Pt} {X y1 y2 : Int} (hy : y1 < y2) (h : ¬ Touch a b ⟨X, y1⟩ ⟨X, y2⟩) :
    xor (crB a b ⟨X, y1⟩) (crB a b ⟨X, y2⟩) = xor (inH X y1 y2 a) (inH X y1 y2 b) := by
  by_cases hab : a.y ≤ b.y
  · exact edge_up hy hab h
  · rw [crB_swap a b, crB_swap a b, edge_up hy (by omega) (Off.swap hy h), Bool.xor_comm]
/-- Up or down where no edge touches the way: the same side. -/
theorem par_vert {xs : List Pt} {X y1 y2 : Int} (hn : 0 < xs.length) (hy : y1 < y2) (h : ∀ k, k < xs.length → ¬ Touch (ptAt xs k) (ptAt xs ((k + 1) % xs.length)) ⟨X, y1⟩ ⟨X, y2⟩) :
    oddN xs ⟨X, y1⟩ xs.length = oddN xs ⟨X, y2⟩ xs.length := by
  have h1 : xsum (fun k => xor (crE xs ⟨X, y1⟩ k) (crE xs ⟨X, y2⟩ k)) xs.length = xsum (fun k => xor (inH X y1 y2 (ptAt xs k)) (inH X y1 y2 (ptAt xs ((k + 1) % xs.length)))) xs.length :=
    xsum_congr fun k hk => edge_par hy (h k hk)
  have h2 := xsum_cyc (fun k => inH X y1 y2 (ptAt xs k)) hn
  rw [h2, xsum_xor] at h1
  rw [oddN_xsum, oddN_xsum]
  generalize xsum (fun k => crE xs ⟨X, y1⟩ k) xs.length = u at *
  generalize xsum (fun k => crE xs ⟨X, y2⟩ k) xs.length = v at *
  cases u <;> cases v <;> first | rfl | cases h1
end Go.Proofs.Ytcohioplkchojaa

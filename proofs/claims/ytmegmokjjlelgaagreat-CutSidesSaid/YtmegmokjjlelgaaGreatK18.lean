/- What lies beside PlanLaw; What plan.Find, Corner and Left answer of a sound plan: the plain law; words for the walks of the laws of it. -/
import Derived.Laws.IdiomCopy
import Derived.Laws.IdiomStrings
import Derived.Lib.EndianMore
import Derived.Test.YtmegmokjjlelgaaGreatK10
import Derived.Test.YtmegmokjjlelgaaGreatK11
import Derived.Test.YtmegmokjjlelgaaGreatK12
import Derived.Test.YtmegmokjjlelgaaGreatK14
namespace Go.Proofs.YtmegmokjjlelgaaGreat
end Go.Proofs.YtmegmokjjlelgaaGreat
namespace Go.Proofs.YtmegmokjjlelgaaGreat
theorem smul {u v : Int} (hu : 0 < u) : (0 < u * v ↔ 0 < v) ∧ (u * v < 0 ↔ v < 0) := by
  have := pos_sgn (N := u) (x := v) (y := u * v) hu rfl
  exact ⟨this.1.symm, this.2.1.symm⟩
theorem Off.swap {a b : Pt} {X y1 y2 : Int} (hy : y1 < y2) (h : ¬ Touch a b ⟨X, y1⟩ ⟨X, y2⟩) : ¬ Touch b a ⟨X, y1⟩ ⟨X, y2⟩ := by
  obtain ⟨h1, h2, h3, h4, h5⟩ := not_touch h
  rintro (g | g | g | g | g)
  · rw [h2] at g; cases g
  · rw [h1] at g; cases g
  · rw [onB_swap, h3] at g; cases g
  · rw [onB_swap, h4] at g; cases g
  · have : prB a b ⟨X, y1⟩ ⟨X, y2⟩ = true := by
      rw [pr_up hy] at g ⊢
      rw [cr_swapT, cr_swapT a b] at g
      omega
    rw [h5] at this
    cases this
end Go.Proofs.YtmegmokjjlelgaaGreat
namespace Go.Proofs.YtmegmokjjlelgaaGreat
theorem ptAt_rot1 {k i : Nat} {xs : List Pt} (h : k < xs.length) : ptAt (rot k xs) ((i + 1) % xs.length) = ptAt xs (((k + i) % xs.length + 1) % xs.length) := by
  rw [ptAt_rot h (Nat.mod_lt _ (by omega))]
  congr 1
  rw [Nat.add_mod_mod, Nat.mod_add_mod, Nat.add_assoc]
def adjB (n i j : Nat) : Bool := decide ((i + 1) % n = j) || decide ((j + 1) % n = i)
theorem next_adj {n i j : Nat} (hi : i < j) (hj : j < n) : nextB n i j = adjB n i j := by
  unfold nextB adjB
  rw [Nat.mod_eq_of_lt (by omega : i + 1 < n)]
  by_cases h : j + 1 = n
  · rw [h, Nat.mod_self]
    rw [Bool.eq_iff_iff]
    simp only [Bool.or_eq_true, Bool.and_eq_true, decide_eq_true_eq]
    omega
  · rw [Nat.mod_eq_of_lt (by omega : j + 1 < n)]
    rw [Bool.eq_iff_iff]
    simp only [Bool.or_eq_true, Bool.and_eq_true, decide_eq_true_eq]
    omega
def pairS (xs : List Pt) (i j : Nat) : Prop := ptAt xs i ≠ ptAt xs j ∧ meetOf xs i j = if adjB xs.length i j = true then 1 else 0
theorem pairS_comm {xs : List Pt} {i j : Nat} (h : pairS xs i j) : pairS xs j i := by
  unfold pairS meetOf at *
  refine ⟨fun e => h.1 e.symm, ?_⟩
  rw [meetR_comm, h.2]
  unfold adjB
  rw [Bool.or_comm]
theorem pairs_iff (xs : List Pt) : PairsOK xs ↔ ∀ i j, i < xs.length → j < xs.length → i ≠ j → pairS xs i j := by
  have key : ∀ i j, i < j → j < xs.length → (pairOK xs i j = true ↔ pairS xs i j) := fun i j hi hj => by
    unfold pairOK pairS
    rw [next_adj hi hj, Bool.and_eq_true, decide_eq_true_eq, decide_eq_true_eq]
  constructor
  · intro h i j hi hj hne
    rcases Nat.lt_or_gt_of_ne hne with hlt | hlt
    · exact (key i j hlt hj).1 (h i j hlt hj)
    · exact pairS_comm ((key j i hlt hi).1 (h j i hlt hi))
  · intro h i j hi hj
    exact (key i j hi hj).2 (h i j (by omega) hj (by omega))
theorem ptAt_rev {xs : List Pt} {i : Nat} (h : i < xs.length) : ptAt xs.reverse i = ptAt xs (xs.length - 1 - i) := by
  unfold ptAt
  rw [List.getElem?_reverse h]
end Go.Proofs.YtmegmokjjlelgaaGreat
namespace Go.Proofs.YtmegmokjjlelgaaGreat
theorem onB_key {a b p : Pt} (ha : good a = true) (hb : good b = true) (hp : good p = true) : onB a b p = true ↔ cr a b p = 0 ∧ ((key a ≤ key p ∧ key p ≤ key b) ∨ (key b ≤ key p ∧ key p ≤ key a)) := by
  rw [← onP_eq ha hb hp]
  exact onP_key ha hb hp
theorem on_conv {a b c : Pt} {N t : Int} (hN : 0 < N) (h0 : 0 ≤ t) (h1 : t ≤ N) (hx : (N - t) * a.x + t * b.x = N * c.x) (hy : (N - t) * a.y + t * b.y = N * c.y) : onB a b c = true := by
  rw [onB_iff]
  refine ⟨?_, ?_, ?_⟩
  · have : N * cr a b c = 0 := by unfold cr; grind
    exact line_zero (by omega) this
  · have := conv_btw (x := a.x) (y := b.x) h0 h1
    rw [hx, mul_le hN, mul_le hN, mul_le hN, mul_le hN] at this
    exact this
  · have := conv_btw (x := a.y) (y := b.y) h0 h1
    rw [hy, mul_le hN, mul_le hN, mul_le hN, mul_le hN] at this
    exact this
theorem com_sum {a b c d : Pt} {N t A B : Int} (h : Com a b c d N t A B) : A * cr a b c + B * cr a b d = 0 := by
  obtain ⟨h1, h2, h3, h4, h5, h6, h7, h8⟩ := h
  unfold cr
  grind
theorem signs {A B C D : Int} (hA : 0 ≤ A) (hB : 0 ≤ B) (hN : 0 < A + B) (h : A * C + B * D = 0) : (C = 0 ∧ D = 0) ∨ (C < 0 ∧ 0 < D) ∨ (D < 0 ∧ 0 < C) ∨ A = 0 ∨ B = 0 := by
  by_cases h1 : A = 0
  · simp [h1]
  · by_cases h2 : B = 0
    · simp [h2]
    · have hA' : 0 < A := by omega
      have hB' : 0 < B := by omega
      have m1 := smul (u := A) (v := C) hA'
      have m2 := smul (u := B) (v := D) hB'
      omega
theorem touch_of_com {a b c d : Pt} (ha : good a = true) (hb : good b = true) (hc : good c = true) (hd : good d = true) {N t A B : Int} (h : Com a b c d N t A B) : Touch a b c d := by
  have k1 := com_sum h
  have k2 := com_sum h.other
  obtain ⟨h1, h2, h3, h4, h5, h6, h7, h8⟩ := h
  have s1 := signs h4 h5 (by omega) k1
  have s2 := signs (by omega : 0 ≤ N - t) h2 (by omega) k2
  by_cases eA : A = 0
  · exact .inr (.inr (.inr (.inl (on_conv h1 h2 h3 (by rw [h7, eA]; rw [show B = N by omega]; grind) (by rw [h8, eA]; rw [show B = N by omega]; grind)))))
  by_cases eB : B = 0
  · exact .inr (.inr (.inl (on_conv h1 h2 h3 (by rw [h7, eB]; rw [show A = N by omega]; grind) (by rw [h8, eB]; rw [show A = N by omega]; grind))))
  by_cases e0 : N - t = 0
  · exact .inr (.inl (on_conv h1 h5 (by omega) (by rw [show N - B = A by omega, ← h7, e0, show t = N by omega]; grind) (by rw [show N - B = A by omega, ← h8, e0, show t = N by omega]; grind)))
  by_cases e1 : t = 0
  · exact .inl (on_conv h1 h5 (by omega) (by rw [show N - B = A by omega, ← h7, e1]; grind) (by rw [show N - B = A by omega, ← h8, e1]; grind))
  by_cases hz : cr a b c = 0 ∧ cr a b d = 0 ∧ cr c d a = 0 ∧ cr c d b = 0
  · obtain ⟨z1, z2, z3, z4⟩ := hz
    have hk : (N - t) * key a + t * key b = A * key c + B * key d := by unfold key; grind
    have c1 := conv_btw (N := N) (t := t) (x := key a) (y := key b) h2 h3
    have c2 := conv_btw (N := N) (t := B) (x := key c) (y := key d) h5 (by omega)
    rw [show N - B = A by omega] at c2
    rw [← hk] at c2
    generalize (N - t) * key a + t * key b = X at *
    have m : ∀ x y : Int, N * x ≤ N * y → x ≤ y := fun x y h => (mul_le h1).1 h
    have mm : ∀ x y : Int, N * x ≤ X → X ≤ N * y → x ≤ y := fun x y p q => m x y (by omega)
    have g1 := onB_key hc hd ha
    have g2 := onB_key hc hd hb
    have g3 := onB_key ha hb hc
    have g4 := onB_key ha hb hd
    unfold Touch
    rw [g1, g2, g3, g4]
    simp only [z1, z2, z3, z4, true_and]
    rcases c1 with ⟨c11, c12⟩ | ⟨c11, c12⟩ <;> rcases c2 with ⟨c21, c22⟩ | ⟨c21, c22⟩
    · have := mm _ _ c11 c22; have := mm _ _ c21 c12; have := mm _ _ c11 c12; have := mm _ _ c21 c22; omega
    · have := mm _ _ c11 c22; have := mm _ _ c21 c12; have := mm _ _ c11 c12; have := mm _ _ c21 c22; omega
    · have := mm _ _ c11 c22; have := mm _ _ c21 c12; have := mm _ _ c11 c12; have := mm _ _ c21 c22; omega
    · have := mm _ _ c11 c22; have := mm _ _ c21 c12; have := mm _ _ c11 c12; have := mm _ _ c21 c22; omega
  · right; right; right; right
    rw [prB_iff]
    have p1 : (cr a b c = 0 ∧ cr a b d = 0) → (cr c d a = 0 ∧ cr c d b = 0) → False := fun q1 q2 => hz ⟨q1.1, q1.2, q2⟩
    have p2 : cr a b d - cr a b c = cr c d a - cr c d b := by unfold cr; grind
    omega
theorem meetR_nn (a b c d : Pt) : 0 ≤ meetR a b c d := by
  unfold meetR
  split <;> (try split) <;> (try split) <;> omega
theorem meet_zero {a b c d : Pt} : meetR a b c d = 0 ↔ ¬ Touch a b c d := by
  have := meetR_nn a b c d
  rw [← touch_iff]
  omega
/-- Two stretches with one end in common and no other point. -/
theorem one_iff {a b d : Pt} : meetR a b b d = 1 ↔ (onB b d a = true → a = b) ∧ (onB a b d = true → d = b) := by
  have hb1 := (onB_self b d).1
  have hb2 := (onB_self a b).2
  have hne : endsL a b b d ≠ [] := by unfold endsL; rw [hb1, hb2]; simp
  have hd : difB (endsL a b b d) = true ↔ ¬ ((onB b d a = true → a = b) ∧ (onB a b d = true → d = b)) := by
    rw [difB_iff]
    have hmem : ∀ e, e ∈ endsL a b b d ↔ e = b ∨ (onB b d a = true ∧ e = a) ∨ (onB a b d = true ∧ e = d) := fun e => by
      unfold endsL
      rw [hb1, hb2]
      rcases q1 : onB b d a with _ | _ <;> rcases q2 : onB a b d with _ | _ <;> simp <;> grind
    constructor
    · rintro ⟨p, q, hp, hq, hne⟩ ⟨g1, g2⟩
      have e : ∀ e, e ∈ endsL a b b d → e = b := fun e he => by
        rcases (hmem e).1 he with h | ⟨h, h'⟩ | ⟨h, h'⟩
        · exact h
        · rw [h', g1 h]
        · rw [h', g2 h]
      exact hne ((e p hp).trans (e q hq).symm)
    · intro h
      by_cases q1 : onB b d a = true ∧ a ≠ b
      · exact ⟨a, b, (hmem a).2 (.inr (.inl ⟨q1.1, rfl⟩)), (hmem b).2 (.inl rfl), q1.2⟩
      · by_cases q2 : onB a b d = true ∧ d ≠ b
        · exact ⟨d, b, (hmem d).2 (.inr (.inr ⟨q2.1, rfl⟩)), (hmem b).2 (.inl rfl), q2.2⟩
        · exact absurd ⟨fun h1 => Classical.byContradiction fun h2 => q1 ⟨h1, h2⟩, fun h1 => Classical.byContradiction fun h2 => q2 ⟨h1, h2⟩⟩ h
  unfold meetR
  by_cases hD : difB (endsL a b b d) = true
  · rw [if_pos hD]
    constructor
    · intro h; omega
    · intro h; exact absurd h (hd.1 hD)
  · rw [if_neg hD, if_pos hne]
    constructor
    · intro _
      exact Classical.byContradiction fun h => hD (hd.2 h)
    · intro _; rfl
end Go.Proofs.YtmegmokjjlelgaaGreat
namespace Go.Proofs.YtmegmokjjlelgaaGreat
end Go.Proofs.YtmegmokjjlelgaaGreat
namespace Go.Proofs.YtmegmokjjlelgaaGreat
end Go.Proofs.YtmegmokjjlelgaaGreat
namespace Go.Proofs.YtmegmokjjlelgaaGreat
open Go.RowKit
def FB (p : Plan) (q : Pt) (ed : Ed) (A : Option Addr) (n c : Nat) (A' : Option Addr) (n' c' : Nat) (w W : World) : Prop := Below w.heap.size w W ∧ PlK W w.heap.size A n c A' n' c' ∧ PtK W (w.heap.size + 1) q ∧ Blk W (w.heap.size + 1 + 1) 92 #[.int .i64 ed.a.x, .int .i64 ed.a.y, .int .i64 ed.b.x, .int .i64 ed.b.y] ∧ PlanAt W W.heap.size A n c A' n' c' p
theorem FB.on {p : Plan} {q : Pt} {ed : Ed} {A A' : Option Addr} {n c n' c' : Nat} {w W W' : World} (h : FB p q ed A n c A' n' c' w W) (hb : Below W.heap.size W W') : FB p q ed A n c A' n' c' w W' :=
  ⟨below_on h.1 (Nat.le_refl _) hb, h.2.1.on hb, Blk.below h.2.2.1 hb (Blk.lt h.2.2.1), Blk.below h.2.2.2.1 hb (Blk.lt h.2.2.2.1), h.2.2.2.2.on hb⟩
theorem FB.plan {p : Plan} {q : Pt} {ed : Ed} {A A' : Option Addr} {n c n' c' : Nat} {w W : World} (h : FB p q ed A n c A' n' c' w W) : W.cell? ⟨w.heap.size, 0, none⟩ = some (.slice A n c) ∧ W.cell? ⟨w.heap.size, 1, none⟩ = some (.slice A' n' c') := ⟨h.2.1.facts.1, h.2.1.facts.2.1⟩
theorem FB.pt {p : Plan} {q : Pt} {ed : Ed} {A A' : Option Addr} {n c n' c' : Nat} {w W : World} (h : FB p q ed A n c A' n' c' w W) : W.cell? ⟨w.heap.size + 1, 0, none⟩ = some (.int .i64 q.x) ∧ W.cell? ⟨w.heap.size + 1, 1, none⟩ = some (.int .i64 q.y) := ⟨h.2.2.1.facts.1, h.2.2.1.facts.2.1⟩
theorem FB.edge {p : Plan} {q : Pt} {ed : Ed} {A A' : Option Addr} {n c n' c' : Nat} {w W : World} (h : FB p q ed A n c A' n' c' w W) : W.cell? ⟨w.heap.size + 1 + 1, 0, none⟩ = some (.int .i64 ed.a.x) ∧ W.cell? ⟨w.heap.size + 1 + 1, 1, none⟩ = some (.int .i64 ed.a.y) ∧ W.cell? ⟨w.heap.size + 1 + 1, 2, none⟩ = some (.int .i64 ed.b.x) ∧ W.cell? ⟨w.heap.size + 1 + 1, 3, none⟩ = some (.int .i64 ed.b.y) :=
  ⟨by rw [Blk.cell h.2.2.2.1 0]; rfl, by rw [Blk.cell h.2.2.2.1 1]; rfl, by rw [Blk.cell h.2.2.2.1 2]; rfl, by rw [Blk.cell h.2.2.2.1 3]; rfl⟩
end Go.Proofs.YtmegmokjjlelgaaGreat

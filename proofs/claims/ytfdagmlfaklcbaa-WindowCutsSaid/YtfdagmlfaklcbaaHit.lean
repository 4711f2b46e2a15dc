/- Plain law: the program's Meet is the document's; a stretch and a window: when they have a point in common. -/
import Derived.Test.YtfdagmlfaklcbaaMeetEq
import Derived.Test.YtfdagmlfaklcbaaHas
namespace Go.Proofs.Ytfdagmlfaklcbaa
theorem ze_iff (a b c d : Pt) : zeB a b c d = true ↔ cr a b c = 0 ∧ cr a b d = 0 ∧ cr c d a = 0 ∧ cr c d b = 0 := by
  unfold zeB
  rw [decide_eq_true_eq, sgn_eq, sgn_eq, sgn_eq, sgn_eq]
theorem dif_ze {a b c d : Pt} (h : difB (endsL a b c d) = true) : zeB a b c d = true := by
  obtain ⟨p, q, hp, hq, hne⟩ := difB_two h
  obtain ⟨h1, h2⟩ := endsL_mem hp
  obtain ⟨h3, h4⟩ := endsL_mem hq
  rw [ze_iff]
  exact two_common hne h1 h3 h2 h4
theorem oe_ends {a b c d : Pt} (ha : good a = true) (hb : good b = true) (hc : good c = true) (hd : good d = true) : oeB a b c d = true ↔ endsL a b c d ≠ [] := by
  unfold oeB endsL
  rw [onP_eq ha hb hc, onP_eq ha hb hd, onP_eq hc hd ha, onP_eq hc hd hb]
  cases onB c d a <;> cases onB c d b <;> cases onB a b c <;> cases onB a b d <;> simp
theorem pr_ends {a b c d : Pt} (h : prB a b c d = true) : endsL a b c d = [] := by
  rw [prB_iff] at h
  rw [List.eq_nil_iff_forall_not_mem]
  intro e he
  unfold endsL at he
  simp only [List.mem_append] at he
  rcases he with he | he | he | he <;> split at he <;> simp at he <;> subst he
  all_goals
    rename_i q
    rw [onB_iff] at q
    omega
theorem meet_eq {a b c d : Pt} (ha : good a = true) (hb : good b = true) (hc : good c = true) (hd : good d = true) : meetP a b c d = meetR a b c d := by
  unfold meetP
  split
  · rename_i h
    unfold meetR
    rw [ap_ends h, ap_pr h]
    simp [difB]
  · split
    · rename_i h
      exact line_meet ha hb hc hd ((ze_iff _ _ _ _).1 h)
    · rename_i hz
      have hdif : difB (endsL a b c d) = false := by
        rcases h : difB (endsL a b c d) with _ | _
        · rfl
        · exact absurd (dif_ze h) hz
      have ho := oe_ends ha hb hc hd
      unfold meetR
      rcases hp : prB a b c d with _ | _
      · by_cases h : oeB a b c d = true
        · have := ho.1 h
          simp [hdif, h, this]
        · have h' : endsL a b c d = [] := by
            rcases h0 : endsL a b c d with _ | ⟨e, l⟩
            · rfl
            · exact absurd (ho.2 (by rw [h0]; simp)) h
          simp [h, h', difB]
      · simp [pr_ends hp, difB]
theorem meetR_pos (a b c d : Pt) : 0 < meetR a b c d ↔ endsL a b c d ≠ [] ∨ prB a b c d = true := by
  unfold meetR
  split
  · rename_i h
    obtain ⟨p, q, hp, _, _⟩ := difB_two h
    refine ⟨fun _ => .inl (fun e => ?_), fun _ => by omega⟩
    rw [e] at hp
    cases hp
  · split
    · rename_i h
      exact ⟨fun _ => .inl h, fun _ => by omega⟩
    · rename_i h
      split
      · rename_i h'
        exact ⟨fun _ => .inr h', fun _ => by omega⟩
      · rename_i h'
        refine ⟨fun q => by omega, fun q => ?_⟩
        rcases q with q | q
        · exact absurd q h
        · exact absurd q h'
/-- A point of the stretch, as a fraction of its way, lies in the window. -/
def Hit (w : Win) (a b : Pt) : Prop :=
  ∃ N t : Int, 0 < N ∧ 0 ≤ t ∧ t ≤ N ∧ N * w.lx ≤ (N - t) * a.x + t * b.x ∧ (N - t) * a.x + t * b.x ≤ N * w.hx ∧ N * w.ly ≤ (N - t) * a.y + t * b.y ∧ (N - t) * a.y + t * b.y ≤ N * w.hy
theorem hasB_iff (w : Win) (p : Pt) : hasB w p = true ↔ w.lx ≤ p.x ∧ p.x ≤ w.hx ∧ w.ly ≤ p.y ∧ p.y ≤ w.hy := by unfold hasB; exact decide_eq_true_iff
theorem hit_a {w : Win} {a b : Pt} (h : hasB w a = true) : Hit w a b := by
  rw [hasB_iff] at h
  exact ⟨1, 0, by omega, by omega, by omega, by omega, by omega, by omega, by omega⟩
theorem hit_b {w : Win} {a b : Pt} (h : hasB w b = true) : Hit w a b := by
  rw [hasB_iff] at h
  exact ⟨1, 1, by omega, by omega, by omega, by omega, by omega, by omega, by omega⟩
/-- A point of a stretch that lies on another one, between two corners. -/
theorem on_param {a b c : Pt} (h : onB a b c = true) : ∃ N t : Int, 0 < N ∧ 0 ≤ t ∧ t ≤ N ∧ (N - t) * a.x + t * b.x = N * c.x ∧ (N - t) * a.y + t * b.y = N * c.y := by
  rw [onB_iff] at h
  obtain ⟨z, hx, hy⟩ := h
  unfold cr at z
  by_cases h1 : a.x = b.x
  · by_cases h2 : a.y = b.y
    · exact ⟨1, 0, by omega, by omega, by omega, by omega, by omega⟩
    · have hc : c.x = a.x := by omega
      by_cases h3 : a.y < b.y
      · refine ⟨b.y - a.y, c.y - a.y, by omega, by omega, by omega, ?_, ?_⟩
        · rw [hc, h1]; grind
        · grind
      · refine ⟨a.y - b.y, a.y - c.y, by omega, by omega, by omega, ?_, ?_⟩
        · rw [hc, h1]; grind
        · grind
  · by_cases h3 : a.x < b.x
    · refine ⟨b.x - a.x, c.x - a.x, by omega, by omega, by omega, ?_, ?_⟩ <;> grind
    · refine ⟨a.x - b.x, a.x - c.x, by omega, by omega, by omega, ?_, ?_⟩ <;> grind
theorem conv_le {A B p q m : Int} (hA : 0 ≤ A) (hB : 0 ≤ B) (h1 : p ≤ m) (h2 : q ≤ m) : A * p + B * q ≤ (A + B) * m := by
  have := Int.mul_le_mul_of_nonneg_left h1 hA
  have := Int.mul_le_mul_of_nonneg_left h2 hB
  rw [Int.add_mul]
  omega
theorem conv_ge {A B p q m : Int} (hA : 0 ≤ A) (hB : 0 ≤ B) (h1 : m ≤ p) (h2 : m ≤ q) : (A + B) * m ≤ A * p + B * q := by
  have := Int.mul_le_mul_of_nonneg_left h1 hA
  have := Int.mul_le_mul_of_nonneg_left h2 hB
  rw [Int.add_mul]
  omega
/-- Two that cross: a point of the one, between the other's ends. -/
theorem pr_param {a b c d : Pt} (h : prB a b c d = true) : ∃ N t A B : Int, 0 < N ∧ 0 ≤ t ∧ t ≤ N ∧ 0 ≤ A ∧ 0 ≤ B ∧ A + B = N ∧ (N - t) * a.x + t * b.x = A * c.x + B * d.x ∧ (N - t) * a.y + t * b.y = A * c.y + B * d.y := by
  rw [prB_iff] at h
  obtain ⟨i1, i2, i3⟩ := cr_ids a b c d
  generalize cr a b c = C at *
  generalize cr a b d = D at *
  generalize cr c d a = A at *
  generalize cr c d b = B at *
  obtain ⟨hcd, hab⟩ := h
  rcases hab with ⟨h1, h2⟩ | ⟨h1, h2⟩
  · refine ⟨B - A, -A, -D, C, by omega, by omega, by omega, by omega, by omega, by omega, ?_, ?_⟩ <;> grind
  · refine ⟨A - B, A, D, -C, by omega, by omega, by omega, by omega, by omega, by omega, ?_, ?_⟩ <;> grind
/-- A stretch that meets one within the window has a point there. -/
theorem hit_meet {w : Win} {a b c d : Pt} (hc : hasB w c = true) (hd : hasB w d = true) (h : 0 < meetR a b c d) : Hit w a b := by
  rw [meetR_pos] at h
  rcases h with h | h
  · obtain ⟨e, he⟩ := List.exists_mem_of_ne_nil _ h
    obtain ⟨h1, h2⟩ := endsL_mem he
    rw [hasB_iff] at hc hd
    have h2' := (onB_iff _ _ _).1 h2
    obtain ⟨N, t, g1, g2, g3, g4, g5⟩ := on_param h1
    have m1 := Int.mul_le_mul_of_nonneg_left (by omega : w.lx ≤ e.x) (by omega : 0 ≤ N)
    have m2 := Int.mul_le_mul_of_nonneg_left (by omega : e.x ≤ w.hx) (by omega : 0 ≤ N)
    have m3 := Int.mul_le_mul_of_nonneg_left (by omega : w.ly ≤ e.y) (by omega : 0 ≤ N)
    have m4 := Int.mul_le_mul_of_nonneg_left (by omega : e.y ≤ w.hy) (by omega : 0 ≤ N)
    exact ⟨N, t, g1, g2, g3, by omega, by omega, by omega, by omega⟩
  · obtain ⟨N, t, A, B, g1, g2, g3, g4, g5, g6, g7, g8⟩ := pr_param h
    rw [hasB_iff] at hc hd
    refine ⟨N, t, g1, g2, g3, ?_, ?_, ?_, ?_⟩
    · rw [g7, ← g6]; exact conv_ge g4 g5 hc.1 hd.1
    · rw [g7, ← g6]; exact conv_le g4 g5 hc.2.1 hd.2.1
    · rw [g8, ← g6]; exact conv_ge g4 g5 hc.2.2.1 hd.2.2.1
    · rw [g8, ← g6]; exact conv_le g4 g5 hc.2.2.2 hd.2.2.2
end Go.Proofs.Ytfdagmlfaklcbaa

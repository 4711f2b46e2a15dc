/- What lies beside Area. -/
import Derived.Test.YtgkcenhopmjmlaaGreatArea
namespace Go.Proofs.YtgkcenhopmjmlaaGreat
open Go.RowKit
end Go.Proofs.YtgkcenhopmjmlaaGreat
namespace Go.Proofs.YtgkcenhopmjmlaaGreat
open Go.RowKit
set_option maxHeartbeats 800000 in
theorem turnW_any (a b c : Pt) (w : World) (ha : good a = true) (hb : good b = true) (hc : good c = true) :
    Calls Tryz.prog 192 #[ptV a, ptV b, ptV c] w fun e w' => e = .returned (.tuple #[.int .i64 (sgn (cr a b c)), .int .i64 0]) ∧ Below w.heap.size w w' := by
  have HG := Lib.hid (And.intro ha (And.intro hb hc))
  clear ha hb hc
  obtain ⟨hA, hC, hD, hB⟩ := three_new w a b c 53
  have HN := Lib.hid (And.intro hA (And.intro hC (And.intro hD hB)))
  clear hA hC hD hB
  obtain ⟨r, hr⟩ : ∃ r, r = sgn (cr a b c) := ⟨_, rfl⟩
  have HR := Lib.hid hr
  rw [← hr]
  clear hr
  unfold ptV
  go_enter Tryz.func192, Tryz.ntmps192
  go_wp2_with fail
  obtain ⟨hA, hC, hD, hB⟩ := HN.out
  clear HN
  have hz0 : (((w.alloc (.cells #[.int .i64 a.x, .int .i64 a.y] 53)).alloc (.cells #[.int .i64 b.x, .int .i64 b.y] 53)).alloc (.cells #[.int .i64 c.x, .int .i64 c.y] 53)).heap.size = w.heap.size + 1 + 1 + 1 := by simp
  generalize (((w.alloc (.cells #[.int .i64 a.x, .int .i64 a.y] 53)).alloc (.cells #[.int .i64 b.x, .int .i64 b.y] 53)).alloc (.cells #[.int .i64 c.x, .int .i64 c.y] 53)) = w1 at *
  refine (good_any [a, b, c] _ 3 3 _ ?hq (by omega) ?hin).mono ?_
  case hq => exact reads_three w1 a b c _ hz0.symm
  case hin =>
    intro p hp
    have := HG.out
    simp at hp
    rcases hp with rfl | rfl | rfl
    · exact good_in' this.1
    · exact good_in' this.2.1
    · exact good_in' this.2.2
  rintro e w2 ⟨rfl, hb2⟩
  have hgl : goodL [a, b, c] = true := by simp [goodL, HG.out]
  rw [hgl]
  replace hA := (hA.alloc _).on hb2
  replace hC := (hC.alloc _).on hb2
  replace hD := (hD.alloc _).on hb2
  replace hB := (hB.alloc hB.size _).trans (hb2.mono (by simp; have := hB.size; omega))
  clear hgl hb2
  obtain ⟨a1, a2, a3⟩ := hA
  obtain ⟨b1, b2, b3⟩ := hC
  obtain ⟨c1, c2, c3⟩ := hD
  go_wp2_with fail
  refine (turn_any a b c _ HG.out.1 HG.out.2.1 HG.out.2.2).mono ?_
  rintro e w3 ⟨rfl, hb3⟩
  rw [← HR.out]
  replace hB := below_on hB (Nat.le_refl _) hb3
  clear hb3 a1 a2 a3 b1 b2 b3 c1 c2 c3
  go_wp2_with fail
  exact bodyPost_ret (v := .tuple #[.int .i64 r, .int .i64 0]) (by simp [results, Tryz.results192, go_sem]) rfl ⟨rfl, hB⟩
end Go.Proofs.YtgkcenhopmjmlaaGreat
namespace Go.Proofs.YtgkcenhopmjmlaaGreat
open Go.RowKit Go.Shelf
end Go.Proofs.YtgkcenhopmjmlaaGreat
namespace Go.Proofs.YtgkcenhopmjmlaaGreat
theorem areaE_of {xs : List Pt} (h : xs.length ≤ 128) (hg : goodL xs = true) : areaE xs = 0 := by
  unfold areaE
  rw [if_neg (by omega), if_pos hg]
theorem checkI_bd (xs : List Pt) : 0 ≤ checkI xs ∧ checkI xs ≤ 12 := by
  unfold checkI areaE
  split <;> (try split) <;> (try split) <;> omega
end Go.Proofs.YtgkcenhopmjmlaaGreat
namespace Go.Proofs.YtgkcenhopmjmlaaGreat
/-- The edge that goes up through the point's height, and has it to its left: one more. -/
def crB (a b p : Pt) : Bool := if b.y < a.y then decide (b.y ≤ p.y) && (decide (p.y < a.y) && decide (0 < cr b a p)) else decide (a.y ≤ p.y) && (decide (p.y < b.y) && decide (0 < cr a b p))
def onE (xs : List Pt) (p : Pt) (k : Nat) : Bool := onB (ptAt xs k) (ptAt xs ((k + 1) % xs.length)) p
def crE (xs : List Pt) (p : Pt) (k : Nat) : Bool := crB (ptAt xs k) (ptAt xs ((k + 1) % xs.length)) p
def oddN (xs : List Pt) (p : Pt) : Nat → Bool
  | 0 => false
  | k + 1 => xor (oddN xs p k) (crE xs p k)
def noneN (xs : List Pt) (p : Pt) (k : Nat) : Prop := ∀ i, i < k → onE xs p i = false
open Classical in
noncomputable def sideI (xs : List Pt) (p : Pt) : Int := if noneN xs p xs.length then (if oddN xs p xs.length = true then 1 else -1) else 0
theorem sideI_on {xs : List Pt} {p : Pt} {k : Nat} (hk : k < xs.length) (h : onE xs p k = true) : sideI xs p = 0 := by
  unfold sideI
  rw [if_neg]
  intro hn
  rw [hn k hk] at h
  cases h
theorem sideI_off {xs : List Pt} {p : Pt} (h : noneN xs p xs.length) : sideI xs p = if oddN xs p xs.length = true then 1 else -1 := if_pos h
theorem noneN_succ {xs : List Pt} {p : Pt} {k : Nat} (h : noneN xs p k) (hk : onE xs p k = false) : noneN xs p (k + 1) := fun i hi => by
  rcases Nat.lt_succ_iff_lt_or_eq.1 hi with h1 | h1
  · exact h i h1
  · subst h1; exact hk
theorem sideI_bd (xs : List Pt) (p : Pt) : sideI xs p = -1 ∨ sideI xs p = 0 ∨ sideI xs p = 1 := by
  unfold sideI
  split <;> (try split) <;> simp
theorem cr_swap (a b p : Pt) : cr b a p = - cr a b p := by
  unfold cr
  grind
/-- The code's own word for the same: the edge's two ends are on two sides of the height, and the point is on the side that the edge goes. -/
def flipB (a b p : Pt) : Bool := (decide (p.y < a.y) != decide (p.y < b.y)) && (decide (0 < cr a b p) == decide (p.y < b.y))
theorem flip_eq {a b p : Pt} (h : onB a b p = false) : flipB a b p = crB a b p := by
  have hz : cr a b p = 0 → ((a.y ≤ p.y ∧ p.y ≤ b.y) ∨ (b.y ≤ p.y ∧ p.y ≤ a.y)) → a.y ≠ b.y → False := by
    intro hc hy hne
    have hx : ¬ ((a.x ≤ p.x ∧ p.x ≤ b.x) ∨ (b.x ≤ p.x ∧ p.x ≤ a.x)) := fun hx => by
      have := (onB_iff a b p).2 ⟨hc, hx, hy⟩
      rw [h] at this
      cases this
    unfold cr at hc
    apply hx
    by_cases hu : a.y < b.y
    · have h1 : (b.y - a.y) * (p.x - a.x) = (b.x - a.x) * (p.y - a.y) := by omega
      have := line_btw (u := b.y - a.y) (v := b.x - a.x) (s := p.y - a.y) (t := p.x - a.x) (by omega) h1 (by omega) (by omega)
      omega
    · have h1 : (a.y - b.y) * (a.x - p.x) = (a.x - b.x) * (a.y - p.y) := by
        have : (a.y - b.y) * (a.x - p.x) - (a.x - b.x) * (a.y - p.y) = (b.y - a.y) * (p.x - a.x) - (b.x - a.x) * (p.y - a.y) := by grind
        omega
      have := line_btw (u := a.y - b.y) (v := a.x - b.x) (s := a.y - p.y) (t := a.x - p.x) (by omega) h1 (by omega) (by omega)
      omega
  unfold flipB crB
  rw [cr_swap a b p]
  have hz1 : cr a b p = 0 → ¬ (((a.y ≤ p.y ∧ p.y ≤ b.y) ∨ (b.y ≤ p.y ∧ p.y ≤ a.y)) ∧ a.y ≠ b.y) := fun h0 h => hz h0 h.1 h.2
  clear hz h
  generalize cr a b p = z at *
  rw [Bool.eq_iff_iff]
  by_cases h1 : b.y < a.y
  · rw [if_pos h1]
    simp only [Bool.and_eq_true, decide_eq_true_eq, bne_iff_ne, beq_iff_eq, ne_eq, decide_eq_decide]
    omega
  · rw [if_neg h1]
    simp only [Bool.and_eq_true, decide_eq_true_eq, bne_iff_ne, beq_iff_eq, ne_eq, decide_eq_decide]
    omega
end Go.Proofs.YtgkcenhopmjmlaaGreat
namespace Go.Proofs.YtgkcenhopmjmlaaGreat
open Go.RowKit Go.Shelf
end Go.Proofs.YtgkcenhopmjmlaaGreat
namespace Go.Proofs.YtgkcenhopmjmlaaGreat
open Go.RowKit Go.Shelf
end Go.Proofs.YtgkcenhopmjmlaaGreat

/- Plain words: the order of numbers and points, the area of three points, and on which side one is. No condition. -/
import Derived.Test.YtfdagmlfaklcbaaPts
namespace Go.Proofs.Ytfdagmlfaklcbaa
def sgn (z : Int) : Int := if z < 0 then -1 else if 0 < z then 1 else 0
def cmpI (x y : Int) : Int := if x < y then -1 else if y < x then 1 else 0
/-- The order of points: by X, then by Y. -/
def orI (x y : Int) : Int := if x ≠ 0 then x else y
def ordI (a b : Pt) : Int := orI (cmpI a.x b.x) (cmpI a.y b.y)
/-- Twice the area of three points, with a sign. -/
def cr (a b c : Pt) : Int := (b.x - a.x) * (c.y - a.y) - (b.y - a.y) * (c.x - a.x)
def btw (a b n : Int) : Bool := decide ((a ≤ n ∧ n ≤ b) ∨ (b ≤ n ∧ n ≤ a))
/-- Is p on the stretch? -/
def onB (a b p : Pt) : Bool := decide (cr a b p = 0) && (btw a.x b.x p.x && btw a.y b.y p.y)
theorem sgn_cmp (z : Int) : sgn z = cmpI z 0 := rfl
theorem cmpI_bd (x y : Int) : -1 ≤ cmpI x y ∧ cmpI x y ≤ 1 := by unfold cmpI; split <;> (try split) <;> omega
theorem ordI_bd (a b : Pt) : -1 ≤ ordI a b ∧ ordI a b ≤ 1 := by
  unfold ordI orI
  have := cmpI_bd a.x b.x
  have := cmpI_bd a.y b.y
  split <;> omega
theorem sgn_bd (z : Int) : -1 ≤ sgn z ∧ sgn z ≤ 1 := cmpI_bd z 0
theorem sgn_lt {z : Int} : sgn z < 0 ↔ z < 0 := by unfold sgn; split <;> (try split) <;> omega
theorem sgn_gt {z : Int} : 0 < sgn z ↔ 0 < z := by unfold sgn; split <;> (try split) <;> omega
theorem sgn_eq {z : Int} : sgn z = 0 ↔ z = 0 := by unfold sgn; split <;> (try split) <;> omega
theorem mulb (x y M : Int) (hx : 0 ≤ x) (h1 : -M ≤ y) (h2 : y ≤ M) : -(x * M) ≤ x * y ∧ x * y ≤ x * M := by
  have e1 := Int.mul_le_mul_of_nonneg_left h2 hx
  have e2 := Int.mul_le_mul_of_nonneg_left h1 hx
  rw [Int.mul_neg] at e2
  exact ⟨e2, e1⟩
/-- A product of two numbers within 2^31. -/
theorem prod_bd (x y : Int) (h1 : -2147483648 ≤ x) (h2 : x ≤ 2147483648) (h3 : -2147483648 ≤ y) (h4 : y ≤ 2147483648) : -4611686018427387904 ≤ x * y ∧ x * y ≤ 4611686018427387904 := by
  by_cases h : 0 ≤ x
  · have := mulb x y 2147483648 h h3 h4
    omega
  · have := mulb (-x) y 2147483648 (by omega) h3 h4
    simp only [Int.neg_mul] at this
    omega
theorem cr_bd' (u v s t : Int) (hu : -2147483648 ≤ u ∧ u ≤ 2147483648) (hv : -2147483648 ≤ v ∧ v ≤ 2147483648) (hs : -2147483648 ≤ s ∧ s ≤ 2147483648) (ht : -2147483648 ≤ t ∧ t ≤ 2147483648)
    (hut : -2147483648 ≤ u - t ∧ u - t ≤ 2147483648) (hvs : -2147483648 ≤ v - s ∧ v - s ≤ 2147483648) : -4611686018427387904 ≤ u * v - s * t ∧ u * v - s * t ≤ 4611686018427387904 := by
  rw [Int.mul_comm s t]
  by_cases h1 : 0 ≤ u <;> by_cases h2 : 0 ≤ t
  · by_cases h3 : t ≤ u
    · have e : u * v - t * s = (u - t) * v + t * (v - s) := by grind
      have a1 := mulb (u - t) v 2147483648 (by omega) hv.1 hv.2
      have a2 := mulb t (v - s) 2147483648 h2 hvs.1 hvs.2
      omega
    · have e : u * v - t * s = u * (v - s) - (t - u) * s := by grind
      have a1 := mulb (t - u) s 2147483648 (by omega) hs.1 hs.2
      have a2 := mulb u (v - s) 2147483648 h1 hvs.1 hvs.2
      omega
  · have a1 := mulb u v 2147483648 h1 hv.1 hv.2
    have a2 := mulb (-t) s 2147483648 (by omega) hs.1 hs.2
    simp only [Int.neg_mul] at a2
    omega
  · have a1 := mulb (-u) v 2147483648 (by omega) hv.1 hv.2
    have a2 := mulb t s 2147483648 (by omega) hs.1 hs.2
    simp only [Int.neg_mul] at a1
    omega
  · by_cases h3 : t ≤ u
    · have e : u * v - t * s = -((-u) * (v - s)) + (u - t) * s := by grind
      have a1 := mulb (u - t) s 2147483648 (by omega) hs.1 hs.2
      have a2 := mulb (-u) (v - s) 2147483648 (by omega) hvs.1 hvs.2
      omega
    · have e : u * v - t * s = -((t - u) * v) - (-t) * (v - s) := by grind
      have a1 := mulb (t - u) v 2147483648 (by omega) hv.1 hv.2
      have a2 := mulb (-t) (v - s) 2147483648 (by omega) hvs.1 hvs.2
      omega
theorem cr_bd {a b c : Pt} (ha : good a = true) (hb : good b = true) (hc : good c = true) : -4611686018427387904 ≤ cr a b c ∧ cr a b c ≤ 4611686018427387904 := by
  rw [good_iff] at ha hb hc
  unfold cr
  exact cr_bd' _ _ _ _ (by omega) (by omega) (by omega) (by omega) (by omega) (by omega)
theorem cr_parts {a b c : Pt} (ha : good a = true) (hb : good b = true) (hc : good c = true) :
    (-4611686018427387904 ≤ (b.x - a.x) * (c.y - a.y) ∧ (b.x - a.x) * (c.y - a.y) ≤ 4611686018427387904) ∧ -4611686018427387904 ≤ (b.y - a.y) * (c.x - a.x) ∧ (b.y - a.y) * (c.x - a.x) ≤ 4611686018427387904 := by
  rw [good_iff] at ha hb hc
  exact ⟨prod_bd _ _ (by omega) (by omega) (by omega) (by omega), prod_bd _ _ (by omega) (by omega) (by omega) (by omega)⟩
/-- The lesser end first. -/
def endA (a b : Pt) : Pt := if 0 < ordI a b then b else a
def endB (a b : Pt) : Pt := if 0 < ordI a b then a else b
/-- As the program asks whether p is on the stretch. -/
def onP (a b p : Pt) : Bool := decide (sgn (cr a b p) = 0) && (decide (ordI (endA a b) p ≤ 0) && decide (ordI p (endB a b) ≤ 0))
theorem onP_cases (a b p : Pt) : (¬ sgn (cr a b p) = 0 ∧ onP a b p = false) ∨ (sgn (cr a b p) = 0 ∧ 0 < ordI (endA a b) p ∧ onP a b p = false) ∨ (sgn (cr a b p) = 0 ∧ ordI (endA a b) p ≤ 0 ∧ 0 < ordI p (endB a b) ∧ onP a b p = false) ∨ (sgn (cr a b p) = 0 ∧ ordI (endA a b) p ≤ 0 ∧ ordI p (endB a b) ≤ 0 ∧ onP a b p = true) := by
  unfold onP
  by_cases h1 : sgn (cr a b p) = 0
  · right
    by_cases h2 : ordI (endA a b) p ≤ 0
    · right
      by_cases h3 : ordI p (endB a b) ≤ 0
      · right; exact ⟨h1, h2, h3, by simp [h1, h2, h3]⟩
      · left; exact ⟨h1, h2, by omega, by simp [h3]⟩
    · left; exact ⟨h1, by omega, by simp [h2]⟩
  · left; exact ⟨h1, by simp [h1]⟩
def lnF (a b c d : Pt) : Pt := if 0 < ordI (endA a b) (endA c d) then endA a b else endA c d
def lnT (a b c d : Pt) : Pt := if ordI (endB c d) (endB a b) < 0 then endB c d else endB a b
def lineI (a b c d : Pt) : Int := if 0 < ordI (lnF a b c d) (lnT a b c d) then 0 else if ordI (lnF a b c d) (lnT a b c d) = 0 then 1 else 3
theorem lineI_cases (a b c d : Pt) : (0 < ordI (lnF a b c d) (lnT a b c d) ∧ lineI a b c d = 0) ∨ (ordI (lnF a b c d) (lnT a b c d) = 0 ∧ lineI a b c d = 1) ∨ (ordI (lnF a b c d) (lnT a b c d) < 0 ∧ lineI a b c d = 3) := by
  unfold lineI
  split
  · exact .inl ⟨by assumption, rfl⟩
  · split
    · exact .inr (.inl ⟨by assumption, rfl⟩)
    · exact .inr (.inr ⟨by omega, rfl⟩)
def mx (x y : Int) : Int := if x < y then y else x
def mn (x y : Int) : Int := if y < x then y else x
/-- Do the stretches lie beyond one another? -/
def apB (a b c d : Pt) : Bool := decide (mx a.x b.x < mn c.x d.x ∨ mx c.x d.x < mn a.x b.x ∨ mx a.y b.y < mn c.y d.y ∨ mx c.y d.y < mn a.y b.y)
def zeB (a b c d : Pt) : Bool := decide (sgn (cr a b c) = 0 ∧ sgn (cr a b d) = 0 ∧ sgn (cr c d a) = 0 ∧ sgn (cr c d b) = 0)
def prB (a b c d : Pt) : Bool := decide (sgn (cr a b c) * sgn (cr a b d) < 0 ∧ sgn (cr c d a) * sgn (cr c d b) < 0)
def oeB (a b c d : Pt) : Bool := onP a b c || (onP a b d || (onP c d a || onP c d b))
def meetP (a b c d : Pt) : Int := if apB a b c d = true then 0 else if zeB a b c d = true then lineI a b c d else if prB a b c d = true then 2 else if oeB a b c d = true then 1 else 0
end Go.Proofs.Ytfdagmlfaklcbaa

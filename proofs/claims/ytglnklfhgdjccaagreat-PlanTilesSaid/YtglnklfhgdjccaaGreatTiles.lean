/- The winding of a simple ring is 0 or 1; the parcels tile the territory: the plain law of PlanTiles. -/
import Derived.Test.YtglnklfhgdjccaaGreatPlanLaw
import Derived.Test.YtglnklfhgdjccaaGreatInner
import Derived.Test.YtglnklfhgdjccaaGreatShiftMv
import Derived.Test.YtglnklfhgdjccaaGreatPlCover
import Derived.Test.YtglnklfhgdjccaaGreatSimple
namespace Go.Proofs.YtglnklfhgdjccaaGreat
namespace WindT
def sumN (f : Nat → Int) : Nat → Int
  | 0 => 0
  | n + 1 => sumN f n + f n
theorem sumN_congr {f g : Nat → Int} : ∀ {n : Nat}, (∀ k, k < n → f k = g k) → sumN f n = sumN g n
  | 0, _ => rfl
  | n + 1, h => by
    show sumN f n + f n = sumN g n + g n
    rw [sumN_congr (fun k hk => h k (Nat.lt_succ_of_lt hk)), h n (Nat.lt_succ_self n)]
theorem sumN_add (f g : Nat → Int) : ∀ n, sumN (fun k => f k + g k) n = sumN f n + sumN g n
  | 0 => rfl
  | n + 1 => by
    show sumN _ n + (f n + g n) = (sumN f n + f n) + (sumN g n + g n)
    rw [sumN_add f g n]; omega
theorem sumN_tele (g : Nat → Int) : ∀ n, sumN (fun k => g (k + 1) - g k) n = g n - g 0
  | 0 => by show (0 : Int) = _; omega
  | n + 1 => by
    show sumN _ n + (g (n + 1) - g n) = _
    rw [sumN_tele g n]; omega
theorem sumN_le {f g : Nat → Int} : ∀ {n : Nat}, (∀ k, k < n → f k ≤ g k) → sumN f n ≤ sumN g n
  | 0, _ => Int.le_refl _
  | n + 1, h => by
    have h1 := sumN_le (n := n) (fun k hk => h k (Nat.lt_succ_of_lt hk))
    have h2 := h n (Nat.lt_succ_self n)
    show sumN f n + f n ≤ sumN g n + g n
    omega
theorem sumN_zero : ∀ n, sumN (fun _ => 0) n = 0
  | 0 => rfl
  | n + 1 => by show sumN _ n + 0 = 0; rw [sumN_zero n]; rfl
theorem sumN_swap (f : Nat → Nat → Int) (m : Nat) : ∀ n, sumN (fun k => sumN (fun j => f k j) m) n = sumN (fun j => sumN (fun k => f k j) n) m
  | 0 => by show (0 : Int) = _; rw [show (fun j => sumN (fun k => f k j) 0) = (fun _ => (0 : Int)) from rfl, sumN_zero]
  | n + 1 => by
    show sumN _ n + sumN _ m = _
    rw [sumN_swap f m n, ← sumN_add]
    rfl
/-- Only the place e counts. -/
theorem sumN_one {e : Nat} (z : Int) : ∀ {n : Nat}, sumN (fun k => if k = e then z else 0) n = if e < n then z else 0
  | 0 => by show (0 : Int) = _; simp
  | n + 1 => by
    show sumN _ n + (if n = e then z else 0) = _
    rw [sumN_one z (n := n)]
    (repeat' split) <;> omega
/-- One that is least among those of a kind. -/
theorem least_of (P : Nat → Prop) (K : Nat → Int) : ∀ n, (∃ k, k < n ∧ P k) → ∃ e, e < n ∧ P e ∧ ∀ k, k < n → P k → K e ≤ K k
  | 0, h => by obtain ⟨k, hk, _⟩ := h; omega
  | n + 1, h => by
    by_cases h1 : ∃ k, k < n ∧ P k
    · obtain ⟨e, he, hp, hm⟩ := least_of P K n h1
      by_cases h2 : P n ∧ K n < K e
      · refine ⟨n, by omega, h2.1, fun k hk hpk => ?_⟩
        by_cases hkn : k = n
        · subst hkn; omega
        · have := hm k (by omega) hpk; omega
      · refine ⟨e, by omega, hp, fun k hk hpk => ?_⟩
        by_cases hkn : k = n
        · subst hkn
          have : ¬ K k < K e := fun h => h2 ⟨hpk, h⟩
          omega
        · exact hm k (by omega) hpk
    · obtain ⟨k, hk, hpk⟩ := h
      have hkn : k = n := by
        by_cases hkn : k = n
        · exact hkn
        · exact absurd ⟨k, by omega, hpk⟩ h1
      subst hkn
      refine ⟨k, by omega, hpk, fun j hj hpj => ?_⟩
      by_cases hjk : j = k
      · subst hjk; exact Int.le_refl _
      · exact absurd ⟨j, by omega, hpj⟩ h1
section
variable (X Y c : Nat → Int)
def up (k : Nat) : Prop := Y k < Y (k + 1)
instance (k : Nat) : Decidable (up Y k) := inferInstanceAs (Decidable (_ < _))
def sg (k : Nat) : Int := if up Y k then 1 else -1
def act (k : Nat) (y : Int) : Prop := (Y k ≤ y ∧ y < Y (k + 1)) ∨ (Y (k + 1) ≤ y ∧ y < Y k)
instance (k : Nat) (y : Int) : Decidable (act Y k y) := inferInstanceAs (Decidable (_ ∨ _))
def onH (k : Nat) (y : Int) : Prop := (Y k ≤ y ∧ y ≤ Y (k + 1)) ∨ (Y (k + 1) ≤ y ∧ y ≤ Y k)
def V (k : Nat) (y : Int) : Int := X k + c k * (y - Y k)
def K (k : Nat) (y : Int) : Int := V X Y c k y + V X Y c k (y + 1)
/-- The sum of the signs of those that are active in the strip and of a kind. -/
def sm (n : Nat) (y : Int) (P : Nat → Prop) [DecidablePred P] : Int := sumN (fun k => if act Y k y ∧ P k then sg Y k else 0) n
structure Poly (n : Nat) : Prop where
  ne : ∀ k, k < n → Y (k + 1) ≠ Y k
  sl : ∀ k, k < n → X (k + 1) - X k = c k * (Y (k + 1) - Y k)
  clX : X n = X 0
  clY : Y n = Y 0
  h1 : ∀ j k y, j < n → k < n → j ≠ k → act Y j y → act Y k y → V X Y c j y < V X Y c k y → V X Y c j (y + 1) ≤ V X Y c k (y + 1)
  h2 : ∀ j k y, j < n → k < n → j ≠ k → onH Y j y → onH Y k y → V X Y c j y = V X Y c k y → (y = Y (k + 1) ∧ (j = k + 1 ∨ (k + 1 = n ∧ j = 0))) ∨ (y = Y k ∧ (k = j + 1 ∨ (j + 1 = n ∧ k = 0)))
  n3 : 3 ≤ n
variable {X Y c}
theorem V_beg (k : Nat) : V X Y c k (Y k) = X k := by unfold V; rw [Int.sub_self, Int.mul_zero, Int.add_zero]
theorem V_end {n : Nat} (p : Poly X Y c n) {k : Nat} (hk : k < n) : V X Y c k (Y (k + 1)) = X (k + 1) := by
  unfold V
  rw [← p.sl k hk]
  omega
theorem V_step (k : Nat) (y : Int) : V X Y c k (y + 1) = V X Y c k y + c k := by
  unfold V
  rw [show y + 1 - Y k = (y - Y k) + 1 by omega, Int.mul_add, Int.mul_one]
  omega
/-- What ends and begins at a height, right of a place: as much from below as from above. -/
theorem flux {n : Nat} (p : Poly X Y c n) (X0 y : Int) : sm Y n (y - 1) (fun k => X0 < V X Y c k y) = sm Y n y (fun k => X0 < V X Y c k y) := by
  have key : sumN (fun k => (if act Y k y ∧ X0 < V X Y c k y then sg Y k else 0) + ((if Y (k + 1) = y ∧ X0 < X (k + 1) then 1 else 0) - (if Y k = y ∧ X0 < X k then 1 else 0))) n = sm Y n (y - 1) (fun k => X0 < V X Y c k y) := by
    refine sumN_congr fun k hk => ?_
    show _ = if act Y k (y - 1) ∧ X0 < V X Y c k y then sg Y k else 0
    have hne := p.ne k hk
    have hv1 := V_beg (X := X) (Y := Y) (c := c) k
    have hv2 := V_end p hk
    by_cases e1 : Y k = y
    · rw [← e1]
      rw [hv1]
      by_cases e2 : X0 < X k
      · by_cases hu : Y k < Y (k + 1)
        · have b1 : act Y k (Y k) := by unfold act; omega
          have b2 : ¬ act Y k (Y k - 1) := by unfold act; omega
          have b3 : sg Y k = 1 := if_pos hu
          simp [b1, b2, b3, e2, hne]
        · have b1 : ¬ act Y k (Y k) := by unfold act; omega
          have b2 : act Y k (Y k - 1) := by unfold act; omega
          have b3 : sg Y k = -1 := if_neg hu
          simp [b1, b2, b3, e2, hne]
      · simp only [e2, and_false, if_false]
        (repeat' split) <;> omega
    · by_cases e3 : Y (k + 1) = y
      · rw [← e3, hv2]
        by_cases e2 : X0 < X (k + 1)
        · by_cases hu : Y k < Y (k + 1)
          · have b1 : ¬ act Y k (Y (k + 1)) := by unfold act; omega
            have b2 : act Y k (Y (k + 1) - 1) := by unfold act; omega
            have b3 : sg Y k = 1 := if_pos hu
            simp [b1, b2, b3, e2, Ne.symm hne]
          · have b1 : act Y k (Y (k + 1)) := by unfold act; omega
            have b2 : ¬ act Y k (Y (k + 1) - 1) := by unfold act; omega
            have b3 : sg Y k = -1 := if_neg hu
            simp [b1, b2, b3, e2, Ne.symm hne]
        · simp only [e2, and_false, if_false]
          (repeat' split) <;> omega
      · rw [if_neg (show ¬ (Y (k + 1) = y ∧ _) from fun h => e3 h.1), if_neg (show ¬ (Y k = y ∧ _) from fun h => e1 h.1)]
        have : act Y k y ↔ act Y k (y - 1) := by unfold act; omega
        simp only [this]
        omega
  rw [← key, sumN_add]
  rw [sumN_tele (fun k => if Y k = y ∧ X0 < X k then 1 else 0) n]
  simp only [p.clX, p.clY, sm]
  omega
/-- Of two that are active in a strip the one is right of the other just if it is so at the strip's foot, or head, where they part. -/
theorem ord_foot {n : Nat} (p : Poly X Y c n) {j k : Nat} {y : Int} (hj : j < n) (hk : k < n) (hjk : j ≠ k) (aj : act Y j y) (ak : act Y k y) (hv : V X Y c j y ≠ V X Y c k y) : K X Y c j y < K X Y c k y ↔ V X Y c j y < V X Y c k y := by
  have g1 := p.h1 j k y hj hk hjk aj ak
  have g2 := p.h1 k j y hk hj (Ne.symm hjk) ak aj
  unfold K
  omega
theorem ord_head {n : Nat} (p : Poly X Y c n) {j k : Nat} {y : Int} (hj : j < n) (hk : k < n) (hjk : j ≠ k) (aj : act Y j y) (ak : act Y k y) (hv : V X Y c j (y + 1) ≠ V X Y c k (y + 1)) : K X Y c j y < K X Y c k y ↔ V X Y c j (y + 1) < V X Y c k (y + 1) := by
  have g1 := p.h1 j k y hj hk hjk aj ak
  have g2 := p.h1 k j y hk hj (Ne.symm hjk) ak aj
  unfold K
  omega
theorem act_on {k : Nat} {y : Int} (h : act Y k y) : onH Y k y ∧ onH Y k (y + 1) := by
  unfold act at h
  unfold onH
  omega
theorem K_ne {n : Nat} (p : Poly X Y c n) {j k : Nat} {y : Int} (hj : j < n) (hk : k < n) (hjk : j ≠ k) (aj : act Y j y) (ak : act Y k y) : K X Y c j y ≠ K X Y c k y := by
  intro h
  have g1 := p.h1 j k y hj hk hjk aj ak
  have g2 := p.h1 k j y hk hj (Ne.symm hjk) ak aj
  have hn := p.n3
  unfold K at h
  have e1 : V X Y c j y = V X Y c k y := by omega
  have e2 : V X Y c j (y + 1) = V X Y c k (y + 1) := by omega
  have f1 := p.h2 j k y hj hk hjk (act_on aj).1 (act_on ak).1 e1
  have f2 := p.h2 j k (y + 1) hj hk hjk (act_on aj).2 (act_on ak).2 e2
  omega
/-- The winding at the left hand of e in a strip. -/
def S (X Y c : Nat → Int) (n e : Nat) (y : Int) : Int := sm Y n y (fun k => K X Y c e y < K X Y c k y) + if up Y e then 1 else 0
theorem sm_congr {n : Nat} {y : Int} {P Q : Nat → Prop} [DecidablePred P] [DecidablePred Q] (h : ∀ k, k < n → act Y k y → (P k ↔ Q k)) : sm Y n y P = sm Y n y Q := by
  refine sumN_congr fun k hk => ?_
  by_cases a : act Y k y
  · have := h k hk a
    by_cases q : Q k
    · rw [if_pos ⟨a, this.2 q⟩, if_pos ⟨a, q⟩]
    · rw [if_neg (fun h => q (this.1 h.2)), if_neg (fun h => q h.2)]
  · rw [if_neg (fun h => a h.1), if_neg (fun h => a h.1)]
/-- Within an edge: the same in the strip below. -/
theorem S_pass {n : Nat} (p : Poly X Y c n) {e : Nat} {y : Int} (he : e < n) (a1 : act Y e (y - 1)) (a2 : act Y e y) : S X Y c n e (y - 1) = S X Y c n e y := by
  have hin : ∀ k, k < n → k ≠ e → onH Y k y → V X Y c e y ≠ V X Y c k y := fun k hk hke hon h => by
    have := p.h2 e k y he hk (Ne.symm hke) (act_on a2).1 hon h
    have h3 := p.n3
    have hc := p.clY
    unfold act at a1 a2
    rcases this with ⟨h4, h5 | ⟨h5, h6⟩⟩ | ⟨h4, h5 | ⟨h5, h6⟩⟩
    · rw [h5] at a1 a2; omega
    · rw [h6, ← hc, ← h5] at a1 a2; omega
    · rw [h5] at h4; omega
    · rw [h6, ← hc, ← h5] at h4; omega
  unfold S
  congr 1
  have e1 : sm Y n (y - 1) (fun k => K X Y c e (y - 1) < K X Y c k (y - 1)) = sm Y n (y - 1) (fun k => V X Y c e y < V X Y c k y) := by
    refine sm_congr fun k hk ak => ?_
    by_cases hke : k = e
    · subst hke; omega
    · have h := hin k hk hke (by have := (act_on ak).2; rw [Int.sub_add_cancel] at this; exact this)
      have := ord_head p he hk (Ne.symm hke) a1 ak (by rw [Int.sub_add_cancel]; exact h)
      rw [Int.sub_add_cancel] at this
      exact this
  have e2 : sm Y n y (fun k => K X Y c e y < K X Y c k y) = sm Y n y (fun k => V X Y c e y < V X Y c k y) := by
    refine sm_congr fun k hk ak => ?_
    by_cases hke : k = e
    · subst hke; omega
    · exact ord_foot p he hk (Ne.symm hke) a2 ak (hin k hk hke (act_on ak).1)
  rw [e1, e2, flux p]
/-- The edge behind e. -/
def nx (n e : Nat) : Nat := if e + 1 = n then 0 else e + 1
theorem nx_lt {n e : Nat} (he : e < n) : nx n e < n := by unfold nx; split <;> omega
theorem nx_at {n : Nat} (p : Poly X Y c n) {e : Nat} : Y (nx n e) = Y (e + 1) ∧ X (nx n e) = X (e + 1) := by
  unfold nx
  split
  · rename_i h
    rw [h, p.clX, p.clY]
    exact ⟨rfl, rfl⟩
  · exact ⟨rfl, rfl⟩
theorem nx_ne {n : Nat} (p : Poly X Y c n) {e : Nat} : nx n e ≠ e := by
  have := p.n3
  unfold nx
  split <;> omega
/-- No other edge goes through the corner behind e. -/
theorem off_end {n : Nat} (p : Poly X Y c n) {e k : Nat} (he : e < n) (hk : k < n) (h1 : k ≠ e) (h2 : k ≠ nx n e) (hon : onH Y k (Y (e + 1))) : X (e + 1) ≠ V X Y c k (Y (e + 1)) := by
  intro h
  have hne := p.ne e he
  have hc := p.clY
  have hoe : onH Y e (Y (e + 1)) := by unfold onH; omega
  have := p.h2 e k _ he hk (Ne.symm h1) hoe hon ((V_end p he).trans h)
  unfold nx at h2
  rcases this with ⟨h4, h5 | ⟨h5, h6⟩⟩ | ⟨h4, h5 | ⟨h5, h6⟩⟩
  · rw [← h5] at h4; omega
  · rw [h6] at hne h4; rw [h5, hc] at h4; omega
  · split at h2 <;> omega
  · split at h2 <;> omega
theorem sm_extra {n : Nat} {y : Int} {P Q : Nat → Prop} [DecidablePred P] [DecidablePred Q] {d : Nat} (hd : d < n) (ad : act Y d y) (hq : ¬ Q d) (h : ∀ k, k < n → k ≠ d → act Y k y → (P k ↔ Q k)) : sm Y n y P = sm Y n y Q + if P d then sg Y d else 0 := by
  have e1 : sm Y n y P = sumN (fun k => (if act Y k y ∧ Q k then sg Y k else 0) + if k = d then (if P d then sg Y d else 0) else 0) n := by
    refine sumN_congr fun k hk => ?_
    show (if act Y k y ∧ P k then sg Y k else 0) = _
    by_cases hkd : k = d
    · subst hkd
      simp [ad, hq]
    · rw [if_neg hkd, Int.add_zero]
      by_cases a : act Y k y
      · have := h k hk hkd a
        by_cases q : Q k
        · rw [if_pos ⟨a, this.2 q⟩, if_pos ⟨a, q⟩]
        · rw [if_neg (fun h => q (this.1 h.2)), if_neg (fun h => q h.2)]
      · rw [if_neg (fun h => a h.1), if_neg (fun h => a h.1)]
  rw [e1, sumN_add, sumN_one, if_pos hd]
  rfl
def fs (Y : Nat → Int) (e : Nat) : Int := if up Y e then Y e else Y e - 1
def ls (Y : Nat → Int) (e : Nat) : Int := if up Y e then Y (e + 1) - 1 else Y (e + 1)
theorem fs_act {n : Nat} (p : Poly X Y c n) {e : Nat} (he : e < n) : act Y e (fs Y e) ∧ act Y e (ls Y e) := by
  have := p.ne e he
  by_cases u : up Y e
  · unfold act fs ls
    rw [if_pos u, if_pos u]
    unfold up at u
    omega
  · unfold act fs ls
    rw [if_neg u, if_neg u]
    unfold up at u
    omega
/-- At a corner: the same at the next edge. -/
theorem S_next {n : Nat} (p : Poly X Y c n) {e : Nat} (he : e < n) : S X Y c n e (ls Y e) = S X Y c n (nx n e) (fs Y (nx n e)) := by
  obtain ⟨y1, x1⟩ := nx_at p (e := e)
  have he' := nx_lt he
  have hne := nx_ne p (e := e)
  obtain ⟨-, a1⟩ := fs_act p he
  obtain ⟨a2, -⟩ := fs_act p he'
  have v1 := V_end p he
  have v2 : V X Y c (nx n e) (Y (e + 1)) = X (e + 1) := by rw [← y1, V_beg, x1]
  have hoff := fun k hk h1 h2 => off_end p (k := k) he hk h1 h2
  have n1 := p.ne e he
  have n2 := p.ne (nx n e) he'
  generalize nx n e = d at *
  obtain ⟨y, hy⟩ : ∃ y, y = Y (e + 1) := ⟨_, rfl⟩
  rw [← hy] at y1 v1 v2 hoff
  -- the sums in the strip below and above, in words of the corner
  have below : ∀ b, b < n → act Y b (y - 1) → V X Y c b y = X (e + 1) → ∀ k, k < n → k ≠ e → k ≠ d → act Y k (y - 1) → (K X Y c b (y - 1) < K X Y c k (y - 1) ↔ X (e + 1) < V X Y c k y) := by
    intro b hb ab hv k hk hke hkd ak
    have h := hoff k hk hke hkd (by have := (act_on ak).2; rw [Int.sub_add_cancel] at this; exact this)
    by_cases hbk : b = k
    · subst hbk; exact absurd hv.symm h
    · have := ord_head p hb hk hbk ab ak (by rw [Int.sub_add_cancel, hv]; exact h)
      rw [Int.sub_add_cancel, hv] at this
      exact this
  have above : ∀ b, b < n → act Y b y → V X Y c b y = X (e + 1) → ∀ k, k < n → k ≠ e → k ≠ d → act Y k y → (K X Y c b y < K X Y c k y ↔ X (e + 1) < V X Y c k y) := by
    intro b hb ab hv k hk hke hkd ak
    have h := hoff k hk hke hkd (act_on ak).1
    by_cases hbk : b = k
    · subst hbk; exact absurd hv.symm h
    · have := ord_foot p hb hk hbk ab ak (by rw [hv]; exact h)
      rw [hv] at this
      exact this
  have nv1 : ¬ X (e + 1) < V X Y c e y := by omega
  have nv2 : ¬ X (e + 1) < V X Y c d y := by omega
  by_cases u1 : up Y e <;> by_cases u2 : up Y d
  · have s1 : ls Y e = y - 1 := by unfold ls; rw [if_pos u1, hy]
    have s2 : fs Y d = y := by unfold fs; rw [if_pos u2, y1]
    rw [s1] at a1 ⊢
    rw [s2] at a2 ⊢
    unfold S
    rw [if_pos u1, if_pos u2]
    congr 1
    have b1 : sm Y n (y - 1) (fun k => K X Y c e (y - 1) < K X Y c k (y - 1)) = sm Y n (y - 1) (fun k => X (e + 1) < V X Y c k y) := by
      refine sm_congr fun k hk ak => ?_
      by_cases h1 : k = e
      · subst h1; omega
      · by_cases h2 : k = d
        · subst h2; unfold act at ak; unfold up at u2; omega
        · exact below e he a1 v1 k hk h1 h2 ak
    have b2 : sm Y n y (fun k => K X Y c d y < K X Y c k y) = sm Y n y (fun k => X (e + 1) < V X Y c k y) := by
      refine sm_congr fun k hk ak => ?_
      by_cases h1 : k = e
      · subst h1; unfold act at ak; unfold up at u1; omega
      · by_cases h2 : k = d
        · subst h2; omega
        · exact above d he' a2 v2 k hk h1 h2 ak
    rw [b1, b2, flux p]
  · have s1 : ls Y e = y - 1 := by unfold ls; rw [if_pos u1, hy]
    have s2 : fs Y d = y - 1 := by unfold fs; rw [if_neg u2, y1]
    rw [s1] at a1 ⊢
    rw [s2] at a2 ⊢
    unfold S
    rw [if_pos u1, if_neg u2]
    have hK := K_ne p he he' (Ne.symm hne) a1 a2
    have b1 := sm_extra (P := fun k => K X Y c e (y - 1) < K X Y c k (y - 1)) (Q := fun k => X (e + 1) < V X Y c k y) he' a2 nv2 (fun k hk hkd ak => by
      by_cases h1 : k = e
      · subst h1; omega
      · exact below e he a1 v1 k hk h1 hkd ak)
    have b2 := sm_extra (P := fun k => K X Y c d (y - 1) < K X Y c k (y - 1)) (Q := fun k => X (e + 1) < V X Y c k y) he a1 nv1 (fun k hk hke ak => by
      by_cases h1 : k = d
      · subst h1; omega
      · exact below d he' a2 v2 k hk hke h1 ak)
    rw [b1, b2]
    have g1 : sg Y e = 1 := if_pos u1
    have g2 : sg Y d = -1 := if_neg u2
    rw [g1, g2]
    (repeat' split) <;> omega
  · have s1 : ls Y e = y := by unfold ls; rw [if_neg u1, hy]
    have s2 : fs Y d = y := by unfold fs; rw [if_pos u2, y1]
    rw [s1] at a1 ⊢
    rw [s2] at a2 ⊢
    unfold S
    rw [if_neg u1, if_pos u2]
    have hK := K_ne p he he' (Ne.symm hne) a1 a2
    have b1 := sm_extra (P := fun k => K X Y c e y < K X Y c k y) (Q := fun k => X (e + 1) < V X Y c k y) he' a2 nv2 (fun k hk hkd ak => by
      by_cases h1 : k = e
      · subst h1; omega
      · exact above e he a1 v1 k hk h1 hkd ak)
    have b2 := sm_extra (P := fun k => K X Y c d y < K X Y c k y) (Q := fun k => X (e + 1) < V X Y c k y) he a1 nv1 (fun k hk hke ak => by
      by_cases h1 : k = d
      · subst h1; omega
      · exact above d he' a2 v2 k hk hke h1 ak)
    rw [b1, b2]
    have g1 : sg Y e = -1 := if_neg u1
    have g2 : sg Y d = 1 := if_pos u2
    rw [g1, g2]
    (repeat' split) <;> omega
  · have s1 : ls Y e = y := by unfold ls; rw [if_neg u1, hy]
    have s2 : fs Y d = y - 1 := by unfold fs; rw [if_neg u2, y1]
    rw [s1] at a1 ⊢
    rw [s2] at a2 ⊢
    unfold S
    rw [if_neg u1, if_neg u2]
    congr 1
    have b1 : sm Y n y (fun k => K X Y c e y < K X Y c k y) = sm Y n y (fun k => X (e + 1) < V X Y c k y) := by
      refine sm_congr fun k hk ak => ?_
      by_cases h1 : k = e
      · subst h1; omega
      · by_cases h2 : k = d
        · subst h2; unfold act at ak; unfold up at u2; omega
        · exact above e he a1 v1 k hk h1 h2 ak
    have b2 : sm Y n (y - 1) (fun k => K X Y c d (y - 1) < K X Y c k (y - 1)) = sm Y n (y - 1) (fun k => X (e + 1) < V X Y c k y) := by
      refine sm_congr fun k hk ak => ?_
      by_cases h1 : k = e
      · subst h1; unfold act at ak; unfold up at u1; omega
      · by_cases h2 : k = d
        · subst h2; omega
        · exact below d he' a2 v2 k hk h1 h2 ak
    rw [b1, b2, flux p]
/-- Along an edge: all strips. -/
theorem S_edge {n : Nat} (p : Poly X Y c n) {e : Nat} (he : e < n) : ∀ (i : Nat) (y : Int), (y = (if up Y e then Y e + i else Y e - 1 - i)) → act Y e y → S X Y c n e y = S X Y c n e (fs Y e)
  | 0, y, hy, _ => by
    have : y = fs Y e := by unfold fs; rw [hy]; split <;> simp
    rw [this]
  | i + 1, y, hy, a => by
    by_cases u : up Y e
    · rw [if_pos u] at hy
      have a' : act Y e (y - 1) := by unfold act at *; unfold up at u; omega
      rw [← S_pass p he a' a]
      exact S_edge p he i (y - 1) (by rw [if_pos u]; omega) a'
    · rw [if_neg u] at hy
      have a' : act Y e (y + 1) := by unfold act at *; unfold up at u; omega
      have := S_pass p he (y := y + 1) (by rw [Int.add_sub_cancel]; exact a) a'
      rw [Int.add_sub_cancel] at this
      rw [this]
      exact S_edge p he i (y + 1) (by rw [if_neg u]; omega) a'
theorem S_fs {n : Nat} (p : Poly X Y c n) {e : Nat} (he : e < n) {y : Int} (a : act Y e y) : S X Y c n e y = S X Y c n e (fs Y e) := by
  refine S_edge p he (if up Y e then (y - Y e).toNat else (Y e - 1 - y).toNat) y ?_ a
  unfold act at a
  have := p.ne e he
  by_cases u : up Y e
  · rw [if_pos u, if_pos u]; unfold up at u; omega
  · rw [if_neg u, if_neg u]; unfold up at u; omega
/-- The winding at the left hand is one number. -/
theorem S_all {n : Nat} (p : Poly X Y c n) : ∀ e, e < n → ∀ y, act Y e y → S X Y c n e y = S X Y c n 0 (fs Y 0)
  | 0, he, y, a => S_fs p he a
  | e + 1, he, y, a => by
    rw [S_fs p he a]
    have h := S_next p (e := e) (by omega)
    have hn : nx n e = e + 1 := by unfold nx; rw [if_neg (by omega)]
    rw [hn] at h
    rw [← h]
    exact S_all p e (by omega) _ (fs_act p (by omega)).2
/-- Of those of a kind that has all right of any of it: none, c, or c less one. -/
theorem sm_kind {n : Nat} (p : Poly X Y c n) {y : Int} (P : Nat → Prop) [DecidablePred P] (hup : ∀ e k, e < n → k < n → act Y e y → act Y k y → P e → K X Y c e y ≤ K X Y c k y → P k) :
    sm Y n y P = 0 ∨ sm Y n y P = S X Y c n 0 (fs Y 0) ∨ sm Y n y P = S X Y c n 0 (fs Y 0) - 1 := by
  by_cases h : ∃ k, k < n ∧ (act Y k y ∧ P k)
  · obtain ⟨e, he, ⟨ae, pe⟩, hm⟩ := least_of (fun k => act Y k y ∧ P k) (fun k => K X Y c k y) n h
    have h1 := sm_extra (P := P) (Q := fun k => K X Y c e y < K X Y c k y) he ae (by omega) (fun k hk hke ak => by
      have hn := K_ne p he hk (Ne.symm hke) ae ak
      constructor
      · intro hp
        have := hm k hk ⟨ak, hp⟩
        omega
      · intro hlt
        exact hup e k he hk ae ak pe (by omega))
    rw [if_pos pe] at h1
    have h2 := S_all p e he y ae
    unfold S at h2
    by_cases u : up Y e
    · rw [if_pos u] at h2
      have : sg Y e = 1 := if_pos u
      right; left
      unfold S
      omega
    · rw [if_neg u] at h2
      have : sg Y e = -1 := if_neg u
      right; right
      unfold S
      omega
  · left
    have : sm Y n y P = sumN (fun _ => 0) n := sumN_congr fun k hk => if_neg fun hh => h ⟨k, hk, hh⟩
    rw [this, sumN_zero]
/-- The one number is 0 or 1. -/
theorem S_01 {n : Nat} (p : Poly X Y c n) : S X Y c n 0 (fs Y 0) = 0 ∨ S X Y c n 0 (fs Y 0) = 1 := by
  have hn := p.n3
  have a0 := (fs_act p (e := 0) (by omega)).1
  obtain ⟨e, he, ae, hm⟩ := least_of (fun k => act Y k (fs Y 0)) (fun k => - K X Y c k (fs Y 0)) n ⟨0, by omega, a0⟩
  have h2 := S_all p e he _ ae
  have h0 : sm Y n (fs Y 0) (fun k => K X Y c e (fs Y 0) < K X Y c k (fs Y 0)) = 0 := by
    have : sm Y n (fs Y 0) (fun k => K X Y c e (fs Y 0) < K X Y c k (fs Y 0)) = sumN (fun _ => 0) n := sumN_congr fun k hk => if_neg fun hh => by
      have := hm k hk hh.1
      omega
    rw [this, sumN_zero]
  rw [← h2]
  show sm Y n (fs Y 0) _ + _ = 0 ∨ sm Y n (fs Y 0) _ + _ = 1
  rw [h0]
  split <;> omega
/-! The area. -/
theorem q_step (v b d : Int) : (2 * v + b * (d + 1)) * (d + 1) - (2 * v + b * d) * d = 2 * v + b * (2 * d + 1) := by grind
def Fq (v b lo hi y : Int) : Int := (2 * v + b * (if y ≤ lo then 0 else if y ≤ hi then y - lo else hi - lo)) * (if y ≤ lo then 0 else if y ≤ hi then y - lo else hi - lo)
theorem Fq_step (v b lo hi y : Int) (h : lo < hi) : Fq v b lo hi (y + 1) - Fq v b lo hi y = if lo ≤ y ∧ y < hi then 2 * v + b * (2 * (y - lo) + 1) else 0 := by
  unfold Fq
  by_cases h1 : y < lo
  · rw [if_pos (by omega : y + 1 ≤ lo), if_pos (by omega : y ≤ lo), if_neg (by omega)]; simp
  · by_cases h2 : y < hi
    · rw [if_neg (by omega : ¬ y + 1 ≤ lo), if_pos (by omega : y + 1 ≤ hi), if_pos (show lo ≤ y ∧ y < hi by omega)]
      have e : (if y ≤ lo then 0 else if y ≤ hi then y - lo else hi - lo) = y - lo := by (repeat' split) <;> omega
      rw [e, ← q_step, show y + 1 - lo = y - lo + 1 by omega]
    · rw [if_neg (by omega : ¬ y + 1 ≤ lo), if_neg (by omega : ¬ y + 1 ≤ hi), if_neg (show ¬ (lo ≤ y ∧ y < hi) by omega)]
      have e : (if y ≤ lo then 0 else if y ≤ hi then y - lo else hi - lo) = hi - lo := by (repeat' split) <;> omega
      rw [e, Int.sub_self]
theorem Fq_lo (v b lo hi y : Int) (h : y ≤ lo) : Fq v b lo hi y = 0 := by unfold Fq; rw [if_pos h]; simp
theorem Fq_hi (v b lo hi y : Int) (h1 : lo < hi) (h : hi ≤ y) : Fq v b lo hi y = (2 * v + b * (hi - lo)) * (hi - lo) := by
  unfold Fq
  have e : (if y ≤ lo then 0 else if y ≤ hi then y - lo else hi - lo) = hi - lo := by (repeat' split) <;> omega
  rw [e]
/-- An edge's area, strip by strip. -/
theorem strips {n : Nat} (p : Poly X Y c n) {k : Nat} (hk : k < n) (y0 : Int) (m : Nat) (b1 : y0 ≤ Y k) (b2 : y0 ≤ Y (k + 1)) (b3 : Y k ≤ y0 + m) (b4 : Y (k + 1) ≤ y0 + m) :
    sumN (fun (j : Nat) => if act Y k (y0 + j) then sg Y k * K X Y c k (y0 + j) else 0) m = (X k + X (k + 1)) * (Y (k + 1) - Y k) := by
  have hne := p.ne k hk
  have hsl := p.sl k hk
  by_cases u : up Y k
  · have hs : sg Y k = 1 := if_pos u
    unfold up at u
    have e1 : sumN (fun (j : Nat) => if act Y k (y0 + j) then sg Y k * K X Y c k (y0 + j) else 0) m = sumN (fun (j : Nat) => (fun (i : Nat) => Fq (X k) (c k) (Y k) (Y (k + 1)) (y0 + i)) (j + 1) - (fun (i : Nat) => Fq (X k) (c k) (Y k) (Y (k + 1)) (y0 + i)) j) m := by
      refine sumN_congr fun j hj => ?_
      have := Fq_step (X k) (c k) (Y k) (Y (k + 1)) (y0 + j) u
      show _ = Fq _ _ _ _ (y0 + ((j + 1 : Nat) : Int)) - Fq _ _ _ _ (y0 + j)
      rw [show y0 + ((j + 1 : Nat) : Int) = y0 + j + 1 by omega, this]
      by_cases a : Y k ≤ y0 + j ∧ y0 + j < Y (k + 1)
      · rw [if_pos a, if_pos (show act Y k (y0 + j) from .inl a), hs]
        unfold K V
        grind
      · rw [if_neg a, if_neg (show ¬ act Y k (y0 + j) by unfold act; omega)]
    refine e1.trans ((sumN_tele (fun (i : Nat) => Fq (X k) (c k) (Y k) (Y (k + 1)) (y0 + i)) m).trans ?_)
    show Fq _ _ _ _ (y0 + m) - Fq _ _ _ _ (y0 + ((0 : Nat) : Int)) = _
    rw [Fq_hi _ _ _ _ _ u b4, Fq_lo _ _ _ _ _ (by simpa using b1)]
    grind
  · have hs : sg Y k = -1 := if_neg u
    unfold up at u
    have u' : Y (k + 1) < Y k := by omega
    have e1 : sumN (fun (j : Nat) => if act Y k (y0 + j) then sg Y k * K X Y c k (y0 + j) else 0) m = sumN (fun (j : Nat) => (fun (i : Nat) => - Fq (X (k + 1)) (c k) (Y (k + 1)) (Y k) (y0 + i)) (j + 1) - (fun (i : Nat) => - Fq (X (k + 1)) (c k) (Y (k + 1)) (Y k) (y0 + i)) j) m := by
      refine sumN_congr fun j hj => ?_
      have := Fq_step (X (k + 1)) (c k) (Y (k + 1)) (Y k) (y0 + j) u'
      show _ = - Fq _ _ _ _ (y0 + ((j + 1 : Nat) : Int)) - - Fq _ _ _ _ (y0 + j)
      rw [show y0 + ((j + 1 : Nat) : Int) = y0 + j + 1 by omega]
      by_cases a : Y (k + 1) ≤ y0 + j ∧ y0 + j < Y k
      · rw [if_pos a] at this
        rw [if_pos (show act Y k (y0 + j) from .inr a), hs]
        unfold K V
        grind
      · rw [if_neg a] at this
        rw [if_neg (show ¬ act Y k (y0 + j) by unfold act; omega)]
        omega
    refine e1.trans ((sumN_tele (fun (i : Nat) => - Fq (X (k + 1)) (c k) (Y (k + 1)) (Y k) (y0 + i)) m).trans ?_)
    show - Fq _ _ _ _ (y0 + m) - - Fq _ _ _ _ (y0 + ((0 : Nat) : Int)) = _
    rw [Fq_hi _ _ _ _ _ u' b3, Fq_lo _ _ _ _ _ (by simpa using b2)]
    grind
/-- A number, threshold by threshold. -/
theorem thresh (s z : Int) (h0 : 0 ≤ z) : ∀ M : Nat, sumN (fun (t : Nat) => if (t : Int) < z then s else 0) M = s * (if z ≤ M then z else M)
  | 0 => by
    show (0 : Int) = _
    split
    · have : z = 0 := by omega
      rw [this]; simp
    · simp
  | M + 1 => by
    show sumN _ M + (if (M : Int) < z then s else 0) = _
    rw [thresh s z h0 M]
    by_cases h1 : z ≤ M
    · rw [if_pos h1, if_neg (by omega), if_pos (by omega)]; omega
    · rw [if_neg h1, if_pos (by omega)]
      by_cases h2 : z = M + 1
      · rw [if_pos (by omega), h2]; grind
      · rw [if_neg (by omega)]; grind
/-- A ring whose area is above zero has the number 1. -/
theorem S_one {n : Nat} (p : Poly X Y c n) (y0 : Int) (m M : Nat) (hr : ∀ k, k ≤ n → y0 ≤ Y k ∧ Y k ≤ y0 + m) (hK : ∀ k, k < n → ∀ y, act Y k y → 0 ≤ K X Y c k y ∧ K X Y c k y ≤ M)
    (ha : 0 < sumN (fun k => (X k + X (k + 1)) * (Y (k + 1) - Y k)) n) : S X Y c n 0 (fs Y 0) = 1 := by
  rcases S_01 p with h | h
  · exfalso
    have e1 : sumN (fun k => (X k + X (k + 1)) * (Y (k + 1) - Y k)) n = sumN (fun k => sumN (fun (j : Nat) => if act Y k (y0 + j) then sg Y k * K X Y c k (y0 + j) else 0) m) n :=
      sumN_congr fun k hk => (strips p hk y0 m (hr k (by omega)).1 (hr (k + 1) (by omega)).1 (hr k (by omega)).2 (hr (k + 1) (by omega)).2).symm
    rw [e1, sumN_swap] at ha
    have e2 : sumN (fun (j : Nat) => sumN (fun k => if act Y k (y0 + j) then sg Y k * K X Y c k (y0 + j) else 0) n) m ≤ sumN (fun _ => 0) m := by
      refine sumN_le fun j hj => ?_
      have e3 : sumN (fun k => if act Y k (y0 + j) then sg Y k * K X Y c k (y0 + j) else 0) n = sumN (fun k => sumN (fun (t : Nat) => if act Y k (y0 + j) ∧ (t : Int) < K X Y c k (y0 + j) then sg Y k else 0) M) n := by
        refine sumN_congr fun k hk => ?_
        by_cases a : act Y k (y0 + j)
        · obtain ⟨k0, k1⟩ := hK k hk _ a
          have := thresh (sg Y k) (K X Y c k (y0 + j)) k0 M
          rw [if_pos k1] at this
          simp only [a, true_and, if_true]
          exact this.symm
        · simp only [a, false_and, if_false]
          exact (sumN_zero M).symm
      rw [e3, sumN_swap]
      have e4 : sumN (fun (t : Nat) => sumN (fun k => if act Y k (y0 + j) ∧ (t : Int) < K X Y c k (y0 + j) then sg Y k else 0) n) M ≤ sumN (fun _ => 0) M := by
        refine sumN_le fun t ht => ?_
        have := sm_kind p (y := y0 + j) (fun k => (t : Int) < K X Y c k (y0 + j)) (fun e k _ _ _ _ h1 h2 => by omega)
        simp only [sm] at this
        have h3 : S X Y c n 0 (fs Y 0) = 0 := h
        omega
      rw [sumN_zero] at e4
      exact e4
    rw [sumN_zero] at e2
    omega
  · exact h
/-- Right of any threshold: 0 or 1. -/
theorem kind_01 {n : Nat} (p : Poly X Y c n) (hS : S X Y c n 0 (fs Y 0) = 1) {y : Int} (P : Nat → Prop) [DecidablePred P] (hup : ∀ e k, e < n → k < n → act Y e y → act Y k y → P e → K X Y c e y ≤ K X Y c k y → P k) :
    sm Y n y P = 0 ∨ sm Y n y P = 1 := by
  have := sm_kind p P hup
  omega
/-- A point that no edge goes through: 0 or 1 to its right. -/
theorem cut_01 {n : Nat} (p : Poly X Y c n) (hS : S X Y c n 0 (fs Y 0) = 1) (X0 y : Int) : sm Y n y (fun k => X0 < V X Y c k y) = 0 ∨ sm Y n y (fun k => X0 < V X Y c k y) = 1 := by
  refine kind_01 p hS _ fun e k he hk ae ak h1 h2 => ?_
  by_cases hek : e = k
  · subst hek; exact h1
  · have g1 := p.h1 k e y hk he (Ne.symm hek) ak ae
    unfold K at h2
    omega
end
end WindT
end Go.Proofs.YtglnklfhgdjccaaGreat
namespace Go.Proofs.YtglnklfhgdjccaaGreat
theorem sign_mul {x k D z : Int} (hk : 0 < k) (hD : 0 < D) (e : x * k = D * z) : (0 < x ↔ 0 < z) ∧ (x < 0 ↔ z < 0) ∧ (x = 0 ↔ z = 0) := by
  have p1 : 0 < x → 0 < x * k := fun h => Int.mul_pos h hk
  have p2 : x < 0 → x * k < 0 := fun h => Int.mul_neg_of_neg_of_pos h hk
  have p3 : x = 0 → x * k = 0 := fun h => by rw [h, Int.zero_mul]
  have q1 : 0 < z → 0 < D * z := fun h => Int.mul_pos hD h
  have q2 : z < 0 → D * z < 0 := fun h => Int.mul_neg_of_pos_of_neg hD h
  have q3 : z = 0 → D * z = 0 := fun h => by rw [h, Int.mul_zero]
  rw [e] at p1 p2 p3
  generalize D * z = v at *
  clear e
  omega
/-- The map: no edge is level, all slopes are whole. -/
def TX (al be : Int) (p : Pt) : Int := al * p.x + be
def TY (N : Int) (p : Pt) : Int := N * p.y - p.x
theorem cr_map (al be N s : Int) (c d p : Pt) (hs : TX al be d - TX al be c = s * (TY N d - TY N c)) : cr c d p * (al * N) = (TY N d - TY N c) * (TX al be c + s * (TY N p - TY N c) - TX al be p) := by
  have e : (TY N d - TY N c) * (TX al be c + s * (TY N p - TY N c) - TX al be p) = (s * (TY N d - TY N c)) * (TY N p - TY N c) - (TY N d - TY N c) * (TX al be p - TX al be c) := by grind
  rw [e, ← hs]
  unfold cr TX TY
  grind
theorem onB_map {al be N s : Int} (hal : 0 < al) (hN : 0 < N) {c d p : Pt} (hs : TX al be d - TX al be c = s * (TY N d - TY N c)) (h1 : TY N c ≤ TY N p) (h2 : TY N p ≤ TY N d) (h3 : TY N c < TY N d) (hv : TX al be c + s * (TY N p - TY N c) = TX al be p) : onB c d p = true := by
  have hcr := (sign_mul (Int.mul_pos hal hN) (by omega : 0 < TY N d - TY N c) (cr_map al be N s c d p hs)).2.2.2 (by omega)
  rw [onB_iff]
  refine ⟨hcr, ?_, ?_⟩
  · have e1 : al * (p.x - c.x) = s * (TY N p - TY N c) := by unfold TX at hv; grind
    have e2 : al * (d.x - p.x) = s * (TY N d - TY N p) := by unfold TX at hv hs; grind
    rcases (by omega : s < 0 ∨ 0 ≤ s) with g | g
    · have k1 := Int.mul_nonpos_of_nonpos_of_nonneg (Int.le_of_lt g) (by omega : 0 ≤ TY N p - TY N c)
      have k2 := Int.mul_nonpos_of_nonpos_of_nonneg (Int.le_of_lt g) (by omega : 0 ≤ TY N d - TY N p)
      rw [← e1] at k1
      rw [← e2] at k2
      have j1 : ¬ 0 < p.x - c.x := fun h => by have := Int.mul_pos hal h; omega
      have j2 : ¬ 0 < d.x - p.x := fun h => by have := Int.mul_pos hal h; omega
      omega
    · have k1 := Int.mul_nonneg g (by omega : 0 ≤ TY N p - TY N c)
      have k2 := Int.mul_nonneg g (by omega : 0 ≤ TY N d - TY N p)
      rw [← e1] at k1
      rw [← e2] at k2
      have j1 : ¬ p.x - c.x < 0 := fun h => by have := Int.mul_neg_of_pos_of_neg hal h; omega
      have j2 : ¬ d.x - p.x < 0 := fun h => by have := Int.mul_neg_of_pos_of_neg hal h; omega
      omega
  · have e1 : al * N * (p.y - c.y) = (al + s) * (TY N p - TY N c) := by unfold TX at hv; unfold TY at *; grind
    have e2 : al * N * (d.y - p.y) = (al + s) * (TY N d - TY N p) := by unfold TX at hv hs; unfold TY at *; grind
    have hk := Int.mul_pos hal hN
    rcases (by omega : al + s < 0 ∨ 0 ≤ al + s) with g | g
    · have k1 := Int.mul_nonpos_of_nonpos_of_nonneg (Int.le_of_lt g) (by omega : 0 ≤ TY N p - TY N c)
      have k2 := Int.mul_nonpos_of_nonpos_of_nonneg (Int.le_of_lt g) (by omega : 0 ≤ TY N d - TY N p)
      rw [← e1] at k1
      rw [← e2] at k2
      have j1 : ¬ 0 < p.y - c.y := fun h => by have := Int.mul_pos hk h; omega
      have j2 : ¬ 0 < d.y - p.y := fun h => by have := Int.mul_pos hk h; omega
      omega
    · have k1 := Int.mul_nonneg g (by omega : 0 ≤ TY N p - TY N c)
      have k2 := Int.mul_nonneg g (by omega : 0 ≤ TY N d - TY N p)
      rw [← e1] at k1
      rw [← e2] at k2
      have j1 : ¬ p.y - c.y < 0 := fun h => by have := Int.mul_neg_of_pos_of_neg hk h; omega
      have j2 : ¬ d.y - p.y < 0 := fun h => by have := Int.mul_neg_of_pos_of_neg hk h; omega
      omega
/-- Two edges that go up in the map and are level with each other at a height meet. -/
theorem touch_at {al be N s r : Int} (hal : 0 < al) (hN : 0 < N) {a b c d : Pt} (hs : TX al be b - TX al be a = s * (TY N b - TY N a)) (hr : TX al be d - TX al be c = r * (TY N d - TY N c)) (u1 : TY N a < TY N b) (u2 : TY N c < TY N d) {y : Int}
    (y1 : TY N a ≤ y) (y2 : y ≤ TY N b) (y3 : TY N c ≤ y) (y4 : y ≤ TY N d) (hv : TX al be a + s * (y - TY N a) = TX al be c + r * (y - TY N c)) : Touch a b c d := by
  have hk := Int.mul_pos hal hN
  -- the parting at any height
  have dl : ∀ h, (TX al be a + s * (h - TY N a)) - (TX al be c + r * (h - TY N c)) = (s - r) * (h - y) := fun h => by grind
  have ea : TX al be c + r * (TY N a - TY N c) - TX al be a = - ((s - r) * (TY N a - y)) := by have := dl (TY N a); grind
  have eb : TX al be c + r * (TY N b - TY N c) - TX al be b = - ((s - r) * (TY N b - y)) := by have := dl (TY N b); grind
  have ec : TX al be a + s * (TY N c - TY N a) - TX al be c = (s - r) * (TY N c - y) := by have := dl (TY N c); grind
  have ed : TX al be a + s * (TY N d - TY N a) - TX al be d = (s - r) * (TY N d - y) := by have := dl (TY N d); grind
  have ca := sign_mul hk (by omega : 0 < TY N d - TY N c) (cr_map al be N r c d a hr)
  have cb := sign_mul hk (by omega : 0 < TY N d - TY N c) (cr_map al be N r c d b hr)
  have cc := sign_mul hk (by omega : 0 < TY N b - TY N a) (cr_map al be N s a b c hs)
  have cd := sign_mul hk (by omega : 0 < TY N b - TY N a) (cr_map al be N s a b d hs)
  rw [ea] at ca
  rw [eb] at cb
  rw [ec] at cc
  rw [ed] at cd
  by_cases k1 : TY N a = y
  · exact .inl (onB_map hal hN hr (by omega) (by omega) u2 (by rw [k1] at ea ⊢; rw [Int.sub_self, Int.mul_zero] at ea; omega))
  by_cases k2 : TY N b = y
  · exact .inr (.inl (onB_map hal hN hr (by omega) (by omega) u2 (by rw [k2] at eb ⊢; rw [Int.sub_self, Int.mul_zero] at eb; omega)))
  by_cases k3 : TY N c = y
  · exact .inr (.inr (.inl (onB_map hal hN hs (by omega) (by omega) u1 (by rw [k3] at ec ⊢; rw [Int.sub_self, Int.mul_zero] at ec; omega))))
  by_cases k4 : TY N d = y
  · exact .inr (.inr (.inr (.inl (onB_map hal hN hs (by omega) (by omega) u1 (by rw [k4] at ed ⊢; rw [Int.sub_self, Int.mul_zero] at ed; omega)))))
  rcases (by omega : s - r = 0 ∨ 0 < s - r ∨ s - r < 0) with g | g | g
  · rw [g] at ea ec
    rw [Int.zero_mul] at ea ec
    by_cases k5 : TY N c ≤ TY N a
    · exact .inl (onB_map hal hN hr k5 (by omega) u2 (by omega))
    · exact .inr (.inr (.inl (onB_map hal hN hs (by omega) (by omega) u1 (by omega))))
  · have m1 := Int.mul_neg_of_pos_of_neg g (by omega : TY N a - y < 0)
    have m2 := Int.mul_pos g (by omega : 0 < TY N b - y)
    have m3 := Int.mul_neg_of_pos_of_neg g (by omega : TY N c - y < 0)
    have m4 := Int.mul_pos g (by omega : 0 < TY N d - y)
    refine .inr (.inr (.inr (.inr ?_)))
    rw [prB_iff]
    have := ca.1.2 (by omega)
    have := cb.2.1.2 (by omega)
    have := cc.2.1.2 m3
    have := cd.1.2 m4
    omega
  · have m1 := Int.mul_pos_of_neg_of_neg g (by omega : TY N a - y < 0)
    have m2 := Int.mul_neg_of_neg_of_pos g (by omega : 0 < TY N b - y)
    have m3 := Int.mul_pos_of_neg_of_neg g (by omega : TY N c - y < 0)
    have m4 := Int.mul_neg_of_neg_of_pos g (by omega : 0 < TY N d - y)
    refine .inr (.inr (.inr (.inr ?_)))
    rw [prB_iff]
    have := ca.2.1.2 (by omega)
    have := cb.1.2 (by omega)
    have := cc.1.2 m3
    have := cd.2.1.2 m4
    omega
/-- Two edges that go up in the map and part the one way at the foot of a strip and the other way at its head: crossed properly. -/
theorem cross_at {al be N s r : Int} (hal : 0 < al) (hN : 0 < N) {a b c d : Pt} (hs : TX al be b - TX al be a = s * (TY N b - TY N a)) (hr : TX al be d - TX al be c = r * (TY N d - TY N c)) {y : Int}
    (y1 : TY N a ≤ y) (y2 : y + 1 ≤ TY N b) (y3 : TY N c ≤ y) (y4 : y + 1 ≤ TY N d) (hv : TX al be a + s * (y - TY N a) < TX al be c + r * (y - TY N c)) (hw : TX al be c + r * (y + 1 - TY N c) < TX al be a + s * (y + 1 - TY N a)) : prB a b c d = true := by
  have hk := Int.mul_pos hal hN
  obtain ⟨u, hu⟩ : ∃ u, u = (TX al be a + s * (y - TY N a)) - (TX al be c + r * (y - TY N c)) := ⟨_, rfl⟩
  have dl : ∀ h, (TX al be a + s * (h - TY N a)) - (TX al be c + r * (h - TY N c)) = (s - r) * (h - y) + u := fun h => by grind
  have h1 := dl (y + 1)
  rw [show y + 1 - y = 1 by omega, Int.mul_one] at h1
  have g : 0 < s - r := by omega
  have ea : TX al be c + r * (TY N a - TY N c) - TX al be a = - ((s - r) * (TY N a - y) + u) := by have := dl (TY N a); grind
  have eb : TX al be c + r * (TY N b - TY N c) - TX al be b = - ((s - r) * (TY N b - (y + 1)) + (s - r) + u) := by have := dl (TY N b); grind
  have ec : TX al be a + s * (TY N c - TY N a) - TX al be c = (s - r) * (TY N c - y) + u := by have := dl (TY N c); grind
  have ed : TX al be a + s * (TY N d - TY N a) - TX al be d = (s - r) * (TY N d - (y + 1)) + (s - r) + u := by have := dl (TY N d); grind
  have ca := sign_mul hk (by omega : 0 < TY N d - TY N c) (cr_map al be N r c d a hr)
  have cb := sign_mul hk (by omega : 0 < TY N d - TY N c) (cr_map al be N r c d b hr)
  have cc := sign_mul hk (by omega : 0 < TY N b - TY N a) (cr_map al be N s a b c hs)
  have cd := sign_mul hk (by omega : 0 < TY N b - TY N a) (cr_map al be N s a b d hs)
  rw [ea] at ca
  rw [eb] at cb
  rw [ec] at cc
  rw [ed] at cd
  have m1 := Int.mul_nonpos_of_nonneg_of_nonpos (Int.le_of_lt g) (by omega : TY N a - y ≤ 0)
  have m2 := Int.mul_nonneg (Int.le_of_lt g) (by omega : 0 ≤ TY N b - (y + 1))
  have m3 := Int.mul_nonpos_of_nonneg_of_nonpos (Int.le_of_lt g) (by omega : TY N c - y ≤ 0)
  have m4 := Int.mul_nonneg (Int.le_of_lt g) (by omega : 0 ≤ TY N d - (y + 1))
  rw [prB_iff]
  have := ca.1.2 (by omega)
  have := cb.2.1.2 (by omega)
  have := cc.2.1.2 (by omega)
  have := cd.1.2 (by omega)
  omega
end Go.Proofs.YtglnklfhgdjccaaGreat
namespace Go.Proofs.YtglnklfhgdjccaaGreat
theorem touch_s1 {a b c d : Pt} (h : Touch b a c d) : Touch a b c d := by
  unfold Touch at *
  rw [onB_swap b a c, onB_swap b a d, prB_swap1] at h
  rcases h with h | h | h | h | h
  · exact .inr (.inl h)
  · exact .inl h
  · exact .inr (.inr (.inl h))
  · exact .inr (.inr (.inr (.inl h)))
  · exact .inr (.inr (.inr (.inr h)))
theorem touch_c {a b c d : Pt} (h : Touch c d a b) : Touch a b c d := by
  unfold Touch at *
  rw [prB_comm] at h
  rcases h with h | h | h | h | h
  · exact .inr (.inr (.inl h))
  · exact .inr (.inr (.inr (.inl h)))
  · exact .inl h
  · exact .inr (.inl h)
  · exact .inr (.inr (.inr (.inr h)))
theorem touch_s2 {a b c d : Pt} (h : Touch a b d c) : Touch a b c d := touch_c (touch_s1 (touch_c h))
theorem turn_line {al be N s : Int} {a b : Pt} (hs : TX al be b - TX al be a = s * (TY N b - TY N a)) (h : Int) : TX al be a - TX al be b = s * (TY N a - TY N b) ∧ TX al be b + s * (h - TY N b) = TX al be a + s * (h - TY N a) := by
  constructor
  · grind
  · have : TX al be b = TX al be a + s * (TY N b - TY N a) := by omega
    rw [this]
    grind
theorem touchT_any {al be N s r : Int} (hal : 0 < al) (hN : 0 < N) {a b c d : Pt} (hs : TX al be b - TX al be a = s * (TY N b - TY N a)) (hr : TX al be d - TX al be c = r * (TY N d - TY N c)) (n1 : TY N b ≠ TY N a) (n2 : TY N d ≠ TY N c) {y : Int}
    (o1 : (TY N a ≤ y ∧ y ≤ TY N b) ∨ (TY N b ≤ y ∧ y ≤ TY N a)) (o2 : (TY N c ≤ y ∧ y ≤ TY N d) ∨ (TY N d ≤ y ∧ y ≤ TY N c)) (hv : TX al be a + s * (y - TY N a) = TX al be c + r * (y - TY N c)) : Touch a b c d := by
  obtain ⟨t1, t2⟩ := turn_line hs y
  obtain ⟨t3, t4⟩ := turn_line hr y
  by_cases u1 : TY N a < TY N b <;> by_cases u2 : TY N c < TY N d
  · exact touch_at hal hN hs hr u1 u2 (by omega) (by omega) (by omega) (by omega) hv
  · exact touch_s2 (touch_at hal hN hs t3 (y := y) u1 (by omega) (by omega) (by omega) (by omega) (by omega) (by rw [t4]; exact hv))
  · exact touch_s1 (touch_at hal hN t1 hr (y := y) (by omega) u2 (by omega) (by omega) (by omega) (by omega) (by rw [t2]; exact hv))
  · exact touch_s1 (touch_s2 (touch_at hal hN t1 t3 (y := y) (by omega) (by omega) (by omega) (by omega) (by omega) (by omega) (by rw [t2, t4]; exact hv)))
theorem crossT_any {al be N s r : Int} (hal : 0 < al) (hN : 0 < N) {a b c d : Pt} (hs : TX al be b - TX al be a = s * (TY N b - TY N a)) (hr : TX al be d - TX al be c = r * (TY N d - TY N c)) {y : Int}
    (o1 : (TY N a ≤ y ∧ y < TY N b) ∨ (TY N b ≤ y ∧ y < TY N a)) (o2 : (TY N c ≤ y ∧ y < TY N d) ∨ (TY N d ≤ y ∧ y < TY N c)) (hv : TX al be a + s * (y - TY N a) < TX al be c + r * (y - TY N c)) (hw : TX al be c + r * (y + 1 - TY N c) < TX al be a + s * (y + 1 - TY N a)) : Touch a b c d := by
  obtain ⟨t1, t2⟩ := turn_line hs y
  obtain ⟨t3, t4⟩ := turn_line hr y
  obtain ⟨-, t5⟩ := turn_line hs (y + 1)
  obtain ⟨-, t6⟩ := turn_line hr (y + 1)
  have pr : ∀ {a b c d : Pt}, prB a b c d = true → Touch a b c d := fun h => .inr (.inr (.inr (.inr h)))
  rcases o1 with o1 | o1 <;> rcases o2 with o2 | o2
  · exact pr (cross_at hal hN hs hr (by omega) (by omega) (by omega) (by omega) hv hw)
  · exact touch_s2 (pr (cross_at hal hN hs t3 (y := y) (by omega) (by omega) (by omega) (by omega) (by rw [t4]; exact hv) (by rw [t6]; exact hw)))
  · exact touch_s1 (pr (cross_at hal hN t1 hr (y := y) (by omega) (by omega) (by omega) (by omega) (by rw [t2]; exact hv) (by rw [t5]; exact hw)))
  · exact touch_s1 (touch_s2 (pr (cross_at hal hN t1 t3 (y := y) (by omega) (by omega) (by omega) (by omega) (by rw [t2, t4]; exact hv) (by rw [t5, t6]; exact hw))))
/-- A multiple of all heights. -/
theorem mult_of (f : Nat → Int) : ∀ n, (∀ k, k < n → f k ≠ 0) → ∃ D : Int, 0 < D ∧ ∀ k, k < n → f k ∣ D
  | 0, _ => ⟨1, by omega, fun k hk => absurd hk (by omega)⟩
  | n + 1, h => by
    obtain ⟨D, h1, h2⟩ := mult_of f n (fun k hk => h k (by omega))
    have hn := h n (by omega)
    refine ⟨D * (f n).natAbs, Int.mul_pos h1 (by omega), fun k hk => ?_⟩
    by_cases hkn : k = n
    · subst hkn
      exact Int.dvd_trans (Int.dvd_natAbs.2 (Int.dvd_refl _)) (Int.dvd_mul_left _ _)
    · exact Int.dvd_trans (h2 k (by omega)) (Int.dvd_mul_right _ _)
theorem TY_inj {N B : Int} (hN : 2 * B < N) {p q : Pt} (hp : -B ≤ p.x ∧ p.x ≤ B) (hq : -B ≤ q.x ∧ q.x ≤ B) (h : TY N p = TY N q) : p = q := by
  unfold TY at h
  have e : N * (p.y - q.y) = p.x - q.x := by grind
  have hy : p.y = q.y := by
    rcases Int.lt_trichotomy (p.y - q.y) 0 with g | g | g
    · have := Int.mul_le_mul_of_nonneg_left (show p.y - q.y ≤ -1 by omega) (show 0 ≤ N by omega)
      omega
    · omega
    · have := Int.mul_le_mul_of_nonneg_left (show 1 ≤ p.y - q.y by omega) (show 0 ≤ N by omega)
      omega
  have hx : p.x = q.x := by rw [hy, Int.sub_self, Int.mul_zero] at e; omega
  cases p; cases q
  simp_all
/-- The edges of a ring, and when it is simple: neighbours meet at the corner that they share alone, others do not meet. -/
structure SimpleT (zs : List Pt) : Prop where
  n3 : 3 ≤ zs.length
  ne : ∀ i j, i < zs.length → j < zs.length → i ≠ j → ptAt zs i ≠ ptAt zs j
  far : ∀ i j, i < zs.length → j < zs.length → i ≠ j → j ≠ (i + 1) % zs.length → i ≠ (j + 1) % zs.length → ¬ Touch (ptAt zs i) (ptAt zs ((i + 1) % zs.length)) (ptAt zs j) (ptAt zs ((j + 1) % zs.length))
  near : ∀ i, i < zs.length → onB (ptAt zs ((i + 1) % zs.length)) (ptAt zs ((i + 1 + 1) % zs.length)) (ptAt zs i) = false ∧ onB (ptAt zs i) (ptAt zs ((i + 1) % zs.length)) (ptAt zs ((i + 1 + 1) % zs.length)) = false
def PX (al be : Int) (zs : List Pt) (k : Nat) : Int := TX al be (ptAt zs (k % zs.length))
def PY (N : Int) (zs : List Pt) (k : Nat) : Int := TY N (ptAt zs (k % zs.length))
def PC (al be N : Int) (zs : List Pt) (k : Nat) : Int := (PX al be zs (k + 1) - PX al be zs k) / (PY N zs (k + 1) - PY N zs k)
/-- Neighbours that are level with each other at a height are so at the corner that they share. -/
theorem near_only {al be N s r : Int} (hal : 0 < al) (hN : 0 < N) {a b d : Pt} (hs : TX al be b - TX al be a = s * (TY N b - TY N a)) (hr : TX al be d - TX al be b = r * (TY N d - TY N b)) {y : Int}
    (o1 : (TY N a ≤ y ∧ y ≤ TY N b) ∨ (TY N b ≤ y ∧ y ≤ TY N a)) (o2 : (TY N b ≤ y ∧ y ≤ TY N d) ∨ (TY N d ≤ y ∧ y ≤ TY N b)) (hv : TX al be a + s * (y - TY N a) = TX al be b + r * (y - TY N b)) (f1 : onB b d a = false) (f2 : onB a b d = false) : y = TY N b := by
  obtain ⟨t1, t2⟩ := turn_line hs y
  rw [← t2] at hv
  by_cases hy : y = TY N b
  · exact hy
  exfalso
  have e : (s - r) * (y - TY N b) = 0 := by grind
  have hsr : s = r := by
    rcases Int.mul_eq_zero.1 e with h | h
    · omega
    · omega
  subst hsr
  obtain ⟨t3, t4⟩ := turn_line hr (TY N a)
  obtain ⟨-, t5⟩ := turn_line hr (TY N d)
  rcases (by omega : (TY N b < y) ∨ (y < TY N b)) with g | g
  · by_cases h : TY N a ≤ TY N d
    · have := onB_map hal hN hr (p := a) (by omega) h (by omega) (by grind)
      rw [f1] at this; cases this
    · have := onB_map hal hN t1 (p := d) (by omega) (by omega) (by omega) (by grind)
      rw [onB_swap, f2] at this; cases this
  · by_cases h : TY N d ≤ TY N a
    · have := onB_map hal hN t3 (p := a) h (by omega) (by omega) (by grind)
      rw [onB_swap, f1] at this; cases this
    · have := onB_map hal hN hs (p := d) (by omega) (by omega) (by omega) (by grind)
      rw [f2] at this; cases this
theorem mod_nx {n i : Nat} (hi : i < n) : (i + 1) % n = if i + 1 = n then 0 else i + 1 := by
  split
  · rename_i h; rw [h, Nat.mod_self]
  · rw [Nat.mod_eq_of_lt (by omega)]
/-- Two lines that part the one way at y and the other way at y + 1 are level nowhere else at a whole height. -/
theorem no_level {x1 s y1 x2 r y2 y b : Int} (h1 : x1 + s * (y - y1) < x2 + r * (y - y2)) (h2 : x2 + r * (y + 1 - y2) < x1 + s * (y + 1 - y1)) (hb : x1 + s * (b - y1) = x2 + r * (b - y2)) : False := by
  obtain ⟨u, hu⟩ : ∃ u, u = (x1 + s * (y - y1)) - (x2 + r * (y - y2)) := ⟨_, rfl⟩
  have dl : ∀ h, (x1 + s * (h - y1)) - (x2 + r * (h - y2)) = (s - r) * (h - y) + u := fun h => by grind
  have k1 := dl (y + 1)
  rw [show y + 1 - y = 1 by omega, Int.mul_one] at k1
  have k2 := dl b
  have g : 0 < s - r := by omega
  rcases (by omega : b ≤ y ∨ y + 1 ≤ b) with h | h
  · have := Int.mul_nonpos_of_nonneg_of_nonpos (Int.le_of_lt g) (by omega : b - y ≤ 0)
    omega
  · have := Int.mul_nonneg (Int.le_of_lt g) (by omega : 0 ≤ b - (y + 1))
    have e : (s - r) * (b - y) = (s - r) * (b - (y + 1)) + (s - r) := by grind
    omega
theorem poly_of {zs : List Pt} (h : SimpleT zs) {B N al be : Int} (hB : ∀ i, i < zs.length → -B ≤ (ptAt zs i).x ∧ (ptAt zs i).x ≤ B) (hN : 2 * B < N) (hN0 : 0 < N) (hal : 0 < al) (hdv : ∀ k, k < zs.length → (PY N zs (k + 1) - PY N zs k) ∣ al) :
    WindT.Poly (PX al be zs) (PY N zs) (PC al be N zs) zs.length := by
  have hn := h.n3
  have hmod : ∀ k, k < zs.length → k % zs.length = k := fun k hk => Nat.mod_eq_of_lt hk
  have hnlt : ∀ k, (k + 1) % zs.length < zs.length := fun k => Nat.mod_lt _ (by omega)
  have ne : ∀ k, k < zs.length → PY N zs (k + 1) ≠ PY N zs k := fun k hk e => by
    unfold PY at e
    rw [hmod k hk] at e
    have := TY_inj hN (hB _ (hnlt k)) (hB _ hk) e
    refine h.ne _ _ (hnlt k) hk ?_ this
    rw [mod_nx hk]
    split <;> omega
  have sl : ∀ k, k < zs.length → PX al be zs (k + 1) - PX al be zs k = PC al be N zs k * (PY N zs (k + 1) - PY N zs k) := fun k hk => by
    unfold PC
    refine (Int.ediv_mul_cancel ?_).symm
    have e : PX al be zs (k + 1) - PX al be zs k = al * ((ptAt zs ((k + 1) % zs.length)).x - (ptAt zs (k % zs.length)).x) := by
      unfold PX TX
      grind
    rw [e]
    exact Int.dvd_trans (hdv k hk) (Int.dvd_mul_right _ _)
  have clX : PX al be zs zs.length = PX al be zs 0 := by unfold PX; rw [Nat.mod_self, Nat.zero_mod]
  have clY : PY N zs zs.length = PY N zs 0 := by unfold PY; rw [Nat.mod_self, Nat.zero_mod]
  -- the edges in words of the map
  have sl' : ∀ k, k < zs.length → TX al be (ptAt zs ((k + 1) % zs.length)) - TX al be (ptAt zs k) = PC al be N zs k * (TY N (ptAt zs ((k + 1) % zs.length)) - TY N (ptAt zs k)) := fun k hk => by
    have := sl k hk
    unfold PX PY at this
    rw [hmod k hk] at this
    exact this
  have ne' : ∀ k, k < zs.length → TY N (ptAt zs ((k + 1) % zs.length)) ≠ TY N (ptAt zs k) := fun k hk => by
    have := ne k hk
    unfold PY at this
    rw [hmod k hk] at this
    exact this
  have vv : ∀ k, k < zs.length → ∀ y, WindT.V (PX al be zs) (PY N zs) (PC al be N zs) k y = TX al be (ptAt zs k) + PC al be N zs k * (y - TY N (ptAt zs k)) := fun k hk y => by
    unfold WindT.V PX PY
    rw [hmod k hk]
  have level : ∀ k, k < zs.length → TX al be (ptAt zs k) + PC al be N zs k * (TY N (ptAt zs ((k + 1) % zs.length)) - TY N (ptAt zs k)) = TX al be (ptAt zs ((k + 1) % zs.length)) + PC al be N zs ((k + 1) % zs.length) * (TY N (ptAt zs ((k + 1) % zs.length)) - TY N (ptAt zs ((k + 1) % zs.length))) := fun k hk => by
    rw [← sl' k hk, Int.sub_self, Int.mul_zero]
    omega
  refine ⟨ne, sl, clX, clY, ?_, ?_, hn⟩
  · intro j k y hj hk hjk aj ak hv
    rw [vv j hj, vv k hk] at hv ⊢
    refine Int.not_lt.1 fun hw => ?_
    unfold WindT.act PY at aj ak
    rw [hmod j hj] at aj
    rw [hmod k hk] at ak
    by_cases c1 : k = (j + 1) % zs.length
    · have := level j hj
      rw [← c1] at this
      exact no_level hv hw this
    · by_cases c2 : j = (k + 1) % zs.length
      · have := level k hk
        rw [← c2] at this
        exact no_level hv hw this.symm
      · exact h.far j k hj hk hjk c1 c2 (crossT_any hal hN0 (sl' j hj) (sl' k hk) aj ak hv hw)
  · intro j k y hj hk hjk oj ok hv
    rw [vv j hj, vv k hk] at hv
    unfold WindT.onH PY at oj ok
    rw [hmod j hj] at oj
    rw [hmod k hk] at ok
    by_cases c1 : k = (j + 1) % zs.length
    · right
      have hs2 := sl' k hk
      have hnr := h.near j hj
      rw [show (j + 1 + 1) % zs.length = (k + 1) % zs.length by rw [c1, Nat.mod_add_mod]] at hnr
      rw [← c1] at hnr oj
      have hs1 := sl' j hj
      rw [← c1] at hs1
      have := near_only hal hN0 hs1 hs2 oj ok hv hnr.1 hnr.2
      refine ⟨by unfold PY; rw [hmod k hk]; exact this, ?_⟩
      rw [mod_nx hj] at c1
      split at c1 <;> omega
    · by_cases c2 : j = (k + 1) % zs.length
      · left
        have hs2 := sl' j hj
        have hnr := h.near k hk
        rw [show (k + 1 + 1) % zs.length = (j + 1) % zs.length by rw [c2, Nat.mod_add_mod]] at hnr
        rw [← c2] at hnr ok
        have hs1 := sl' k hk
        rw [← c2] at hs1
        have := near_only hal hN0 hs1 hs2 ok oj hv.symm hnr.1 hnr.2
        refine ⟨by unfold PY; rw [← c2]; exact this, ?_⟩
        rw [mod_nx hk] at c2
        split at c2 <;> omega
      · exact absurd (touchT_any hal hN0 (sl' j hj) (sl' k hk) (ne' j hj) (ne' k hk) oj ok hv) (h.far j k hj hk hjk c1 c2)
end Go.Proofs.YtglnklfhgdjccaaGreat
namespace Go.Proofs.YtglnklfhgdjccaaGreat
/-- An edge's share in the winding about a point. -/
def wE (a b q : Pt) : Int := if (a.y ≤ q.y ∧ q.y < b.y) ∧ 0 < cr a b q then 1 else if (b.y ≤ q.y ∧ q.y < a.y) ∧ 0 < cr b a q then -1 else 0
def wnd (zs : List Pt) (q : Pt) : Int := WindT.sumN (fun k => wE (ptAt zs k) (ptAt zs ((k + 1) % zs.length)) q) zs.length
theorem half_open {N B : Int} (hN : 2 * B < N) {a b q : Pt} (ha : -B ≤ a.x ∧ a.x ≤ B) (hb : -B ≤ b.x ∧ b.x ≤ B) (hq : -B ≤ q.x ∧ q.x ≤ B) (hc : 0 < cr a b q) : (TY N a ≤ TY N q ∧ TY N q < TY N b) ↔ (a.y ≤ q.y ∧ q.y < b.y) := by
  have hN0 : 0 ≤ N := by omega
  have big : ∀ {u v : Pt}, (-B ≤ u.x ∧ u.x ≤ B) → (-B ≤ v.x ∧ v.x ≤ B) → u.y < v.y → TY N u < TY N v := fun {u v} hu hv h => by
    unfold TY
    have := Int.mul_le_mul_of_nonneg_left (show u.y + 1 ≤ v.y by omega) hN0
    rw [Int.mul_add, Int.mul_one] at this
    omega
  have same : ∀ {u v : Pt}, u.y = v.y → (TY N u ≤ TY N v ↔ v.x ≤ u.x) := fun {u v} h => by unfold TY; rw [h]; omega
  have b1 := fun h => big ha hq h
  have b2 := fun h => big hq ha h
  have b3 := fun h => big hq hb h
  have b4 := fun h => big hb hq h
  have s1 := fun h => same (u := a) (v := q) h
  have s2 := fun h => same (u := b) (v := q) h
  constructor
  · intro ⟨h1, h2⟩
    have h3 : a.y ≤ q.y := by
      refine Int.not_lt.1 fun h => ?_
      have := b2 h; omega
    have h4 : q.y ≤ b.y := by
      refine Int.not_lt.1 fun h => ?_
      have := b4 h; omega
    refine ⟨h3, ?_⟩
    by_cases h5 : q.y = b.y
    · exfalso
      have h6 := s2 h5.symm
      have h7 : b.x < q.x := by omega
      have e : cr a b q = (b.y - a.y) * (b.x - q.x) := by unfold cr; rw [h5]; grind
      have := Int.mul_nonpos_of_nonneg_of_nonpos (by omega : 0 ≤ b.y - a.y) (by omega : b.x - q.x ≤ 0)
      omega
    · omega
  · intro ⟨h1, h2⟩
    refine ⟨?_, b3 h2⟩
    by_cases h5 : a.y = q.y
    · rw [s1 h5]
      refine Int.not_lt.1 fun h => ?_
      have e : cr a b q = - ((b.y - a.y) * (q.x - a.x)) := by unfold cr; rw [h5]; grind
      have := Int.mul_nonneg (by omega : 0 ≤ b.y - a.y) (by omega : 0 ≤ q.x - a.x)
      omega
    · have := b1 (by omega); omega
/-- In the map: the same share. -/
theorem wE_map {al be N B s : Int} (hal : 0 < al) (hN0 : 0 < N) (hN : 2 * B < N) {a b q : Pt} (ha : -B ≤ a.x ∧ a.x ≤ B) (hb : -B ≤ b.x ∧ b.x ≤ B) (hq : -B ≤ q.x ∧ q.x ≤ B) (hs : TX al be b - TX al be a = s * (TY N b - TY N a)) (hne : TY N b ≠ TY N a) :
    wE a b q = if ((TY N a ≤ TY N q ∧ TY N q < TY N b) ∨ (TY N b ≤ TY N q ∧ TY N q < TY N a)) ∧ TX al be q < TX al be a + s * (TY N q - TY N a) then (if TY N a < TY N b then 1 else -1) else 0 := by
  obtain ⟨t1, t2⟩ := turn_line hs (TY N q)
  have hk := Int.mul_pos hal hN0
  unfold wE
  by_cases u : TY N a < TY N b
  · have c1 := (sign_mul hk (by omega : 0 < TY N b - TY N a) (cr_map al be N s a b q hs)).1
    rw [if_pos u]
    have n2 : ¬ ((b.y ≤ q.y ∧ q.y < a.y) ∧ 0 < cr b a q) := fun ⟨h1, h2⟩ => by
      have := (half_open hN hb ha hq h2).2 h1
      omega
    rw [if_neg n2]
    by_cases h : 0 < cr a b q
    · have := half_open hN ha hb hq h
      have h3 := c1.1 h
      by_cases g : a.y ≤ q.y ∧ q.y < b.y
      · rw [if_pos ⟨g, h⟩, if_pos ⟨.inl (this.2 g), by omega⟩]
      · rw [if_neg (fun k => g k.1), if_neg (fun k => by
          rcases k.1 with k1 | k1
          · exact g (this.1 k1)
          · omega)]
    · rw [if_neg (fun k => h k.2), if_neg (fun k => h (c1.2 (by omega)))]
  · have u' : TY N b < TY N a := by omega
    have c1 := (sign_mul hk (by omega : 0 < TY N a - TY N b) (cr_map al be N s b a q t1)).1
    rw [t2] at c1
    rw [if_neg u]
    have n2 : ¬ ((a.y ≤ q.y ∧ q.y < b.y) ∧ 0 < cr a b q) := fun ⟨h1, h2⟩ => by
      have := (half_open hN ha hb hq h2).2 h1
      omega
    rw [if_neg n2]
    by_cases h : 0 < cr b a q
    · have := half_open hN hb ha hq h
      have h3 := c1.1 h
      by_cases g : b.y ≤ q.y ∧ q.y < a.y
      · rw [if_pos ⟨g, h⟩, if_pos ⟨.inr (this.2 g), by omega⟩]
      · rw [if_neg (fun k => g k.1), if_neg (fun k => by
          rcases k.1 with k1 | k1
          · omega
          · exact g (this.1 k1))]
    · rw [if_neg (fun k => h k.2), if_neg (fun k => h (c1.2 (by omega)))]
theorem wnd_map {zs : List Pt} {al be N B : Int} (p : WindT.Poly (PX al be zs) (PY N zs) (PC al be N zs) zs.length) (hal : 0 < al) (hN0 : 0 < N) (hN : 2 * B < N) (hB : ∀ i, i < zs.length → -B ≤ (ptAt zs i).x ∧ (ptAt zs i).x ≤ B) {q : Pt} (hq : -B ≤ q.x ∧ q.x ≤ B) :
    wnd zs q = WindT.sm (PY N zs) zs.length (TY N q) (fun k => TX al be q < WindT.V (PX al be zs) (PY N zs) (PC al be N zs) k (TY N q)) := by
  have hn := p.n3
  refine WindT.sumN_congr fun k hk => ?_
  have hmod : k % zs.length = k := Nat.mod_eq_of_lt hk
  have s1 := p.sl k hk
  have n1 := p.ne k hk
  have hlt : (k + 1) % zs.length < zs.length := Nat.mod_lt _ (by omega)
  show _ = if WindT.act (PY N zs) k (TY N q) ∧ TX al be q < WindT.V (PX al be zs) (PY N zs) (PC al be N zs) k (TY N q) then WindT.sg (PY N zs) k else 0
  have x1 : PX al be zs k = TX al be (ptAt zs k) := by unfold PX; rw [hmod]
  have y1 : PY N zs k = TY N (ptAt zs k) := by unfold PY; rw [hmod]
  have x2 : PX al be zs (k + 1) = TX al be (ptAt zs ((k + 1) % zs.length)) := rfl
  have y2 : PY N zs (k + 1) = TY N (ptAt zs ((k + 1) % zs.length)) := rfl
  rw [x1, x2, y1, y2] at s1
  rw [y1, y2] at n1
  have e := wE_map hal hN0 hN (hB k hk) (hB _ hlt) hq s1 n1
  rw [← x1, ← y1, ← y2] at e
  exact e
theorem sumL_range (f : Nat → Int) : ∀ n, sumL ((List.range n).map f) = WindT.sumN f n
  | 0 => rfl
  | n + 1 => by
    rw [List.range_succ, List.map_append, List.map_singleton]
    unfold sumL
    rw [List.foldl_append]
    show sumL ((List.range n).map f) + f n = WindT.sumN f n + f n
    rw [sumL_range f n]
theorem sumN_mul (z : Int) (f : Nat → Int) : ∀ n, WindT.sumN (fun k => z * f k) n = z * WindT.sumN f n
  | 0 => by show (0 : Int) = z * 0; rw [Int.mul_zero]
  | n + 1 => by
    show WindT.sumN _ n + z * f n = z * (WindT.sumN f n + f n)
    rw [sumN_mul z f n, Int.mul_add]
/-- The area in the map. -/
theorem area_map (zs : List Pt) (al be N : Int) : WindT.sumN (fun k => (PX al be zs k + PX al be zs (k + 1)) * (PY N zs (k + 1) - PY N zs k)) zs.length = al * N * areaZ zs := by
  have e : WindT.sumN (fun k => (PX al be zs k + PX al be zs (k + 1)) * (PY N zs (k + 1) - PY N zs k)) zs.length = WindT.sumN (fun k => al * N * areaK zs k + ((fun i => PX al be zs i * PY N zs i + be * PY N zs i) (k + 1) - (fun i => PX al be zs i * PY N zs i + be * PY N zs i) k)) zs.length := by
    refine WindT.sumN_congr fun k hk => ?_
    have hmod : k % zs.length = k := Nat.mod_eq_of_lt hk
    unfold PX PY areaK cr TX TY
    rw [hmod]
    grind
  have t := WindT.sumN_tele (fun i => PX al be zs i * PY N zs i + be * PY N zs i) zs.length
  rw [e, WindT.sumN_add, t, sumN_mul]
  unfold areaZ
  rw [sumL_range]
  have z1 : PX al be zs zs.length = PX al be zs 0 := by unfold PX; rw [Nat.mod_self, Nat.zero_mod]
  have z2 : PY N zs zs.length = PY N zs 0 := by unfold PY; rw [Nat.mod_self, Nat.zero_mod]
  rw [z1, z2]
  omega
/-- Between its ends a line is between its ends. -/
theorem mid_of {x0 s y0 y1 h M : Int} (h0 : 0 ≤ x0 ∧ x0 ≤ M) (h1 : 0 ≤ x0 + s * (y1 - y0) ∧ x0 + s * (y1 - y0) ≤ M) (hb : (y0 ≤ h ∧ h ≤ y1) ∨ (y1 ≤ h ∧ h ≤ y0)) : 0 ≤ x0 + s * (h - y0) ∧ x0 + s * (h - y0) ≤ M := by
  have e : s * (y1 - y0) = s * (h - y0) + s * (y1 - h) := by grind
  rcases hb with hb | hb <;> rcases (by omega : s < 0 ∨ 0 ≤ s) with g | g
  · have := Int.mul_nonpos_of_nonpos_of_nonneg (Int.le_of_lt g) (by omega : 0 ≤ h - y0)
    have := Int.mul_nonpos_of_nonpos_of_nonneg (Int.le_of_lt g) (by omega : 0 ≤ y1 - h)
    omega
  · have := Int.mul_nonneg g (by omega : 0 ≤ h - y0)
    have := Int.mul_nonneg g (by omega : 0 ≤ y1 - h)
    omega
  · have := Int.mul_nonneg_of_nonpos_of_nonpos (Int.le_of_lt g) (by omega : h - y0 ≤ 0)
    have := Int.mul_nonneg_of_nonpos_of_nonpos (Int.le_of_lt g) (by omega : y1 - h ≤ 0)
    omega
  · have := Int.mul_nonpos_of_nonneg_of_nonpos g (by omega : h - y0 ≤ 0)
    have := Int.mul_nonpos_of_nonneg_of_nonpos g (by omega : y1 - h ≤ 0)
    omega
/-- The one number of a simple ring whose area is above zero, in any map. -/
theorem number_one {zs : List Pt} (hs : SimpleT zs) (ha : 0 < areaZ zs) {B N al be : Int} (hB : ∀ i, i < zs.length → (-B ≤ (ptAt zs i).x ∧ (ptAt zs i).x ≤ B) ∧ -B ≤ (ptAt zs i).y ∧ (ptAt zs i).y ≤ B) (hN : 2 * B < N) (hN0 : 0 < N) (hal : 0 < al) (hbe : be = al * B) (hdv : ∀ k, k < zs.length → (PY N zs (k + 1) - PY N zs k) ∣ al) :
    WindT.Poly (PX al be zs) (PY N zs) (PC al be N zs) zs.length ∧ WindT.S (PX al be zs) (PY N zs) (PC al be N zs) zs.length 0 (WindT.fs (PY N zs) 0) = 1 := by
  have p := poly_of hs (fun i hi => (hB i hi).1) hN hN0 hal hdv (be := be)
  refine ⟨p, ?_⟩
  have hn := hs.n3
  have hlt : ∀ k, k % zs.length < zs.length := fun k => Nat.mod_lt _ (by omega)
  have hB0 : 0 ≤ B := by have := (hB 0 (by omega)).1; omega
  have hXb : ∀ k, 0 ≤ PX al be zs k ∧ PX al be zs k ≤ 2 * (al * B) := fun k => by
    have h := (hB _ (hlt k)).1
    unfold PX TX
    have k1 := Int.mul_le_mul_of_nonneg_left h.1 (Int.le_of_lt hal)
    have k2 := Int.mul_le_mul_of_nonneg_left h.2 (Int.le_of_lt hal)
    rw [Int.mul_neg] at k1
    omega
  have hYb : ∀ k, -(N * B + B) ≤ PY N zs k ∧ PY N zs k ≤ N * B + B := fun k => by
    have h := hB _ (hlt k)
    unfold PY TY
    have k1 := Int.mul_le_mul_of_nonneg_left h.2.1 (Int.le_of_lt hN0)
    have k2 := Int.mul_le_mul_of_nonneg_left h.2.2 (Int.le_of_lt hN0)
    rw [Int.mul_neg] at k1
    omega
  have hNB := Int.mul_nonneg (Int.le_of_lt hN0) hB0
  have haB := Int.mul_nonneg (Int.le_of_lt hal) hB0
  refine WindT.S_one p (-(N * B + B)) (2 * (N * B + B)).toNat (4 * (al * B)).toNat (fun k _ => by have := hYb k; omega) (fun k hk y a => ?_) ?_
  · have g1 := hXb k
    have g2 := hXb (k + 1)
    have e1 := WindT.V_end p hk
    unfold WindT.V at e1
    rw [← e1] at g2
    have a' := WindT.act_on a
    unfold WindT.onH at a'
    have v1 := mid_of g1 g2 a'.1
    have v2 := mid_of g1 g2 a'.2
    unfold WindT.K WindT.V
    omega
  · rw [area_map]
    exact Int.mul_pos (Int.mul_pos hal hN0) ha
/-- A map for any rings and points: all are within B. -/
theorem wnd_01 {zs : List Pt} (hs : SimpleT zs) (ha : 0 < areaZ zs) {B : Int} (hB : ∀ i, i < zs.length → (-B ≤ (ptAt zs i).x ∧ (ptAt zs i).x ≤ B) ∧ -B ≤ (ptAt zs i).y ∧ (ptAt zs i).y ≤ B) {q : Pt} (hq : -B ≤ q.x ∧ q.x ≤ B) : wnd zs q = 0 ∨ wnd zs q = 1 := by
  have hn := hs.n3
  have hB0 : 0 ≤ B := by omega
  have hN0 : (0 : Int) < 2 * B + 1 := by omega
  have hN : 2 * B < 2 * B + 1 := by omega
  obtain ⟨D, hD, hdv⟩ := mult_of (fun k => PY (2 * B + 1) zs (k + 1) - PY (2 * B + 1) zs k) zs.length (fun k hk e => by
    have e' : PY (2 * B + 1) zs (k + 1) = PY (2 * B + 1) zs k := by omega
    unfold PY at e'
    rw [Nat.mod_eq_of_lt hk] at e'
    have hlt : (k + 1) % zs.length < zs.length := Nat.mod_lt _ (by omega)
    refine hs.ne _ _ hlt hk ?_ (TY_inj hN (hB _ hlt).1 (hB _ hk).1 e')
    rw [mod_nx hk]
    split <;> omega)
  obtain ⟨p, h1⟩ := number_one hs ha hB hN hN0 hD rfl hdv
  rw [wnd_map p hD hN0 hN (fun i hi => (hB i hi).1) hq]
  exact WindT.cut_01 p h1 _ _
end Go.Proofs.YtglnklfhgdjccaaGreat
namespace Go.Proofs.YtglnklfhgdjccaaGreat
theorem le_sc {m : Int} (hm : 1 ≤ m) (x y : Int) : x * m ≤ y * m ↔ x ≤ y := by
  constructor
  · intro h
    refine Int.not_lt.1 fun g => ?_
    have := Int.mul_lt_mul_of_pos_right g (by omega : 0 < m)
    omega
  · exact fun h => Int.mul_le_mul_of_nonneg_right h (by omega)
theorem cr_sc (m : Int) (a b c : Pt) : cr (scP m a) (scP m b) (scP m c) * 1 = (m * m) * cr a b c := by unfold cr scP; grind
theorem cr_sc_sign {m : Int} (hm : 1 ≤ m) (a b c : Pt) : (0 < cr (scP m a) (scP m b) (scP m c) ↔ 0 < cr a b c) ∧ (cr (scP m a) (scP m b) (scP m c) < 0 ↔ cr a b c < 0) ∧ (cr (scP m a) (scP m b) (scP m c) = 0 ↔ cr a b c = 0) :=
  sign_mul (by omega) (Int.mul_pos (by omega) (by omega)) (cr_sc m a b c)
theorem onB_sc {m : Int} (hm : 1 ≤ m) (a b c : Pt) : onB (scP m a) (scP m b) (scP m c) = onB a b c := by
  rw [Bool.eq_iff_iff, onB_iff, onB_iff, (cr_sc_sign hm a b c).2.2]
  show _ ∧ ((a.x * m ≤ c.x * m ∧ c.x * m ≤ b.x * m) ∨ (b.x * m ≤ c.x * m ∧ c.x * m ≤ a.x * m)) ∧ ((a.y * m ≤ c.y * m ∧ c.y * m ≤ b.y * m) ∨ (b.y * m ≤ c.y * m ∧ c.y * m ≤ a.y * m)) ↔ _
  simp only [le_sc hm]
theorem prB_sc {m : Int} (hm : 1 ≤ m) (a b c d : Pt) : prB (scP m a) (scP m b) (scP m c) (scP m d) = prB a b c d := by
  rw [Bool.eq_iff_iff, prB_iff, prB_iff]
  have h1 := cr_sc_sign hm a b c
  have h2 := cr_sc_sign hm a b d
  have h3 := cr_sc_sign hm c d a
  have h4 := cr_sc_sign hm c d b
  rw [h1.1, h1.2.1, h2.1, h2.2.1, h3.1, h3.2.1, h4.1, h4.2.1]
theorem touch_sc {m : Int} (hm : 1 ≤ m) (a b c d : Pt) : Touch (scP m a) (scP m b) (scP m c) (scP m d) ↔ Touch a b c d := by
  unfold Touch
  rw [onB_sc hm, onB_sc hm, onB_sc hm, onB_sc hm, prB_sc hm]
theorem scP_inj {m : Int} (hm : 1 ≤ m) {a b : Pt} (h : scP m a = scP m b) : a = b := by
  unfold scP at h
  injection h with h1 h2
  have e1 := Int.eq_of_mul_eq_mul_right (by omega) h1
  have e2 := Int.eq_of_mul_eq_mul_right (by omega) h2
  cases a; cases b
  simp_all
theorem simple_sc {xs : List Pt} {m : Int} (hm : 1 ≤ m) (h : checkI xs = 0) : SimpleT (scL m xs) := by
  obtain ⟨-, -, h3, -, hp⟩ := checkI_zero h
  have hmod : ∀ {i j}, i < xs.length → j < xs.length → i ≠ j → ptAt xs i ≠ ptAt xs j := fun {i j} hi hj hij e => by
    rcases Nat.lt_or_gt_of_ne hij with g | g
    · have := hp i j g hj; unfold pairOK at this; simp [e] at this
    · have := hp j i g hi; unfold pairOK at this; simp [e] at this
  have fr : ∀ i j, i < j → j < xs.length → nextB xs.length i j = false → ¬ Touch (ptAt xs i) (ptAt xs ((i + 1) % xs.length)) (ptAt xs j) (ptAt xs ((j + 1) % xs.length)) := fun i j hij hj hn => by
    have := hp i j hij hj
    unfold pairOK meetOf at this
    rw [hn] at this
    simp only [Bool.and_eq_true, decide_eq_true_eq, Bool.false_eq_true, if_false] at this
    exact meet_zero.1 this.2
  have nr : ∀ i j, i < j → j < xs.length → nextB xs.length i j = true → meetR (ptAt xs i) (ptAt xs ((i + 1) % xs.length)) (ptAt xs j) (ptAt xs ((j + 1) % xs.length)) = 1 := fun i j hij hj hn => by
    have := hp i j hij hj
    unfold pairOK meetOf at this
    rw [hn] at this
    simp only [Bool.and_eq_true, decide_eq_true_eq, if_true] at this
    exact this.2
  refine ⟨by rw [sc_len]; exact h3, ?_, ?_, ?_⟩
  · intro i j hi hj hij e
    rw [sc_len] at hi hj
    rw [ptAt_sc, ptAt_sc] at e
    exact hmod hi hj hij (scP_inj hm e)
  · intro i j hi hj hij c1 c2
    rw [sc_len] at hi hj c1 c2 ⊢
    rw [ptAt_sc, ptAt_sc, ptAt_sc, ptAt_sc, touch_sc hm]
    rw [mod_nx hi] at c1
    rw [mod_nx hj] at c2
    rcases Nat.lt_or_gt_of_ne hij with g | g
    · refine fr i j g hj ?_
      unfold nextB
      rw [Bool.or_eq_false_iff, Bool.and_eq_false_iff, decide_eq_false_iff_not, decide_eq_false_iff_not, decide_eq_false_iff_not]
      split at c1 <;> split at c2 <;> omega
    · refine fun ht => fr j i g hi ?_ (touch_c ht)
      unfold nextB
      rw [Bool.or_eq_false_iff, Bool.and_eq_false_iff, decide_eq_false_iff_not, decide_eq_false_iff_not, decide_eq_false_iff_not]
      split at c1 <;> split at c2 <;> omega
  · intro i hi
    rw [sc_len] at hi ⊢
    rw [ptAt_sc, ptAt_sc, ptAt_sc, onB_sc hm, onB_sc hm]
    have h1 : (i + 1) % xs.length < xs.length := Nat.mod_lt _ (by omega)
    have h2 : (i + 1 + 1) % xs.length < xs.length := Nat.mod_lt _ (by omega)
    have e2 : (i + 1 + 1) % xs.length = ((i + 1) % xs.length + 1) % xs.length := by rw [Nat.mod_add_mod]
    have n1 : ptAt xs i ≠ ptAt xs ((i + 1) % xs.length) := hmod hi h1 (by rw [mod_nx hi]; split <;> omega)
    have n2 : ptAt xs ((i + 1 + 1) % xs.length) ≠ ptAt xs ((i + 1) % xs.length) := hmod h2 h1 (by rw [e2, mod_nx h1]; split <;> omega)
    have hmeet : meetR (ptAt xs i) (ptAt xs ((i + 1) % xs.length)) (ptAt xs ((i + 1) % xs.length)) (ptAt xs ((i + 1 + 1) % xs.length)) = 1 := by
      by_cases g : i + 1 = xs.length
      · have := nr 0 i (by omega) hi (by unfold nextB; simp; omega)
        rw [meetR_comm] at this
        rw [show (i + 1) % xs.length = 0 by rw [g, Nat.mod_self]] at this e2 ⊢
        rw [e2]
        exact this
      · have e1 : (i + 1) % xs.length = i + 1 := Nat.mod_eq_of_lt (by omega)
        have := nr i (i + 1) (by omega) (by omega) (by unfold nextB; simp)
        rw [e1] at this ⊢
        exact this
    have ho := one_iff.1 hmeet
    refine ⟨Bool.eq_false_iff.2 fun k => n1 (ho.1 k), Bool.eq_false_iff.2 fun k => n2 (ho.2 k)⟩
end Go.Proofs.YtglnklfhgdjccaaGreat
namespace Go.Proofs.YtglnklfhgdjccaaGreat
theorem wE_back (a b q : Pt) : wE b a q = - wE a b q := by
  unfold wE
  by_cases h1 : (a.y ≤ q.y ∧ q.y < b.y) ∧ 0 < cr a b q
  · rw [if_pos h1, if_neg (fun h => by have := h1.1; have := h.1; omega), if_pos h1]
  · rw [if_neg h1, if_neg h1]
    by_cases h2 : (b.y ≤ q.y ∧ q.y < a.y) ∧ 0 < cr b a q
    · rw [if_pos h2, if_pos h2]; rfl
    · rw [if_neg h2, if_neg h2]; rfl
theorem wE_odd (a b q : Pt) : crB a b q = true ↔ wE a b q % 2 = 1 := by
  unfold wE crB
  by_cases u : b.y < a.y
  · rw [if_pos u, if_neg (fun h => by have := h.1; omega)]
    by_cases h2 : (b.y ≤ q.y ∧ q.y < a.y) ∧ 0 < cr b a q
    · rw [if_pos h2]
      simp [h2.1.1, h2.1.2, h2.2]
    · rw [if_neg h2]
      simp only [Bool.and_eq_true, decide_eq_true_eq]
      constructor
      · intro h; exact absurd ⟨⟨h.1, h.2.1⟩, h.2.2⟩ h2
      · intro h; omega
  · rw [if_neg u]
    by_cases h1 : (a.y ≤ q.y ∧ q.y < b.y) ∧ 0 < cr a b q
    · rw [if_pos h1]
      simp [h1.1.1, h1.1.2, h1.2]
    · rw [if_neg h1, if_neg (fun h => by have := h.1; omega)]
      simp only [Bool.and_eq_true, decide_eq_true_eq]
      constructor
      · intro h; exact absurd ⟨⟨h.1, h.2.1⟩, h.2.2⟩ h1
      · intro h; omega
theorem xor_odd : ∀ (o c : Bool) (s t : Int), (o = true ↔ s % 2 = 1) → (c = true ↔ t % 2 = 1) → ((xor o c) = true ↔ (s + t) % 2 = 1)
  | false, false, s, t, h1, h2 => by
    have n1 : ¬ s % 2 = 1 := fun h => Bool.noConfusion (h1.2 h)
    have n2 : ¬ t % 2 = 1 := fun h => Bool.noConfusion (h2.2 h)
    exact ⟨fun h => Bool.noConfusion h, fun h => by omega⟩
  | false, true, s, t, h1, h2 => by
    have n1 : ¬ s % 2 = 1 := fun h => Bool.noConfusion (h1.2 h)
    have n2 := h2.1 rfl
    exact ⟨fun _ => by omega, fun _ => rfl⟩
  | true, false, s, t, h1, h2 => by
    have n1 := h1.1 rfl
    have n2 : ¬ t % 2 = 1 := fun h => Bool.noConfusion (h2.2 h)
    exact ⟨fun _ => by omega, fun _ => rfl⟩
  | true, true, s, t, h1, h2 => by
    have n1 := h1.1 rfl
    have n2 := h2.1 rfl
    exact ⟨fun h => Bool.noConfusion h, fun h => by omega⟩
theorem odd_sum (zs : List Pt) (q : Pt) : ∀ n, oddN zs q n = true ↔ WindT.sumN (fun k => wE (ptAt zs k) (ptAt zs ((k + 1) % zs.length)) q) n % 2 = 1
  | 0 => by
    show (false = true) ↔ (0 : Int) % 2 = 1
    simp
  | n + 1 => by
    show (xor (oddN zs q n) (crE zs q n) = true) ↔ (WindT.sumN _ n + wE (ptAt zs n) (ptAt zs ((n + 1) % zs.length)) q) % 2 = 1
    exact xor_odd _ _ _ _ (odd_sum zs q n) (wE_odd _ _ q)
/-- Where a point off the border is. -/
theorem side_wnd {zs : List Pt} {q : Pt} (hoff : noneN zs q zs.length) (h : wnd zs q = 0 ∨ wnd zs q = 1) : sideI zs q = if wnd zs q = 1 then 1 else -1 := by
  rw [sideI_off hoff]
  have := odd_sum zs q zs.length
  unfold wnd at *
  by_cases o : oddN zs q zs.length = true
  · have h1 := this.1 o
    rw [if_pos o, if_pos (by omega)]
  · rw [if_neg o, if_neg (fun k => o (this.2 (by omega)))]
/-! Sums over lists of edges. -/
def sumE (f : Ed → Int) : List Ed → Int
  | [] => 0
  | e :: l => f e + sumE f l
theorem sumE_append (f : Ed → Int) : ∀ a b, sumE f (a ++ b) = sumE f a + sumE f b
  | [], b => by show sumE f b = 0 + sumE f b; omega
  | e :: a, b => by
    show f e + sumE f (a ++ b) = f e + sumE f a + sumE f b
    rw [sumE_append f a b]; omega
theorem sumE_perm (f : Ed → Int) {a b : List Ed} (h : List.Perm a b) : sumE f a = sumE f b := by
  induction h with
  | nil => rfl
  | cons x _ ih => show f x + _ = f x + _; rw [ih]
  | swap x y l => show f y + (f x + sumE f l) = f x + (f y + sumE f l); omega
  | trans _ _ h1 h2 => exact h1.trans h2
theorem sumE_filter (f : Ed → Int) (p : Ed → Bool) : ∀ l, sumE f l = sumE f (l.filter p) + sumE f (l.filter fun e => !p e)
  | [] => rfl
  | e :: l => by
    have ih := sumE_filter f p l
    show f e + sumE f l = _
    cases hp : p e
    · rw [List.filter_cons_of_neg (by simp [hp]), List.filter_cons_of_pos (by simp [hp])]
      show _ = _ + (f e + _)
      omega
    · rw [List.filter_cons_of_pos (by simp [hp]), List.filter_cons_of_neg (by simp [hp])]
      show _ = f e + _ + _
      omega
theorem sumE_back {f : Ed → Int} (hf : ∀ e : Ed, f e.back = - f e) : ∀ l : List Ed, sumE f (l.map Ed.back) = - sumE f l
  | [] => rfl
  | e :: l => by
    show f e.back + sumE f (l.map Ed.back) = - (f e + sumE f l)
    rw [hf, sumE_back hf l]; omega
/-- The edges that both sides have go, those of the outer ring stay. -/
theorem sumE_cancel {f : Ed → Int} (hf : ∀ e : Ed, f e.back = - f e) {l o : List Ed} (hl : l.Nodup) (ho : o.Nodup) (h1 : ∀ e ∈ o, e ∈ l) (h2 : ∀ e ∈ l, (e.back ∈ l ↔ e ∉ o)) : sumE f l = sumE f o := by
  have key := sumE_filter f (fun e => decide (e ∈ o)) l
  have p1 : List.Perm (l.filter fun e => decide (e ∈ o)) o := (List.perm_ext_iff_of_nodup (hl.filter _) ho).2 fun e => by
    rw [List.mem_filter, decide_eq_true_eq]
    exact ⟨fun h => h.2, fun h => ⟨h1 e h, h⟩⟩
  have nd : (l.filter fun e => !decide (e ∈ o)).Nodup := hl.filter _
  have inj : ∀ a b : Ed, a.back = b.back → a = b := fun a b h => by rw [← Ed.back_back a, ← Ed.back_back b, h]
  have nd2 : ((l.filter fun e => !decide (e ∈ o)).map Ed.back).Nodup := by
    rw [List.Nodup, List.pairwise_map]
    exact nd.imp fun hne h => hne (inj _ _ h)
  have p2 : List.Perm ((l.filter fun e => !decide (e ∈ o)).map Ed.back) (l.filter fun e => !decide (e ∈ o)) := (List.perm_ext_iff_of_nodup nd2 nd).2 fun e => by
    have mem : ∀ x : Ed, x ∈ (l.filter fun e => !decide (e ∈ o)) ↔ x ∈ l ∧ x ∉ o := fun x => by simp [List.mem_filter]
    have clo : ∀ x : Ed, (x ∈ l ∧ x ∉ o) → (x.back ∈ l ∧ x.back ∉ o) := fun x hx => by
      have hb := (h2 x hx.1).2 hx.2
      exact ⟨hb, (h2 _ hb).1 (by rw [Ed.back_back]; exact hx.1)⟩
    rw [mem, List.mem_map]
    constructor
    · rintro ⟨x, hx, rfl⟩
      exact clo x ((mem x).1 hx)
    · intro he
      exact ⟨e.back, (mem _).2 (clo e he), Ed.back_back e⟩
  have s1 := sumE_perm f p1
  have s2 := sumE_perm f p2
  rw [sumE_back hf] at s2
  omega
end Go.Proofs.YtglnklfhgdjccaaGreat
namespace Go.Proofs.YtglnklfhgdjccaaGreat
/-- A proper crossing in the map is one. -/
theorem crossT_prB {al be N s r : Int} (hal : 0 < al) (hN : 0 < N) {a b c d : Pt} (hs : TX al be b - TX al be a = s * (TY N b - TY N a)) (hr : TX al be d - TX al be c = r * (TY N d - TY N c)) {y : Int}
    (o1 : (TY N a ≤ y ∧ y < TY N b) ∨ (TY N b ≤ y ∧ y < TY N a)) (o2 : (TY N c ≤ y ∧ y < TY N d) ∨ (TY N d ≤ y ∧ y < TY N c)) (hv : TX al be a + s * (y - TY N a) < TX al be c + r * (y - TY N c)) (hw : TX al be c + r * (y + 1 - TY N c) < TX al be a + s * (y + 1 - TY N a)) : prB a b c d = true := by
  obtain ⟨t1, t2⟩ := turn_line hs y
  obtain ⟨t3, t4⟩ := turn_line hr y
  obtain ⟨-, t5⟩ := turn_line hs (y + 1)
  obtain ⟨-, t6⟩ := turn_line hr (y + 1)
  have sw2 : ∀ {a b c d : Pt}, prB a b d c = true → prB a b c d = true := fun {a b c d} h => by
    rw [prB_comm] at h
    rw [prB_swap1, prB_comm] at h
    exact h
  rcases o1 with o1 | o1 <;> rcases o2 with o2 | o2
  · exact cross_at hal hN hs hr (by omega) (by omega) (by omega) (by omega) hv hw
  · exact sw2 (cross_at hal hN hs t3 (y := y) (by omega) (by omega) (by omega) (by omega) (by rw [t4]; exact hv) (by rw [t6]; exact hw))
  · rw [← prB_swap1]
    exact cross_at hal hN t1 hr (y := y) (by omega) (by omega) (by omega) (by omega) (by rw [t2]; exact hv) (by rw [t5]; exact hw)
  · rw [← prB_swap1]
    exact sw2 (cross_at hal hN t1 t3 (y := y) (by omega) (by omega) (by omega) (by omega) (by rw [t2, t4]; exact hv) (by rw [t5, t6]; exact hw))
theorem prB_meet {a b c d : Pt} (h : prB a b c d = true) : meetR a b c d = 2 := by
  have h' := (prB_iff a b c d).1 h
  have e : endsL a b c d = [] := by
    unfold endsL
    have z : ∀ {a b c : Pt}, cr a b c ≠ 0 → ¬ onB a b c = true := fun {a b c} hz k => hz ((onB_iff a b c).1 k).1
    rw [if_neg (z (by omega)), if_neg (z (by omega)), if_neg (z (by omega)), if_neg (z (by omega))]
    rfl
  unfold meetR
  rw [e, if_neg (by simp [difB]), if_neg (by simp), if_pos h]
theorem sumN_edges (f : Ed → Int) (xs : List Pt) : sumE f (edgesOf xs) = WindT.sumN (fun k => f ⟨ptAt xs k, ptAt xs ((k + 1) % xs.length)⟩) xs.length := by
  have gen : ∀ (g : Nat → Ed) n, sumE f ((List.range n).map g) = WindT.sumN (fun k => f (g k)) n := fun g n => by
    induction n with
    | zero => rfl
    | succ n ih =>
      rw [List.range_succ, List.map_append, sumE_append, ih]
      show _ + (f (g n) + 0) = WindT.sumN _ n + f (g n)
      omega
  exact gen _ _
/-- The winding about a point as a sum over the ring's edges. -/
def wS (m : Int) (q : Pt) (e : Ed) : Int := wE (scP m e.a) (scP m e.b) q
theorem wS_back (m : Int) (q : Pt) (e : Ed) : wS m q e.back = - wS m q e := wE_back _ _ _
theorem wnd_sum (m : Int) (xs : List Pt) (q : Pt) : wnd (scL m xs) q = sumE (wS m q) (edgesOf xs) := by
  rw [sumN_edges]
  unfold wnd
  rw [sc_len]
  refine WindT.sumN_congr fun k _ => ?_
  rw [ptAt_sc, ptAt_sc]
  rfl
theorem sumE_flat (f : Ed → Int) : ∀ ps : List Parc, sumE f (allE ps) = (ps.map fun x => sumE f (edgesOf x.ring)).sum
  | [] => rfl
  | x :: ps => by
    show sumE f (edgesOf x.ring ++ allE ps) = _
    rw [sumE_append, sumE_flat f ps]
    rfl
theorem edges_nd {xs : List Pt} (h : checkI xs = 0) : (edgesOf xs).Nodup := by
  obtain ⟨-, -, h3, -, hp⟩ := checkI_zero h
  unfold edgesOf
  rw [List.Nodup, List.pairwise_map]
  refine List.pairwise_lt_range.imp_of_mem fun {i j} hi hj hij e => ?_
  rw [List.mem_range] at hi hj
  have := hp i j hij hj
  unfold pairOK at this
  injection e with e1 _
  simp [e1] at this
theorem area_sc {m : Int} (xs : List Pt) : areaZ (scL m xs) = m * m * areaZ xs := by
  unfold areaZ
  rw [sumL_range, sumL_range, sc_len, ← sumN_mul]
  refine WindT.sumN_congr fun k _ => ?_
  unfold areaK
  rw [sc_len, ptAt_sc, ptAt_sc]
  unfold cr scP
  grind
end Go.Proofs.YtglnklfhgdjccaaGreat
namespace Go.Proofs.YtglnklfhgdjccaaGreat
/-- An edge's share right of a threshold in a strip of the map. -/
def tB (al be N y T : Int) (a b : Pt) : Int :=
  if (TY N b ≠ TY N a ∧ (TY N b - TY N a) ∣ al) then
    (if ((TY N a ≤ y ∧ y < TY N b) ∨ (TY N b ≤ y ∧ y < TY N a)) ∧ T < 2 * TX al be a + (TX al be b - TX al be a) / (TY N b - TY N a) * (2 * (y - TY N a) + 1) then (if TY N a < TY N b then 1 else -1) else 0)
  else 0
theorem slope_of {al be N : Int} {a b : Pt} (h : (TY N b - TY N a) ∣ al) : TX al be b - TX al be a = (TX al be b - TX al be a) / (TY N b - TY N a) * (TY N b - TY N a) := by
  refine (Int.ediv_mul_cancel ?_).symm
  have e : TX al be b - TX al be a = al * (b.x - a.x) := by unfold TX; grind
  rw [e]
  exact Int.dvd_trans h (Int.dvd_mul_right _ _)
theorem tB_back (al be N y T : Int) (a b : Pt) : tB al be N y T b a = - tB al be N y T a b := by
  unfold tB
  by_cases hd : TY N b ≠ TY N a ∧ (TY N b - TY N a) ∣ al
  · have hd2 : TY N a ≠ TY N b ∧ (TY N a - TY N b) ∣ al := ⟨Ne.symm hd.1, by rw [show TY N a - TY N b = -(TY N b - TY N a) by omega]; exact Int.neg_dvd.2 hd.2⟩
    rw [if_pos hd, if_pos hd2]
    have hs := slope_of (be := be) hd.2
    have hs2 := slope_of (be := be) hd2.2
    have es : (TX al be a - TX al be b) / (TY N a - TY N b) = (TX al be b - TX al be a) / (TY N b - TY N a) := by
      have e : TX al be a - TX al be b = (TX al be b - TX al be a) / (TY N b - TY N a) * (TY N a - TY N b) := by grind
      rw [e]
      exact Int.mul_ediv_cancel _ (by omega)
    rw [es]
    generalize (TX al be b - TX al be a) / (TY N b - TY N a) = s at *
    have ek : 2 * TX al be b + s * (2 * (y - TY N b) + 1) = 2 * TX al be a + s * (2 * (y - TY N a) + 1) := by grind
    rw [ek]
    have hne := hd.1
    by_cases c : T < 2 * TX al be a + s * (2 * (y - TY N a) + 1)
    · by_cases u : TY N a < TY N b
      · rw [if_neg (show ¬ TY N b < TY N a by omega), if_pos u]
        by_cases g : (TY N a ≤ y ∧ y < TY N b) ∨ (TY N b ≤ y ∧ y < TY N a)
        · rw [if_pos ⟨g.symm, c⟩, if_pos ⟨g, c⟩]
        · rw [if_neg (fun k => g k.1.symm), if_neg (fun k => g k.1)]; rfl
      · rw [if_pos (show TY N b < TY N a by omega), if_neg u]
        by_cases g : (TY N a ≤ y ∧ y < TY N b) ∨ (TY N b ≤ y ∧ y < TY N a)
        · rw [if_pos ⟨g.symm, c⟩, if_pos ⟨g, c⟩]; rfl
        · rw [if_neg (fun k => g k.1.symm), if_neg (fun k => g k.1)]; rfl
    · rw [if_neg (fun k => c k.2), if_neg (fun k => c k.2)]; rfl
  · have hd2 : ¬ (TY N a ≠ TY N b ∧ (TY N a - TY N b) ∣ al) := fun k => hd ⟨Ne.symm k.1, by rw [show TY N b - TY N a = -(TY N a - TY N b) by omega]; exact Int.neg_dvd.2 k.2⟩
    rw [if_neg hd, if_neg hd2]; rfl
def tE (al be N m y T : Int) (e : Ed) : Int := tB al be N y T (scP m e.a) (scP m e.b)
theorem tE_back (al be N m y T : Int) (e : Ed) : tE al be N m y T e.back = - tE al be N m y T e := tB_back _ _ _ _ _ _ _
/-- A ring's sum of shares in words of the map. -/
theorem tE_sum {xs : List Pt} {al be N m : Int} (p : WindT.Poly (PX al be (scL m xs)) (PY N (scL m xs)) (PC al be N (scL m xs)) xs.length) (hdv : ∀ k, k < xs.length → (PY N (scL m xs) (k + 1) - PY N (scL m xs) k) ∣ al) (y T : Int) :
    sumE (tE al be N m y T) (edgesOf xs) = WindT.sm (PY N (scL m xs)) xs.length y (fun k => T < WindT.K (PX al be (scL m xs)) (PY N (scL m xs)) (PC al be N (scL m xs)) k y) := by
  rw [sumN_edges]
  refine WindT.sumN_congr fun k hk => ?_
  have hmod : k % xs.length = k := Nat.mod_eq_of_lt hk
  have n1 := p.ne k hk
  have d1 := hdv k hk
  have x1 : PX al be (scL m xs) k = TX al be (scP m (ptAt xs k)) := by unfold PX; rw [sc_len, hmod, ptAt_sc]
  have y1 : PY N (scL m xs) k = TY N (scP m (ptAt xs k)) := by unfold PY; rw [sc_len, hmod, ptAt_sc]
  have x2 : PX al be (scL m xs) (k + 1) = TX al be (scP m (ptAt xs ((k + 1) % xs.length))) := by unfold PX; rw [sc_len, ptAt_sc]
  have y2 : PY N (scL m xs) (k + 1) = TY N (scP m (ptAt xs ((k + 1) % xs.length))) := by unfold PY; rw [sc_len, ptAt_sc]
  show tB al be N y T (scP m (ptAt xs k)) (scP m (ptAt xs ((k + 1) % xs.length))) = if WindT.act (PY N (scL m xs)) k y ∧ T < WindT.K (PX al be (scL m xs)) (PY N (scL m xs)) (PC al be N (scL m xs)) k y then WindT.sg (PY N (scL m xs)) k else 0
  unfold tB
  rw [← x1, ← y1, ← x2, ← y2, if_pos ⟨n1, d1⟩]
  have ek : WindT.K (PX al be (scL m xs)) (PY N (scL m xs)) (PC al be N (scL m xs)) k y = 2 * PX al be (scL m xs) k + (PX al be (scL m xs) (k + 1) - PX al be (scL m xs) k) / (PY N (scL m xs) (k + 1) - PY N (scL m xs) k) * (2 * (y - PY N (scL m xs) k) + 1) := by
    unfold WindT.K WindT.V PC
    grind
  rw [ek]
  rfl
/-- Off a ring's border the winding is the sum right of the edge that the point lies on. -/
theorem thr_wnd {X Y c : Nat → Int} {n : Nat} (p : WindT.Poly X Y c n) {xq yq y T : Int} (L : Int → Int) (hL : L yq = xq) (hy : y = yq ∨ y + 1 = yq) (hT : T = L y + L (y + 1) ∨ T = L y + L (y + 1) - 1)
    (hoff : ∀ k, k < n → WindT.onH Y k yq → WindT.V X Y c k yq ≠ xq)
    (hnc : ∀ k, k < n → WindT.act Y k y → (WindT.V X Y c k y < L y → WindT.V X Y c k (y + 1) ≤ L (y + 1)) ∧ (L y < WindT.V X Y c k y → L (y + 1) ≤ WindT.V X Y c k (y + 1))) :
    WindT.sm Y n yq (fun k => xq < WindT.V X Y c k yq) = WindT.sm Y n y (fun k => T < WindT.K X Y c k y) := by
  rcases hy with rfl | rfl
  · refine WindT.sm_congr fun k hk ak => ?_
    have h1 := hoff k hk (WindT.act_on ak).1
    have h2 := hnc k hk ak
    unfold WindT.K
    omega
  · have hf := WindT.flux p xq (y + 1)
    rw [Int.add_sub_cancel] at hf
    rw [← hf]
    refine WindT.sm_congr fun k hk ak => ?_
    have h1 := hoff k hk (WindT.act_on ak).2
    have h2 := hnc k hk ak
    unfold WindT.K
    omega
/-- The ring that the edge is of: its sum is 1. -/
theorem thr_own {X Y c : Nat → Int} {n : Nat} (p : WindT.Poly X Y c n) (hS : WindT.S X Y c n 0 (WindT.fs Y 0) = 1) {e : Nat} (he : e < n) {y : Int} (a : WindT.act Y e y) :
    WindT.sm Y n y (fun k => (if WindT.up Y e then WindT.K X Y c e y - 1 else WindT.K X Y c e y) < WindT.K X Y c k y) = 1 := by
  have h := WindT.S_all p e he y a
  rw [hS] at h
  unfold WindT.S at h
  by_cases u : WindT.up Y e
  · rw [if_pos u] at h
    have hs : WindT.sg Y e = 1 := if_pos u
    have h1 := WindT.sm_extra (P := fun k => (if WindT.up Y e then WindT.K X Y c e y - 1 else WindT.K X Y c e y) < WindT.K X Y c k y) (Q := fun k => WindT.K X Y c e y < WindT.K X Y c k y) he a (by omega) (fun k hk hke ak => by
      have hn := WindT.K_ne p he hk (Ne.symm hke) a ak
      rw [if_pos u]
      omega)
    rw [h1, if_pos (by rw [if_pos u]; omega), hs]
    omega
  · rw [if_neg u] at h
    have h1 : WindT.sm Y n y (fun k => (if WindT.up Y e then WindT.K X Y c e y - 1 else WindT.K X Y c e y) < WindT.K X Y c k y) = WindT.sm Y n y (fun k => WindT.K X Y c e y < WindT.K X Y c k y) := WindT.sm_congr fun k hk ak => by rw [if_neg u]
    omega
end Go.Proofs.YtglnklfhgdjccaaGreat
namespace Go.Proofs.YtglnklfhgdjccaaGreat
def BB : Int := 1099511627776
def NN : Int := 2199023255553
def hgt (m : Int) (e : Ed) : Int := TY NN (scP m e.b) - TY NN (scP m e.a)
theorem mult_list (f : Ed → Int) : ∀ l : List Ed, (∀ e ∈ l, f e ≠ 0) → ∃ D : Int, 0 < D ∧ ∀ e ∈ l, f e ∣ D
  | [], _ => ⟨1, by omega, fun e he => absurd he List.not_mem_nil⟩
  | e :: l, h => by
    obtain ⟨D, h1, h2⟩ := mult_list f l (fun x hx => h x (List.mem_cons_of_mem _ hx))
    have hn := h e List.mem_cons_self
    refine ⟨D * (f e).natAbs, Int.mul_pos h1 (by omega), fun x hx => ?_⟩
    rcases List.mem_cons.1 hx with rfl | hx
    · exact Int.dvd_trans (Int.dvd_natAbs.2 (Int.dvd_refl _)) (Int.dvd_mul_left _ _)
    · exact Int.dvd_trans (h2 x hx) (Int.dvd_mul_right _ _)
theorem bd_sc {m : Int} (h1 : 1 ≤ m) (h2 : m ≤ 1024) {a : Pt} (ha : good a = true) : (-BB ≤ (scP m a).x ∧ (scP m a).x ≤ BB) ∧ -BB ≤ (scP m a).y ∧ (scP m a).y ≤ BB := by
  rw [good_iff] at ha
  have x := mul_bd (t := a.x) (by omega) (by omega) h1 h2
  have y := mul_bd (t := a.y) (by omega) (by omega) h1 h2
  exact ⟨x, y⟩
theorem hgt_ne {r : List Pt} {m : Int} (h1 : 1 ≤ m) (h2 : m ≤ 1024) (hc : checkI r = 0) : ∀ e ∈ edgesOf r, hgt m e ≠ 0 := fun e he h => by
  obtain ⟨-, hg, h3, -, hp⟩ := checkI_zero hc
  have hs := simple_sc h1 hc
  unfold edgesOf at he
  obtain ⟨k, hk, rfl⟩ := List.mem_map.1 he
  rw [List.mem_range] at hk
  have hlt : (k + 1) % r.length < r.length := Nat.mod_lt _ (by omega)
  have hh : TY NN (scP m (ptAt r ((k + 1) % r.length))) = TY NN (scP m (ptAt r k)) := by unfold hgt at h; simp only at h; omega
  have e1 := TY_inj (N := NN) (B := BB) (by unfold NN BB; omega) (bd_sc h1 h2 (ptAt_good hg _)).1 (bd_sc h1 h2 (ptAt_good hg _)).1 hh
  have := hs.ne ((k + 1) % r.length) k (by rw [sc_len]; exact hlt) (by rw [sc_len]; exact hk) (by rw [mod_nx hk]; split <;> omega)
  rw [ptAt_sc, ptAt_sc] at this
  exact this e1
/-- Any sound ring in the one map. -/
theorem ring_pkg {r : List Pt} {m al : Int} (h1 : 1 ≤ m) (h2 : m ≤ 1024) (hc : checkI r = 0) (hal : 0 < al) (hdv : ∀ e ∈ edgesOf r, hgt m e ∣ al) :
    (WindT.Poly (PX al (al * BB) (scL m r)) (PY NN (scL m r)) (PC al (al * BB) NN (scL m r)) r.length ∧ WindT.S (PX al (al * BB) (scL m r)) (PY NN (scL m r)) (PC al (al * BB) NN (scL m r)) r.length 0 (WindT.fs (PY NN (scL m r)) 0) = 1) ∧
      ∀ k, k < r.length → (PY NN (scL m r) (k + 1) - PY NN (scL m r) k) ∣ al := by
  obtain ⟨-, hg, h3, ha, hp⟩ := checkI_zero hc
  have hdv' : ∀ k, k < r.length → (PY NN (scL m r) (k + 1) - PY NN (scL m r) k) ∣ al := fun k hk => by
    have e := hdv ⟨ptAt r k, ptAt r ((k + 1) % r.length)⟩ (by unfold edgesOf; exact List.mem_map.2 ⟨k, List.mem_range.2 hk, rfl⟩)
    unfold PY
    rw [sc_len, ptAt_sc, ptAt_sc, Nat.mod_eq_of_lt hk]
    exact e
  refine ⟨?_, hdv'⟩
  have hap : 0 < areaZ (scL m r) := by rw [area_sc]; exact Int.mul_pos (Int.mul_pos (by omega) (by omega)) ha
  have hb : ∀ i, i < (scL m r).length → (-BB ≤ (ptAt (scL m r) i).x ∧ (ptAt (scL m r) i).x ≤ BB) ∧ -BB ≤ (ptAt (scL m r) i).y ∧ (ptAt (scL m r) i).y ≤ BB := fun i _ => by
    rw [ptAt_sc]
    exact bd_sc h1 h2 (ptAt_good hg i)
  have := number_one (B := BB) (N := NN) (al := al) (be := al * BB) (simple_sc h1 hc) hap hb (by unfold NN BB; omega) (by unfold NN; omega) hal rfl (fun k hk => hdv' k (by rw [sc_len] at hk; exact hk))
  rw [sc_len] at this
  exact this
/-- What both sides have goes: the parcels' sums are together the territory's. -/
theorem sum_total {p : Plan} (hs : SoundP p) {f : Ed → Int} (hf : ∀ e : Ed, f e.back = - f e) : (p.parcels.map fun x => sumE f (edgesOf x.ring)).sum = sumE f (edgesOf p.outer) := by
  rw [← sumE_flat]
  exact sumE_cancel hf hs.2.2.2.1.1 (edges_nd hs.2.1.1) hs.2.2.2.1.2.1 hs.2.2.2.1.2.2
/-- Shares that are 0 or 1 each, and together z: so many are 1. -/
theorem count_one (g : Parc → Int) : ∀ ps : List Parc, (∀ x ∈ ps, g x = 0 ∨ g x = 1) → (((ps.filter fun x => decide (g x = 1)).length : Nat) : Int) = (ps.map g).sum
  | [], _ => rfl
  | x :: ps, h => by
    have ih := count_one g ps (fun y hy => h y (List.mem_cons_of_mem _ hy))
    rw [List.map_cons, List.sum_cons]
    rcases h x List.mem_cons_self with e | e
    · rw [List.filter_cons_of_neg (by simp [e]), ih]
      omega
    · rw [List.filter_cons_of_pos (by simp [e]), List.length_cons]
      omega
theorem wnd_ring {r : List Pt} {m : Int} (h1 : 1 ≤ m) (h2 : m ≤ 1024) (hc : checkI r = 0) {q : Pt} (hq : -BB ≤ q.x ∧ q.x ≤ BB) : wnd (scL m r) q = 0 ∨ wnd (scL m r) q = 1 := by
  obtain ⟨-, hg, -, ha, -⟩ := checkI_zero hc
  refine wnd_01 (B := BB) (simple_sc h1 hc) (by rw [area_sc]; exact Int.mul_pos (Int.mul_pos (by omega) (by omega)) ha) (fun i _ => ?_) hq
  rw [ptAt_sc]
  exact bd_sc h1 h2 (ptAt_good hg i)
end Go.Proofs.YtglnklfhgdjccaaGreat
namespace Go.Proofs.YtglnklfhgdjccaaGreat
/-- Is the point on the ring's border? -/
def onR (r : List Pt) (m : Int) (q : Pt) : Prop := ∃ e ∈ edgesOf r, onB (scP m e.a) (scP m e.b) q = true
theorem off_none {r : List Pt} {m : Int} {q : Pt} (h : ¬ onR r m q) : noneN (scL m r) q (scL m r).length := fun i hi => by
  rw [sc_len] at hi
  refine Bool.eq_false_iff.2 fun k => h ⟨⟨ptAt r i, ptAt r ((i + 1) % r.length)⟩, ?_, ?_⟩
  · unfold edgesOf; exact List.mem_map.2 ⟨i, List.mem_range.2 hi, rfl⟩
  · unfold onE at k
    rw [sc_len, ptAt_sc, ptAt_sc] at k
    exact k
theorem side_off {r : List Pt} {m : Int} (h1 : 1 ≤ m) (h2 : m ≤ 1024) (hc : checkI r = 0) {q : Pt} (hq : -BB ≤ q.x ∧ q.x ≤ BB) (h : ¬ onR r m q) : sideI (scL m r) q = if wnd (scL m r) q = 1 then 1 else -1 := side_wnd (off_none h) (wnd_ring h1 h2 hc hq)
theorem side_on {r : List Pt} {m : Int} {q : Pt} (h : onR r m q) : sideI (scL m r) q = 0 := by
  obtain ⟨e, he, ho⟩ := h
  unfold edgesOf at he
  obtain ⟨k, hk, rfl⟩ := List.mem_map.1 he
  rw [List.mem_range] at hk
  refine sideI_on (k := k) (by rw [sc_len]; exact hk) ?_
  unfold onE
  rw [sc_len, ptAt_sc, ptAt_sc]
  exact ho
theorem side_iff {r : List Pt} {m : Int} (h1 : 1 ≤ m) (h2 : m ≤ 1024) (hc : checkI r = 0) {q : Pt} (hq : -BB ≤ q.x ∧ q.x ≤ BB) : (sideI (scL m r) q = 0 ↔ onR r m q) ∧ (sideI (scL m r) q = 1 ↔ ¬ onR r m q ∧ wnd (scL m r) q = 1) := by
  by_cases h : onR r m q
  · have := side_on h
    exact ⟨⟨fun _ => h, fun _ => this⟩, fun k => by omega, fun k => absurd h k.1⟩
  · have := side_off h1 h2 hc hq h
    rw [this]
    constructor
    · exact ⟨fun k => by split at k <;> omega, fun k => absurd k h⟩
    · constructor
      · intro k
        refine ⟨h, ?_⟩
        split at k
        · assumption
        · omega
      · intro k
        rw [if_pos k.2]
/-- Off all borders: within as many as within the territory. -/
theorem tiles_off {p : Plan} (hs : SoundP p) {m : Int} (h1 : 1 ≤ m) (h2 : m ≤ 1024) {q : Pt} (hq : -BB ≤ q.x ∧ q.x ≤ BB) (hoff : ∀ x ∈ p.parcels, ¬ onR x.ring m q) :
    (((p.parcels.filter fun x => decide (sideI (scL m x.ring) q = 1)).length : Nat) : Int) = wnd (scL m p.outer) q ∧ (p.parcels.filter fun x => decide (sideI (scL m x.ring) q = 0)) = [] := by
  have hx : ∀ x ∈ p.parcels, checkI x.ring = 0 := fun x hx => (hs.2.2.1 x hx).1
  constructor
  · have e : (p.parcels.filter fun x => decide (sideI (scL m x.ring) q = 1)) = p.parcels.filter fun x => decide (wnd (scL m x.ring) q = 1) := by
      refine List.filter_congr fun x hxm => ?_
      rw [decide_eq_decide, (side_iff h1 h2 (hx x hxm) hq).2]
      exact ⟨fun k => k.2, fun k => ⟨hoff x hxm, k⟩⟩
    rw [e, count_one (fun x => wnd (scL m x.ring) q) p.parcels (fun x hxm => wnd_ring h1 h2 (hx x hxm) hq), wnd_sum, ← sum_total hs (wS_back m q)]
    congr 1
    exact List.map_congr_left fun x _ => wnd_sum m x.ring q
  · rw [List.filter_eq_nil_iff]
    intro x hxm
    rw [decide_eq_true_eq, (side_iff h1 h2 (hx x hxm) hq).1]
    exact hoff x hxm
theorem two_le {α : Type} (g : α → Int) : ∀ (l : List α), (∀ x ∈ l, 0 ≤ g x) → ∀ x ∈ l, ∀ z ∈ l, x ≠ z → g x + g z ≤ (l.map g).sum
  | [], _, x, hx, _, _, _ => absurd hx List.not_mem_nil
  | y :: l, h, x, hx, z, hz, hxz => by
    have one : ∀ (l : List α), (∀ x ∈ l, 0 ≤ g x) → 0 ≤ (l.map g).sum ∧ ∀ x ∈ l, g x ≤ (l.map g).sum := fun l => by
      induction l with
      | nil => exact fun _ => ⟨Int.le_refl _, fun x hx => absurd hx List.not_mem_nil⟩
      | cons y l ih =>
        intro h
        obtain ⟨i1, i2⟩ := ih (fun x hx => h x (List.mem_cons_of_mem _ hx))
        have hy := h y List.mem_cons_self
        rw [List.map_cons, List.sum_cons]
        refine ⟨by omega, fun x hx => ?_⟩
        rcases List.mem_cons.1 hx with rfl | hx
        · omega
        · have := i2 x hx; omega
    have hl := one l (fun x hx => h x (List.mem_cons_of_mem _ hx))
    have hy := h y List.mem_cons_self
    rw [List.map_cons, List.sum_cons]
    rcases List.mem_cons.1 hx with e1 | g1 <;> rcases List.mem_cons.1 hz with e2 | g2
    · exact absurd (e1.trans e2.symm) hxz
    · have := hl.2 z g2; rw [e1]; omega
    · have := hl.2 x g1; rw [e2]; omega
    · have := two_le g l (fun x hx => h x (List.mem_cons_of_mem _ hx)) x g1 z g2 hxz; omega
theorem pairs_ne2 {l : List Ed} (h : PairsE l) {e f : Ed} (he : e ∈ l) (hf : f ∈ l) (hef : e ≠ f) : meetE e f ≠ 2 := fun k => by
  obtain ⟨i, hi, rfl⟩ := List.getElem_of_mem he
  obtain ⟨j, hj, rfl⟩ := List.getElem_of_mem hf
  rcases Nat.lt_trichotomy i j with g | g | g
  · have := h i j hi hj g
    unfold okR at this
    simp [k] at this
  · subst g; exact hef rfl
  · have := h j i hj hi g
    rw [meetE_comm] at k
    unfold okR at this
    simp [k] at this
end Go.Proofs.YtglnklfhgdjccaaGreat
namespace Go.Proofs.YtglnklfhgdjccaaGreat
/-- A point on an edge in the map: between the edge's heights, and on its line. -/
theorem on_map {al be N s : Int} (hal : 0 < al) (hN : 0 < N) {a b q : Pt} (hs : TX al be b - TX al be a = s * (TY N b - TY N a)) (hne : TY N b ≠ TY N a) (h : onB a b q = true) :
    ((TY N a ≤ TY N q ∧ TY N q ≤ TY N b) ∨ (TY N b ≤ TY N q ∧ TY N q ≤ TY N a)) ∧ TX al be a + s * (TY N q - TY N a) = TX al be q := by
  obtain ⟨hc, hx, hy⟩ := (onB_iff a b q).1 h
  have hm := cr_map al be N s a b q hs
  rw [hc, Int.zero_mul] at hm
  have hl : TX al be a + s * (TY N q - TY N a) = TX al be q := by
    rcases Int.mul_eq_zero.1 hm.symm with g | g
    · omega
    · omega
  refine ⟨?_, hl⟩
  have e1 : al * (q.x - a.x) = s * (TY N q - TY N a) := by unfold TX at hl; grind
  have e2 : al * (b.x - q.x) = s * (TY N b - TY N q) := by unfold TX at hl hs; grind
  rcases (by omega : s = 0 ∨ 0 < s ∨ s < 0) with g | g | g
  · rw [g, Int.zero_mul] at e1 e2
    have x1 : q.x = a.x := by rcases Int.mul_eq_zero.1 e1 with k | k <;> omega
    have x2 : b.x = q.x := by rcases Int.mul_eq_zero.1 e2 with k | k <;> omega
    have mon : ∀ {u v : Pt}, u.x = v.x → u.y ≤ v.y → TY N u ≤ TY N v := fun {u v} hx h => by
      unfold TY
      have := Int.mul_le_mul_of_nonneg_left h (Int.le_of_lt hN)
      omega
    rcases hy with k | k
    · exact .inl ⟨mon (by omega) k.1, mon (by omega) k.2⟩
    · exact .inr ⟨mon (by omega) k.1, mon (by omega) k.2⟩
  · have pos : ∀ {u v : Int}, al * u = s * v → 0 ≤ u → 0 ≤ v := fun {u v} e hu => by
      refine Int.not_lt.1 fun hv => ?_
      have := Int.mul_neg_of_pos_of_neg g hv
      have := Int.mul_nonneg (Int.le_of_lt hal) hu
      omega
    have neg : ∀ {u v : Int}, al * u = s * v → u ≤ 0 → v ≤ 0 := fun {u v} e hu => by
      refine Int.not_lt.1 fun hv => ?_
      have := Int.mul_pos g hv
      have := Int.mul_nonpos_of_nonneg_of_nonpos (Int.le_of_lt hal) hu
      omega
    rcases hx with k | k
    · have := pos e1 (by omega); have := pos e2 (by omega); omega
    · have := neg e1 (by omega); have := neg e2 (by omega); omega
  · have pos : ∀ {u v : Int}, al * u = s * v → 0 ≤ u → v ≤ 0 := fun {u v} e hu => by
      refine Int.not_lt.1 fun hv => ?_
      have := Int.mul_neg_of_neg_of_pos g hv
      have := Int.mul_nonneg (Int.le_of_lt hal) hu
      omega
    have neg : ∀ {u v : Int}, al * u = s * v → u ≤ 0 → 0 ≤ v := fun {u v} e hu => by
      refine Int.not_lt.1 fun hv => ?_
      have := Int.mul_pos_of_neg_of_neg g hv
      have := Int.mul_nonpos_of_nonneg_of_nonpos (Int.le_of_lt hal) hu
      omega
    rcases hx with k | k
    · have := pos e1 (by omega); have := pos e2 (by omega); omega
    · have := neg e1 (by omega); have := neg e2 (by omega); omega
end Go.Proofs.YtglnklfhgdjccaaGreat
namespace Go.Proofs.YtglnklfhgdjccaaGreat
theorem allE_memT {ps : List Parc} {e : Ed} : e ∈ allE ps ↔ ∃ x ∈ ps, e ∈ edgesOf x.ring := by unfold allE; exact List.mem_flatMap
theorem le_sum {α : Type} (g : α → Int) : ∀ (l : List α), (∀ x ∈ l, 0 ≤ g x) → ∀ x ∈ l, g x ≤ (l.map g).sum
  | [], _, x, hx => absurd hx List.not_mem_nil
  | y :: l, h, x, hx => by
    have hy := h y List.mem_cons_self
    have nn : ∀ (l : List α), (∀ x ∈ l, 0 ≤ g x) → 0 ≤ (l.map g).sum := fun l => by
      induction l with
      | nil => exact fun _ => Int.le_refl _
      | cons y l ih =>
        intro h
        have := ih (fun x hx => h x (List.mem_cons_of_mem _ hx))
        have := h y List.mem_cons_self
        rw [List.map_cons, List.sum_cons]
        omega
    have hl := nn l (fun x hx => h x (List.mem_cons_of_mem _ hx))
    rw [List.map_cons, List.sum_cons]
    rcases List.mem_cons.1 hx with e1 | g1
    · rw [e1]; omega
    · have := le_sum g l (fun x hx => h x (List.mem_cons_of_mem _ hx)) x g1
      omega
/-- A ring with q off its border: the winding is the threshold's sum right of the edge that q is on. -/
theorem same_thr {l : List Ed} (hl : PairsE l) {r : List Pt} {m al : Int} (h1 : 1 ≤ m) (h2 : m ≤ 1024) (hc : checkI r = 0) (hal : 0 < al) (hsub : ∀ f ∈ edgesOf r, f ∈ l) (hdv : ∀ f ∈ edgesOf r, hgt m f ∣ al) {q : Pt} (hq : -BB ≤ q.x ∧ q.x ≤ BB) (hoff : ¬ onR r m q)
    {e : Ed} (hel : e ∈ l) (ho : onB (scP m e.a) (scP m e.b) q = true) {s y T : Int} (hsl : TX al (al * BB) (scP m e.b) - TX al (al * BB) (scP m e.a) = s * (TY NN (scP m e.b) - TY NN (scP m e.a)))
    (hline : TX al (al * BB) (scP m e.a) + s * (TY NN q - TY NN (scP m e.a)) = TX al (al * BB) q) (hy : y = TY NN q ∨ y + 1 = TY NN q) (ha : (TY NN (scP m e.a) ≤ y ∧ y < TY NN (scP m e.b)) ∨ (TY NN (scP m e.b) ≤ y ∧ y < TY NN (scP m e.a)))
    (hT : T = (TX al (al * BB) (scP m e.a) + s * (y - TY NN (scP m e.a))) + (TX al (al * BB) (scP m e.a) + s * (y + 1 - TY NN (scP m e.a))) ∨ T = (TX al (al * BB) (scP m e.a) + s * (y - TY NN (scP m e.a))) + (TX al (al * BB) (scP m e.a) + s * (y + 1 - TY NN (scP m e.a))) - 1) :
    wnd (scL m r) q = sumE (tE al (al * BB) NN m y T) (edgesOf r) := by
  obtain ⟨⟨p, -⟩, hdk⟩ := ring_pkg h1 h2 hc hal hdv
  have hg := (checkI_zero hc).2.1
  have hN0 : (0 : Int) < NN := by unfold NN; omega
  have p' : WindT.Poly (PX al (al * BB) (scL m r)) (PY NN (scL m r)) (PC al (al * BB) NN (scL m r)) (scL m r).length := by rw [sc_len]; exact p
  have hw := wnd_map p' hal hN0 (B := BB) (by unfold NN BB; omega) (fun i _ => by rw [ptAt_sc]; exact (bd_sc h1 h2 (ptAt_good hg i)).1) hq
  rw [hw, sc_len, tE_sum p hdk]
  -- the edges in words of the map
  have x1 : ∀ k, k < r.length → PX al (al * BB) (scL m r) k = TX al (al * BB) (scP m (ptAt r k)) := fun k hk => by unfold PX; rw [sc_len, Nat.mod_eq_of_lt hk, ptAt_sc]
  have y1 : ∀ k, k < r.length → PY NN (scL m r) k = TY NN (scP m (ptAt r k)) := fun k hk => by unfold PY; rw [sc_len, Nat.mod_eq_of_lt hk, ptAt_sc]
  have x2 : ∀ k, PX al (al * BB) (scL m r) (k + 1) = TX al (al * BB) (scP m (ptAt r ((k + 1) % r.length))) := fun k => by unfold PX; rw [sc_len, ptAt_sc]
  have y2 : ∀ k, PY NN (scL m r) (k + 1) = TY NN (scP m (ptAt r ((k + 1) % r.length))) := fun k => by unfold PY; rw [sc_len, ptAt_sc]
  have sl : ∀ k, k < r.length → TX al (al * BB) (scP m (ptAt r ((k + 1) % r.length))) - TX al (al * BB) (scP m (ptAt r k)) = PC al (al * BB) NN (scL m r) k * (TY NN (scP m (ptAt r ((k + 1) % r.length))) - TY NN (scP m (ptAt r k))) := fun k hk => by
    have := p.sl k hk
    rw [x1 k hk, y1 k hk, x2, y2] at this
    exact this
  have vv : ∀ k, k < r.length → ∀ h, WindT.V (PX al (al * BB) (scL m r)) (PY NN (scL m r)) (PC al (al * BB) NN (scL m r)) k h = TX al (al * BB) (scP m (ptAt r k)) + PC al (al * BB) NN (scL m r) k * (h - TY NN (scP m (ptAt r k))) := fun k hk h => by
    unfold WindT.V
    rw [x1 k hk, y1 k hk]
  have hmem : ∀ k, k < r.length → (⟨ptAt r k, ptAt r ((k + 1) % r.length)⟩ : Ed) ∈ edgesOf r := fun k hk => by unfold edgesOf; exact List.mem_map.2 ⟨k, List.mem_range.2 hk, rfl⟩
  refine thr_wnd p (fun h => TX al (al * BB) (scP m e.a) + s * (h - TY NN (scP m e.a))) hline hy hT ?_ ?_
  · intro k hk hon hv
    rw [vv k hk] at hv
    unfold WindT.onH at hon
    rw [y1 k hk, y2] at hon
    have hs := sl k hk
    have hn := p.ne k hk
    rw [y1 k hk, y2] at hn
    refine hoff ⟨_, hmem k hk, ?_⟩
    show onB (scP m (ptAt r k)) (scP m (ptAt r ((k + 1) % r.length))) q = true
    obtain ⟨t1, t2⟩ := turn_line hs (TY NN q)
    rcases hon with g | g
    · exact onB_map hal hN0 hs g.1 g.2 (by omega) hv
    · rw [onB_swap]
      exact onB_map hal hN0 t1 g.1 g.2 (by omega) (by rw [t2]; exact hv)
  · intro k hk ak
    rw [vv k hk, vv k hk]
    unfold WindT.act at ak
    rw [y1 k hk, y2] at ak
    have hs := sl k hk
    have hne : (⟨ptAt r k, ptAt r ((k + 1) % r.length)⟩ : Ed) ≠ e := fun h => hoff ⟨e, h ▸ hmem k hk, ho⟩
    have npr : ¬ prB (ptAt r k) (ptAt r ((k + 1) % r.length)) e.a e.b = true := fun h => pairs_ne2 hl (hsub _ (hmem k hk)) hel hne (prB_meet h)
    refine ⟨fun h => Int.not_lt.1 fun h' => ?_, fun h => Int.not_lt.1 fun h' => ?_⟩
    · have := crossT_prB hal hN0 hs hsl ak ha h h'
      rw [prB_sc h1] at this
      exact npr this
    · have := crossT_prB hal hN0 hsl hs ha ak h h'
      rw [prB_sc h1, prB_comm] at this
      exact npr this
/-- On a border: no parcel has the point within; off the territory's border it is within the territory. -/
theorem tiles_on {p : Plan} (hs : SoundP p) {m : Int} (h1 : 1 ≤ m) (h2 : m ≤ 1024) {q : Pt} (hq : -BB ≤ q.x ∧ q.x ≤ BB) {x : Parc} (hx : x ∈ p.parcels) {e : Ed} (he : e ∈ edgesOf x.ring) (ho : onB (scP m e.a) (scP m e.b) q = true) :
    (∀ z ∈ p.parcels, ¬ onR z.ring m q → wnd (scL m z.ring) q = 0) ∧ (¬ onR p.outer m q → wnd (scL m p.outer) q = 1) := by
  have hcx : ∀ z ∈ p.parcels, checkI z.ring = 0 := fun z hz => (hs.2.2.1 z hz).1
  have hall : ∀ z ∈ p.parcels, ∀ f ∈ edgesOf z.ring, f ∈ allE p.parcels := fun z hz f hf => allE_memT.2 ⟨z, hz, hf⟩
  obtain ⟨al, hal, hdv⟩ := mult_list (hgt m) (allE p.parcels) (fun f hf => by obtain ⟨z, hz, h3⟩ := allE_memT.1 hf; exact hgt_ne h1 h2 (hcx z hz) f h3)
  have hN0 : (0 : Int) < NN := by unfold NN; omega
  have hea := hall x hx e he
  have hde : (TY NN (scP m e.b) - TY NN (scP m e.a)) ∣ al := hdv e hea
  have hne : TY NN (scP m e.b) ≠ TY NN (scP m e.a) := by have := hgt_ne h1 h2 (hcx x hx) e he; unfold hgt at this; omega
  have hsl := slope_of (be := al * BB) hde
  obtain ⟨s, hsd⟩ : ∃ s, s = (TX al (al * BB) (scP m e.b) - TX al (al * BB) (scP m e.a)) / (TY NN (scP m e.b) - TY NN (scP m e.a)) := ⟨_, rfl⟩
  rw [← hsd] at hsl
  obtain ⟨hb, hline⟩ := on_map hal hN0 hsl hne ho
  obtain ⟨y, hy, ha⟩ : ∃ y, (y = TY NN q ∨ y + 1 = TY NN q) ∧ ((TY NN (scP m e.a) ≤ y ∧ y < TY NN (scP m e.b)) ∨ (TY NN (scP m e.b) ≤ y ∧ y < TY NN (scP m e.a))) := by
    by_cases g : TY NN q < TY NN (scP m e.a) ∨ TY NN q < TY NN (scP m e.b)
    · exact ⟨TY NN q, .inl rfl, by omega⟩
    · exact ⟨TY NN q - 1, .inr (by omega), by omega⟩
  obtain ⟨KK, hKK⟩ : ∃ KK, KK = (TX al (al * BB) (scP m e.a) + s * (y - TY NN (scP m e.a))) + (TX al (al * BB) (scP m e.a) + s * (y + 1 - TY NN (scP m e.a))) := ⟨_, rfl⟩
  obtain ⟨T, hTd⟩ : ∃ T, T = if TY NN (scP m e.a) < TY NN (scP m e.b) then KK - 1 else KK := ⟨_, rfl⟩
  have hT : T = KK ∨ T = KK - 1 := by rw [hTd]; split <;> omega
  rw [hKK] at hT
  -- each ring's sum is 0 or 1
  have t01 : ∀ r, checkI r = 0 → (∀ f ∈ edgesOf r, hgt m f ∣ al) → sumE (tE al (al * BB) NN m y T) (edgesOf r) = 0 ∨ sumE (tE al (al * BB) NN m y T) (edgesOf r) = 1 := fun r hc hd => by
    obtain ⟨⟨pp, hS⟩, hdk⟩ := ring_pkg h1 h2 hc hal hd
    rw [tE_sum pp hdk]
    exact WindT.kind_01 pp hS _ (fun a b _ _ _ _ g1 g2 => by omega)
  -- the edge's own ring has 1
  have own : sumE (tE al (al * BB) NN m y T) (edgesOf x.ring) = 1 := by
    obtain ⟨⟨pp, hS⟩, hdk⟩ := ring_pkg h1 h2 (hcx x hx) hal (fun f hf => hdv f (hall x hx f hf))
    rw [tE_sum pp hdk]
    unfold edgesOf at he
    obtain ⟨k, hk, hek⟩ := List.mem_map.1 he
    rw [List.mem_range] at hk
    have ea : e.a = ptAt x.ring k := by rw [← hek]
    have eb : e.b = ptAt x.ring ((k + 1) % x.ring.length) := by rw [← hek]
    have x1 : PX al (al * BB) (scL m x.ring) k = TX al (al * BB) (scP m e.a) := by unfold PX; rw [sc_len, Nat.mod_eq_of_lt hk, ptAt_sc, ea]
    have y1 : PY NN (scL m x.ring) k = TY NN (scP m e.a) := by unfold PY; rw [sc_len, Nat.mod_eq_of_lt hk, ptAt_sc, ea]
    have x2 : PX al (al * BB) (scL m x.ring) (k + 1) = TX al (al * BB) (scP m e.b) := by unfold PX; rw [sc_len, ptAt_sc, eb]
    have y2 : PY NN (scL m x.ring) (k + 1) = TY NN (scP m e.b) := by unfold PY; rw [sc_len, ptAt_sc, eb]
    have ec : PC al (al * BB) NN (scL m x.ring) k = s := by unfold PC; rw [x1, x2, y1, y2, hsd]
    have eK : WindT.K (PX al (al * BB) (scL m x.ring)) (PY NN (scL m x.ring)) (PC al (al * BB) NN (scL m x.ring)) k y = KK := by unfold WindT.K WindT.V; rw [ec, x1, y1, hKK]
    have := thr_own pp hS hk (y := y) (by unfold WindT.act; rw [y1, y2]; exact ha)
    rw [eK] at this
    have eu : WindT.up (PY NN (scL m x.ring)) k ↔ TY NN (scP m e.a) < TY NN (scP m e.b) := by unfold WindT.up; rw [y1, y2]
    have eT : (if WindT.up (PY NN (scL m x.ring)) k then KK - 1 else KK) = T := by
      rw [hTd]
      by_cases u : TY NN (scP m e.a) < TY NN (scP m e.b)
      · rw [if_pos u, if_pos (eu.2 u)]
      · rw [if_neg u, if_neg (fun k => u (eu.1 k))]
    rw [eT] at this
    exact this
  have tot := sum_total hs (tE_back al (al * BB) NN m y T)
  have outer := t01 p.outer hs.2.1.1 (fun f hf => hdv f (hs.2.2.2.1.2.1 f hf))
  have nn : ∀ z ∈ p.parcels, 0 ≤ sumE (tE al (al * BB) NN m y T) (edgesOf z.ring) := fun z hz => by
    have := t01 z.ring (hcx z hz) (fun f hf => hdv f (hall z hz f hf))
    omega
  have same : ∀ r, checkI r = 0 → (∀ f ∈ edgesOf r, f ∈ allE p.parcels) → ¬ onR r m q → wnd (scL m r) q = sumE (tE al (al * BB) NN m y T) (edgesOf r) := fun r hc hsub hoff =>
    same_thr hs.2.2.2.2.1 h1 h2 hc hal hsub (fun f hf => hdv f (hsub f hf)) hq hoff hea ho hsl hline hy ha hT
  constructor
  · intro z hz hoff
    rw [same z.ring (hcx z hz) (hall z hz) hoff]
    have hxz : x ≠ z := fun h => hoff (h ▸ ⟨e, he, ho⟩)
    have := two_le (fun z : Parc => sumE (tE al (al * BB) NN m y T) (edgesOf z.ring)) p.parcels nn x hx z hz hxz
    have h0 := nn z hz
    rw [tot] at this
    omega
  · intro hoff
    rw [same p.outer hs.2.1.1 hs.2.2.2.1.2.1 hoff]
    have hm : sumE (tE al (al * BB) NN m y T) (edgesOf x.ring) ≤ (p.parcels.map fun z => sumE (tE al (al * BB) NN m y T) (edgesOf z.ring)).sum := le_sum (fun z : Parc => sumE (tE al (al * BB) NN m y T) (edgesOf z.ring)) p.parcels nn x hx
    rw [tot] at hm
    omega
end Go.Proofs.YtglnklfhgdjccaaGreat
namespace Go.Proofs.YtglnklfhgdjccaaGreat
theorem nodup_atT {xs : List Pt} (hn : xs.Nodup) {i j : Nat} (hi : i < xs.length) (hj : j < xs.length) (h : ptAt xs i = ptAt xs j) : i = j := by
  rw [ptAt_lt hi, ptAt_lt hj] at h
  have hp := List.pairwise_iff_getElem.1 hn
  rcases Nat.lt_trichotomy i j with h4 | h4 | h4
  · exact absurd h (hp _ _ hi hj h4)
  · exact h4
  · exact absurd h.symm (hp _ _ hj hi h4)
theorem back_outT {xs : List Pt} (h : checkI xs = 0) {e : Ed} (he : e ∈ edgesOf xs) : e.back ∉ edgesOf xs := by
  obtain ⟨-, -, h2, -, h3⟩ := checkI_zero h
  have hn := pairs_nodup h3
  intro hb
  unfold edgesOf at he hb
  obtain ⟨i, hi, rfl⟩ := List.mem_map.1 he
  obtain ⟨j, hj, hij⟩ := List.mem_map.1 hb
  rw [List.mem_range] at hi hj
  have hi2 : (i + 1) % xs.length < xs.length := Nat.mod_lt _ (by omega)
  have hj2 : (j + 1) % xs.length < xs.length := Nat.mod_lt _ (by omega)
  simp only [Ed.back, Ed.mk.injEq] at hij
  have e1 := nodup_atT hn hj hi2 hij.1
  have e2 := nodup_atT hn hj2 hi hij.2
  rcases Nat.lt_or_ge (i + 1) xs.length with h4 | h4
  · rw [Nat.mod_eq_of_lt h4] at e1
    subst e1
    rcases Nat.lt_or_ge (i + 1 + 1) xs.length with h5 | h5
    · rw [Nat.mod_eq_of_lt h5] at e2; omega
    · have h6 : i + 1 + 1 = xs.length := by omega
      rw [h6, Nat.mod_self] at e2; omega
  · have h6 : i + 1 = xs.length := by omega
    rw [h6, Nat.mod_self] at e1
    subst e1
    rw [Nat.mod_eq_of_lt (by omega)] at e2
    omega
theorem covI_len (s m : Int) (q : Pt) (ps : List Parc) : (covI s m q ps).length = (ps.filter fun x => decide (sideI (scL m x.ring) q = s)).length := by
  unfold covI
  rw [List.length_map]
theorem onB_back {m : Int} {e : Ed} {q : Pt} (h : onB (scP m e.a) (scP m e.b) q = true) : onB (scP m e.back.a) (scP m e.back.b) q = true := by
  rw [onB_swap]
  exact h
theorem two_len {α : Type} {p : α → Bool} : ∀ {l : List α} {x z : α}, x ∈ l → z ∈ l → x ≠ z → p x = true → p z = true → 2 ≤ (l.filter p).length := fun {l x z} hx hz hxz h1 h2 => by
  have m1 : x ∈ l.filter p := List.mem_filter.2 ⟨hx, h1⟩
  have m2 : z ∈ l.filter p := List.mem_filter.2 ⟨hz, h2⟩
  rcases hl : l.filter p with _ | ⟨a, _ | ⟨b, t⟩⟩
  · rw [hl] at m1; exact absurd m1 List.not_mem_nil
  · rw [hl] at m1 m2
    rw [List.mem_singleton] at m1 m2
    exact absurd (m1.trans m2.symm) hxz
  · simp
theorem tiles_law {p : Plan} (hs : SoundP p) {m : Int} (h1 : 1 ≤ m) (h2 : m ≤ 1024) {q : Pt} (hq : -BB ≤ q.x ∧ q.x ≤ BB) :
    (sideI (scL m p.outer) q = 1 → ((covI 1 m q p.parcels).length = 1 ∧ (covI 0 m q p.parcels).length = 0) ∨ ((covI 1 m q p.parcels).length = 0 ∧ 2 ≤ (covI 0 m q p.parcels).length)) ∧
    (sideI (scL m p.outer) q = 0 → (covI 1 m q p.parcels).length = 0 ∧ 1 ≤ (covI 0 m q p.parcels).length) ∧
    (sideI (scL m p.outer) q ≠ 1 → sideI (scL m p.outer) q ≠ 0 → (covI 1 m q p.parcels).length = 0 ∧ (covI 0 m q p.parcels).length = 0) := by
  have hcx : ∀ z ∈ p.parcels, checkI z.ring = 0 := fun z hz => (hs.2.2.1 z hz).1
  have so := side_iff h1 h2 hs.2.1.1 hq
  rw [covI_len, covI_len]
  by_cases hon : ∃ x ∈ p.parcels, onR x.ring m q
  · obtain ⟨x, hx, e, he, ho⟩ := hon
    obtain ⟨t1, t2⟩ := tiles_on hs h1 h2 hq hx he ho
    have z1 : (p.parcels.filter fun x => decide (sideI (scL m x.ring) q = 1)) = [] := by
      rw [List.filter_eq_nil_iff]
      intro z hz
      rw [decide_eq_true_eq, (side_iff h1 h2 (hcx z hz) hq).2]
      exact fun k => by have := t1 z hz k.1; omega
    have hx0 : sideI (scL m x.ring) q = 0 := side_on ⟨e, he, ho⟩
    have one : 1 ≤ (p.parcels.filter fun x => decide (sideI (scL m x.ring) q = 0)).length := by
      have : x ∈ p.parcels.filter fun x => decide (sideI (scL m x.ring) q = 0) := List.mem_filter.2 ⟨hx, by simpa using hx0⟩
      exact List.length_pos_of_mem this
    rw [z1]
    refine ⟨fun h => .inr ⟨rfl, ?_⟩, fun _ => ⟨rfl, one⟩, fun n1 n0 => ?_⟩
    · have hno := (so.2.1 h).1
      have heo : e ∉ edgesOf p.outer := fun k => hno ⟨e, k, ho⟩
      have hb := (hs.2.2.2.1.2.2 e (allE_memT.2 ⟨x, hx, he⟩)).2 heo
      obtain ⟨z, hz, hbz⟩ := allE_memT.1 hb
      have hz0 : sideI (scL m z.ring) q = 0 := side_on ⟨e.back, hbz, onB_back ho⟩
      have hxz : x ≠ z := fun k => back_outT (hcx x hx) he (k ▸ hbz)
      exact two_len hx hz hxz (by simpa using hx0) (by simpa using hz0)
    · exfalso
      have hno : ¬ onR p.outer m q := fun k => n0 (so.1.2 k)
      exact n1 (so.2.2 ⟨hno, t2 hno⟩)
  · have hoff : ∀ x ∈ p.parcels, ¬ onR x.ring m q := fun x hx k => hon ⟨x, hx, k⟩
    obtain ⟨t1, t2⟩ := tiles_off hs h1 h2 hq hoff
    have hno : ¬ onR p.outer m q := fun ⟨e, he, ho⟩ => by
      obtain ⟨x, hx, hex⟩ := allE_memT.1 (hs.2.2.2.1.2.1 e he)
      exact hoff x hx ⟨e, hex, ho⟩
    have w := wnd_ring h1 h2 hs.2.1.1 hq
    rw [t2]
    refine ⟨fun h => .inl ⟨?_, rfl⟩, fun h => absurd (so.1.1 h) hno, fun n1 _ => ⟨?_, rfl⟩⟩
    · have := (so.2.1 h).2
      omega
    · have : wnd (scL m p.outer) q ≠ 1 := fun k => n1 (so.2.2 ⟨hno, k⟩)
      omega
end Go.Proofs.YtglnklfhgdjccaaGreat

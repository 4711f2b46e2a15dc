/- Plain law: where no edge comes into a window, all of its points are on one side; greater windows, and parts. -/
import Derived.Test.YtcohioplkchojaaParity
import Derived.Test.YtcohioplkchojaaTouches
namespace Go.Proofs.Ytcohioplkchojaa
theorem flat_edge {a b : Pt} {Y x1 x2 : Int} (hx : x1 < x2) (hab : a.y ≤ b.y) (h : ¬ Touch a b ⟨x1, Y⟩ ⟨x2, Y⟩) : crB a b ⟨x1, Y⟩ = crB a b ⟨x2, Y⟩ := by
  obtain ⟨h1, h2, h3, h4, h5⟩ := not_touch h
  rw [Bool.eq_iff_iff, crB_up hab, crB_up hab]
  simp only
  by_cases g1 : a.y ≤ Y
  · by_cases g2 : Y < b.y
    · have hd : cr a b ⟨x1, Y⟩ - cr a b ⟨x2, Y⟩ = (b.y - a.y) * (x2 - x1) := by unfold cr; grind
      have hp := (smul (u := b.y - a.y) (v := x2 - x1) (by omega)).1.2 (by omega)
      have k2 : cr a b ⟨x2, Y⟩ ≠ 0 := fun e => on_up h4 e g1 (by simp only; omega) (by omega)
      have ec := cr_at a b x1 Y
      have ed := cr_at a b x2 Y
      have hca : cr ⟨x1, Y⟩ ⟨x2, Y⟩ a = (x2 - x1) * (a.y - Y) := by unfold cr; grind
      have hcb : cr ⟨x1, Y⟩ ⟨x2, Y⟩ b = (x2 - x1) * (b.y - Y) := by unfold cr; grind
      have mb := (smul (u := x2 - x1) (v := b.y - Y) (by omega)).1.2 (by omega)
      have hpr := mt (prB_iff a b ⟨x1, Y⟩ ⟨x2, Y⟩).2 (by rw [h5]; simp)
      by_cases g3 : a.y = Y
      · have hon : ¬ (x1 ≤ a.x ∧ a.x ≤ x2) := fun g => by
          have : onB ⟨x1, Y⟩ ⟨x2, Y⟩ a = true := by
            rw [onB_iff]
            refine ⟨by rw [hca, g3, Int.sub_self, Int.mul_zero], ?_, ?_⟩
            · simp only; omega
            · simp only; omega
          rw [h1] at this
          cases this
        rw [g3, Int.sub_self, Int.zero_mul, Int.add_zero] at ec ed
        have m1 := smul (u := b.y - Y) (v := a.x - x1) (by omega)
        have m2 := smul (u := b.y - Y) (v := a.x - x2) (by omega)
        omega
      · have ma := (smul (u := x2 - x1) (v := a.y - Y) (by omega)).2.2 (by omega)
        rw [hca, hcb] at hpr
        omega
    · omega
  · omega
theorem par_flat {xs : List Pt} {Y x1 x2 : Int} (hx : x1 < x2) (h : ∀ k, k < xs.length → ¬ Touch (ptAt xs k) (ptAt xs ((k + 1) % xs.length)) ⟨x1, Y⟩ ⟨x2, Y⟩) :
    oddN xs ⟨x1, Y⟩ xs.length = oddN xs ⟨x2, Y⟩ xs.length := by
  rw [oddN_xsum, oddN_xsum]
  refine xsum_congr fun k hk => ?_
  have hk' := h k hk
  unfold crE
  by_cases hab : (ptAt xs k).y ≤ (ptAt xs ((k + 1) % xs.length)).y
  · exact flat_edge hx hab hk'
  · rw [crB_swap, crB_swap (ptAt xs k)]
    refine flat_edge hx (by omega) ?_
    obtain ⟨h1, h2, h3, h4, h5⟩ := not_touch hk'
    rintro (g | g | g | g | g)
    · rw [h2] at g; cases g
    · rw [h1] at g; cases g
    · rw [onB_swap, h3] at g; cases g
    · rw [onB_swap, h4] at g; cases g
    · have hp := mt (prB_iff (ptAt xs k) (ptAt xs ((k + 1) % xs.length)) ⟨x1, Y⟩ ⟨x2, Y⟩).2 (by rw [h5]; simp)
      rw [prB_iff] at g
      rw [cr_swapT, cr_swapT (ptAt xs k)] at g
      omega
theorem no_touch {v : Win} {a b c d : Pt} (hc : hasB v c = true) (hd : hasB v d = true) (h : ¬ Hit v a b) : ¬ Touch a b c d := fun ht =>
  h (hit_meet hc hd ((touch_iff a b c d).2 ht))
/-- No edge comes into the window. -/
def Free (v : Win) (xs : List Pt) : Prop := ∀ k, k < xs.length → ¬ Hit v (ptAt xs k) (ptAt xs ((k + 1) % xs.length))
theorem free_flat {v : Win} {xs : List Pt} (h : Free v xs) {x1 x2 Y : Int} (h1 : hasB v ⟨x1, Y⟩ = true) (h2 : hasB v ⟨x2, Y⟩ = true) : oddN xs ⟨x1, Y⟩ xs.length = oddN xs ⟨x2, Y⟩ xs.length := by
  by_cases hlt : x1 < x2
  · exact par_flat hlt fun k hk => no_touch h1 h2 (h k hk)
  · by_cases hgt : x2 < x1
    · exact (par_flat hgt fun k hk => no_touch h2 h1 (h k hk)).symm
    · rw [show x1 = x2 by omega]
theorem free_vert {v : Win} {xs : List Pt} (hn : 0 < xs.length) (h : Free v xs) {X y1 y2 : Int} (h1 : hasB v ⟨X, y1⟩ = true) (h2 : hasB v ⟨X, y2⟩ = true) : oddN xs ⟨X, y1⟩ xs.length = oddN xs ⟨X, y2⟩ xs.length := by
  by_cases hlt : y1 < y2
  · exact par_vert hn hlt fun k hk => no_touch h1 h2 (h k hk)
  · by_cases hgt : y2 < y1
    · exact (par_vert hn hgt fun k hk => no_touch h2 h1 (h k hk)).symm
    · rw [show y1 = y2 by omega]
theorem free_none {v : Win} {xs : List Pt} (h : Free v xs) {p : Pt} (hp : hasB v p = true) : noneN xs p xs.length := fun k hk => by
  rcases ho : onE xs p k with _ | _
  · rfl
  · exfalso
    obtain ⟨N, t, g1, g2, g3, g4, g5⟩ := on_param ho
    rw [hasB_iff] at hp
    refine h k hk ⟨N, t, g1, g2, g3, ?_, ?_, ?_, ?_⟩
    · rw [g4]; exact (mul_le g1).2 hp.1
    · rw [g4]; exact (mul_le g1).2 hp.2.1
    · rw [g5]; exact (mul_le g1).2 hp.2.2.1
    · rw [g5]; exact (mul_le g1).2 hp.2.2.2
theorem side_move {v : Win} {xs : List Pt} (hn : 0 < xs.length) (h : Free v xs) {p q : Pt} (hp : hasB v p = true) (hq : hasB v q = true) : sideI xs p = sideI xs q := by
  rw [sideI_off (free_none h hp), sideI_off (free_none h hq)]
  have hm : hasB v ⟨q.x, p.y⟩ = true := by rw [hasB_iff] at *; simp only; omega
  have e1 : oddN xs p xs.length = oddN xs ⟨q.x, p.y⟩ xs.length := free_flat h (x1 := p.x) (x2 := q.x) (Y := p.y) hp hm
  have e2 : oddN xs ⟨q.x, p.y⟩ xs.length = oddN xs q xs.length := free_vert hn h (X := q.x) (y1 := p.y) (y2 := q.y) hm hq
  rw [e1, e2]
theorem hit_more {w v : Win} {a b : Pt} (h1 : v.lx ≤ w.lx) (h2 : w.hx ≤ v.hx) (h3 : v.ly ≤ w.ly) (h4 : w.hy ≤ v.hy) (h : Hit w a b) : Hit v a b := by
  obtain ⟨N, t, g1, g2, g3, g4, g5, g6, g7⟩ := h
  exact ⟨N, t, g1, g2, g3, Int.le_trans ((mul_le g1).2 h1) g4, Int.le_trans g5 ((mul_le g1).2 h2), Int.le_trans ((mul_le g1).2 h3) g6, Int.le_trans g7 ((mul_le g1).2 h4)⟩
theorem cutN_iff {v : Win} (h1 : v.lx ≤ v.hx) (h2 : v.ly ≤ v.hy) (xs : List Pt) (k : Nat) : cutN v xs k = true ↔ Hit v (ptAt xs k) (ptAt xs ((k + 1) % xs.length)) := cutsR_iff h1 h2
theorem free_or {v : Win} (h1 : v.lx ≤ v.hx) (h2 : v.ly ≤ v.hy) (xs : List Pt) : MeetsP v xs ∨ Free v xs := by
  by_cases h : ∃ k, k < xs.length ∧ cutN v xs k = true
  · exact .inl (.inl h)
  · exact .inr fun k hk hh => h ⟨k, hk, (cutN_iff h1 h2 xs k).2 hh⟩
theorem low_has {v : Win} (h1 : v.lx ≤ v.hx) (h2 : v.ly ≤ v.hy) : hasB v v.low = true := by
  rw [hasB_iff]
  exact ⟨Int.le_refl _, h1, Int.le_refl _, h2⟩
/-- A greater window meets what a smaller one meets. -/
theorem meets_more {w v : Win} {xs : List Pt} (hn : 0 < xs.length) (hw : w.lx ≤ w.hx ∧ w.ly ≤ w.hy) (h1 : v.lx ≤ w.lx) (h2 : w.hx ≤ v.hx) (h3 : v.ly ≤ w.ly) (h4 : w.hy ≤ v.hy) (h : MeetsP w xs) : MeetsP v xs := by
  have hv1 : v.lx ≤ v.hx := by omega
  have hv2 : v.ly ≤ v.hy := by omega
  rcases free_or hv1 hv2 xs with hm | hf
  · exact hm
  · rcases h with ⟨k, hk, hc⟩ | hs
    · exact absurd (hit_more h1 h2 h3 h4 ((cutN_iff hw.1 hw.2 xs k).1 hc)) (hf k hk)
    · right
      rw [side_move hn hf (low_has hv1 hv2) (q := w.low) (by rw [hasB_iff]; simp only [Win.low]; omega)]
      exact hs
/-- A window parted at x = t. -/
def lowW (w : Win) (t : Int) : Win := ⟨w.lx, w.ly, t, w.hy⟩
def highW (w : Win) (t : Int) : Win := ⟨t, w.ly, w.hx, w.hy⟩
theorem hit_parts {w : Win} {t : Int} {a b : Pt} (h1 : w.lx ≤ t) (h2 : t ≤ w.hx) : Hit w a b ↔ Hit (lowW w t) a b ∨ Hit (highW w t) a b := by
  constructor
  · rintro ⟨N, s, g1, g2, g3, g4, g5, g6, g7⟩
    by_cases h : (N - s) * a.x + s * b.x ≤ N * t
    · exact .inl ⟨N, s, g1, g2, g3, g4, h, g6, g7⟩
    · exact .inr ⟨N, s, g1, g2, g3, by simp only [highW]; omega, g5, g6, g7⟩
  · rintro (h | h)
    · exact hit_more (w := lowW w t) (Int.le_refl _) h2 (Int.le_refl _) (Int.le_refl _) h
    · exact hit_more (w := highW w t) h1 (Int.le_refl _) (Int.le_refl _) (Int.le_refl _) h
theorem cuts_parts {w : Win} {t : Int} {a b : Pt} (hw : w.lx ≤ w.hx ∧ w.ly ≤ w.hy) (h1 : w.lx ≤ t) (h2 : t ≤ w.hx) : cutsR w a b = (cutsR (lowW w t) a b || cutsR (highW w t) a b) := by
  rw [Bool.eq_iff_iff, Bool.or_eq_true, cutsR_iff hw.1 hw.2, cutsR_iff (w := lowW w t) h1 hw.2, cutsR_iff (w := highW w t) h2 hw.2]
  exact hit_parts h1 h2
theorem meets_parts {w : Win} {t : Int} {xs : List Pt} (hn : 0 < xs.length) (hw : w.lx ≤ w.hx ∧ w.ly ≤ w.hy) (h1 : w.lx ≤ t) (h2 : t ≤ w.hx) : meetsB w xs = (meetsB (lowW w t) xs || meetsB (highW w t) xs) := by
  rw [Bool.eq_iff_iff, Bool.or_eq_true, meetsB_iff, meetsB_iff, meetsB_iff]
  constructor
  · rintro (⟨k, hk, hc⟩ | hs)
    · rw [cutN_iff hw.1 hw.2, hit_parts h1 h2] at hc
      rcases hc with hc | hc
      · exact .inl (.inl ⟨k, hk, (cutN_iff (v := lowW w t) h1 hw.2 xs k).2 hc⟩)
      · exact .inr (.inl ⟨k, hk, (cutN_iff (v := highW w t) h2 hw.2 xs k).2 hc⟩)
    · exact .inl (.inr hs)
  · rintro (h | h)
    · exact meets_more hn (w := lowW w t) ⟨h1, hw.2⟩ (Int.le_refl _) h2 (Int.le_refl _) (Int.le_refl _) h
    · exact meets_more hn (w := highW w t) ⟨h2, hw.2⟩ h1 (Int.le_refl _) (Int.le_refl _) (Int.le_refl _) h
end Go.Proofs.Ytcohioplkchojaa

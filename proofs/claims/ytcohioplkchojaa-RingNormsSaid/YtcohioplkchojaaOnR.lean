/- merestoneref02.Turn: the walk. -/
/- merestoneref02: between, On, Less: the walks. -/
import Derived.Test.YtcohioplkchojaaGeo
import Derived.Test.YtcohioplkchojaaGeoLaw
namespace Go.Proofs.Ytcohioplkchojaa
open Go.RowKit
set_option maxHeartbeats 400000 in
theorem turnR6 (x y x' y' x'' y'' : Int) (w : World) (ha : good ⟨x, y⟩ = true) (hb : good ⟨x', y'⟩ = true) (hc : good ⟨x'', y''⟩ = true) :
    Calls Try.prog 60 #[.agg #[.int .i64 x, .int .i64 y], .agg #[.int .i64 x', .int .i64 y'], .agg #[.int .i64 x'', .int .i64 y'']] w fun e w' => e = .returned (.int .i64 (sgn (cr ⟨x, y⟩ ⟨x', y'⟩ ⟨x'', y''⟩))) ∧ Below w.heap.size w w' := by
  have h1 := cr_bd ha hb hc
  have h2 := cr_parts ha hb hc
  obtain ⟨r, hr⟩ : ∃ r, r = cr ⟨x, y⟩ ⟨x', y'⟩ ⟨x'', y''⟩ := ⟨_, rfl⟩
  have hw : wrap64 (wrap64 ((x' - x) * (y'' - y)) - wrap64 ((y' - y) * (x'' - x))) = r := by
    rw [hr]
    unfold cr at h1 ⊢
    simp only at h1 h2 ⊢
    unfold wrap64
    omega
  rw [← hr]
  rw [good_iff] at ha hb hc
  obtain ⟨a1, a2, a3, a4⟩ := ha
  obtain ⟨b1, b2, b3, b4⟩ := hb
  obtain ⟨c1, c2, c3, c4⟩ := hc
  simp only at a1 a2 a3 a4 b1 b2 b3 b4 c1 c2 c3 c4
  clear h1 h2 hr
  have h3 : (r < 0 ∧ sgn r = -1) ∨ (0 < r ∧ sgn r = 1) ∨ (r = 0 ∧ sgn r = 0) := by unfold sgn; split <;> (try split) <;> omega
  rcases h3 with ⟨h, e⟩ | ⟨h, e⟩ | ⟨h, e⟩
  all_goals
    rw [e]
    clear e
    try subst h
    go_enter Try.func60, Try.ntmps60
    go_wp2
    go_ret
    exact ⟨rfl, ((((Below.refl w.heap.size w).alloc (Nat.le_refl _) _).alloc (by simp) _).alloc (by simp; omega) _)⟩
end Go.Proofs.Ytcohioplkchojaa
namespace Go.Proofs.Ytcohioplkchojaa
open Go.RowKit
set_option maxRecDepth 100000 in
theorem between_any (a b n : Int) (w : World) :
    Calls Try.prog 61 #[.int .i64 a, .int .i64 b, .int .i64 n] w fun e w' => e = .returned (.bool (btw a b n)) ∧ w' = w := by
  unfold btw
  by_cases h1 : a ≤ n <;> by_cases h2 : n ≤ b <;> by_cases h3 : b ≤ n <;> by_cases h4 : n ≤ a
  all_goals
    go_enter Try.func61, Try.ntmps61
    go_wp2
    go_ret
    exact ⟨by simp [h1, h2, h3, h4], rfl⟩
theorem held6 {w W W' : World} {x y x' y' x'' y'' : Int} (h : W.cell? ⟨w.heap.size, 0, none⟩ = some (.int .i64 x) ∧ W.cell? ⟨w.heap.size, 1, none⟩ = some (.int .i64 y) ∧ W.cell? ⟨w.heap.size + 1, 0, none⟩ = some (.int .i64 x') ∧ W.cell? ⟨w.heap.size + 1, 1, none⟩ = some (.int .i64 y') ∧ W.cell? ⟨w.heap.size + 1 + 1, 0, none⟩ = some (.int .i64 x'') ∧ W.cell? ⟨w.heap.size + 1 + 1, 1, none⟩ = some (.int .i64 y'') ∧ w.heap.size + 1 + 1 < W.heap.size ∧ Below w.heap.size w W) (hb : Below W.heap.size W W') :
    W'.cell? ⟨w.heap.size, 0, none⟩ = some (.int .i64 x) ∧ W'.cell? ⟨w.heap.size, 1, none⟩ = some (.int .i64 y) ∧ W'.cell? ⟨w.heap.size + 1, 0, none⟩ = some (.int .i64 x') ∧ W'.cell? ⟨w.heap.size + 1, 1, none⟩ = some (.int .i64 y') ∧ W'.cell? ⟨w.heap.size + 1 + 1, 0, none⟩ = some (.int .i64 x'') ∧ W'.cell? ⟨w.heap.size + 1 + 1, 1, none⟩ = some (.int .i64 y'') ∧ w.heap.size + 1 + 1 < W'.heap.size ∧ Below w.heap.size w W' := by
  obtain ⟨h1, h2, h3, h4, h5, h6, h7, h8⟩ := h
  exact ⟨(hb.cell (p := ⟨_, 0, none⟩) (by simp only; omega)).trans h1, (hb.cell (p := ⟨_, 1, none⟩) (by simp only; omega)).trans h2, (hb.cell (p := ⟨_, 0, none⟩) (by simp only; omega)).trans h3, (hb.cell (p := ⟨_, 1, none⟩) (by simp only; omega)).trans h4, (hb.cell (p := ⟨_, 0, none⟩) (by simp only; omega)).trans h5, (hb.cell (p := ⟨_, 1, none⟩) (by simp only; omega)).trans h6, Nat.lt_of_lt_of_le h7 hb.size, h8.trans (hb.mono h8.size)⟩
set_option maxRecDepth 100000 in
set_option maxHeartbeats 1600000 in
theorem onR6 (x y x' y' x'' y'' : Int) (w : World) (ha : good ⟨x, y⟩ = true) (hb : good ⟨x', y'⟩ = true) (hc : good ⟨x'', y''⟩ = true) :
    Calls Try.prog 24 #[.agg #[.int .i64 x, .int .i64 y], .agg #[.int .i64 x', .int .i64 y'], .agg #[.int .i64 x'', .int .i64 y'']] w fun e w' => e = .returned (.bool (onB ⟨x, y⟩ ⟨x', y'⟩ ⟨x'', y''⟩)) ∧ Below w.heap.size w w' := by
  have kt : ∀ W, Calls Try.prog 60 #[.agg #[.int .i64 x, .int .i64 y], .agg #[.int .i64 x', .int .i64 y'], .agg #[.int .i64 x'', .int .i64 y'']] W fun e w' => e = .returned (.int .i64 (sgn (cr ⟨x, y⟩ ⟨x', y'⟩ ⟨x'', y''⟩))) ∧ Below W.heap.size W w' := fun W => turnR6 x y x' y' x'' y'' W ha hb hc
  have kx : ∀ W, Calls Try.prog 61 #[.int .i64 x, .int .i64 x', .int .i64 x''] W fun e w' => e = .returned (.bool (btw x x' x'')) ∧ w' = W := fun W => between_any x x' x'' W
  have ky : ∀ W, Calls Try.prog 61 #[.int .i64 y, .int .i64 y', .int .i64 y''] W fun e w' => e = .returned (.bool (btw y y' y'')) ∧ w' = W := fun W => between_any y y' y'' W
  have hon : onB ⟨x, y⟩ ⟨x', y'⟩ ⟨x'', y''⟩ = (decide (sgn (cr ⟨x, y⟩ ⟨x', y'⟩ ⟨x'', y''⟩) = 0) && (btw x x' x'' && btw y y' y'')) := by
    unfold onB
    congr 1
    refine decide_eq_decide.mpr ?_
    unfold sgn
    split <;> (try split) <;> omega
  have hs := sgn_bd (cr ⟨x, y⟩ ⟨x', y'⟩ ⟨x'', y''⟩)
  generalize sgn (cr ⟨x, y⟩ ⟨x', y'⟩ ⟨x'', y''⟩) = t at *
  generalize onB ⟨x, y⟩ ⟨x', y'⟩ ⟨x'', y''⟩ = o at *
  generalize btw x x' x'' = bx at *
  generalize btw y y' y'' = by_ at *
  subst hon
  have HK := Lib.hid (And.intro kt (And.intro kx ky))
  clear ha hb hc kt kx ky
  have h3 : t = -1 ∨ t = 1 ∨ t = 0 := by omega
  clear hs
  rcases h3 with rfl | rfl | rfl <;> rcases bx with _ | _ <;> rcases by_ with _ | _
  all_goals
    go_enter Try.func24, Try.ntmps24
    go_wp2_with fail
    refine (HK.out.1 _).mono ?_
    rintro e w1 ⟨rfl, hb1⟩
    have hb0 := (((Below.refl w.heap.size w).alloc (Nat.le_refl _) (.cells #[.int .i64 x, .int .i64 y] 35)).alloc (by simp) (.cells #[.int .i64 x', .int .i64 y'] 35)).alloc (by simp; omega) (.cells #[.int .i64 x'', .int .i64 y''] 35)
    have HB := Lib.hid (below_on hb0 (Nat.le_refl _) hb1)
    obtain ⟨a1, a2, a3, a4, a5, a6, _⟩ := held6 (w := w) (x := x) (y := y) (x' := x') (y' := y') (x'' := x'') (y'' := y'') ⟨by simp [go_sem, World.cell?_alloc_past], by simp [go_sem, World.cell?_alloc_past], by simp [go_sem, World.cell?_alloc_past], by simp [go_sem, World.cell?_alloc_past], by simp [go_sem], by simp [go_sem], by simp, hb0⟩ hb1
    clear hb0 hb1
    go_wp2_with (first
        | (go_at_call 61; (with_reducible refine (HK.out.2.1 _).mono ?_); rintro e w' ⟨rfl, rfl⟩)
        | (go_at_call 61; (with_reducible refine (HK.out.2.2 _).mono ?_); rintro e w' ⟨rfl, rfl⟩))
    go_ret
    exact ⟨rfl, HB.out⟩
def lessB (a b : Pt) : Bool := decide (a.x < b.x ∨ a.x = b.x ∧ a.y < b.y)
set_option maxRecDepth 100000 in
theorem lessR6 (x y x' y' : Int) (w : World) :
    Calls Try.prog 74 #[.agg #[.int .i64 x, .int .i64 y], .agg #[.int .i64 x', .int .i64 y']] w fun e w' => e = .returned (.bool (lessB ⟨x, y⟩ ⟨x', y'⟩)) ∧ Below w.heap.size w w' := by
  have h3 : x < x' ∨ x' < x ∨ x = x' := by omega
  rcases h3 with h | h | rfl
  · have e : lessB ⟨x, y⟩ ⟨x', y'⟩ = true := by simp [lessB, h]
    rw [e]
    clear e
    go_enter Try.func74, Try.ntmps74
    go_wp2
    go_ret
    exact ⟨rfl, ((Below.refl w.heap.size w).alloc (Nat.le_refl _) _).alloc (by simp) _⟩
  · have e : lessB ⟨x, y⟩ ⟨x', y'⟩ = false := by simp [lessB]; omega
    have hne : (x == x') = false := by simpa using (by omega : x ≠ x')
    rw [e]
    clear e
    go_enter Try.func74, Try.ntmps74
    go_wp2
    go_ret
    refine ⟨?_, ((Below.refl w.heap.size w).alloc (Nat.le_refl _) _).alloc (by simp) _⟩
    simp
    try omega
  · by_cases h : y < y'
    · have e : lessB ⟨x, y⟩ ⟨x, y'⟩ = true := by simp [lessB, h]
      rw [e]
      clear e
      go_enter Try.func74, Try.ntmps74
      go_wp2
      go_ret
      exact ⟨rfl, ((Below.refl w.heap.size w).alloc (Nat.le_refl _) _).alloc (by simp) _⟩
    · have e : lessB ⟨x, y⟩ ⟨x, y'⟩ = false := by simp [lessB]; omega
      rw [e]
      clear e
      go_enter Try.func74, Try.ntmps74
      go_wp2
      go_ret
      exact ⟨rfl, ((Below.refl w.heap.size w).alloc (Nat.le_refl _) _).alloc (by simp) _⟩
end Go.Proofs.Ytcohioplkchojaa

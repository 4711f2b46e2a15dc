/- merestoneref02.Turn: the walk. -/
import Derived.Test.YtfdagmlfaklcbaaGeo
namespace Go.Proofs.Ytfdagmlfaklcbaa
open Go.RowKit
set_option maxHeartbeats 400000 in
theorem turnR6 (x y x' y' x'' y'' : Int) (w : World) (ha : good ⟨x, y⟩ = true) (hb : good ⟨x', y'⟩ = true) (hc : good ⟨x'', y''⟩ = true) :
    Calls Try.prog 28 #[.agg #[.int .i64 x, .int .i64 y], .agg #[.int .i64 x', .int .i64 y'], .agg #[.int .i64 x'', .int .i64 y'']] w fun e w' => e = .returned (.int .i64 (sgn (cr ⟨x, y⟩ ⟨x', y'⟩ ⟨x'', y''⟩))) ∧ Below w.heap.size w w' := by
  have h1 := cr_bd ha hb hc
  have h2 := cr_parts ha hb hc
  obtain ⟨r, hr⟩ : ∃ r, r = cr ⟨x, y⟩ ⟨x', y'⟩ ⟨x'', y''⟩ := ⟨_, rfl⟩
  have hw : wrap64 (wrap64 ((x' - x) * (y'' - y)) - wrap64 ((y' - y) * (x'' - x))) = r := by
    rw [hr]
    unfold cr at h1 ⊢
    simp only at h1 h2 ⊢
    unfold wrap64
    omega
  rw [← hr]
  rw [good_iff] at ha hb hc
  obtain ⟨a1, a2, a3, a4⟩ := ha
  obtain ⟨b1, b2, b3, b4⟩ := hb
  obtain ⟨c1, c2, c3, c4⟩ := hc
  simp only at a1 a2 a3 a4 b1 b2 b3 b4 c1 c2 c3 c4
  clear h1 h2 hr
  have h3 : (r < 0 ∧ sgn r = -1) ∨ (0 < r ∧ sgn r = 1) ∨ (r = 0 ∧ sgn r = 0) := by unfold sgn; split <;> (try split) <;> omega
  rcases h3 with ⟨h, e⟩ | ⟨h, e⟩ | ⟨h, e⟩
  all_goals
    rw [e]
    clear e
    try subst h
    go_enter Try.func28, Try.ntmps28
    go_wp2
    go_ret
    exact ⟨rfl, ((((Below.refl w.heap.size w).alloc (Nat.le_refl _) _).alloc (by simp) _).alloc (by simp; omega) _)⟩
end Go.Proofs.Ytfdagmlfaklcbaa

/- merestoneref01.Compare: the walk. -/
import Derived.Laws.StructEq
import Derived.Test.YtglnklfhgdjccaaGreatWideCmp
namespace Go.Proofs.YtglnklfhgdjccaaGreat
open Go.RowKit Go.Lib
theorem eqI_runs (a b c d : Int) (op : BinOp) (s t : Operand) (w : World) : Sem.run Tryz.prog (binOp .eql 66 (.agg #[.int .i64 a, .int .u64 b]) (.agg #[.int .i64 c, .int .u64 d])) w = .ok (.bool (decide (a = c) && decide (b = d))) w ∧ Sem.run Tryz.prog (eqGuard op 66 s t (.agg #[.int .i64 a, .int .u64 b]) (.agg #[.int .i64 c, .int .u64 d])) w = .ok () w := by
  have u3 := Tryz.underlying2
  have a3 := Tryz.isAgg2
  have z3 := Tryz.sizeOf2
  have u4 := Tryz.underlying64
  have a4 := Tryz.isAgg64
  have z4 := Tryz.sizeOf64
  have hS : Tryz.prog.underlying 66 = some (.struct (Tryz.prog.fieldsOf 66)) := by kernel_rfl
  have hp : Tryz.prog.stoodInHeld 66 = false := by kernel_rfl
  refine ⟨?_, run_eqGuard_agg w op 66 s t _ _ (by kernel_rfl)⟩
  rw [run_eql_struct, show (10000 : Nat) = 9999 + 1 from rfl, run_equalIn_agg w 9999 66 _ _ hS hp]
  simp only [Program.fieldsOf, Tryz.underlying66]
  go_simp
  by_cases h1 : a = c <;> by_cases h2 : b = d <;> simp [h1, h2]
set_option maxRecDepth 100000 in
set_option maxHeartbeats 1600000 in
theorem rcompare_any (x y : Int) (w : World) :
    Calls Tryz.prog 88 #[i128 x, i128 y] w fun e w' => e = .returned (.int .i64 (cmpI x y)) ∧ Below w.heap.size w w' := by
  obtain ⟨xh, hxh⟩ : ∃ t, t = x / 18446744073709551616 := ⟨_, rfl⟩
  obtain ⟨xl, hxl⟩ : ∃ t, t = x % 18446744073709551616 := ⟨_, rfl⟩
  obtain ⟨yh, hyh⟩ : ∃ t, t = y / 18446744073709551616 := ⟨_, rfl⟩
  obtain ⟨yl, hyl⟩ : ∃ t, t = y % 18446744073709551616 := ⟨_, rfl⟩
  have h : ((xh < yh ∨ (¬ xh < yh ∧ xh = yh ∧ xl < yl)) ∧ cmpI x y = -1) ∨ (xh = yh ∧ xl = yl ∧ cmpI x y = 0) ∨ (((¬ xh < yh ∧ ¬ xh = yh) ∨ (xh = yh ∧ ¬ xl < yl ∧ ¬ xl = yl)) ∧ cmpI x y = 1) := by
    rcases cmpI_cases x y with ⟨h, e⟩ | ⟨h, e⟩ | ⟨h, e⟩ <;> rw [e] <;> omega
  have kE := fun W => (eqI_runs xh xl yh yl .eql (.tmp 0) (.tmp 0) W).1
  have kG := fun op s t W => (eqI_runs xh xl yh yl op s t W).2
  unfold i128
  rw [← hxh, ← hxl, ← hyh, ← hyl]
  clear hxh hxl hyh hyl
  have HB := ((Below.refl w.heap.size w).alloc (Nat.le_refl _) (.cells #[.int .i64 xh, .int .u64 xl] 66)).alloc (by simp) (.cells #[.int .i64 yh, .int .u64 yl] 66)
  rcases h with ⟨h | ⟨h1, h2, h3⟩, e⟩ | ⟨h1, h2, e⟩ | ⟨⟨h1, h2⟩ | ⟨h1, h2, h3⟩, e⟩
  · rw [e]
    clear e kE kG
    go_enter Tryz.func88, Tryz.ntmps88
    go_wp2_with fail
    go_ret
    exact ⟨rfl, HB⟩
  · rw [e]
    clear e kE kG
    subst h2
    go_enter Tryz.func88, Tryz.ntmps88
    go_wp2_with fail
    go_ret
    exact ⟨rfl, HB⟩
  · rw [e]
    subst h1 h2
    have h4 : ¬ xh < xh := by omega
    have h5 : ¬ xl < xl := by omega
    clear e
    go_enter Tryz.func88, Tryz.ntmps88
    go_wp2_with fail
    go_ret
    exact ⟨rfl, HB⟩
  · rw [e]
    rw [decide_eq_false h2] at kE
    clear e
    go_enter Tryz.func88, Tryz.ntmps88
    go_wp2_with fail
    go_ret
    exact ⟨rfl, HB⟩
  · rw [e]
    rw [decide_eq_false h3] at kE
    subst h1
    have h4 : ¬ xh < xh := by omega
    clear e
    go_enter Tryz.func88, Tryz.ntmps88
    go_wp2_with fail
    go_ret
    exact ⟨rfl, HB⟩
end Go.Proofs.YtglnklfhgdjccaaGreat

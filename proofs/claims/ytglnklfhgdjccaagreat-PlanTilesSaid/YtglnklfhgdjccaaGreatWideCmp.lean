/- wide.Mul, wide.Compare: the walks. -/
import Derived.StillTailTactics
import Derived.Deep.DeepCutAuto
import Derived.Test.YtglnklfhgdjccaaGreatWideMul
import Derived.Test.YtglnklfhgdjccaaGreatGeoLaw
namespace Go.Proofs.YtglnklfhgdjccaaGreat
open Go.RowKit Go.Lib
theorem nani64_any (x : Int) (w : World) :
    Calls Tryz.prog 161 #[.int .i64 x] w fun e w' => e = .returned (.bool false) ∧ w = w' := by
  have h : (x != x) = false := by simp
  go_enter Tryz.func161, Tryz.ntmps161
  go_wp2_with fail
  go_ret
  exact ⟨rfl, rfl⟩
theorem comparei64_any (x y : Int) (w : World) :
    Calls Tryz.prog 136 #[.int .i64 x, .int .i64 y] w fun e w' => e = .returned (.int .i64 (cmpI x y)) ∧ w = w' := by
  have h3 : (x < y ∧ cmpI x y = -1) ∨ (y < x ∧ cmpI x y = 1) ∨ (x = y ∧ cmpI x y = 0) := by unfold cmpI; split <;> (try split) <;> omega
  rcases h3 with ⟨h, e⟩ | ⟨h, e⟩ | ⟨h, e⟩
  all_goals
    rw [e]
    clear e
    try subst h
    go_enter Tryz.func136, Tryz.ntmps136
    go_wp2_with (go_at_call 161; refine (nani64_any _ _).mono ?_; rintro e w' ⟨rfl, rfl⟩)
    go_ret
    exact ⟨rfl, rfl⟩
theorem comparei64_still (x y : Int) (w : World) :
    Calls Tryz.prog 136 #[.int .i64 x, .int .i64 y] w fun e w' => e = .returned (.int .i64 (cmpI x y)) ∧ w' = w :=
  (comparei64_any x y w).mono fun _ _ ⟨h1, h2⟩ => ⟨h1, h2.symm⟩
theorem nanu64_any (x : Int) (w : World) :
    Calls Tryz.prog 162 #[.int .u64 x] w fun e w' => e = .returned (.bool false) ∧ w = w' := by
  have h : (x != x) = false := by simp
  go_enter Tryz.func162, Tryz.ntmps162
  go_wp2_with fail
  go_ret
  exact ⟨rfl, rfl⟩
theorem compareu64_any (x y : Int) (w : World) :
    Calls Tryz.prog 137 #[.int .u64 x, .int .u64 y] w fun e w' => e = .returned (.int .i64 (cmpI x y)) ∧ w = w' := by
  have h3 : (x < y ∧ cmpI x y = -1) ∨ (y < x ∧ cmpI x y = 1) ∨ (x = y ∧ cmpI x y = 0) := by unfold cmpI; split <;> (try split) <;> omega
  rcases h3 with ⟨h, e⟩ | ⟨h, e⟩ | ⟨h, e⟩
  all_goals
    rw [e]
    clear e
    try subst h
    go_enter Tryz.func137, Tryz.ntmps137
    go_wp2_with (go_at_call 162; refine (nanu64_any _ _).mono ?_; rintro e w' ⟨rfl, rfl⟩)
    go_ret
    exact ⟨rfl, rfl⟩
theorem compareu64_still (x y : Int) (w : World) :
    Calls Tryz.prog 137 #[.int .u64 x, .int .u64 y] w fun e w' => e = .returned (.int .i64 (cmpI x y)) ∧ w' = w :=
  (compareu64_any x y w).mono fun _ _ ⟨h1, h2⟩ => ⟨h1, h2.symm⟩
set_option maxRecDepth 100000 in
set_option maxHeartbeats 1600000 in
theorem wcompare_any (x y : Int) (w : World) :
    Calls Tryz.prog 119 #[i128 x, i128 y] w fun e w' => e = .returned (.int .i64 (cmpI x y)) ∧ Below w.heap.size w w' := by
  obtain ⟨xh, hxh⟩ : ∃ t, t = x / 18446744073709551616 := ⟨_, rfl⟩
  obtain ⟨xl, hxl⟩ : ∃ t, t = x % 18446744073709551616 := ⟨_, rfl⟩
  obtain ⟨yh, hyh⟩ : ∃ t, t = y / 18446744073709551616 := ⟨_, rfl⟩
  obtain ⟨yl, hyl⟩ : ∃ t, t = y % 18446744073709551616 := ⟨_, rfl⟩
  have hres : cmpI x y = orI (cmpI xh yh) (cmpI xl yl) := by
    unfold orI cmpI
    rw [hxh, hxl, hyh, hyl]
    grind
  have hA := (Blk.new w 66 #[.int .i64 xh, .int .u64 xl]).alloc (.cells #[.int .i64 yh, .int .u64 yl] 66)
  have hC := Blk.new (w.alloc (.cells #[.int .i64 xh, .int .u64 xl] 66)) 66 #[.int .i64 yh, .int .u64 yl]
  rw [World.size_alloc] at hC
  have hB : Below w.heap.size w ((w.alloc (.cells #[.int .i64 xh, .int .u64 xl] 66)).alloc (.cells #[.int .i64 yh, .int .u64 yl] 66)) := ((Below.refl _ _).alloc (Nat.le_refl _) _).alloc (by simp) _
  unfold i128
  rw [← hxh, ← hxl, ← hyh, ← hyl, hres]
  clear hxh hxl hyh hyl hres
  go_enter Tryz.func119, Tryz.ntmps119
  go_wp2
  obtain ⟨W0, hW0⟩ : ∃ W0, W0 = (w.alloc (.cells #[.int .i64 xh, .int .u64 xl] 66)).alloc (.cells #[.int .i64 yh, .int .u64 yl] 66) := ⟨_, rfl⟩
  rw [← hW0] at hA hC hB ⊢
  clear hW0
  refine wp_region_still_tail 10 (by kernel_rfl) (by kernel_rfl) ?_
  change wpStill _ _ W0.drew _ _ _
  have hax : W0.cell? ⟨w.heap.size, 0, none⟩ = some (.int .i64 xh) := by rw [Blk.cell hA 0]; rfl
  have hay : W0.cell? ⟨w.heap.size, 1, none⟩ = some (.int .u64 xl) := by rw [Blk.cell hA 1]; rfl
  have hbx : W0.cell? ⟨w.heap.size + 1, 0, none⟩ = some (.int .i64 yh) := by rw [Blk.cell hC 0]; rfl
  have hby : W0.cell? ⟨w.heap.size + 1, 1, none⟩ = some (.int .u64 yl) := by rw [Blk.cell hC 1]; rfl
  simp only [List.take_succ_cons, List.take_zero, List.drop_succ_cons, List.drop_zero]
  repeat (first | still_step | still_call (comparei64_still _ _ _) | still_call (compareu64_still _ _ _))
  try refine wpStill_nil ?_
  change wpList _ _ _ _ _ W0.drew
  have hB := hB.drew
  generalize W0.drew = W1 at *
  clear hax hay hbx hby hA hC
  go_wp2_with fail
  refine (or_any (cmpI xh yh) (cmpI xl yl) W1.heap.size 0 _ _ (by simp) (by simp)).mono ?_
  rintro e w' ⟨rfl, rfl⟩
  go_wp2
  go_ret
  exact ⟨rfl, hB.alloc hB.size _⟩
set_option maxRecDepth 100000 in
set_option maxHeartbeats 1600000 in
theorem mul_any (a b : Int) (w : World) (a1 : -9223372036854775808 ≤ a) (a2 : a ≤ 9223372036854775807) (b1 : -9223372036854775808 ≤ b) (b2 : b ≤ 9223372036854775807) :
    Calls Tryz.prog 120 #[.int .i64 a, .int .i64 b] w fun e w' => e = .returned (i128 (a * b)) ∧ Below w.heap.size w w' := by
  have kA := size_any a (w.alloc (.cells #[.int .i64 0, .int .u64 0] 66)) a1 a2
  have kB := size_any b (w.alloc (.cells #[.int .i64 0, .int .u64 0] 66)) b1 b2
  obtain ⟨x, hx⟩ : ∃ x, x = a.natAbs := ⟨_, rfl⟩
  obtain ⟨y, hy⟩ : ∃ y, y = b.natAbs := ⟨_, rfl⟩
  rw [← hx] at kA
  rw [← hy] at kB
  have kM := mul64_any x y (by omega) (by omega) (w.alloc (.cells #[.int .i64 0, .int .u64 0] 66))
  have hP : x * y ≤ 9223372036854775808 * 9223372036854775808 := Nat.mul_le_mul (by omega) (by omega)
  have e1 : (x : Int) = if a < 0 then -a else a := by rw [hx]; split <;> omega
  have e2 : (y : Int) = if b < 0 then -b else b := by rw [hy]; split <;> omega
  have hs : a * b = if (decide (a < 0) != decide (b < 0)) = true then -((x * y : Nat) : Int) else ((x * y : Nat) : Int) := by
    rw [Int.natCast_mul, e1, e2]
    by_cases h1 : a < 0 <;> by_cases h2 : b < 0 <;> simp [h1, h2] <;> grind
  obtain ⟨q, hq⟩ : ∃ q : Int, q = ((x * y : Nat) : Int) := ⟨_, rfl⟩
  have hq1 : 0 ≤ q ∧ q ≤ 85070591730234615865843651857942052864 := by rw [hq]; omega
  obtain ⟨hi, hhi⟩ : ∃ t : Int, t = q / 18446744073709551616 := ⟨_, rfl⟩
  obtain ⟨lo, hlo⟩ : ∃ t : Int, t = q % 18446744073709551616 := ⟨_, rfl⟩
  have f1 : ((x * y / 18446744073709551616 : Nat) : Int) = hi := by rw [hhi, hq]; omega
  have f2 : ((x * y % 18446744073709551616 : Nat) : Int) = lo := by rw [hlo, hq]; omega
  rw [f1, f2] at kM
  rw [← hq] at hs
  have w1 : IntKind.i64.wrap hi = hi := by rw [IntKind.wrap_i64]; omega
  have hB : Below w.heap.size w ((w.alloc (.cells #[.int .i64 0, .int .u64 0] 66)).alloc (.cells #[.int .i64 hi, .int .u64 lo] 150)) := ((Below.refl _ _).alloc (Nat.le_refl _) _).alloc (by simp) _
  have hK : Blk ((w.alloc (.cells #[.int .i64 0, .int .u64 0] 66)).alloc (.cells #[.int .i64 hi, .int .u64 lo] 150)) (w.heap.size + 1) 150 #[.int .i64 hi, .int .u64 lo] := by
    have := Blk.new (w.alloc (.cells #[.int .i64 0, .int .u64 0] 66)) 150 #[.int .i64 hi, .int .u64 lo]
    rw [World.size_alloc] at this
    exact this
  have hR : Blk ((w.alloc (.cells #[.int .i64 0, .int .u64 0] 66)).alloc (.cells #[.int .i64 hi, .int .u64 lo] 150)) w.heap.size 66 #[.int .i64 0, .int .u64 0] := Blk.alloc (Blk.new w 66 #[.int .i64 0, .int .u64 0]) _
  have kN : ∀ V, Calls Tryz.prog 140 #[.agg #[.int .i64 hi, .int .u64 lo]] V fun e w' => e = .returned (.agg #[.int .i64 ((-q) / 18446744073709551616), .int .u64 ((-q) % 18446744073709551616)]) ∧ Below V.heap.size V w' := fun V => by
    have := neg_any q V (by omega) (by omega)
    unfold i128 at this
    rw [← hhi, ← hlo] at this
    exact this
  obtain ⟨nh, hnh⟩ : ∃ t : Int, t = (-q) / 18446744073709551616 := ⟨_, rfl⟩
  obtain ⟨nl, hnl⟩ : ∃ t : Int, t = (-q) % 18446744073709551616 := ⟨_, rfl⟩
  rw [← hnh, ← hnl] at kN
  obtain ⟨fl, hfl⟩ : ∃ f, f = (decide (a < 0) != decide (b < 0)) := ⟨_, rfl⟩
  rw [← hfl] at hs
  have hfl2 : (!decide (a < 0) == decide (b < 0)) = fl := by rw [hfl]; cases decide (a < 0) <;> cases decide (b < 0) <;> rfl
  have HS := Lib.hid (And.intro hs (And.intro (And.intro hhi hlo) (And.intro hnh hnl)))
  have HB := Lib.hid (And.intro hB (And.intro hK hR))
  clear hx hy hP e1 e2 hs hq hq1 hhi hlo f1 f2 hB hK hR hnh hnl hfl a1 a2 b1 b2
  go_enter Tryz.func120, Tryz.ntmps120
  go_wp2_with fail
  refine kA.mono ?_
  rintro e w1 ⟨rfl, rfl⟩
  go_wp2_with fail
  refine kB.mono ?_
  rintro e w1 ⟨rfl, rfl⟩
  go_wp2_with fail
  refine kM.mono ?_
  rintro e w1 ⟨rfl, rfl⟩
  clear kA kB kM
  go_upto_region 3 with fail
  obtain ⟨W, hW⟩ : ∃ W, W = (w.alloc (.cells #[.int .i64 0, .int .u64 0] 66)).alloc (.cells #[.int .i64 hi, .int .u64 lo] 150) := ⟨_, rfl⟩
  rw [← hW] at HB ⊢
  clear hW
  obtain ⟨hB, hK, hR⟩ := HB.out
  have k1 : W.cell? ⟨w.heap.size + 1, 0, none⟩ = some (.int .i64 hi) := by rw [Blk.cell hK 0]; rfl
  have k2 : W.cell? ⟨w.heap.size + 1, 1, none⟩ = some (.int .u64 lo) := by rw [Blk.cell hK 1]; rfl
  have k3 := Blk.frozen hK 0
  have k4 := Blk.frozen hK 1
  have r1 : W.cell? ⟨w.heap.size, 0, none⟩ = some (.int .i64 0) := by rw [Blk.cell hR 0]; rfl
  have r2 : W.cell? ⟨w.heap.size, 1, none⟩ = some (.int .u64 0) := by rw [Blk.cell hR 1]; rfl
  have r3 := Blk.frozen hR 0
  have r4 := Blk.frozen hR 1
  clear hB hK hR
  rcases fl with _ | _
  · have hv : a * b = q := by rw [HS.out.1, if_neg (by decide)]
    have HV : Hid (i128 (a * b) = .agg #[.int .i64 hi, .int .u64 lo]) := by show _ = _; rw [hv, HS.out.2.1.1, HS.out.2.1.2]; rfl
    clear hv kN
    go_wp2_with fail
    obtain ⟨hB, hK, hR⟩ := HB.out
    have hR2 := Blk.set_ (Blk.set_ hR 0 (.int .i64 hi)) 1 (.int .u64 lo)
    clear k1 k2 k3 k4 r1 r2 r3 r4
    have y1 := Blk.cell hR2 0
    have y2 := Blk.cell hR2 1
    simp only [List.setIfInBounds_toArray, List.set_cons_zero, List.set_cons_succ, List.getElem?_toArray, List.getElem?_cons_zero, List.getElem?_cons_succ] at y1 y2
    exact bodyPost_ret (v := .agg #[.int .i64 hi, .int .u64 lo]) (by simp [results, Tryz.results120, go_sem, y1, y2]) rfl ⟨by rw [HV.out], (hB.setCell (p := ⟨w.heap.size, 0, none⟩) (Nat.le_refl _) _).setCell (p := ⟨w.heap.size, 1, none⟩) (Nat.le_refl _) _⟩
  · have hv : a * b = -q := by rw [HS.out.1, if_pos rfl]
    have HV : Hid (i128 (a * b) = .agg #[.int .i64 nh, .int .u64 nl]) := by show _ = _; rw [hv, HS.out.2.2.1, HS.out.2.2.2]; rfl
    clear hv
    go_wp2_with fail
    refine (kN _).mono ?_
    rintro e V ⟨rfl, hb⟩
    obtain ⟨hB, hK, hR⟩ := HB.out
    have hKV := Blk.below hK hb (Blk.lt hK)
    have hRV := Blk.below hR hb (Blk.lt hR)
    have hBV := below_on hB (Nat.le_refl _) hb
    clear k1 k2 k3 k4 r1 r2 r3 r4 hB hK hR
    have k3 := Blk.frozen hKV 0
    have k4 := Blk.frozen hKV 1
    have k1 : V.cell? ⟨w.heap.size + 1, 0, none⟩ = some (.int .i64 hi) := by rw [Blk.cell hKV 0]; rfl
    have k2 : V.cell? ⟨w.heap.size + 1, 1, none⟩ = some (.int .u64 lo) := by rw [Blk.cell hKV 1]; rfl
    have hK2 := Blk.set_ (Blk.set_ hKV 0 (.int .i64 nh)) 1 (.int .u64 nl)
    have hR2 := Blk.far (p := ⟨w.heap.size + 1, 1, none⟩) (Blk.far (p := ⟨w.heap.size + 1, 0, none⟩) hRV (by simp only; omega) (.int .i64 nh)) (by simp only; omega) (.int .u64 nl)
    have hB2 := (hBV.setCell (p := ⟨w.heap.size + 1, 0, none⟩) (by simp) (.int .i64 nh)).setCell (p := ⟨w.heap.size + 1, 1, none⟩) (by simp) (.int .u64 nl)
    obtain ⟨U, hU⟩ : ∃ U, U = (V.setCell ⟨w.heap.size + 1, 0, none⟩ (.int .i64 nh)).setCell ⟨w.heap.size + 1, 1, none⟩ (.int .u64 nl) := ⟨_, rfl⟩
    rw [← hU] at hK2 hR2 hB2
    have hU2 := hU.symm
    simp only [List.setIfInBounds_toArray, List.set_cons_zero, List.set_cons_succ] at hK2
    have HU := Lib.hid (And.intro hB2 (And.intro hK2 hR2))
    clear hU hKV hRV hBV hb hK2 hR2 hB2
    go_upto_region 5 with fail
    clear k1 k2 k3 k4 hU2
    obtain ⟨hB, hK, hR⟩ := HU.out
    have k1 : U.cell? ⟨w.heap.size + 1, 0, none⟩ = some (.int .i64 nh) := by rw [Blk.cell hK 0]; rfl
    have k2 : U.cell? ⟨w.heap.size + 1, 1, none⟩ = some (.int .u64 nl) := by rw [Blk.cell hK 1]; rfl
    have r1 : U.cell? ⟨w.heap.size, 0, none⟩ = some (.int .i64 0) := by rw [Blk.cell hR 0]; rfl
    have r2 : U.cell? ⟨w.heap.size, 1, none⟩ = some (.int .u64 0) := by rw [Blk.cell hR 1]; rfl
    have r3 := Blk.frozen hR 0
    have r4 := Blk.frozen hR 1
    clear hB hK hR
    go_wp2_with fail
    obtain ⟨hB, hK, hR⟩ := HU.out
    have hR2 := Blk.set_ (Blk.set_ hR 0 (.int .i64 nh)) 1 (.int .u64 nl)
    clear k1 k2 r1 r2 r3 r4
    have y1 := Blk.cell hR2 0
    have y2 := Blk.cell hR2 1
    simp only [List.setIfInBounds_toArray, List.set_cons_zero, List.set_cons_succ, List.getElem?_toArray, List.getElem?_cons_zero, List.getElem?_cons_succ] at y1 y2
    exact bodyPost_ret (v := .agg #[.int .i64 nh, .int .u64 nl]) (by simp [results, Tryz.results120, go_sem, y1, y2]) rfl ⟨by rw [HV.out], (hB.setCell (p := ⟨w.heap.size, 0, none⟩) (Nat.le_refl _) _).setCell (p := ⟨w.heap.size, 1, none⟩) (Nat.le_refl _) _⟩
end Go.Proofs.YtglnklfhgdjccaaGreat

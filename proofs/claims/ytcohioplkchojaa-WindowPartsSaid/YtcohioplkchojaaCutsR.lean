/- merestoneref02.Cuts: the walk. -/
import Derived.Test.YtcohioplkchojaaOnR
import Derived.Test.YtcohioplkchojaaCuts
import Derived.Deep.DeepCutAuto
namespace Go.Proofs.Ytcohioplkchojaa
open Go.RowKit
def crK (v : Win) (a b : Pt) (k : Nat) : Int := if k = 0 then cr a b (cor0 v) else if k = 1 then cr a b (cor1 v) else if k = 2 then cr a b (cor2 v) else cr a b (cor3 v)
def leftK (v : Win) (a b : Pt) : Nat → Bool
  | 0 => false
  | k + 1 => leftK v a b k || decide (0 ≤ crK v a b k)
def rightK (v : Win) (a b : Pt) : Nat → Bool
  | 0 => false
  | k + 1 => rightK v a b k || decide (crK v a b k ≤ 0)
theorem sgn_nn (z : Int) : (0 ≤ sgn z ↔ 0 ≤ z) ∧ (sgn z ≤ 0 ↔ z ≤ 0) := by unfold sgn; split <;> (try split) <;> omega
theorem leftK_succ (v : Win) (a b : Pt) (k : Nat) : leftK v a b (k + 1) = (leftK v a b k || decide (0 ≤ sgn (crK v a b k))) := by
  show (leftK v a b k || decide (0 ≤ crK v a b k)) = _
  simp only [(sgn_nn _).1]
theorem rightK_succ (v : Win) (a b : Pt) (k : Nat) : rightK v a b (k + 1) = (rightK v a b k || decide (sgn (crK v a b k) ≤ 0)) := by
  show (rightK v a b k || decide (crK v a b k ≤ 0)) = _
  simp only [(sgn_nn _).2]
theorem leftK_four (v : Win) (a b : Pt) : leftK v a b 4 = leftB v a b := by
  simp only [leftK, leftB, crK, Bool.false_or, if_true, if_false, Nat.reduceEqDiff, reduceCtorEq]
  rw [Bool.eq_iff_iff]
  simp only [decide_eq_true_eq, Bool.or_eq_true]
  omega
theorem rightK_four (v : Win) (a b : Pt) : rightK v a b 4 = rightB v a b := by
  simp only [rightK, rightB, crK, Bool.false_or, if_true, if_false, Nat.reduceEqDiff, reduceCtorEq]
  rw [Bool.eq_iff_iff]
  simp only [decide_eq_true_eq, Bool.or_eq_true]
  omega
theorem bey_form (v : Win) (a b : Pt) : beyB v a b = ((decide (a.x < v.lx) && decide (b.x < v.lx)) || (decide (v.hx < a.x) && decide (v.hx < b.x)) || (decide (a.y < v.ly) && decide (b.y < v.ly)) || (decide (v.hy < a.y) && decide (v.hy < b.y))) := by
  unfold beyB
  rw [Bool.eq_iff_iff]
  simp only [decide_eq_true_eq, Bool.or_eq_true, Bool.and_eq_true]
  omega
set_option maxRecDepth 100000 in
set_option maxHeartbeats 3200000 in
theorem cutsR_any (v : Win) (a b : Pt) (w : World) (hv : winE v = 0) (ha : good a = true) (hb : good b = true) :
    Calls Try.prog 70 #[winV v, ptV a, ptV b] w fun e w' => e = .returned (.bool (cutsR v a b)) ∧ Below w.heap.size w w' := by
  have hg := cor_good hv
  have HG := Lib.hid (And.intro ha (And.intro hb hg))
  clear ha hb hg hv
  have HN := Lib.hid (wpp_new w v a b)
  unfold winV ptV
  go_enter Try.func70, Try.ntmps70
  go_wp2_with fail
  refine calls_named fun W hW => ?_
  obtain ⟨kW, kA, kB, hB⟩ := HN.out W hW
  clear hW HN
  refine (hasR_any v a _).mono ?_
  rintro e w1 ⟨rfl, hb1⟩
  obtain ⟨k1, k2, k3, k4, k5⟩ := kW.on hb1
  obtain ⟨a1, a2, a3⟩ := kA.on hb1
  obtain ⟨b1, b2, b3⟩ := kB.on hb1
  replace hB := below_on hB (Nat.le_refl _) hb1
  clear hb1 kW kA kB
  rcases h1 : hasB v a with _ | _
  · have H1 := Lib.hid h1
    clear h1
    go_wp2_with fail
    refine (hasR_any v b _).mono ?_
    rintro e w2 ⟨rfl, hb2⟩
    obtain ⟨k1, k2, k3, k4, k5⟩ := HasWin.on ⟨k1, k2, k3, k4, k5⟩ hb2
    obtain ⟨a1, a2, a3⟩ := HasPt.on ⟨a1, a2, a3⟩ hb2
    obtain ⟨b1, b2, b3⟩ := HasPt.on ⟨b1, b2, b3⟩ hb2
    replace hB := below_on hB (Nat.le_refl _) hb2
    clear hb2
    rcases h2 : hasB v b with _ | _
    · have H2 := Lib.hid h2
      clear h2
      obtain ⟨yB, hy⟩ : ∃ yB, yB = beyB v a b := ⟨_, rfl⟩
      have HY := Lib.hid hy
      have hf := bey_form v a b
      rw [← hy] at hf
      have HF := Lib.hid hf
      clear hy hf
      go_upto_region 3 with fail
      go_cut [81] (fun s wx => s = .bool yB ∧ wx = w2)
      case first =>
        go_wp2_with fail
        all_goals go_meet
        all_goals (refine ⟨?_, rfl⟩; rw [HF.out]; congr 1; rw [Bool.eq_iff_iff]; simp only [decide_eq_true_eq, Bool.or_eq_true, Bool.and_eq_true, true_iff, Bool.false_eq_true, false_iff]; omega)
      case rest =>
        obtain ⟨rfl, rfl⟩ := hcut
        rcases yB with _ | _
        · go_wp2_with fail
          generalize hW4 : wc.alloc (.cells #[.int .i64 v.lx, .int .i64 v.ly, .int .i64 v.hx, .int .i64 v.ly, .int .i64 v.hx, .int .i64 v.hy, .int .i64 v.lx, .int .i64 v.hy] 35) = w4
          have hA4 : HasPt w4 (w.heap.size + 1) a := by rw [← hW4]; exact HasPt.alloc ⟨a1, a2, a3⟩ _
          have hC4 : HasPt w4 (w.heap.size + 1 + 1) b := by rw [← hW4]; exact HasPt.alloc ⟨b1, b2, b3⟩ _
          have hQ4 : HasCor w4 wc.heap.size v := by rw [← hW4]; exact ⟨by simp, by simp, by simp, by simp, by simp, by simp, by simp, by simp, by simp⟩
          have hB4 : Below w.heap.size w w4 := by rw [← hW4]; exact hB.alloc hB.size _
          have t1 : w.heap.size + 1 < wc.heap.size + 1 := by omega
          have t2 : w.heap.size + 1 + 1 < wc.heap.size + 1 := by omega
          have hcut : cutsR v a b = (leftK v a b 4 && rightK v a b 4) := by
            unfold cutsR
            rw [H1.out, H2.out, ← HY.out, leftK_four, rightK_four]
            simp
          have HC := Lib.hid hcut
          clear hW4 a1 a2 a3 b1 b2 b3 hB k1 k2 k3 k4 k5 hcut HY HF H1 H2
          generalize wc.heap.size = g at *
          have t3 : g < g + 1 := by omega
          go_loopw [8, 9, 10] (fun l r i wr => ∃ k : Nat, k ≤ 4 ∧ l = .bool (leftK v a b k) ∧ r = .bool (rightK v a b k) ∧ i = .int .i64 (k : Int) ∧ Below w4.heap.size w4 wr) (fun _ _ i _ => 4 - (intOf i).toNat)
          case atStart => exact ⟨0, by omega, rfl, rfl, rfl, Below.refl _ _⟩
          case round =>
            obtain ⟨k, hk, rfl, rfl, rfl, hbel⟩ := hrel
            by_cases hlt : k < 4
            · obtain ⟨a1, a2, a3⟩ := hA4.on hbel
              obtain ⟨b1, b2, b3⟩ := hC4.on hbel
              obtain ⟨q0, q1, q2, q3, q4, q5, q6, q7, q8⟩ := hQ4.on hbel
              obtain ⟨m, hm⟩ : ∃ m, m = crK v a b k := ⟨_, rfl⟩
              obtain ⟨L, hL⟩ : ∃ L, L = leftK v a b k := ⟨_, rfl⟩
              obtain ⟨R, hR⟩ : ∃ R, R = rightK v a b k := ⟨_, rfl⟩
              have HN : Hid (leftK v a b (k + 1) = (L || decide (0 ≤ sgn m)) ∧ rightK v a b (k + 1) = (R || decide (sgn m ≤ 0))) := by
                rw [hL, hR, hm]
                exact ⟨leftK_succ v a b k, rightK_succ v a b k⟩
              rw [← hL, ← hR]
              clear hL hR
              have h4 : k = 0 ∨ k = 1 ∨ k = 2 ∨ k = 3 := by omega
              rcases h4 with rfl | rfl | rfl | rfl
              · have hmk : cr a b (cor0 v) = m := by rw [hm]; rfl
                have HM := Lib.hid hmk
                clear hmk hm
                go_wp2
                go_region_held3 (fun W => W.cell? ⟨w.heap.size + 1, 0, none⟩ = some (.int .i64 a.x) ∧ W.cell? ⟨w.heap.size + 1, 1, none⟩ = some (.int .i64 a.y) ∧ W.cell? ⟨w.heap.size + 1 + 1, 0, none⟩ = some (.int .i64 b.x) ∧ W.cell? ⟨w.heap.size + 1 + 1, 1, none⟩ = some (.int .i64 b.y) ∧ W.cell? ⟨g, 0, none⟩ = some (.int .i64 v.lx) ∧ W.cell? ⟨g, 1, none⟩ = some (.int .i64 v.ly) ∧ W.cell? ⟨g, 0, none⟩ = some (.int .i64 v.lx) ∧ W.cell? ⟨g, 1, none⟩ = some (.int .i64 v.ly) ∧ g + 1 ≤ W.heap.size ∧ Below w4.heap.size w4 W)
                  (first | exact ⟨a1, a2, b1, b2, q0, q1, q0, q1, q8, hbel.drew⟩ | exact held8 t1 t1 t2 t2 t3 t3 t3 t3 (by assumption) (by assumption))
                  (first
                    | (go_simp; go_at_call 60; (with_reducible refine (turnR6 _ _ _ _ _ _ _ ?_ ?_ ?_).mono ?_); exact HG.out.1; exact HG.out.2.1; (first | exact HG.out.2.2.1 | exact HG.out.2.2.2.1 | exact HG.out.2.2.2.2.1 | exact HG.out.2.2.2.2.2.1); rintro e w' ⟨rfl, hb'⟩))
                rename_i hH
                have hbe4 := hH.2.2.2.2.2.2.2.2.2
                clear hH hb'
                generalize hmm : sgn (cr _ _ ⟨v.lx, v.ly⟩) = s
                have HS : Hid (s = sgn m) := by show _ = _; rw [← hmm, ← HM.out]; rfl
                clear hmm HM
                rcases L with _ | _ <;> rcases R with _ | _
                all_goals
                  go_wp2
                  go_roundw
                  case rel => exact ⟨1, by omega, by first | (rw [HN.out.1, HS.out]; done) | (rw [HN.out.1, HS.out]; rfl) | (rw [HN.out.1, HS.out]; simp; done) | (rw [HN.out.1]; done) | (rw [HN.out.1]; rfl) | (rw [HN.out.1]; simp; done), by first | (rw [HN.out.2, HS.out]; done) | (rw [HN.out.2, HS.out]; rfl) | (rw [HN.out.2, HS.out]; simp; done) | (rw [HN.out.2]; done) | (rw [HN.out.2]; rfl) | (rw [HN.out.2]; simp; done), rfl, hbe4⟩
                  case measure => simp [intOf]
              · have hmk : cr a b (cor1 v) = m := by rw [hm]; rfl
                have HM := Lib.hid hmk
                clear hmk hm
                go_wp2
                go_region_held3 (fun W => W.cell? ⟨w.heap.size + 1, 0, none⟩ = some (.int .i64 a.x) ∧ W.cell? ⟨w.heap.size + 1, 1, none⟩ = some (.int .i64 a.y) ∧ W.cell? ⟨w.heap.size + 1 + 1, 0, none⟩ = some (.int .i64 b.x) ∧ W.cell? ⟨w.heap.size + 1 + 1, 1, none⟩ = some (.int .i64 b.y) ∧ W.cell? ⟨g, 2, none⟩ = some (.int .i64 v.hx) ∧ W.cell? ⟨g, 3, none⟩ = some (.int .i64 v.ly) ∧ W.cell? ⟨g, 0, none⟩ = some (.int .i64 v.lx) ∧ W.cell? ⟨g, 1, none⟩ = some (.int .i64 v.ly) ∧ g + 1 ≤ W.heap.size ∧ Below w4.heap.size w4 W)
                  (first | exact ⟨a1, a2, b1, b2, q2, q3, q0, q1, q8, hbel.drew⟩ | exact held8 t1 t1 t2 t2 t3 t3 t3 t3 (by assumption) (by assumption))
                  (first
                    | (go_simp; go_at_call 60; (with_reducible refine (turnR6 _ _ _ _ _ _ _ ?_ ?_ ?_).mono ?_); exact HG.out.1; exact HG.out.2.1; (first | exact HG.out.2.2.1 | exact HG.out.2.2.2.1 | exact HG.out.2.2.2.2.1 | exact HG.out.2.2.2.2.2.1); rintro e w' ⟨rfl, hb'⟩))
                rename_i hH
                have hbe4 := hH.2.2.2.2.2.2.2.2.2
                clear hH hb'
                generalize hmm : sgn (cr _ _ ⟨v.hx, v.ly⟩) = s
                have HS : Hid (s = sgn m) := by show _ = _; rw [← hmm, ← HM.out]; rfl
                clear hmm HM
                rcases L with _ | _ <;> rcases R with _ | _
                all_goals
                  go_wp2
                  go_roundw
                  case rel => exact ⟨2, by omega, by first | (rw [HN.out.1, HS.out]; done) | (rw [HN.out.1, HS.out]; rfl) | (rw [HN.out.1, HS.out]; simp; done) | (rw [HN.out.1]; done) | (rw [HN.out.1]; rfl) | (rw [HN.out.1]; simp; done), by first | (rw [HN.out.2, HS.out]; done) | (rw [HN.out.2, HS.out]; rfl) | (rw [HN.out.2, HS.out]; simp; done) | (rw [HN.out.2]; done) | (rw [HN.out.2]; rfl) | (rw [HN.out.2]; simp; done), rfl, hbe4⟩
                  case measure => simp [intOf]
              · have hmk : cr a b (cor2 v) = m := by rw [hm]; rfl
                have HM := Lib.hid hmk
                clear hmk hm
                go_wp2
                go_region_held3 (fun W => W.cell? ⟨w.heap.size + 1, 0, none⟩ = some (.int .i64 a.x) ∧ W.cell? ⟨w.heap.size + 1, 1, none⟩ = some (.int .i64 a.y) ∧ W.cell? ⟨w.heap.size + 1 + 1, 0, none⟩ = some (.int .i64 b.x) ∧ W.cell? ⟨w.heap.size + 1 + 1, 1, none⟩ = some (.int .i64 b.y) ∧ W.cell? ⟨g, 4, none⟩ = some (.int .i64 v.hx) ∧ W.cell? ⟨g, 5, none⟩ = some (.int .i64 v.hy) ∧ W.cell? ⟨g, 0, none⟩ = some (.int .i64 v.lx) ∧ W.cell? ⟨g, 1, none⟩ = some (.int .i64 v.ly) ∧ g + 1 ≤ W.heap.size ∧ Below w4.heap.size w4 W)
                  (first | exact ⟨a1, a2, b1, b2, q4, q5, q0, q1, q8, hbel.drew⟩ | exact held8 t1 t1 t2 t2 t3 t3 t3 t3 (by assumption) (by assumption))
                  (first
                    | (go_simp; go_at_call 60; (with_reducible refine (turnR6 _ _ _ _ _ _ _ ?_ ?_ ?_).mono ?_); exact HG.out.1; exact HG.out.2.1; (first | exact HG.out.2.2.1 | exact HG.out.2.2.2.1 | exact HG.out.2.2.2.2.1 | exact HG.out.2.2.2.2.2.1); rintro e w' ⟨rfl, hb'⟩))
                rename_i hH
                have hbe4 := hH.2.2.2.2.2.2.2.2.2
                clear hH hb'
                generalize hmm : sgn (cr _ _ ⟨v.hx, v.hy⟩) = s
                have HS : Hid (s = sgn m) := by show _ = _; rw [← hmm, ← HM.out]; rfl
                clear hmm HM
                rcases L with _ | _ <;> rcases R with _ | _
                all_goals
                  go_wp2
                  go_roundw
                  case rel => exact ⟨3, by omega, by first | (rw [HN.out.1, HS.out]; done) | (rw [HN.out.1, HS.out]; rfl) | (rw [HN.out.1, HS.out]; simp; done) | (rw [HN.out.1]; done) | (rw [HN.out.1]; rfl) | (rw [HN.out.1]; simp; done), by first | (rw [HN.out.2, HS.out]; done) | (rw [HN.out.2, HS.out]; rfl) | (rw [HN.out.2, HS.out]; simp; done) | (rw [HN.out.2]; done) | (rw [HN.out.2]; rfl) | (rw [HN.out.2]; simp; done), rfl, hbe4⟩
                  case measure => simp [intOf]
              · have hmk : cr a b (cor3 v) = m := by rw [hm]; rfl
                have HM := Lib.hid hmk
                clear hmk hm
                go_wp2
                go_region_held3 (fun W => W.cell? ⟨w.heap.size + 1, 0, none⟩ = some (.int .i64 a.x) ∧ W.cell? ⟨w.heap.size + 1, 1, none⟩ = some (.int .i64 a.y) ∧ W.cell? ⟨w.heap.size + 1 + 1, 0, none⟩ = some (.int .i64 b.x) ∧ W.cell? ⟨w.heap.size + 1 + 1, 1, none⟩ = some (.int .i64 b.y) ∧ W.cell? ⟨g, 6, none⟩ = some (.int .i64 v.lx) ∧ W.cell? ⟨g, 7, none⟩ = some (.int .i64 v.hy) ∧ W.cell? ⟨g, 0, none⟩ = some (.int .i64 v.lx) ∧ W.cell? ⟨g, 1, none⟩ = some (.int .i64 v.ly) ∧ g + 1 ≤ W.heap.size ∧ Below w4.heap.size w4 W)
                  (first | exact ⟨a1, a2, b1, b2, q6, q7, q0, q1, q8, hbel.drew⟩ | exact held8 t1 t1 t2 t2 t3 t3 t3 t3 (by assumption) (by assumption))
                  (first
                    | (go_simp; go_at_call 60; (with_reducible refine (turnR6 _ _ _ _ _ _ _ ?_ ?_ ?_).mono ?_); exact HG.out.1; exact HG.out.2.1; (first | exact HG.out.2.2.1 | exact HG.out.2.2.2.1 | exact HG.out.2.2.2.2.1 | exact HG.out.2.2.2.2.2.1); rintro e w' ⟨rfl, hb'⟩))
                rename_i hH
                have hbe4 := hH.2.2.2.2.2.2.2.2.2
                clear hH hb'
                generalize hmm : sgn (cr _ _ ⟨v.lx, v.hy⟩) = s
                have HS : Hid (s = sgn m) := by show _ = _; rw [← hmm, ← HM.out]; rfl
                clear hmm HM
                rcases L with _ | _ <;> rcases R with _ | _
                all_goals
                  go_wp2
                  go_roundw
                  case rel => exact ⟨4, by omega, by first | (rw [HN.out.1, HS.out]; done) | (rw [HN.out.1, HS.out]; rfl) | (rw [HN.out.1, HS.out]; simp; done) | (rw [HN.out.1]; done) | (rw [HN.out.1]; rfl) | (rw [HN.out.1]; simp; done), by first | (rw [HN.out.2, HS.out]; done) | (rw [HN.out.2, HS.out]; rfl) | (rw [HN.out.2, HS.out]; simp; done) | (rw [HN.out.2]; done) | (rw [HN.out.2]; rfl) | (rw [HN.out.2]; simp; done), rfl, hbe4⟩
                  case measure => simp [intOf]
            · have hk4 : k = 4 := by omega
              subst hk4
              have hbw := below_on hB4 (Nat.le_refl _) hbel
              clear hA4 hC4 hQ4
              obtain ⟨L, hL⟩ : ∃ L, L = leftK v a b 4 := ⟨_, rfl⟩
              obtain ⟨R, hR⟩ : ∃ R, R = rightK v a b 4 := ⟨_, rfl⟩
              have HC2 : Hid (cutsR v a b = (L && R)) := by show _ = _; rw [HC.out, hL, hR]
              rw [← hL, ← hR]
              clear hL hR
              rcases L with _ | _
              all_goals
                go_wp2
                go_ret
                exact ⟨by rw [HC2.out]; rfl, hbw⟩
        · have hc : cutsR v a b = false := by unfold cutsR; rw [H1.out, H2.out, ← HY.out]; rfl
          have HC := Lib.hid hc
          clear hc
          go_wp2
          go_ret
          exact ⟨by rw [HC.out]; rfl, hB⟩
    · have hc : cutsR v a b = true := by unfold cutsR; rw [h2]; simp
      have HC := Lib.hid hc
      clear h2 hc
      go_wp2
      go_ret
      exact ⟨by rw [HC.out]; rfl, hB⟩
  · have hc : cutsR v a b = true := by unfold cutsR; rw [h1]; rfl
    have HC := Lib.hid hc
    clear h1 hc
    go_wp2
    go_ret
    exact ⟨by rw [HC.out]; rfl, hB⟩
end Go.Proofs.Ytcohioplkchojaa

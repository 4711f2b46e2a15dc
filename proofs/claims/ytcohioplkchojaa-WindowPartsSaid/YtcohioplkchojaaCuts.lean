/- window.frame's corners and cuts, window.Cuts: the walks. -/
import Derived.Test.YtcohioplkchojaaMeet
import Derived.Test.YtcohioplkchojaaCutsEq
import Derived.Test.YtcohioplkchojaaWinHas
import Derived.Deep.RegionHeld3
import Derived.IntWalk
namespace Go.Proofs.Ytcohioplkchojaa
open Go.RowKit
def corV (v : Win) : Value := .agg #[.int .i64 v.lx, .int .i64 v.ly, .int .i64 v.hx, .int .i64 v.ly, .int .i64 v.hx, .int .i64 v.hy, .int .i64 v.lx, .int .i64 v.hy]
theorem corners_any (v : Win) (w : World) :
    Calls Try.prog 90 #[winV v] w fun e w' => e = .returned (corV v) ∧ Below w.heap.size w w' := by
  unfold winV corV
  go_enter Try.func90, Try.ntmps90
  go_wp2
  refine bodyPost_ret (v := .agg #[.int .i64 v.lx, .int .i64 v.ly, .int .i64 v.hx, .int .i64 v.ly, .int .i64 v.hx, .int .i64 v.hy, .int .i64 v.lx, .int .i64 v.hy]) (by simp [results, Try.results90, go_sem]) rfl ⟨rfl, ?_⟩
  exact ((Below.refl _ _).alloc (Nat.le_refl _) _).alloc (by simp) _
theorem meet8 (x1 y1 x2 y2 x3 y3 x4 y4 : Int) (w : World) (h1 : good ⟨x1, y1⟩ = true) (h2 : good ⟨x2, y2⟩ = true) (h3 : good ⟨x3, y3⟩ = true) (h4 : good ⟨x4, y4⟩ = true) :
    Calls Try.prog 86 #[.agg #[.int .i64 x1, .int .i64 y1], .agg #[.int .i64 x2, .int .i64 y2], .agg #[.int .i64 x3, .int .i64 y3], .agg #[.int .i64 x4, .int .i64 y4]] w fun e w' => e = .returned (.tuple #[.int .i64 (meetP ⟨x1, y1⟩ ⟨x2, y2⟩ ⟨x3, y3⟩ ⟨x4, y4⟩), .int .i64 0]) ∧ Below w.heap.size w w' := meet_any _ _ _ _ w h1 h2 h3 h4
/-- A block that holds the four corners. -/
def HasCor (w : World) (g : Nat) (v : Win) : Prop := w.cell? ⟨g, 0, none⟩ = some (.int .i64 v.lx) ∧ w.cell? ⟨g, 1, none⟩ = some (.int .i64 v.ly) ∧ w.cell? ⟨g, 2, none⟩ = some (.int .i64 v.hx) ∧ w.cell? ⟨g, 3, none⟩ = some (.int .i64 v.ly) ∧ w.cell? ⟨g, 4, none⟩ = some (.int .i64 v.hx) ∧ w.cell? ⟨g, 5, none⟩ = some (.int .i64 v.hy) ∧ w.cell? ⟨g, 6, none⟩ = some (.int .i64 v.lx) ∧ w.cell? ⟨g, 7, none⟩ = some (.int .i64 v.hy) ∧ g < w.heap.size
theorem HasCor.on {w w' : World} {g : Nat} {v : Win} (h : HasCor w g v) (hb : Below w.heap.size w w') : HasCor w' g v := by
  obtain ⟨h0, h1, h2, h3, h4, h5, h6, h7, hg⟩ := h
  exact ⟨(hb.cell (p := ⟨g, 0, none⟩) hg).trans h0, (hb.cell (p := ⟨g, 1, none⟩) hg).trans h1, (hb.cell (p := ⟨g, 2, none⟩) hg).trans h2, (hb.cell (p := ⟨g, 3, none⟩) hg).trans h3, (hb.cell (p := ⟨g, 4, none⟩) hg).trans h4, (hb.cell (p := ⟨g, 5, none⟩) hg).trans h5, (hb.cell (p := ⟨g, 6, none⟩) hg).trans h6, (hb.cell (p := ⟨g, 7, none⟩) hg).trans h7, Nat.lt_of_lt_of_le hg hb.size⟩
theorem held8 {n : Nat} {W0 W W' : World} {p1 p2 p3 p4 p5 p6 p7 p8 : Addr} {u1 u2 u3 u4 u5 u6 u7 u8 : Value} (s1 : p1.block < n) (s2 : p2.block < n) (s3 : p3.block < n) (s4 : p4.block < n) (s5 : p5.block < n) (s6 : p6.block < n) (s7 : p7.block < n) (s8 : p8.block < n)
    (h : W.cell? p1 = some u1 ∧ W.cell? p2 = some u2 ∧ W.cell? p3 = some u3 ∧ W.cell? p4 = some u4 ∧ W.cell? p5 = some u5 ∧ W.cell? p6 = some u6 ∧ W.cell? p7 = some u7 ∧ W.cell? p8 = some u8 ∧ n ≤ W.heap.size ∧ Below W0.heap.size W0 W) (hb : Below W.heap.size W W') :
    W'.cell? p1 = some u1 ∧ W'.cell? p2 = some u2 ∧ W'.cell? p3 = some u3 ∧ W'.cell? p4 = some u4 ∧ W'.cell? p5 = some u5 ∧ W'.cell? p6 = some u6 ∧ W'.cell? p7 = some u7 ∧ W'.cell? p8 = some u8 ∧ n ≤ W'.heap.size ∧ Below W0.heap.size W0 W' := by
  obtain ⟨h1, h2, h3, h4, h5, h6, h7, h8, h9, h10⟩ := h
  exact ⟨(hb.cell (by omega)).trans h1, (hb.cell (by omega)).trans h2, (hb.cell (by omega)).trans h3, (hb.cell (by omega)).trans h4, (hb.cell (by omega)).trans h5, (hb.cell (by omega)).trans h6, (hb.cell (by omega)).trans h7, (hb.cell (by omega)).trans h8, Nat.le_trans h9 hb.size, below_on h10 (Nat.le_refl _) hb⟩
def mtK (v : Win) (a b : Pt) (k : Nat) : Int := if k = 0 then meetP a b (cor0 v) (cor1 v) else if k = 1 then meetP a b (cor1 v) (cor2 v) else if k = 2 then meetP a b (cor2 v) (cor3 v) else meetP a b (cor3 v) (cor0 v)
theorem cutsP_mt (v : Win) (a b : Pt) (h1 : hasB v a = false) (h2 : hasB v b = false) : (∀ k, k < 4 → mtK v a b k ≤ 0) → cutsP v a b = false := by
  intro h
  have e0 := h 0 (by omega)
  have e1 := h 1 (by omega)
  have e2 := h 2 (by omega)
  have e3 := h 3 (by omega)
  simp only [mtK, if_true, if_false, Nat.reduceEqDiff, reduceCtorEq] at e0 e1 e2 e3
  unfold cutsP
  rw [h1, h2, decide_eq_false (by omega), decide_eq_false (by omega), decide_eq_false (by omega), decide_eq_false (by omega)]
  rfl
theorem cutsP_yes (v : Win) (a b : Pt) (k : Nat) (hk : k < 4) (h : 0 < mtK v a b k) : cutsP v a b = true := by
  have h4 : k = 0 ∨ k = 1 ∨ k = 2 ∨ k = 3 := by omega
  unfold cutsP
  rcases h4 with rfl | rfl | rfl | rfl
  all_goals
    simp only [mtK, if_true, if_false, Nat.reduceEqDiff, reduceCtorEq] at h
    rw [decide_eq_true h]
    simp
set_option maxRecDepth 100000 in
set_option maxHeartbeats 3200000 in
theorem fcuts_any (v : Win) (a b : Pt) (w : World) (hv : winE v = 0) (ha : good a = true) (hb : good b = true) :
    Calls Try.prog 72 #[winV v, ptV a, ptV b] w fun e w' => e = .returned (.bool (cutsP v a b)) ∧ Below w.heap.size w w' := by
  have hg := cor_good hv
  have HG := Lib.hid (And.intro ha (And.intro hb hg))
  clear ha hb hg hv
  have hW := ((HasWin.new w v 95).alloc (.cells #[.int .i64 a.x, .int .i64 a.y] 35)).alloc (.cells #[.int .i64 b.x, .int .i64 b.y] 35)
  have hA := (HasPt.new (w.alloc (.cells #[.int .i64 v.lx, .int .i64 v.ly, .int .i64 v.hx, .int .i64 v.hy] 95)) a 35).alloc (.cells #[.int .i64 b.x, .int .i64 b.y] 35)
  have hC := HasPt.new ((w.alloc (.cells #[.int .i64 v.lx, .int .i64 v.ly, .int .i64 v.hx, .int .i64 v.hy] 95)).alloc (.cells #[.int .i64 a.x, .int .i64 a.y] 35)) b 35
  simp only [World.size_alloc] at hA hC
  have hB : Below w.heap.size w (((w.alloc (.cells #[.int .i64 v.lx, .int .i64 v.ly, .int .i64 v.hx, .int .i64 v.hy] 95)).alloc (.cells #[.int .i64 a.x, .int .i64 a.y] 35)).alloc (.cells #[.int .i64 b.x, .int .i64 b.y] 35)) := (((Below.refl _ _).alloc (Nat.le_refl _) _).alloc (by simp) _).alloc (by simp; omega) _
  unfold winV ptV
  go_enter Try.func72, Try.ntmps72
  go_wp2_with fail
  refine (fhas_any v a _).mono ?_
  rintro e w1 ⟨rfl, hb1⟩
  replace hW := hW.on hb1
  replace hA := hA.on hb1
  replace hC := hC.on hb1
  replace hB := below_on hB (Nat.le_refl _) hb1
  clear hb1
  obtain ⟨k1, k2, k3, k4, k5⟩ := hW
  obtain ⟨a1, a2, a3⟩ := hA
  obtain ⟨b1, b2, b3⟩ := hC
  rcases h1 : hasB v a with _ | _
  · have H1 := Lib.hid h1
    clear h1
    go_wp2_with fail
    refine (fhas_any v b _).mono ?_
    rintro e w2 ⟨rfl, hb2⟩
    obtain ⟨k1, k2, k3, k4, k5⟩ := HasWin.on ⟨k1, k2, k3, k4, k5⟩ hb2
    obtain ⟨a1, a2, a3⟩ := HasPt.on ⟨a1, a2, a3⟩ hb2
    obtain ⟨b1, b2, b3⟩ := HasPt.on ⟨b1, b2, b3⟩ hb2
    replace hB := below_on hB (Nat.le_refl _) hb2
    clear hb2
    rcases h2 : hasB v b with _ | _
    · have H2 := Lib.hid h2
      clear h2
      go_wp2_with fail
      refine (corners_any v _).mono ?_
      rintro e w3 ⟨rfl, hb3⟩
      obtain ⟨a1, a2, a3⟩ := HasPt.on ⟨a1, a2, a3⟩ hb3
      obtain ⟨b1, b2, b3⟩ := HasPt.on ⟨b1, b2, b3⟩ hb3
      replace hB := below_on hB (Nat.le_refl _) hb3
      clear hb3 k1 k2 k3 k4 k5
      unfold corV
      go_wp2_with fail
      generalize hW4 : w3.alloc (.cells #[.int .i64 v.lx, .int .i64 v.ly, .int .i64 v.hx, .int .i64 v.ly, .int .i64 v.hx, .int .i64 v.hy, .int .i64 v.lx, .int .i64 v.hy] 117) = w4
      have hA4 : HasPt w4 (w.heap.size + 1) a := by rw [← hW4]; exact HasPt.alloc ⟨a1, a2, a3⟩ _
      have hC4 : HasPt w4 (w.heap.size + 1 + 1) b := by rw [← hW4]; exact HasPt.alloc ⟨b1, b2, b3⟩ _
      have hQ4 : HasCor w4 w3.heap.size v := by rw [← hW4]; exact ⟨by simp, by simp, by simp, by simp, by simp, by simp, by simp, by simp, by simp⟩
      have hB4 : Below w.heap.size w w4 := by rw [← hW4]; exact hB.alloc hB.size _
      have t1 : w.heap.size + 1 < w3.heap.size + 1 := by omega
      have t2 : w.heap.size + 1 + 1 < w3.heap.size + 1 := by omega
      clear hW4 a1 a2 a3 b1 b2 b3 hB
      generalize w3.heap.size = g at *
      have t3 : g < g + 1 := by omega
      go_loopw [21] (fun i wr => ∃ k : Nat, k ≤ 4 ∧ i = .int .i64 (k : Int) ∧ Hid (∀ j, j < k → mtK v a b j ≤ 0) ∧ Below w4.heap.size w4 wr) (fun i _ => 4 - (intOf i).toNat)
      case atStart => exact ⟨0, by omega, rfl, fun j hj => absurd hj (by omega), Below.refl _ _⟩
      case round =>
        obtain ⟨k, hk, rfl, hno, hbel⟩ := hrel
        by_cases hlt : k < 4
        · obtain ⟨a1, a2, a3⟩ := hA4.on hbel
          obtain ⟨b1, b2, b3⟩ := hC4.on hbel
          obtain ⟨q0, q1, q2, q3, q4, q5, q6, q7, q8⟩ := hQ4.on hbel
          have hbw := below_on hB4 (Nat.le_refl _) hbel
          obtain ⟨m, hm⟩ : ∃ m, m = mtK v a b k := ⟨_, rfl⟩
          have HS : Hid ((0 < m → cutsP v a b = true) ∧ (m ≤ 0 → ∀ j, j < k + 1 → mtK v a b j ≤ 0)) := by
            refine ⟨fun h => cutsP_yes v a b k hlt (by rw [← hm]; exact h), fun h j hj => ?_⟩
            by_cases e : j = k
            · subst e; rw [← hm]; exact h
            · exact hno.out j (by omega)
          have h4 : k = 0 ∨ k = 1 ∨ k = 2 ∨ k = 3 := by omega
          clear hno
          rcases h4 with rfl | rfl | rfl | rfl
          · have hmk : meetP a b (cor0 v) (cor1 v) = m := by rw [hm]; rfl
            have hw1 : IntKind.i64.wrap 1 = 1 := IntWalk.i64_in _ (by omega)
            have hw2 : (1 : Int).tmod 4 = 1 := rfl
            have HM := Lib.hid hmk
            clear hmk hm
            go_wp2
            go_region_held3 (fun W => W.cell? ⟨w.heap.size + 1, 0, none⟩ = some (.int .i64 a.x) ∧ W.cell? ⟨w.heap.size + 1, 1, none⟩ = some (.int .i64 a.y) ∧ W.cell? ⟨w.heap.size + 1 + 1, 0, none⟩ = some (.int .i64 b.x) ∧ W.cell? ⟨w.heap.size + 1 + 1, 1, none⟩ = some (.int .i64 b.y) ∧ W.cell? ⟨g, 0, none⟩ = some (.int .i64 v.lx) ∧ W.cell? ⟨g, 1, none⟩ = some (.int .i64 v.ly) ∧ W.cell? ⟨g, 2, none⟩ = some (.int .i64 v.hx) ∧ W.cell? ⟨g, 3, none⟩ = some (.int .i64 v.ly) ∧ g + 1 ≤ W.heap.size ∧ Below w4.heap.size w4 W)
              (first | exact ⟨a1, a2, b1, b2, q0, q1, q2, q3, q8, hbel.drew⟩ | exact held8 t1 t1 t2 t2 t3 t3 t3 t3 (by assumption) (by assumption))
              (first
                | (go_simp; go_at_call 86; (with_reducible refine (meet8 _ _ _ _ _ _ _ _ _ ?_ ?_ ?_ ?_).mono ?_); exact HG.out.1; exact HG.out.2.1; (first | exact HG.out.2.2.1 | exact HG.out.2.2.2.1 | exact HG.out.2.2.2.2.1 | exact HG.out.2.2.2.2.2.1); (first | exact HG.out.2.2.1 | exact HG.out.2.2.2.1 | exact HG.out.2.2.2.2.1 | exact HG.out.2.2.2.2.2.1); rintro e w' ⟨rfl, hb'⟩))
            rename_i hH
            have hbe4 := hH.2.2.2.2.2.2.2.2.2
            have hbe := below_on hB4 (Nat.le_refl _) hbe4
            clear hH
            by_cases h0 : 0 < m
            · have HC := Lib.hid (HS.out.1 h0)
              rw [← HM.out] at h0
              simp only [cor0, cor1] at h0
              clear HS
              go_wp2
              go_ret
              exact ⟨by rw [HC.out]; rfl, hbe⟩
            · have HN := Lib.hid (HS.out.2 (by omega))
              rw [← HM.out] at h0
              simp only [cor0, cor1] at h0
              clear HS
              go_wp2
              go_roundw
              case rel => exact ⟨1, by omega, rfl, HN, hbe4⟩
              case measure => simp [intOf]
          · have hmk : meetP a b (cor1 v) (cor2 v) = m := by rw [hm]; rfl
            have hw1 : IntKind.i64.wrap 2 = 2 := IntWalk.i64_in _ (by omega)
            have hw2 : (2 : Int).tmod 4 = 2 := rfl
            have HM := Lib.hid hmk
            clear hmk hm
            go_wp2
            go_region_held3 (fun W => W.cell? ⟨w.heap.size + 1, 0, none⟩ = some (.int .i64 a.x) ∧ W.cell? ⟨w.heap.size + 1, 1, none⟩ = some (.int .i64 a.y) ∧ W.cell? ⟨w.heap.size + 1 + 1, 0, none⟩ = some (.int .i64 b.x) ∧ W.cell? ⟨w.heap.size + 1 + 1, 1, none⟩ = some (.int .i64 b.y) ∧ W.cell? ⟨g, 2, none⟩ = some (.int .i64 v.hx) ∧ W.cell? ⟨g, 3, none⟩ = some (.int .i64 v.ly) ∧ W.cell? ⟨g, 4, none⟩ = some (.int .i64 v.hx) ∧ W.cell? ⟨g, 5, none⟩ = some (.int .i64 v.hy) ∧ g + 1 ≤ W.heap.size ∧ Below w4.heap.size w4 W)
              (first | exact ⟨a1, a2, b1, b2, q2, q3, q4, q5, q8, hbel.drew⟩ | exact held8 t1 t1 t2 t2 t3 t3 t3 t3 (by assumption) (by assumption))
              (first
                | (go_simp; go_at_call 86; (with_reducible refine (meet8 _ _ _ _ _ _ _ _ _ ?_ ?_ ?_ ?_).mono ?_); exact HG.out.1; exact HG.out.2.1; (first | exact HG.out.2.2.1 | exact HG.out.2.2.2.1 | exact HG.out.2.2.2.2.1 | exact HG.out.2.2.2.2.2.1); (first | exact HG.out.2.2.1 | exact HG.out.2.2.2.1 | exact HG.out.2.2.2.2.1 | exact HG.out.2.2.2.2.2.1); rintro e w' ⟨rfl, hb'⟩))
            rename_i hH
            have hbe4 := hH.2.2.2.2.2.2.2.2.2
            have hbe := below_on hB4 (Nat.le_refl _) hbe4
            clear hH
            by_cases h0 : 0 < m
            · have HC := Lib.hid (HS.out.1 h0)
              rw [← HM.out] at h0
              simp only [cor1, cor2] at h0
              clear HS
              go_wp2
              go_ret
              exact ⟨by rw [HC.out]; rfl, hbe⟩
            · have HN := Lib.hid (HS.out.2 (by omega))
              rw [← HM.out] at h0
              simp only [cor1, cor2] at h0
              clear HS
              go_wp2
              go_roundw
              case rel => exact ⟨2, by omega, rfl, HN, hbe4⟩
              case measure => simp [intOf]
          · have hmk : meetP a b (cor2 v) (cor3 v) = m := by rw [hm]; rfl
            have hw1 : IntKind.i64.wrap 3 = 3 := IntWalk.i64_in _ (by omega)
            have hw2 : (3 : Int).tmod 4 = 3 := rfl
            have HM := Lib.hid hmk
            clear hmk hm
            go_wp2
            go_region_held3 (fun W => W.cell? ⟨w.heap.size + 1, 0, none⟩ = some (.int .i64 a.x) ∧ W.cell? ⟨w.heap.size + 1, 1, none⟩ = some (.int .i64 a.y) ∧ W.cell? ⟨w.heap.size + 1 + 1, 0, none⟩ = some (.int .i64 b.x) ∧ W.cell? ⟨w.heap.size + 1 + 1, 1, none⟩ = some (.int .i64 b.y) ∧ W.cell? ⟨g, 4, none⟩ = some (.int .i64 v.hx) ∧ W.cell? ⟨g, 5, none⟩ = some (.int .i64 v.hy) ∧ W.cell? ⟨g, 6, none⟩ = some (.int .i64 v.lx) ∧ W.cell? ⟨g, 7, none⟩ = some (.int .i64 v.hy) ∧ g + 1 ≤ W.heap.size ∧ Below w4.heap.size w4 W)
              (first | exact ⟨a1, a2, b1, b2, q4, q5, q6, q7, q8, hbel.drew⟩ | exact held8 t1 t1 t2 t2 t3 t3 t3 t3 (by assumption) (by assumption))
              (first
                | (go_simp; go_at_call 86; (with_reducible refine (meet8 _ _ _ _ _ _ _ _ _ ?_ ?_ ?_ ?_).mono ?_); exact HG.out.1; exact HG.out.2.1; (first | exact HG.out.2.2.1 | exact HG.out.2.2.2.1 | exact HG.out.2.2.2.2.1 | exact HG.out.2.2.2.2.2.1); (first | exact HG.out.2.2.1 | exact HG.out.2.2.2.1 | exact HG.out.2.2.2.2.1 | exact HG.out.2.2.2.2.2.1); rintro e w' ⟨rfl, hb'⟩))
            rename_i hH
            have hbe4 := hH.2.2.2.2.2.2.2.2.2
            have hbe := below_on hB4 (Nat.le_refl _) hbe4
            clear hH
            by_cases h0 : 0 < m
            · have HC := Lib.hid (HS.out.1 h0)
              rw [← HM.out] at h0
              simp only [cor2, cor3] at h0
              clear HS
              go_wp2
              go_ret
              exact ⟨by rw [HC.out]; rfl, hbe⟩
            · have HN := Lib.hid (HS.out.2 (by omega))
              rw [← HM.out] at h0
              simp only [cor2, cor3] at h0
              clear HS
              go_wp2
              go_roundw
              case rel => exact ⟨3, by omega, rfl, HN, hbe4⟩
              case measure => simp [intOf]
          · have hmk : meetP a b (cor3 v) (cor0 v) = m := by rw [hm]; rfl
            have hw1 : IntKind.i64.wrap 4 = 4 := IntWalk.i64_in _ (by omega)
            have hw2 : (4 : Int).tmod 4 = 0 := rfl
            have HM := Lib.hid hmk
            clear hmk hm
            go_wp2
            go_region_held3 (fun W => W.cell? ⟨w.heap.size + 1, 0, none⟩ = some (.int .i64 a.x) ∧ W.cell? ⟨w.heap.size + 1, 1, none⟩ = some (.int .i64 a.y) ∧ W.cell? ⟨w.heap.size + 1 + 1, 0, none⟩ = some (.int .i64 b.x) ∧ W.cell? ⟨w.heap.size + 1 + 1, 1, none⟩ = some (.int .i64 b.y) ∧ W.cell? ⟨g, 6, none⟩ = some (.int .i64 v.lx) ∧ W.cell? ⟨g, 7, none⟩ = some (.int .i64 v.hy) ∧ W.cell? ⟨g, 0, none⟩ = some (.int .i64 v.lx) ∧ W.cell? ⟨g, 1, none⟩ = some (.int .i64 v.ly) ∧ g + 1 ≤ W.heap.size ∧ Below w4.heap.size w4 W)
              (first | exact ⟨a1, a2, b1, b2, q6, q7, q0, q1, q8, hbel.drew⟩ | exact held8 t1 t1 t2 t2 t3 t3 t3 t3 (by assumption) (by assumption))
              (first
                | (go_simp; go_at_call 86; (with_reducible refine (meet8 _ _ _ _ _ _ _ _ _ ?_ ?_ ?_ ?_).mono ?_); exact HG.out.1; exact HG.out.2.1; (first | exact HG.out.2.2.1 | exact HG.out.2.2.2.1 | exact HG.out.2.2.2.2.1 | exact HG.out.2.2.2.2.2.1); (first | exact HG.out.2.2.1 | exact HG.out.2.2.2.1 | exact HG.out.2.2.2.2.1 | exact HG.out.2.2.2.2.2.1); rintro e w' ⟨rfl, hb'⟩))
            rename_i hH
            have hbe4 := hH.2.2.2.2.2.2.2.2.2
            have hbe := below_on hB4 (Nat.le_refl _) hbe4
            clear hH
            by_cases h0 : 0 < m
            · have HC := Lib.hid (HS.out.1 h0)
              rw [← HM.out] at h0
              simp only [cor0, cor3] at h0
              clear HS
              go_wp2
              go_ret
              exact ⟨by rw [HC.out]; rfl, hbe⟩
            · have HN := Lib.hid (HS.out.2 (by omega))
              rw [← HM.out] at h0
              simp only [cor0, cor3] at h0
              clear HS
              go_wp2
              go_roundw
              case rel => exact ⟨4, by omega, rfl, HN, hbe4⟩
              case measure => simp [intOf]
        · have hk4 : k = 4 := by omega
          subst hk4
          have HC := Lib.hid (cutsP_mt v a b H1.out H2.out hno.out)
          have hbw := below_on hB4 (Nat.le_refl _) hbel
          clear hno hA4 hC4 hQ4
          go_wp2
          go_ret
          exact ⟨by rw [HC.out]; rfl, hbw⟩
    · have hc : cutsP v a b = true := by unfold cutsP; rw [h2]; simp
      have HC := Lib.hid hc
      clear h2 hc
      go_wp2
      go_ret
      exact ⟨by rw [HC.out]; rfl, hB⟩
  · have hc : cutsP v a b = true := by unfold cutsP; rw [h1]; rfl
    have HC := Lib.hid hc
    clear h1 hc
    go_wp2
    go_ret
    exact ⟨by rw [HC.out]; rfl, hB⟩
def cutE (v : Win) (a b : Pt) : Int := if winE v = 0 then (if goodL [a, b] = true then 0 else 3) else winE v
def cutB (v : Win) (a b : Pt) : Bool := if cutE v a b = 0 then cutsR v a b else false
theorem cut_cases (v : Win) (a b : Pt) : (winE v ≠ 0 ∧ cutE v a b = winE v ∧ cutB v a b = false) ∨ (winE v = 0 ∧ goodL [a, b] = false ∧ cutE v a b = 3 ∧ cutB v a b = false) ∨ (winE v = 0 ∧ goodL [a, b] = true ∧ cutE v a b = 0 ∧ cutB v a b = cutsR v a b) := by
  by_cases hE : winE v = 0
  · rcases hg : goodL [a, b] with _ | _
    · right; left
      have e1 : cutE v a b = 3 := by unfold cutE; rw [if_pos hE, if_neg (by rw [hg]; decide)]
      exact ⟨hE, rfl, e1, by unfold cutB; rw [if_neg (by rw [e1]; decide)]⟩
    · right; right
      have e1 : cutE v a b = 0 := by unfold cutE; rw [if_pos hE, if_pos hg]
      exact ⟨hE, rfl, e1, by unfold cutB; rw [if_pos e1]⟩
  · left
    have e1 : cutE v a b = winE v := by unfold cutE; rw [if_neg hE]
    exact ⟨hE, e1, by unfold cutB; rw [if_neg (by rw [e1]; exact hE)]⟩
theorem reads_pts2 (W : World) (a b : Pt) (k : Nat) (hk : k = W.heap.size) : Reads (W.alloc (.cells #[.int .i64 a.x, .int .i64 a.y, .int .i64 b.x, .int .i64 b.y] 35)) (W.alloc (.cells #[.int .i64 a.x, .int .i64 a.y, .int .i64 b.x, .int .i64 b.y] 35)).heap.size 2 (some ⟨k, 0, none⟩) 2 (ptsV [a, b]) := by
  subst hk
  exact Reads.made W _ _ _ 2 2 _ rfl rfl
/-- A window and two points, boxed. -/
theorem wpp_new (w : World) (v : Win) (a b : Pt) : ∀ W, W = ((w.alloc (.cells #[.int .i64 v.lx, .int .i64 v.ly, .int .i64 v.hx, .int .i64 v.hy] 52)).alloc (.cells #[.int .i64 a.x, .int .i64 a.y] 35)).alloc (.cells #[.int .i64 b.x, .int .i64 b.y] 35) →
    HasWin W w.heap.size v ∧ HasPt W (w.heap.size + 1) a ∧ HasPt W (w.heap.size + 1 + 1) b ∧ Below w.heap.size w W := by
  rintro W rfl
  have h1 := ((HasWin.new w v 52).alloc (.cells #[.int .i64 a.x, .int .i64 a.y] 35)).alloc (.cells #[.int .i64 b.x, .int .i64 b.y] 35)
  have h2 := (HasPt.new (w.alloc (.cells #[.int .i64 v.lx, .int .i64 v.ly, .int .i64 v.hx, .int .i64 v.hy] 52)) a 35).alloc (.cells #[.int .i64 b.x, .int .i64 b.y] 35)
  have h3 := HasPt.new ((w.alloc (.cells #[.int .i64 v.lx, .int .i64 v.ly, .int .i64 v.hx, .int .i64 v.hy] 52)).alloc (.cells #[.int .i64 a.x, .int .i64 a.y] 35)) b 35
  simp only [World.size_alloc] at h2 h3
  exact ⟨h1, h2, h3, (((Below.refl _ _).alloc (Nat.le_refl _) _).alloc (by simp) _).alloc (by simp; omega) _⟩
set_option maxHeartbeats 800000 in
theorem cuts_any (v : Win) (a b : Pt) (w : World) (hv : v.inI) (ha : a.inI) (hb : b.inI) :
    Calls Try.prog 43 #[winV v, ptV a, ptV b] w fun e w' => e = .returned (.tuple #[.bool (cutB v a b), .int .i64 (cutE v a b)]) ∧ Below w.heap.size w w' := by
  have HN := Lib.hid (wpp_new w v a b)
  have HI := Lib.hid (And.intro ha hb)
  clear ha hb
  rcases cut_cases v a b with ⟨hE, e1, e2⟩ | ⟨hE, hg, e1, e2⟩ | ⟨hE, hg, e1, e2⟩
  all_goals
    rw [e1, e2]
    clear e1 e2
    unfold winV ptV
    go_enter Try.func43, Try.ntmps43
    go_wp2_with fail
    refine calls_named fun W hW => ?_
    obtain ⟨kW, kA, kB, hB⟩ := HN.out W hW
    clear hW HN
    refine (wcheck_any v _ hv).mono ?_
    rintro e w1 ⟨rfl, hb1⟩
    replace kW := kW.on hb1
    replace kA := kA.on hb1
    replace kB := kB.on hb1
    replace hB := below_on hB (Nat.le_refl _) hb1
    clear hb1
  · have h0 : (winE v != 0) = true := by simpa using hE
    clear hE
    go_wp2_with fail
    go_ret2
    exact ⟨rfl, hB⟩
  all_goals
    have HE := Lib.hid hE
    have h0 : (winE v != 0) = false := by rw [hE]; rfl
    clear hE
    obtain ⟨a1, a2, a3⟩ := kA
    obtain ⟨b1, b2, b3⟩ := kB
    have HG := Lib.hid hg
    clear hg
    go_wp2_with fail
    refine (good_any [a, b] _ 2 2 _ ?hq (by omega) (by simpa using HI.out)).mono ?_
    case hq => exact reads_pts2 _ a b _ rfl
    rintro e w2 ⟨rfl, hb2⟩
    rw [HG.out]
    obtain ⟨k1, k2, k3, k4, k5⟩ := (kW.alloc (.cells #[.int .i64 a.x, .int .i64 a.y, .int .i64 b.x, .int .i64 b.y] 35)).on hb2
    obtain ⟨a1, a2, a3⟩ := HasPt.on (HasPt.alloc ⟨a1, a2, a3⟩ (.cells #[.int .i64 a.x, .int .i64 a.y, .int .i64 b.x, .int .i64 b.y] 35)) hb2
    obtain ⟨b1, b2, b3⟩ := HasPt.on (HasPt.alloc ⟨b1, b2, b3⟩ (.cells #[.int .i64 a.x, .int .i64 a.y, .int .i64 b.x, .int .i64 b.y] 35)) hb2
    replace hB := (hB.alloc hB.size (.cells #[.int .i64 a.x, .int .i64 a.y, .int .i64 b.x, .int .i64 b.y] 35)).trans (hb2.mono (by simp; have := hB.size; omega))
    clear hb2 kW
    go_wp2_with fail
  · go_ret2
    exact ⟨rfl, hB⟩
  · have hg2 : good a = true ∧ good b = true := by simpa [goodL] using HG.out
    refine (fcuts_any v a b _ HE.out hg2.1 hg2.2).mono ?_
    rintro e w3 ⟨rfl, hb3⟩
    replace hB := below_on hB (Nat.le_refl _) hb3
    rw [cutsP_eq HE.out hg2.1 hg2.2]
    clear hb3
    go_wp2
    go_ret2
    exact ⟨rfl, hB⟩
end Go.Proofs.Ytcohioplkchojaa

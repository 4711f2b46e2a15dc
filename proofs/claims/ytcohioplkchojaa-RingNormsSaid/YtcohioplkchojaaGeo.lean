/- cmp.Compare, geo.Order, geo.turn and their like: the walks. -/
import Derived.Test.YtcohioplkchojaaGeoLaw
import Derived.Test.YtcohioplkchojaaPtW
import Derived.StillTailTactics
import Derived.Deep.RegionHeld3
namespace Go.Proofs.Ytcohioplkchojaa
open Go.RowKit
theorem nan_any (x : Int) (w : World) :
    Calls Try.prog 106 #[.int .i64 x] w fun e w' => e = .returned (.bool false) ∧ w = w' := by
  have h : (x != x) = false := by simp
  go_enter Try.func106, Try.ntmps106
  go_wp2_with fail
  go_ret
  exact ⟨rfl, rfl⟩
theorem compare_any (x y : Int) (w : World) :
    Calls Try.prog 98 #[.int .i64 x, .int .i64 y] w fun e w' => e = .returned (.int .i64 (cmpI x y)) ∧ w = w' := by
  have h3 : (x < y ∧ cmpI x y = -1) ∨ (y < x ∧ cmpI x y = 1) ∨ (x = y ∧ cmpI x y = 0) := by unfold cmpI; split <;> (try split) <;> omega
  rcases h3 with ⟨h, e⟩ | ⟨h, e⟩ | ⟨h, e⟩
  all_goals
    rw [e]
    clear e
    try subst h
    go_enter Try.func98, Try.ntmps98
    go_wp2_with (go_at_call 106; refine (nan_any _ _).mono ?_; rintro e w' ⟨rfl, rfl⟩)
    go_ret
    exact ⟨rfl, rfl⟩
theorem compare_still (x y : Int) (w : World) :
    Calls Try.prog 98 #[.int .i64 x, .int .i64 y] w fun e w' => e = .returned (.int .i64 (cmpI x y)) ∧ w' = w :=
  (compare_any x y w).mono fun _ _ ⟨h1, h2⟩ => ⟨h1, h2.symm⟩
/-- The first of two numbers that is not 0. -/
theorem or_any (x y : Int) (b o c : Nat) (w : World) (h0 : w.cell? ⟨b, o, none⟩ = some (.int .i64 x)) (h1 : w.cell? ⟨b, o + 1, none⟩ = some (.int .i64 y)) :
    Calls Try.prog 97 #[.slice (some ⟨b, o, none⟩) 2 c] w fun e w' => e = .returned (.int .i64 (orI x y)) ∧ w = w' := by
  go_enter Try.func97, Try.ntmps97
  go_wp2
  go_loop [8] (fun i => ∃ k : Nat, k ≤ 2 ∧ i = .int .i64 (k : Int) ∧ Hid ((1 ≤ k → x = 0) ∧ (k = 2 → y = 0))) (fun i => 2 - (intOf i).toNat)
  case atStart => exact ⟨0, by omega, rfl, ⟨fun h => absurd h (by omega), fun h => absurd h (by omega)⟩⟩
  case round =>
    obtain ⟨k, hk, rfl, HK⟩ := hrel
    have h3 : k = 0 ∨ k = 1 ∨ k = 2 := by omega
    rcases h3 with rfl | rfl | rfl
    · by_cases hx : x = 0
      · subst hx
        go_wp2
        go_round
        case rel => exact ⟨1, by omega, rfl, by show _ ∧ _; simp⟩
        case measure => simp [intOf]
      · have hx' : (x != 0) = true := by simpa using hx
        have HE : Hid (orI x y = x) := by show _ = _; unfold orI; rw [if_pos hx]
        clear hx
        go_wp2
        go_ret
        exact ⟨by rw [HE.out]; rfl, rfl⟩
    · have hx := HK.out.1 (by omega)
      subst hx
      by_cases hy : y = 0
      · subst hy
        go_wp2
        go_round
        case rel => exact ⟨2, by omega, rfl, by show _ ∧ _; simp⟩
        case measure => simp [intOf]
      · have hy' : (y != 0) = true := by simpa using hy
        clear hy
        go_wp2
        go_ret
        exact ⟨rfl, rfl⟩
    · have hx := HK.out.1 (by omega)
      have hy := HK.out.2 rfl
      subst hx hy
      go_wp2
      go_ret
      exact ⟨rfl, rfl⟩
set_option maxRecDepth 100000 in
set_option maxHeartbeats 400000 in
theorem order_any (a b : Pt) (w : World) :
    Calls Try.prog 85 #[ptV a, ptV b] w fun e w' => e = .returned (.int .i64 (ordI a b)) ∧ Below w.heap.size w w' := by
  have hA := (HasPt.new w a 35).alloc (.cells #[.int .i64 b.x, .int .i64 b.y] 35)
  have hC := HasPt.new (w.alloc (.cells #[.int .i64 a.x, .int .i64 a.y] 35)) b 35
  rw [World.size_alloc] at hC
  have hB : Below w.heap.size w ((w.alloc (.cells #[.int .i64 a.x, .int .i64 a.y] 35)).alloc (.cells #[.int .i64 b.x, .int .i64 b.y] 35)) := ((Below.refl _ _).alloc (Nat.le_refl _) _).alloc (by simp) _
  unfold ptV ordI
  go_enter Try.func85, Try.ntmps85
  go_wp2
  obtain ⟨W0, hW0⟩ : ∃ W0, W0 = (w.alloc (.cells #[.int .i64 a.x, .int .i64 a.y] 35)).alloc (.cells #[.int .i64 b.x, .int .i64 b.y] 35) := ⟨_, rfl⟩
  rw [← hW0] at hA hC hB ⊢
  clear hW0
  refine wp_region_still_tail 10 (by kernel_rfl) (by kernel_rfl) ?_
  change wpStill _ _ W0.drew _ _ _
  obtain ⟨hax, hay, haz⟩ := hA
  obtain ⟨hbx, hby, hbz⟩ := hC
  simp only [List.take_succ_cons, List.take_zero, List.drop_succ_cons, List.drop_zero]
  repeat (first | still_step | still_call (compare_still _ _ _))
  try refine wpStill_nil ?_
  change wpList _ _ _ _ _ W0.drew
  have hB := hB.drew
  generalize W0.drew = W1 at *
  clear hax hay haz hbx hby hbz
  go_wp2_with fail
  refine (or_any (cmpI a.x b.x) (cmpI a.y b.y) W1.heap.size 0 _ _ (by simp) (by simp)).mono ?_
  rintro e w' ⟨rfl, rfl⟩
  go_wp2
  go_ret
  exact ⟨rfl, hB.alloc hB.size _⟩
theorem cross_any (a b c : Pt) (w : World) (ha : good a = true) (hb : good b = true) (hc : good c = true) :
    Calls Try.prog 77 #[ptV a, ptV b, ptV c] w fun e w' => e = .returned (.int .i64 (cr a b c)) ∧ Below w.heap.size w w' := by
  have HC := Lib.hid (cr_bd ha hb hc)
  have HP := Lib.hid (cr_parts ha hb hc)
  rw [good_iff] at ha hb hc
  obtain ⟨a1, a2, a3, a4⟩ := ha
  obtain ⟨b1, b2, b3, b4⟩ := hb
  obtain ⟨c1, c2, c3, c4⟩ := hc
  unfold ptV
  go_enter Try.func77, Try.ntmps77
  go_wp2
  go_ret
  refine ⟨?_, (((Below.refl _ _).alloc (Nat.le_refl _) _).alloc (by simp) _).alloc (by simp; omega) _⟩
  show Ending.returned (.int .i64 (wrap64 (wrap64 ((b.x - a.x) * (c.y - a.y)) - wrap64 ((b.y - a.y) * (c.x - a.x))))) = _
  have h1 := HC.out
  have h2 := HP.out
  unfold cr at h1 ⊢
  congr 2
  unfold wrap64
  omega
theorem turn_any (a b c : Pt) (w : World) (ha : good a = true) (hb : good b = true) (hc : good c = true) :
    Calls Try.prog 99 #[ptV a, ptV b, ptV c] w fun e w' => e = .returned (.int .i64 (sgn (cr a b c))) ∧ Below w.heap.size w w' := by
  have H := Lib.hid (And.intro ha (And.intro hb hc))
  clear ha hb hc
  unfold ptV
  go_enter Try.func99, Try.ntmps99
  go_wp2_with fail
  refine (cross_any a b c _ H.out.1 H.out.2.1 H.out.2.2).mono ?_
  rintro e w1 ⟨rfl, hb1⟩
  have hB := ((((Below.refl w.heap.size w).alloc (Nat.le_refl _) _).alloc (by simp) _).alloc (by simp; omega) _).trans (hb1.mono (by simp; omega))
  clear hb1
  go_wp2_with fail
  refine (compare_any _ _ _).mono ?_
  rintro e w2 ⟨rfl, rfl⟩
  go_wp2
  go_ret
  exact ⟨rfl, hB⟩
set_option maxHeartbeats 400000 in
theorem ends_any (a b : Pt) (w : World) :
    Calls Try.prog 107 #[ptV a, ptV b] w fun e w' => e = .returned (.tuple #[ptV (endA a b), ptV (endB a b)]) ∧ Below w.heap.size w w' := by
  have hcase : (0 < ordI a b ∧ endA a b = b ∧ endB a b = a) ∨ (¬ 0 < ordI a b ∧ endA a b = a ∧ endB a b = b) := by
    unfold endA endB
    by_cases h : 0 < ordI a b
    · left; exact ⟨h, if_pos h, if_pos h⟩
    · right; exact ⟨h, if_neg h, if_neg h⟩
  rcases hcase with ⟨h, e1, e2⟩ | ⟨h, e1, e2⟩
  all_goals
    rw [e1, e2]
    clear e1 e2
    unfold ptV
    go_enter Try.func107, Try.ntmps107
    go_wp2_with fail
    refine (order_any a b _).mono ?_
    rintro e w1 ⟨rfl, hb1⟩
    obtain ⟨hc, hf⟩ := bcell hb1
    have hz := hb1.size
    simp only [World.size_alloc] at hz
    have hB := (((((Below.refl w.heap.size w).alloc (Nat.le_refl _) _).alloc (by simp) _).alloc (by simp; omega) _).alloc (by simp; omega) _).trans (hb1.mono (by simp; omega))
    clear hb1
    go_wp2
    go_region
    go_wp2
  · refine bodyPost_ret (v := .tuple #[.agg #[.int .i64 b.x, .int .i64 b.y], .agg #[.int .i64 a.x, .int .i64 a.y]]) (by simp [results, Try.results107, go_sem, hc]) rfl ⟨rfl, ?_⟩
    exact ((((hB.setCell (p := ⟨w.heap.size + 1 + 1, 0, none⟩) (by simp; omega) _).setCell (p := ⟨w.heap.size + 1 + 1, 1, none⟩) (by simp; omega) _).setCell (p := ⟨w.heap.size + 1 + 1 + 1, 0, none⟩) (by simp; omega) _).setCell (p := ⟨w.heap.size + 1 + 1 + 1, 1, none⟩) (by simp; omega) _).drew
  · refine bodyPost_ret (v := .tuple #[.agg #[.int .i64 a.x, .int .i64 a.y], .agg #[.int .i64 b.x, .int .i64 b.y]]) (by simp [results, Try.results107, go_sem, hc]) rfl ⟨rfl, ?_⟩
    exact ((((hB.setCell (p := ⟨w.heap.size + 1 + 1, 0, none⟩) (by simp; omega) _).setCell (p := ⟨w.heap.size + 1 + 1, 1, none⟩) (by simp; omega) _).setCell (p := ⟨w.heap.size + 1 + 1 + 1, 0, none⟩) (by simp; omega) _).setCell (p := ⟨w.heap.size + 1 + 1 + 1, 1, none⟩) (by simp; omega) _).drew
/-- Three points just boxed. -/
theorem three_new (w : World) (a b c : Pt) (e : TypeId) :
    HasPt (((w.alloc (.cells #[.int .i64 a.x, .int .i64 a.y] e)).alloc (.cells #[.int .i64 b.x, .int .i64 b.y] e)).alloc (.cells #[.int .i64 c.x, .int .i64 c.y] e)) w.heap.size a ∧
    HasPt (((w.alloc (.cells #[.int .i64 a.x, .int .i64 a.y] e)).alloc (.cells #[.int .i64 b.x, .int .i64 b.y] e)).alloc (.cells #[.int .i64 c.x, .int .i64 c.y] e)) (w.heap.size + 1) b ∧
    HasPt (((w.alloc (.cells #[.int .i64 a.x, .int .i64 a.y] e)).alloc (.cells #[.int .i64 b.x, .int .i64 b.y] e)).alloc (.cells #[.int .i64 c.x, .int .i64 c.y] e)) (w.heap.size + 1 + 1) c ∧
    Below w.heap.size w (((w.alloc (.cells #[.int .i64 a.x, .int .i64 a.y] e)).alloc (.cells #[.int .i64 b.x, .int .i64 b.y] e)).alloc (.cells #[.int .i64 c.x, .int .i64 c.y] e)) := by
  have h1 := ((HasPt.new w a e).alloc (.cells #[.int .i64 b.x, .int .i64 b.y] e)).alloc (.cells #[.int .i64 c.x, .int .i64 c.y] e)
  have h2 := (HasPt.new (w.alloc (.cells #[.int .i64 a.x, .int .i64 a.y] e)) b e).alloc (.cells #[.int .i64 c.x, .int .i64 c.y] e)
  have h3 := HasPt.new ((w.alloc (.cells #[.int .i64 a.x, .int .i64 a.y] e)).alloc (.cells #[.int .i64 b.x, .int .i64 b.y] e)) c e
  simp only [World.size_alloc] at h2 h3
  exact ⟨h1, h2, h3, (((Below.refl _ _).alloc (Nat.le_refl _) _).alloc (by simp) _).alloc (by simp; omega) _⟩
theorem two_new (w : World) (a b : Pt) (e : TypeId) :
    HasPt ((w.alloc (.cells #[.int .i64 a.x, .int .i64 a.y] e)).alloc (.cells #[.int .i64 b.x, .int .i64 b.y] e)) w.heap.size a ∧
    HasPt ((w.alloc (.cells #[.int .i64 a.x, .int .i64 a.y] e)).alloc (.cells #[.int .i64 b.x, .int .i64 b.y] e)) (w.heap.size + 1) b ∧
    Below w.heap.size w ((w.alloc (.cells #[.int .i64 a.x, .int .i64 a.y] e)).alloc (.cells #[.int .i64 b.x, .int .i64 b.y] e)) := by
  have h1 := (HasPt.new w a e).alloc (.cells #[.int .i64 b.x, .int .i64 b.y] e)
  have h2 := HasPt.new (w.alloc (.cells #[.int .i64 a.x, .int .i64 a.y] e)) b e
  simp only [World.size_alloc] at h2
  exact ⟨h1, h2, ((Below.refl _ _).alloc (Nat.le_refl _) _).alloc (by simp) _⟩
set_option maxHeartbeats 800000 in
theorem on_any (a b p : Pt) (w : World) (ha : good a = true) (hb : good b = true) (hp : good p = true) :
    Calls Try.prog 101 #[ptV a, ptV b, ptV p] w fun e w' => e = .returned (.bool (onP a b p)) ∧ Below w.heap.size w w' := by
  have H := Lib.hid (And.intro ha (And.intro hb hp))
  clear ha hb hp
  have hcase := onP_cases a b p
  obtain ⟨r, hr⟩ : ∃ r, r = onP a b p := ⟨_, rfl⟩
  rw [← hr] at hcase
  rw [← hr]
  clear hr
  obtain ⟨hA, hC, hP, hB⟩ := three_new w a b p 35
  unfold ptV
  go_enter Try.func101, Try.ntmps101
  go_wp2_with fail
  refine (ends_any a b _).mono ?_
  rintro e w1 ⟨rfl, hb1⟩
  have hA1 := hA.on hb1
  have hC1 := hC.on hb1
  have hP1 := hP.on hb1
  have hB1 := hB.trans (hb1.mono hB.size)
  obtain ⟨low, hlow⟩ : ∃ q, q = endA a b := ⟨_, rfl⟩
  obtain ⟨high, hhigh⟩ : ∃ q, q = endB a b := ⟨_, rfl⟩
  rw [← hlow, ← hhigh] at hcase ⊢
  have HQ := Lib.hid (And.intro hlow hhigh)
  have HK := Lib.hid hcase
  clear hb1 hA hC hP hB hlow hhigh hcase
  obtain ⟨kL, kH, kB⟩ := two_new w1 low high 35
  have kA := (hA1.alloc (.cells #[.int .i64 low.x, .int .i64 low.y] 35)).alloc (.cells #[.int .i64 high.x, .int .i64 high.y] 35)
  have kC := (hC1.alloc (.cells #[.int .i64 low.x, .int .i64 low.y] 35)).alloc (.cells #[.int .i64 high.x, .int .i64 high.y] 35)
  have kP := (hP1.alloc (.cells #[.int .i64 low.x, .int .i64 low.y] 35)).alloc (.cells #[.int .i64 high.x, .int .i64 high.y] 35)
  have kB := hB1.trans (kB.mono hB1.size)
  clear hA1 hC1 hP1 hB1
  obtain ⟨a1, a2, a3⟩ := kA
  obtain ⟨c1, c2, c3⟩ := kC
  obtain ⟨p1, p2, p3⟩ := kP
  unfold ptV
  go_wp2_with fail
  refine (turn_any a b p _ H.out.1 H.out.2.1 H.out.2.2).mono ?_
  rintro e w2 ⟨rfl, hb2⟩
  have hL2 := kL.on hb2
  have hH2 := kH.on hb2
  have hP2 := HasPt.on ⟨p1, p2, p3⟩ hb2
  have hB2 := below_on kB (Nat.le_refl _) hb2
  clear hb2 kL kH kB a1 a2 a3 c1 c2 c3 p1 p2 p3
  obtain ⟨t, ht⟩ : ∃ t, t = sgn (cr a b p) := ⟨_, rfl⟩
  have hcase := HK.out
  rw [← ht] at hcase
  rw [← ht]
  obtain ⟨l1, l2, l3⟩ := hL2
  obtain ⟨h1, h2, h3⟩ := hH2
  obtain ⟨p1, p2, p3⟩ := hP2
  have HT := Lib.hid ht
  clear ht HK
  rcases hcase with ⟨g, rfl⟩ | ⟨rfl, g, rfl⟩ | ⟨rfl, g, g', rfl⟩ | ⟨rfl, g, g', rfl⟩
  · have g2 : (t == 0) = false := by simpa using g
    clear g
    go_wp2
    go_ret
    exact ⟨rfl, hB2⟩
  · have G := Lib.hid g
    clear g
    go_wp2_with fail
    refine (order_any low p _).mono ?_
    rintro e w3 ⟨rfl, hb3⟩
    have hB3 := below_on hB2 (Nat.le_refl _) hb3
    have g := G.out
    clear hb3 l1 l2 l3 h1 h2 h3 p1 p2 p3
    go_wp2
    go_ret
    exact ⟨rfl, hB3⟩
  · have G := Lib.hid (And.intro g g')
    clear g g'
    go_wp2_with fail
    refine (order_any low p _).mono ?_
    rintro e w3 ⟨rfl, hb3⟩
    obtain ⟨h1, h2, h3⟩ := HasPt.on ⟨h1, h2, h3⟩ hb3
    obtain ⟨p1, p2, p3⟩ := HasPt.on ⟨p1, p2, p3⟩ hb3
    have hB3 := below_on hB2 (Nat.le_refl _) hb3
    have g := G.out.1
    clear hb3
    go_wp2_with fail
    refine (order_any p high _).mono ?_
    rintro e w4 ⟨rfl, hb4⟩
    have hB4 := below_on hB3 (Nat.le_refl _) hb4
    have g' := G.out.2
    clear hb4 h1 h2 h3 p1 p2 p3
    go_wp2
    go_ret
    exact ⟨by show Ending.returned (.bool (decide (ordI p high ≤ 0))) = _; rw [decide_eq_false (by omega)], hB4⟩
  · have G := Lib.hid (And.intro g g')
    clear g g'
    go_wp2_with fail
    refine (order_any low p _).mono ?_
    rintro e w3 ⟨rfl, hb3⟩
    obtain ⟨h1, h2, h3⟩ := HasPt.on ⟨h1, h2, h3⟩ hb3
    obtain ⟨p1, p2, p3⟩ := HasPt.on ⟨p1, p2, p3⟩ hb3
    have hB3 := below_on hB2 (Nat.le_refl _) hb3
    have g := G.out.1
    clear hb3
    go_wp2_with fail
    refine (order_any p high _).mono ?_
    rintro e w4 ⟨rfl, hb4⟩
    have hB4 := below_on hB3 (Nat.le_refl _) hb4
    have g' := G.out.2
    clear hb4 h1 h2 h3 p1 p2 p3
    go_wp2
    go_ret
    exact ⟨rfl, hB4⟩
end Go.Proofs.Ytcohioplkchojaa

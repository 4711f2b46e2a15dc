/- merestonelaw04.WindowPoints: the plain law and the walk. -/
import Derived.Test.YtcohioplkchojaaLawWindowMeets
namespace Go.Proofs.Ytcohioplkchojaa
open Go.RowKit
def ptW (p : Pt) : Win := ⟨p.x, p.y, p.x, p.y⟩
theorem hit_point {p a b : Pt} : Hit (ptW p) a b ↔ onB a b p = true := by
  constructor
  · rintro ⟨N, t, g1, g2, g3, g4, g5, g6, g7⟩
    simp only [ptW] at g4 g5 g6 g7
    have ex : (N - t) * a.x + t * b.x = N * p.x := by omega
    have ey : (N - t) * a.y + t * b.y = N * p.y := by omega
    rw [onB_iff]
    refine ⟨?_, ?_, ?_⟩
    · have h : N * cr a b p = 0 := by
        unfold cr
        grind
      rcases Int.mul_eq_zero.1 h with h | h
      · omega
      · exact h
    · have := conv_btw (N := N) (t := t) (x := a.x) (y := b.x) g2 g3
      rw [ex, mul_le g1, mul_le g1, mul_le g1, mul_le g1] at this
      omega
    · have := conv_btw (N := N) (t := t) (x := a.y) (y := b.y) g2 g3
      rw [ey, mul_le g1, mul_le g1, mul_le g1, mul_le g1] at this
      omega
  · intro h
    obtain ⟨N, t, g1, g2, g3, g4, g5⟩ := on_param h
    exact ⟨N, t, g1, g2, g3, by simp only [ptW]; omega, by simp only [ptW]; omega, by simp only [ptW]; omega, by simp only [ptW]; omega⟩
theorem cut_point (xs : List Pt) (p : Pt) (k : Nat) : cutN (ptW p) xs k = onE xs p k := by
  unfold cutN onE
  rw [Bool.eq_iff_iff, cutsR_iff (Int.le_refl _) (Int.le_refl _), hit_point]
theorem meets_point (xs : List Pt) (p : Pt) : meetsB (ptW p) xs = decide (0 ≤ sideI xs p) := by
  by_cases h : ∃ k, k < xs.length ∧ onE xs p k = true
  · obtain ⟨k, hk, ho⟩ := h
    rw [meetsB_true (.inl ⟨k, hk, by rw [cut_point]; exact ho⟩), sideI_on hk ho]
    rfl
  · refine meetsB_none fun k hk => ?_
    rw [cut_point]
    rcases ho : onE xs p k with _ | _
    · rfl
    · exact absurd ⟨k, hk, ho⟩ h
theorem ptW_ok {p : Pt} (h : good p = true) : winE (ptW p) = 0 ∧ (ptW p).inI := by
  refine ⟨?_, good_in' h, good_in' h⟩
  unfold winE
  rw [if_pos (by simp [goodL, Win.low, Win.high, ptW, h]), if_neg (by simp [ptW])]
theorem has_point {p q : Pt} (hp : good p = true) (hq : good q = true) : hasE (ptW p) q = 0 ∧ hasR (ptW p) q = decide (p = q) := by
  have h1 : hasE (ptW p) q = 0 := by unfold hasE; rw [if_pos (ptW_ok hp).1, if_pos hq]
  refine ⟨h1, ?_⟩
  unfold hasR
  rw [if_pos h1]
  unfold hasB ptW
  obtain ⟨x, y⟩ := p
  obtain ⟨x', y'⟩ := q
  simp only [Pt.mk.injEq]
  exact decide_eq_decide.mpr (by omega)
abbrev FP (w : World) (p q : Pt) (W : World) : Prop := Below w.heap.size w W ∧ PtK W w.heap.size p ∧ PtK W (w.heap.size + 1) q ∧ Blk W (w.heap.size + 1 + 1) 52 #[.int .i64 p.x, .int .i64 p.y, .int .i64 p.x, .int .i64 p.y]
theorem FP.on {w W W' : World} {p q : Pt} (h : FP w p q W) (hb : Below W.heap.size W W') : FP w p q W' := ⟨below_on h.1 (Nat.le_refl _) hb, h.2.1.on hb, h.2.2.1.on hb, Blk.below h.2.2.2 hb (Blk.lt h.2.2.2)⟩
theorem FP.alloc {w W : World} {p q : Pt} (h : FP w p q W) (o : Obj) : FP w p q (W.alloc o) := ⟨h.1.alloc h.1.size o, h.2.1.alloc o, h.2.2.1.alloc o, Blk.alloc h.2.2.2 o⟩
theorem FP.win {w W : World} {p q : Pt} (h : FP w p q W) : W.cell? ⟨w.heap.size + 1 + 1, 0, none⟩ = some (.int .i64 p.x) ∧ W.cell? ⟨w.heap.size + 1 + 1, 1, none⟩ = some (.int .i64 p.y) ∧ W.cell? ⟨w.heap.size + 1 + 1, 2, none⟩ = some (.int .i64 p.x) ∧ W.cell? ⟨w.heap.size + 1 + 1, 3, none⟩ = some (.int .i64 p.y) ∧ w.heap.size + 1 + 1 < W.heap.size :=
  ⟨by rw [Blk.cell h.2.2.2 0]; rfl, by rw [Blk.cell h.2.2.2 1]; rfl, by rw [Blk.cell h.2.2.2 2]; rfl, by rw [Blk.cell h.2.2.2 3]; rfl, Blk.lt h.2.2.2⟩
set_option maxRecDepth 100000 in
set_option maxHeartbeats 1600000 in
theorem windowPoints_any (p q : Pt) (xs : List Pt) (A : Option Addr) (n cap : Nat) (w : World) (hp : p.inI) (hq : q.inI) (hr : Reads w w.heap.size 2 A n (ptsV xs)) (hn : n ≤ 8796093022208) (hx : ∀ p ∈ xs, p.inI) :
    Calls Try.prog 11 #[ptV p, ptV q, .slice A n cap] w fun e w' => e = .returned (.bool true) ∧ Below w.heap.size w w' := by
  have hl : xs.length = n := hr.lenPt
  have kD : ∀ V, Below w.heap.size w V → Calls Try.prog 20 #[.slice A n cap] V fun e V' => e = .returned (.int .i64 (checkI xs)) ∧ Below V.heap.size V V' := fun V hV => checkR_any xs A n cap V ((hr.below hV).more hV.size) (by omega) hx
  have kO : ∀ V, Below w.heap.size w V → Calls Try.prog 39 #[.slice A n cap] V fun e V' => ∃ A' c, e = .returned (.slice A' n c) ∧ Reads V' V'.heap.size 2 A' n (ptsV xs) ∧ Below V.heap.size V V' := fun V hV =>
    (own04_any xs A n cap V ((hr.below hV).more hV.size) hn).mono fun e V' ⟨A', c, h1, h2, h3⟩ => ⟨A', c, h1, Reads.of_own h2, h3⟩
  have kG : ∀ V : World, Calls Try.prog 22 #[.slice (some ⟨V.heap.size, 0, none⟩) 2 2] (V.alloc (.cells #[.int .i64 p.x, .int .i64 p.y, .int .i64 q.x, .int .i64 q.y] 35)) fun e V' => e = .returned (.bool (goodL [p, q])) ∧ Below (V.alloc (.cells #[.int .i64 p.x, .int .i64 p.y, .int .i64 q.x, .int .i64 q.y] 35)).heap.size (V.alloc (.cells #[.int .i64 p.x, .int .i64 p.y, .int .i64 q.x, .int .i64 q.y] 35)) V' := fun V => goodR_any [p, q] _ 2 2 _ (reads_pts2 V p q _ rfl) (by omega) (by intro r hr; simp at hr; rcases hr with rfl | rfl; exact hp; exact hq)
  have kM : ∀ V A' c, goodL [p, q] = true → checkI xs = 0 → Reads V V.heap.size 2 A' n (ptsV xs) → Calls Try.prog 38 #[.agg #[.int .i64 p.x, .int .i64 p.y, .int .i64 p.x, .int .i64 p.y], .slice A' n c] V fun e V' => e = .returned (.tuple #[.bool (decide (0 ≤ sideI xs p)), .int .i64 0]) ∧ Below V.heap.size V V' := fun V A' c hg h0 h => by
    have hgp : good p = true := by simp [goodL] at hg; exact hg.1
    have hw := ptW_ok hgp
    have := wmeets_any (ptW p) xs A' n c V h (by omega) hx hw.2
    rcases meet_cases (ptW p) xs with ⟨h1, -⟩ | ⟨-, h2, -⟩ | ⟨-, -, h3, h4⟩
    · exact absurd hw.1 h1
    · exact absurd h0 h2
    · rw [h3, h4, meets_point] at this
      exact this
  have kH : ∀ V, goodL [p, q] = true → Calls Try.prog 42 #[.agg #[.int .i64 p.x, .int .i64 p.y, .int .i64 p.x, .int .i64 p.y], .agg #[.int .i64 q.x, .int .i64 q.y]] V fun e V' => e = .returned (.tuple #[.bool (decide (p = q)), .int .i64 0]) ∧ Below V.heap.size V V' := fun V hg => by
    have hgg : good p = true ∧ good q = true := by simp [goodL] at hg; exact hg
    have := has_any (ptW p) q V (ptW_ok hgg.1).2 hq
    rw [(has_point hgg.1 hgg.2).1, (has_point hgg.1 hgg.2).2] at this
    exact this
  have kR : ∀ V, Below w.heap.size w V → goodL [p, q] = true → checkI xs = 0 → Calls Try.prog 23 #[.slice A n cap, .agg #[.int .i64 p.x, .int .i64 p.y]] V fun e V' => e = .returned (.int .i64 (sideI xs p)) ∧ Below V.heap.size V V' := fun V hV hg h0 => by
    have hgp : good p = true := by simp [goodL] at hg; exact hg.1
    obtain ⟨h1, h2, -⟩ := checkI_zero h0
    exact sideR_any xs p A n cap V ((hr.below hV).more hV.size) (by omega) h2 hgp
  generalize sideI xs p = z at *
  generalize checkI xs = ce at *
  generalize goodL [p, q] = gl at *
  have HK := Lib.hid (And.intro kD (And.intro kO (And.intro kG (And.intro kM (And.intro kH kR)))))
  clear kD kO kG kM kH kR hr hx hn hl hp hq
  have h0 : FP w p q (((w.alloc (.cells #[.int .i64 p.x, .int .i64 p.y] 35)).alloc (.cells #[.int .i64 q.x, .int .i64 q.y] 35)).alloc (.cells #[.int .i64 p.x, .int .i64 p.y, .int .i64 p.x, .int .i64 p.y] 52)) := by
    refine ⟨(((Below.refl _ _).alloc (Nat.le_refl _) _).alloc (by simp) _).alloc (by simp; omega) _, ((PtK.new w p).alloc _).alloc _, ?_, ?_⟩
    · have := (PtK.new (w.alloc (.cells #[.int .i64 p.x, .int .i64 p.y] 35)) q).alloc (.cells #[.int .i64 p.x, .int .i64 p.y, .int .i64 p.x, .int .i64 p.y] 52)
      rwa [World.size_alloc] at this
    · have := Blk.new ((w.alloc (.cells #[.int .i64 p.x, .int .i64 p.y] 35)).alloc (.cells #[.int .i64 q.x, .int .i64 q.y] 35)) 52 #[.int .i64 p.x, .int .i64 p.y, .int .i64 p.x, .int .i64 p.y]
      rwa [World.size_alloc, World.size_alloc] at this
  have H0 := Lib.hid h0
  clear h0
  unfold ptV
  go_enter Try.func11, Try.ntmps11
  go_wp2_with fail
  generalize ((w.alloc (.cells #[.int .i64 p.x, .int .i64 p.y] 35)).alloc (.cells #[.int .i64 q.x, .int .i64 q.y] 35)).alloc (.cells #[.int .i64 p.x, .int .i64 p.y, .int .i64 p.x, .int .i64 p.y] 52) = W0 at *
  refine (ans04_any _).mono ?_
  rintro e w1 ⟨rfl, hb1⟩
  have H1 := Lib.hid (H0.out.on hb1)
  obtain ⟨p1, p2, -, -, -⟩ := H1.out.2.1.facts
  obtain ⟨q1, q2, -, -, -⟩ := H1.out.2.2.1.facts
  clear hb1 H0
  go_wp2_with fail
  with_reducible refine (HK.out.2.2.1 _).mono ?_
  rintro e w2 ⟨rfl, hb2⟩
  have H2 := Lib.hid ((H1.out.alloc (.cells #[.int .i64 p.x, .int .i64 p.y, .int .i64 q.x, .int .i64 q.y] 35)).on hb2)
  clear hb2 H1 p1 p2 q1 q2
  rcases gl with _ | _
  · go_wp2_with fail
    refine (ans04_any _).mono ?_
    rintro e w3 ⟨rfl, hb3⟩
    have hB3 := below_on H2.out.1 (Nat.le_refl _) hb3
    clear hb3 H2
    go_wp2_with fail
    go_ret
    exact ⟨rfl, hB3⟩
  · go_wp2_with fail
    with_reducible refine (HK.out.1 _ H2.out.1).mono ?_
    rintro e w3 ⟨rfl, hb3⟩
    have H3 := Lib.hid (H2.out.on hb3)
    clear hb3 H2
    by_cases hE : ce = 0
    · subst hE
      obtain ⟨p1, p2, -, -, -⟩ := H3.out.2.1.facts
      obtain ⟨q1, q2, -, -, -⟩ := H3.out.2.2.1.facts
      obtain ⟨v1, v2, v3, v4, v5⟩ := H3.out.win
      go_wp2_with fail
      with_reducible refine (HK.out.2.2.2.2.1 _ (by trivial)).mono ?_
      rintro e w4 ⟨rfl, hb4⟩
      have H4 := Lib.hid (H3.out.on hb4)
      clear hb4 H3 p1 p2 q1 q2 v1 v2 v3 v4 v5
      go_wp2_with fail
      have hBd := Lib.hid H4.out.1.drew
      have hlt := H4.out.win.2.2.2.2
      have hP0 : w4.drew.cell? ⟨w.heap.size + 1 + 1, 0, none⟩ = some (.int .i64 p.x) ∧ w4.drew.cell? ⟨w.heap.size + 1 + 1, 1, none⟩ = some (.int .i64 p.y) ∧ w4.drew.cell? ⟨w.heap.size + 1 + 1, 2, none⟩ = some (.int .i64 p.x) ∧ w4.drew.cell? ⟨w.heap.size + 1 + 1, 3, none⟩ = some (.int .i64 p.y) ∧ Below w4.heap.size w4 w4.drew := ⟨H4.out.win.1, H4.out.win.2.1, H4.out.win.2.2.1, H4.out.win.2.2.2.1, (Below.refl _ _).drew⟩
      go_region_held3 (fun V => V.cell? ⟨w.heap.size + 1 + 1, 0, none⟩ = some (.int .i64 p.x) ∧ V.cell? ⟨w.heap.size + 1 + 1, 1, none⟩ = some (.int .i64 p.y) ∧ V.cell? ⟨w.heap.size + 1 + 1, 2, none⟩ = some (.int .i64 p.x) ∧ V.cell? ⟨w.heap.size + 1 + 1, 3, none⟩ = some (.int .i64 p.y) ∧ Below w4.heap.size w4 V)
        (first | with_reducible exact hP0 | with_reducible exact heldW4 hlt (by assumption) (by assumption))
        (first
          | (go_simp; go_at_call 39; (with_reducible refine (HK.out.2.1 _ hBd.out).mono ?_); rintro e w' ⟨A1, c1, rfl, hr1, hb'⟩; try dsimp only)
          | (go_simp; go_at_call 38; (with_reducible refine (HK.out.2.2.2.1 _ _ _ (by trivial) (by trivial) (by assumption)).mono ?_); rintro e w' ⟨rfl, hb'⟩; try dsimp only))
      clear hP0 hBd
      obtain ⟨-, -, -, -, hbV⟩ := (by assumption : HoldW4 w4 _ (w.heap.size + 1 + 1) (.int .i64 p.x) (.int .i64 p.y) (.int .i64 p.x) (.int .i64 p.y))
      have H5 := Lib.hid (H4.out.on hbV)
      clear hbV hlt H4
      obtain ⟨p1, p2, -, -, -⟩ := H5.out.2.1.facts
      obtain ⟨q1, q2, -, -, -⟩ := H5.out.2.2.1.facts
      have hpq : (p.x = q.x ∧ p.y = q.y) ↔ p = q := by
        obtain ⟨x, y⟩ := p
        obtain ⟨x', y'⟩ := q
        simp
      have hc : ((p.x == q.x) = true ∧ (p.y == q.y) = true ∧ decide (p = q) = true) ∨ ((p.x == q.x) = true ∧ (p.y == q.y) = false ∧ decide (p = q) = false) ∨ ((p.x == q.x) = false ∧ decide (p = q) = false) := by
        by_cases h1 : p.x = q.x
        · by_cases h2 : p.y = q.y
          · exact .inl ⟨by simpa using h1, by simpa using h2, decide_eq_true (hpq.1 ⟨h1, h2⟩)⟩
          · exact .inr (.inl ⟨by simpa using h1, by simpa using h2, decide_eq_false fun h => h2 (hpq.2 h).2⟩)
        · exact .inr (.inr ⟨by simpa using h1, decide_eq_false fun h => h1 (hpq.2 h).1⟩)
      clear hpq
      rcases hc with ⟨e1, e2, e3⟩ | ⟨e1, e2, e3⟩ | ⟨e1, e3⟩
      all_goals
        go_wp2_with fail
        with_reducible refine (HK.out.2.2.2.2.2 _ H5.out.1 (by trivial) (by trivial)).mono ?_
        rintro e w6 ⟨rfl, hb6⟩
        have hB6 := below_on H5.out.1 (Nat.le_refl _) hb6
        clear hb6 H5 p1 p2 q1 q2
        go_wp2_with fail
        go_ret
        exact ⟨by simp, hB6⟩
    · have hne : (ce != 0) = true := by simpa using hE
      clear hE
      go_wp2_with fail
      refine (ans04_any _).mono ?_
      rintro e w4 ⟨rfl, hb4⟩
      have hB4 := below_on H3.out.1 (Nat.le_refl _) hb4
      clear hb4 H3
      go_wp2_with fail
      go_ret
      exact ⟨rfl, hB4⟩
end Go.Proofs.Ytcohioplkchojaa

/- merestonelaw04.WindowMeets: the walk. -/
import Derived.Test.YtcohioplkchojaaWMeets
namespace Go.Proofs.Ytcohioplkchojaa
open Go.RowKit
set_option maxHeartbeats 400000 in
theorem own04_any (xs : List Pt) (A : Option Addr) (n cap : Nat) (w : World) (hr : Reads w w.heap.size 2 A n (ptsV xs)) (hn : n ≤ 8796093022208) :
    Calls Try.prog 39 #[.slice A n cap] w fun e w' => ∃ A' c, e = .returned (.slice A' n c) ∧ w'.ownsRow w.heap.size 35 2 (.slice A' n c) n (ptsV xs) ∧ Below w.heap.size w w' := by
  obtain ⟨i0, hi0, hz0, hz1, hz2⟩ := info_parts info_pt
  have hb1 := (Below.refl w.heap.size w).alloc (Nat.le_refl _) (.cells #[] 35)
  have hown1 : (w.alloc (.cells #[] 35)).ownsRow w.heap.size 35 2 (.slice (some ⟨w.heap.size, 0, none⟩) 0 0) 0 [] :=
    ⟨by simp, .inr ⟨w.heap.size, 0, #[], rfl, Nat.le_refl _, Blk.new w _ _, Nat.le_refl _, by simp [maxLen], by simp, by simp⟩⟩
  have hrd := hr.below hb1
  go_enter Try.func39, Try.ntmps39
  go_wp2_with (at_builtin; refine wpList_append_any _ rfl (.tmp 3) (.tmp 4) _ rfl w.heap.size 35 i0 _ 2 16 Try.underlying23 hi0 hz0 hz1 hz2 rfl (by omega) (.slice (some ⟨w.heap.size, 0, none⟩) 0 0) 0 [] rfl hown1 w.heap.size A n cap (ptsV xs) rfl hrd (ptsV_one xs) (by simp only [maxLen]; omega) (by omega) (by simp) ?_
               intro v2 w2 hown2 hg2 hat2)
  go_ret
  rw [Nat.zero_add, List.nil_append] at hown2
  have hb2 : Below w.heap.size w w2 := hb1.grown hg2 hb1.size (by intro k hk; simp [Value.ownBlock] at hk; omega)
  obtain ⟨A2, c2, rfl⟩ := own_form hown2
  exact ⟨_, _, rfl, hown2, hb2⟩
abbrev HoldW4 (W V : World) (h : Nat) (x1 x2 x3 x4 : Value) : Prop := V.cell? ⟨h, 0, none⟩ = some x1 ∧ V.cell? ⟨h, 1, none⟩ = some x2 ∧ V.cell? ⟨h, 2, none⟩ = some x3 ∧ V.cell? ⟨h, 3, none⟩ = some x4 ∧ Below W.heap.size W V
theorem heldW4 {W V V' : World} {h : Nat} {x1 x2 x3 x4 : Value} (hh : h < W.heap.size)
    (hs : V.cell? ⟨h, 0, none⟩ = some x1 ∧ V.cell? ⟨h, 1, none⟩ = some x2 ∧ V.cell? ⟨h, 2, none⟩ = some x3 ∧ V.cell? ⟨h, 3, none⟩ = some x4 ∧ Below W.heap.size W V) (hb : Below V.heap.size V V') :
    V'.cell? ⟨h, 0, none⟩ = some x1 ∧ V'.cell? ⟨h, 1, none⟩ = some x2 ∧ V'.cell? ⟨h, 2, none⟩ = some x3 ∧ V'.cell? ⟨h, 3, none⟩ = some x4 ∧ Below W.heap.size W V' := by
  obtain ⟨h1, h2, h3, h4, h9⟩ := hs
  have := h9.size
  exact ⟨(hb.cell (by simp only; omega)).trans h1, (hb.cell (by simp only; omega)).trans h2, (hb.cell (by simp only; omega)).trans h3, (hb.cell (by simp only; omega)).trans h4, below_on h9 (Nat.le_refl _) hb⟩
set_option maxRecDepth 100000 in
set_option maxHeartbeats 1600000 in
theorem windowMeets_any (v : Win) (xs : List Pt) (A : Option Addr) (n cap : Nat) (w : World) (hv : v.inI) (hr : Reads w w.heap.size 2 A n (ptsV xs)) (hn : n ≤ 8796093022208) (hx : ∀ p ∈ xs, p.inI) :
    Calls Try.prog 10 #[winV v, .slice A n cap] w fun e w' => e = .returned (.bool true) ∧ Below w.heap.size w w' := by
  have hl : xs.length = n := hr.lenPt
  have kW : ∀ V, Calls Try.prog 37 #[.agg #[.int .i64 v.lx, .int .i64 v.ly, .int .i64 v.hx, .int .i64 v.hy]] V fun e V' => e = .returned (.int .i64 (winE v)) ∧ Below V.heap.size V V' := fun V => winOK_any v V hv
  have kD : ∀ V, Below w.heap.size w V → Calls Try.prog 20 #[.slice A n cap] V fun e V' => e = .returned (.int .i64 (checkI xs)) ∧ Below V.heap.size V V' := fun V hV => checkR_any xs A n cap V ((hr.below hV).more hV.size) (by omega) hx
  have kO : ∀ V, Below w.heap.size w V → Calls Try.prog 39 #[.slice A n cap] V fun e V' => ∃ A' c, e = .returned (.slice A' n c) ∧ Reads V' V'.heap.size 2 A' n (ptsV xs) ∧ Below V.heap.size V V' := fun V hV =>
    (own04_any xs A n cap V ((hr.below hV).more hV.size) hn).mono fun e V' ⟨A', c, h1, h2, h3⟩ => ⟨A', c, h1, Reads.of_own h2, h3⟩
  have kM : ∀ V A' c, Reads V V.heap.size 2 A' n (ptsV xs) → Calls Try.prog 38 #[.agg #[.int .i64 v.lx, .int .i64 v.ly, .int .i64 v.hx, .int .i64 v.hy], .slice A' n c] V fun e V' => e = .returned (.tuple #[.bool (meetV v xs), .int .i64 (meetE v xs)]) ∧ Below V.heap.size V V' := fun V A' c h => wmeets_any v xs A' n c V h (by omega) hx hv
  have kR : ∀ V, Below w.heap.size w V → winE v = 0 → checkI xs = 0 → Calls Try.prog 41 #[.agg #[.int .i64 v.lx, .int .i64 v.ly, .int .i64 v.hx, .int .i64 v.hy], .slice A n cap] V fun e V' => e = .returned (.bool (meetsB v xs)) ∧ Below V.heap.size V V' := fun V hV h1 h2 => by
    obtain ⟨h3, h4, -⟩ := checkI_zero h2
    exact meetsR_any v xs A n cap V ((hr.below hV).more hV.size) (by omega) h4 h1
  have hc := meet_cases v xs
  generalize meetV v xs = mv at *
  generalize meetE v xs = me at *
  generalize meetsB v xs = mb at *
  generalize checkI xs = ce at *
  generalize winE v = we at *
  have HK := Lib.hid (And.intro kW (And.intro kD (And.intro kO (And.intro kM kR))))
  have hB := (Below.refl w.heap.size w).alloc (Nat.le_refl _) (.cells #[.int .i64 v.lx, .int .i64 v.ly, .int .i64 v.hx, .int .i64 v.hy] 52)
  have hW := HasWin.new w v 52
  have HB := Lib.hid (And.intro hB hW)
  clear kW kD kO kM kR hr hx hn hl hB hW hv
  unfold winV
  rcases hc with ⟨h1, rfl, rfl⟩ | ⟨rfl, h2, rfl, rfl⟩ | ⟨rfl, rfl, rfl, rfl⟩
  · have hne : (me == 0) = false := by simpa using h1
    have hself : (me == me) = true := by simp
    clear h1
    go_enter Try.func10, Try.ntmps10
    go_wp2_with fail
    with_reducible refine (HK.out.1 _).mono ?_
    rintro e w1 ⟨rfl, hb1⟩
    have H1 := Lib.hid (And.intro (below_on HB.out.1 (Nat.le_refl _) hb1) (HB.out.2.on hb1))
    clear hb1 HB
    go_wp2_with fail
    have hBd := Lib.hid (H1.out.1).drew
    have hlt : w.heap.size < w1.heap.size := (H1.out.2).2.2.2.2
    have hP0 : w1.drew.cell? ⟨w.heap.size, 0, none⟩ = some (.int .i64 v.lx) ∧ w1.drew.cell? ⟨w.heap.size, 1, none⟩ = some (.int .i64 v.ly) ∧ w1.drew.cell? ⟨w.heap.size, 2, none⟩ = some (.int .i64 v.hx) ∧ w1.drew.cell? ⟨w.heap.size, 3, none⟩ = some (.int .i64 v.hy) ∧ Below w1.heap.size w1 w1.drew := ⟨(H1.out.2).1, (H1.out.2).2.1, (H1.out.2).2.2.1, (H1.out.2).2.2.2.1, (Below.refl _ _).drew⟩
    go_region_held3 (fun V => V.cell? ⟨w.heap.size, 0, none⟩ = some (.int .i64 v.lx) ∧ V.cell? ⟨w.heap.size, 1, none⟩ = some (.int .i64 v.ly) ∧ V.cell? ⟨w.heap.size, 2, none⟩ = some (.int .i64 v.hx) ∧ V.cell? ⟨w.heap.size, 3, none⟩ = some (.int .i64 v.hy) ∧ Below w1.heap.size w1 V)
      (first | with_reducible exact hP0 | with_reducible exact heldW4 hlt (by assumption) (by assumption))
      (first
        | (go_simp; go_at_call 39; (with_reducible refine (HK.out.2.2.1 _ hBd.out).mono ?_); rintro e w' ⟨A1, c1, rfl, hr1, hb'⟩; try dsimp only)
        | (go_simp; go_at_call 38; (with_reducible refine (HK.out.2.2.2.1 _ _ _ (by assumption)).mono ?_); rintro e w' ⟨rfl, hb'⟩; try dsimp only))
    clear hP0 hBd
    obtain ⟨g1, g2, g3, g4, hbV⟩ := (by assumption : HoldW4 w1 _ w.heap.size (.int .i64 v.lx) (.int .i64 v.ly) (.int .i64 v.hx) (.int .i64 v.hy))
    have HV := Lib.hid (And.intro (below_on H1.out.1 (Nat.le_refl _) hbV) (show HasWin _ _ v from ⟨g1, g2, g3, g4, Nat.lt_of_lt_of_le hlt hbV.size⟩))
    clear g1 g2 g3 g4 hbV hlt
    go_wp2_with fail
    refine (ans04_any _).mono ?_
    rintro e w5 ⟨rfl, hb5⟩
    have hB5 := below_on HV.out.1 (Nat.le_refl _) hb5
    obtain ⟨k1, k2, k3, k4, k5⟩ := HV.out.2.on hb5
    have HB5 := Lib.hid hB5
    clear hb5 HV hB5
    go_wp2_with fail
    go_ret
    exact ⟨rfl, HB5.out⟩

  · have hne : (me == 0) = false := by simpa using h2
    have hself : (me == me) = true := by simp
    clear h2
    go_enter Try.func10, Try.ntmps10
    go_wp2_with fail
    with_reducible refine (HK.out.1 _).mono ?_
    rintro e w1 ⟨rfl, hb1⟩
    have H1 := Lib.hid (And.intro (below_on HB.out.1 (Nat.le_refl _) hb1) (HB.out.2.on hb1))
    clear hb1 HB
    go_wp2_with fail
    with_reducible refine (HK.out.2.1 _ H1.out.1).mono ?_
    rintro e w2 ⟨rfl, hb2⟩
    have H2 := Lib.hid (And.intro (below_on H1.out.1 (Nat.le_refl _) hb2) (H1.out.2.on hb2))
    clear hb2 H1
    go_wp2_with fail
    have hBd := Lib.hid (H2.out.1).drew
    have hlt : w.heap.size < w2.heap.size := (H2.out.2).2.2.2.2
    have hP0 : w2.drew.cell? ⟨w.heap.size, 0, none⟩ = some (.int .i64 v.lx) ∧ w2.drew.cell? ⟨w.heap.size, 1, none⟩ = some (.int .i64 v.ly) ∧ w2.drew.cell? ⟨w.heap.size, 2, none⟩ = some (.int .i64 v.hx) ∧ w2.drew.cell? ⟨w.heap.size, 3, none⟩ = some (.int .i64 v.hy) ∧ Below w2.heap.size w2 w2.drew := ⟨(H2.out.2).1, (H2.out.2).2.1, (H2.out.2).2.2.1, (H2.out.2).2.2.2.1, (Below.refl _ _).drew⟩
    go_region_held3 (fun V => V.cell? ⟨w.heap.size, 0, none⟩ = some (.int .i64 v.lx) ∧ V.cell? ⟨w.heap.size, 1, none⟩ = some (.int .i64 v.ly) ∧ V.cell? ⟨w.heap.size, 2, none⟩ = some (.int .i64 v.hx) ∧ V.cell? ⟨w.heap.size, 3, none⟩ = some (.int .i64 v.hy) ∧ Below w2.heap.size w2 V)
      (first | with_reducible exact hP0 | with_reducible exact heldW4 hlt (by assumption) (by assumption))
      (first
        | (go_simp; go_at_call 39; (with_reducible refine (HK.out.2.2.1 _ hBd.out).mono ?_); rintro e w' ⟨A1, c1, rfl, hr1, hb'⟩; try dsimp only)
        | (go_simp; go_at_call 38; (with_reducible refine (HK.out.2.2.2.1 _ _ _ (by assumption)).mono ?_); rintro e w' ⟨rfl, hb'⟩; try dsimp only))
    clear hP0 hBd
    obtain ⟨g1, g2, g3, g4, hbV⟩ := (by assumption : HoldW4 w2 _ w.heap.size (.int .i64 v.lx) (.int .i64 v.ly) (.int .i64 v.hx) (.int .i64 v.hy))
    have HV := Lib.hid (And.intro (below_on H2.out.1 (Nat.le_refl _) hbV) (show HasWin _ _ v from ⟨g1, g2, g3, g4, Nat.lt_of_lt_of_le hlt hbV.size⟩))
    clear g1 g2 g3 g4 hbV hlt
    go_wp2_with fail
    refine (ans04_any _).mono ?_
    rintro e w5 ⟨rfl, hb5⟩
    have hB5 := below_on HV.out.1 (Nat.le_refl _) hb5
    obtain ⟨k1, k2, k3, k4, k5⟩ := HV.out.2.on hb5
    have HB5 := Lib.hid hB5
    clear hb5 HV hB5
    go_wp2_with fail
    go_ret
    exact ⟨rfl, HB5.out⟩

  · go_enter Try.func10, Try.ntmps10
    go_wp2_with fail
    with_reducible refine (HK.out.1 _).mono ?_
    rintro e w1 ⟨rfl, hb1⟩
    have H1 := Lib.hid (And.intro (below_on HB.out.1 (Nat.le_refl _) hb1) (HB.out.2.on hb1))
    clear hb1 HB
    go_wp2_with fail
    with_reducible refine (HK.out.2.1 _ H1.out.1).mono ?_
    rintro e w2 ⟨rfl, hb2⟩
    have H2 := Lib.hid (And.intro (below_on H1.out.1 (Nat.le_refl _) hb2) (H1.out.2.on hb2))
    clear hb2 H1
    go_wp2_with fail
    have hBd := Lib.hid (H2.out.1).drew
    have hlt : w.heap.size < w2.heap.size := (H2.out.2).2.2.2.2
    have hP0 : w2.drew.cell? ⟨w.heap.size, 0, none⟩ = some (.int .i64 v.lx) ∧ w2.drew.cell? ⟨w.heap.size, 1, none⟩ = some (.int .i64 v.ly) ∧ w2.drew.cell? ⟨w.heap.size, 2, none⟩ = some (.int .i64 v.hx) ∧ w2.drew.cell? ⟨w.heap.size, 3, none⟩ = some (.int .i64 v.hy) ∧ Below w2.heap.size w2 w2.drew := ⟨(H2.out.2).1, (H2.out.2).2.1, (H2.out.2).2.2.1, (H2.out.2).2.2.2.1, (Below.refl _ _).drew⟩
    go_region_held3 (fun V => V.cell? ⟨w.heap.size, 0, none⟩ = some (.int .i64 v.lx) ∧ V.cell? ⟨w.heap.size, 1, none⟩ = some (.int .i64 v.ly) ∧ V.cell? ⟨w.heap.size, 2, none⟩ = some (.int .i64 v.hx) ∧ V.cell? ⟨w.heap.size, 3, none⟩ = some (.int .i64 v.hy) ∧ Below w2.heap.size w2 V)
      (first | with_reducible exact hP0 | with_reducible exact heldW4 hlt (by assumption) (by assumption))
      (first
        | (go_simp; go_at_call 39; (with_reducible refine (HK.out.2.2.1 _ hBd.out).mono ?_); rintro e w' ⟨A1, c1, rfl, hr1, hb'⟩; try dsimp only)
        | (go_simp; go_at_call 38; (with_reducible refine (HK.out.2.2.2.1 _ _ _ (by assumption)).mono ?_); rintro e w' ⟨rfl, hb'⟩; try dsimp only))
    clear hP0 hBd
    obtain ⟨g1, g2, g3, g4, hbV⟩ := (by assumption : HoldW4 w2 _ w.heap.size (.int .i64 v.lx) (.int .i64 v.ly) (.int .i64 v.hx) (.int .i64 v.hy))
    have HV := Lib.hid (And.intro (below_on H2.out.1 (Nat.le_refl _) hbV) (show HasWin _ _ v from ⟨g1, g2, g3, g4, Nat.lt_of_lt_of_le hlt hbV.size⟩))
    clear g1 g2 g3 g4 hbV hlt
    go_wp2_with fail
    refine (ans04_any _).mono ?_
    rintro e w5 ⟨rfl, hb5⟩
    have hB5 := below_on HV.out.1 (Nat.le_refl _) hb5
    obtain ⟨k1, k2, k3, k4, k5⟩ := HV.out.2.on hb5
    have HB5 := Lib.hid hB5
    clear hb5 HV hB5
    go_wp2_with fail
    with_reducible refine (HK.out.2.2.2.2 _ HB5.out (by trivial) (by trivial)).mono ?_
    rintro e w6 ⟨rfl, hb6⟩
    have hB6 := below_on HB5.out (Nat.le_refl _) hb6
    clear hb6 HB5 k1 k2 k3 k4 k5
    go_wp2_with fail
    go_ret
    exact ⟨by simp, hB6⟩

end Go.Proofs.Ytcohioplkchojaa

/- merestonelaw09.GridHas: the walk. -/
import Derived.Test.YtcohioplkchojaaHasCell
namespace Go.Proofs.Ytcohioplkchojaa
open Go.RowKit
abbrev FH (w : World) (u : Win) (p : Pt) (W : World) : Prop := Below w.heap.size w W ∧ Blk W (w.heap.size) 52 #[.int .i64 u.lx, .int .i64 u.ly, .int .i64 u.hx, .int .i64 u.hy] ∧ Blk W (w.heap.size + 1) 35 #[.int .i64 p.x, .int .i64 p.y]
theorem FH.on {w W W' : World} {u : Win} {p : Pt} (h : FH w u p W) (hb : Below W.heap.size W W') : FH w u p W' := ⟨below_on h.1 (Nat.le_refl _) hb, Blk.below h.2.1 hb (Blk.lt h.2.1), Blk.below h.2.2 hb (Blk.lt h.2.2)⟩
theorem FH.alloc {w W : World} {u : Win} {p : Pt} (h : FH w u p W) (o : Obj) : FH w u p (W.alloc o) := ⟨h.1.alloc h.1.size o, Blk.alloc h.2.1 o, Blk.alloc h.2.2 o⟩
theorem FH.c0 {w W : World} {u : Win} {p : Pt} (h : FH w u p W) : W.cell? ⟨w.heap.size, 0, none⟩ = some (.int .i64 u.lx) ∧ W.cell? ⟨w.heap.size, 1, none⟩ = some (.int .i64 u.ly) ∧ W.cell? ⟨w.heap.size, 2, none⟩ = some (.int .i64 u.hx) ∧ W.cell? ⟨w.heap.size, 3, none⟩ = some (.int .i64 u.hy) ∧ w.heap.size < W.heap.size := ⟨by rw [Blk.cell h.2.1 0]; rfl, by rw [Blk.cell h.2.1 1]; rfl, by rw [Blk.cell h.2.1 2]; rfl, by rw [Blk.cell h.2.1 3]; rfl, Blk.lt h.2.1⟩
theorem FH.c1 {w W : World} {u : Win} {p : Pt} (h : FH w u p W) : W.cell? ⟨w.heap.size + 1, 0, none⟩ = some (.int .i64 p.x) ∧ W.cell? ⟨w.heap.size + 1, 1, none⟩ = some (.int .i64 p.y) ∧ w.heap.size + 1 < W.heap.size := ⟨by rw [Blk.cell h.2.2 0]; rfl, by rw [Blk.cell h.2.2 1]; rfl, Blk.lt h.2.2⟩
theorem FH.new (w : World) (u : Win) (p : Pt) : FH w u p ((w.alloc (.cells #[.int .i64 u.lx, .int .i64 u.ly, .int .i64 u.hx, .int .i64 u.hy] 52)).alloc (.cells #[.int .i64 p.x, .int .i64 p.y] 35)) := by
  refine ⟨(((Below.refl _ _).alloc (Nat.le_refl _) _).alloc (by simp) _), ?_, ?_⟩
  · have := Blk.alloc (Blk.new w 52 #[.int .i64 u.lx, .int .i64 u.ly, .int .i64 u.hx, .int .i64 u.hy]) (.cells #[.int .i64 p.x, .int .i64 p.y] 35)
    exact this
  · have := Blk.new (w.alloc (.cells #[.int .i64 u.lx, .int .i64 u.ly, .int .i64 u.hx, .int .i64 u.hy] 52)) 35 #[.int .i64 p.x, .int .i64 p.y]
    rw [World.size_alloc] at this
    exact this
abbrev FI (w : World) (u : Win) (p c : Pt) (g : Nat) (W : World) : Prop := Below w.heap.size w W ∧ Blk W (w.heap.size) 52 #[.int .i64 u.lx, .int .i64 u.ly, .int .i64 u.hx, .int .i64 u.hy] ∧ Blk W (w.heap.size + 1) 35 #[.int .i64 p.x, .int .i64 p.y] ∧ Blk W (g) 54 #[.int .i64 c.x, .int .i64 c.y]
theorem FI.on {w W W' : World} {u : Win} {p c : Pt} {g : Nat} (h : FI w u p c g W) (hb : Below W.heap.size W W') : FI w u p c g W' := ⟨below_on h.1 (Nat.le_refl _) hb, Blk.below h.2.1 hb (Blk.lt h.2.1), Blk.below h.2.2.1 hb (Blk.lt h.2.2.1), Blk.below h.2.2.2 hb (Blk.lt h.2.2.2)⟩
theorem FI.alloc {w W : World} {u : Win} {p c : Pt} {g : Nat} (h : FI w u p c g W) (o : Obj) : FI w u p c g (W.alloc o) := ⟨h.1.alloc h.1.size o, Blk.alloc h.2.1 o, Blk.alloc h.2.2.1 o, Blk.alloc h.2.2.2 o⟩
theorem FI.c0 {w W : World} {u : Win} {p c : Pt} {g : Nat} (h : FI w u p c g W) : W.cell? ⟨w.heap.size, 0, none⟩ = some (.int .i64 u.lx) ∧ W.cell? ⟨w.heap.size, 1, none⟩ = some (.int .i64 u.ly) ∧ W.cell? ⟨w.heap.size, 2, none⟩ = some (.int .i64 u.hx) ∧ W.cell? ⟨w.heap.size, 3, none⟩ = some (.int .i64 u.hy) ∧ w.heap.size < W.heap.size := ⟨by rw [Blk.cell h.2.1 0]; rfl, by rw [Blk.cell h.2.1 1]; rfl, by rw [Blk.cell h.2.1 2]; rfl, by rw [Blk.cell h.2.1 3]; rfl, Blk.lt h.2.1⟩
theorem FI.c1 {w W : World} {u : Win} {p c : Pt} {g : Nat} (h : FI w u p c g W) : W.cell? ⟨w.heap.size + 1, 0, none⟩ = some (.int .i64 p.x) ∧ W.cell? ⟨w.heap.size + 1, 1, none⟩ = some (.int .i64 p.y) ∧ w.heap.size + 1 < W.heap.size := ⟨by rw [Blk.cell h.2.2.1 0]; rfl, by rw [Blk.cell h.2.2.1 1]; rfl, Blk.lt h.2.2.1⟩
theorem FI.c2 {w W : World} {u : Win} {p c : Pt} {g : Nat} (h : FI w u p c g W) : W.cell? ⟨g, 0, none⟩ = some (.int .i64 c.x) ∧ W.cell? ⟨g, 1, none⟩ = some (.int .i64 c.y) ∧ g < W.heap.size := ⟨by rw [Blk.cell h.2.2.2 0]; rfl, by rw [Blk.cell h.2.2.2 1]; rfl, Blk.lt h.2.2.2⟩
theorem cells_has {xs : List Pt} {p : Pt} (h0 : checkI xs = 0) (hs : 0 ≤ sideI xs p) : cellOf p ∈ cellsL xs := by
  obtain ⟨h1, h2, h3, -⟩ := checkI_zero h0
  unfold cellsL
  rw [if_pos h0]
  exact cell_in (aroW_win h2 _).1 (side_box (by omega) hs)
set_option maxRecDepth 100000 in
set_option maxHeartbeats 1600000 in
theorem gridHas_any (u : Win) (xs : List Pt) (p : Pt) (A : Option Addr) (n cap : Nat) (w : World) (hu : u.inI) (hr : Reads w w.heap.size 2 A n (ptsV xs)) (hn : n ≤ 8796093022208) (hx : ∀ p ∈ xs, p.inI) (hp : p.inI) :
    Calls Try.prog 8 #[winV u, .slice A n cap, ptV p] w fun e w' => e = .returned (.bool true) ∧ Below w.heap.size w w' := by
  obtain ⟨i0, hi0, hz0, hz1, hz2⟩ := info_parts info_pt
  have hl : xs.length = n := hr.lenPt
  have kA : ∀ V, Calls Try.prog 31 #[.agg #[.int .i64 p.x, .int .i64 p.y]] V fun e V' => e = .returned (.tuple #[.agg #[.int .i64 (atV p).1.x, .int .i64 (atV p).1.y], .int .i64 (atV p).2]) ∧ Below V.heap.size V V' := fun V => at_any p V hp
  have kS : ∀ V, Calls Try.prog 33 #[.agg #[.int .i64 u.lx, .int .i64 u.ly, .int .i64 u.hx, .int .i64 u.hy]] V fun e V' => ∃ A' c', e = .returned (.tuple #[.slice A' (spanC u).length c', .int .i64 (winE u)]) ∧ Reads V' V'.heap.size 2 A' (spanC u).length (ptsV (spanC u)) ∧ (spanC u).length ≤ 9223372036854775807 ∧ Below V.heap.size V V' := fun V =>
    (span_any u V hu).mono fun e V' ⟨A', c', h1, h2, h3⟩ => ⟨A', c', h1, Reads.of_own h2, by have := own_cap h2; omega, h3⟩
  have kC : ∀ V A' c, Reads V V.heap.size 2 A' n (ptsV xs) → Calls Try.prog 26 #[.slice A' n c] V fun e V' => ∃ A'' c', e = .returned (.tuple #[.slice A'' (cellsL xs).length c', .int .i64 (checkI xs)]) ∧ Reads V' V'.heap.size 2 A'' (cellsL xs).length (ptsV (cellsL xs)) ∧ (cellsL xs).length ≤ 9223372036854775807 ∧ Below V.heap.size V V' := fun V A' c h =>
    (cells_any xs A' n c V h (by omega) hx).mono fun e V' ⟨A'', c', h1, h2, h3⟩ => ⟨A'', c', h1, Reads.of_own h2, by have := own_cap h2; omega, h3⟩
  have kH : ∀ V, Calls Try.prog 34 #[.agg #[.int .i64 u.lx, .int .i64 u.ly, .int .i64 u.hx, .int .i64 u.hy], .agg #[.int .i64 p.x, .int .i64 p.y]] V fun e V' => e = .returned (.bool (hasB u p)) ∧ Below V.heap.size V V' := fun V => hasR_any u p V
  have kR : ∀ V, Below w.heap.size w V → checkI xs = 0 → good p = true → Calls Try.prog 23 #[.slice A n cap, .agg #[.int .i64 p.x, .int .i64 p.y]] V fun e V' => e = .returned (.int .i64 (sideI xs p)) ∧ Below V.heap.size V V' := fun V hV h0 hg => by
    obtain ⟨h1, h2, -⟩ := checkI_zero h0
    exact sideR_any xs p A n cap V ((hr.below hV).more hV.size) (by omega) h2 hg
  have hF1 : winE u = 0 → hasB u p = true → decide (cellOf p ∈ spanC u) = true := fun g1 g2 => decide_eq_true (cell_in g1 g2)
  have hF2 : checkI xs = 0 → 0 ≤ sideI xs p → decide (cellOf p ∈ cellsL xs) = true := fun g1 g2 => decide_eq_true (cells_has g1 g2)
  have HRD := Lib.hid (And.intro hr hp)
  generalize hgp : good p = gp at *
  rcases gp with _ | _
  · have e1 : atV p = (⟨0, 0⟩, 3) := by unfold atV; rw [if_neg (by rw [hgp]; simp)]
    rw [e1] at kA
    have HK := Lib.hid (And.intro kA hgp)
    clear kA kS kC kH kR hF1 hF2 hr hx hn hp hu hl e1 hgp
    have H0 := Lib.hid (FH.new w u p)
    unfold winV ptV
    go_enter Try.func8, Try.ntmps8
    go_wp2_with fail
    generalize ((w.alloc (.cells #[.int .i64 u.lx, .int .i64 u.ly, .int .i64 u.hx, .int .i64 u.hy] 52)).alloc (.cells #[.int .i64 p.x, .int .i64 p.y] 35)) = W0 at *
    obtain ⟨f0_0_0, f0_0_1, f0_0_2, f0_0_3, f0_0_4⟩ := H0.out.c0
    obtain ⟨f0_1_0, f0_1_1, f0_1_2⟩ := H0.out.c1
    with_reducible refine (HK.out.1 _).mono ?_
    rintro e w1 ⟨rfl, hb1⟩
    have H1 := Lib.hid (H0.out.on hb1)
    clear hb1 H0 f0_0_0 f0_0_1 f0_0_2 f0_0_3 f0_0_4 f0_1_0 f0_1_1 f0_1_2
    go_wp2_with fail
    refine (ans09_any _).mono ?_
    rintro e w2 ⟨rfl, hb2⟩
    have H2 := Lib.hid ((H1.out.alloc (.cells #[.int .i64 0, .int .i64 0] 54)).on hb2)
    clear hb2 H1 
    go_wp2_with fail
    refine (ans09_any _).mono ?_
    rintro e w3 ⟨rfl, hb3⟩
    have H3 := Lib.hid (H2.out.on hb3)
    clear hb3 H2 
    obtain ⟨f3_1_0, f3_1_1, f3_1_2⟩ := H3.out.c1
    go_wp2_with fail
    refine (goodR_any [p] _ 1 1 _ (reads_onePt w3 p _ rfl) (by omega) (fun q hq => by simp at hq; subst hq; exact HRD.out.2)).mono ?_
    rintro e w4 ⟨rfl, hb4⟩
    have H4 := Lib.hid ((H3.out.alloc (.cells #[.int .i64 p.x, .int .i64 p.y] 35)).on hb4)
    clear hb4 H3 f3_1_0 f3_1_1 f3_1_2
    have hgl : goodL [p] = false := by simp [goodL, HK.out.2]
    rw [hgl]
    have HB := Lib.hid H4.out.1
    clear H4 HK hgl
    go_wp2_with fail
    go_ret
    exact ⟨rfl, HB.out⟩
  · have e1 : atV p = (cellOf p, 0) := by unfold atV; rw [if_pos hgp]
    rw [e1] at kA
    simp only at kA
    generalize cellOf p = c at *
    generalize sideI xs p = z at *
    have hz : z < 0 ∨ 0 ≤ z := by omega
    generalize checkI xs = ce at *
    generalize hasB u p = hb at *
    generalize winE u = ue at *
    generalize cellsL xs = cl at *
    generalize spanC u = sl at *
    have HK := Lib.hid (And.intro kA (And.intro kS (And.intro kC (And.intro kH (And.intro kR (And.intro hF1 hF2))))))
    clear kA kS kC kH kR hF1 hF2 hr hx hp hu hl e1 hgp
    have H0 := Lib.hid (FH.new w u p)
    unfold winV ptV
    go_enter Try.func8, Try.ntmps8
    go_wp2_with fail
    generalize ((w.alloc (.cells #[.int .i64 u.lx, .int .i64 u.ly, .int .i64 u.hx, .int .i64 u.hy] 52)).alloc (.cells #[.int .i64 p.x, .int .i64 p.y] 35)) = W0 at *
    obtain ⟨f0_0_0, f0_0_1, f0_0_2, f0_0_3, f0_0_4⟩ := H0.out.c0
    obtain ⟨f0_1_0, f0_1_1, f0_1_2⟩ := H0.out.c1
    with_reducible refine (HK.out.1 _).mono ?_
    rintro e w1 ⟨rfl, hb1⟩
    have H1 := Lib.hid (H0.out.on hb1)
    clear hb1 H0 f0_0_0 f0_0_1 f0_0_2 f0_0_3 f0_0_4 f0_1_0 f0_1_1 f0_1_2
    obtain ⟨g, hg⟩ : ∃ g, g = w1.heap.size := ⟨_, rfl⟩
    have hX : FI w u p c g (w1.alloc (.cells #[.int .i64 c.x, .int .i64 c.y] 54)) := by
      rw [hg]
      exact ⟨(H1.out.alloc _).1, (H1.out.alloc _).2.1, (H1.out.alloc _).2.2, Blk.new w1 _ _⟩
    have HX := Lib.hid hX
    clear hX H1
    go_wp2_with fail
    rw [← hg]
    generalize w1.alloc (.cells #[.int .i64 c.x, .int .i64 c.y] 54) = W1 at *
    clear hg
    refine (ans09_any _).mono ?_
    rintro e w2 ⟨rfl, hb2⟩
    have H2 := Lib.hid (HX.out.on hb2)
    clear hb2 HX 
    obtain ⟨f2_0_0, f2_0_1, f2_0_2, f2_0_3, f2_0_4⟩ := H2.out.c0
    go_wp2_with fail
    with_reducible refine (HK.out.2.1 _).mono ?_
    rintro e w3 ⟨A3, c3, rfl, hr3, hn3, hb3⟩
    have H3 := Lib.hid (H2.out.on hb3)
    clear hb3 H2 f2_0_0 f2_0_1 f2_0_2 f2_0_3 f2_0_4
    have HA := Lib.hid (And.intro hr3 hn3)
    clear hr3 hn3
    have hb1 := (Below.refl w3.heap.size w3).alloc (Nat.le_refl _) (.cells #[] 35)
    have hown1 : (w3.alloc (.cells #[] 35)).ownsRow w3.heap.size 35 2 (.slice (some ⟨w3.heap.size, 0, none⟩) 0 0) 0 [] :=
      ⟨by simp, .inr ⟨w3.heap.size, 0, #[], rfl, Nat.le_refl _, Blk.new w3 _ _, Nat.le_refl _, by simp [maxLen], by simp, by simp⟩⟩
    have hrd := ((HRD.out.1.below H3.out.1).more H3.out.1.size).below hb1
    go_wp2_with (at_builtin; refine wpList_append_any _ rfl (.tmp 39) (.tmp 40) _ rfl w3.heap.size 35 i0 _ 2 16 Try.underlying23 hi0 hz0 hz1 hz2 rfl (by omega) (.slice (some ⟨w3.heap.size, 0, none⟩) 0 0) 0 [] rfl hown1 w3.heap.size A n cap (ptsV xs) rfl hrd (ptsV_one xs) (by simp only [maxLen]; omega) (by omega) (by simp) ?_
                 intro v2 wa hown2 hg2 hat2)
    rw [Nat.zero_add, List.nil_append] at hown2
    have hb2 : Below w3.heap.size w3 wa := hb1.grown hg2 hb1.size (by intro k hk; simp [Value.ownBlock] at hk; omega)
    obtain ⟨A2, c2, rfl⟩ := own_form hown2
    have Ha := Lib.hid (And.intro (H3.out.on hb2) (And.intro (Reads.of_own hown2) (HA.out.1.on hb2)))
    clear hb2 hown2 hg2 hat2 hrd hown1 hb1 H3
    have Hx := Lib.hid Ha.out.1
    go_wp2_with fail
    with_reducible refine (HK.out.2.2.1 _ _ _ Ha.out.2.1).mono ?_
    rintro e w4 ⟨A4, c4, rfl, hr4, hn4, hb4⟩
    have H4 := Lib.hid (Hx.out.on hb4)
    have HL := Lib.hid (And.intro (Ha.out.2.2.on hb4) (And.intro HA.out.2 (And.intro hr4 hn4)))
    clear hb4 Hx 
    clear hr4 hn4 Ha HA
    by_cases hu0 : ue = 0
    · subst hu0
      obtain ⟨f4_0_0, f4_0_1, f4_0_2, f4_0_3, f4_0_4⟩ := H4.out.c0
      obtain ⟨f4_1_0, f4_1_1, f4_1_2⟩ := H4.out.c1
      go_wp2_with fail
      with_reducible refine (HK.out.2.2.2.1 _).mono ?_
      rintro e w5 ⟨rfl, hb5⟩
      have H5 := Lib.hid (H4.out.on hb5)
      have HL := Lib.hid (And.intro (HL.out.1.on hb5) (And.intro HL.out.2.1 (And.intro (HL.out.2.2.1.on hb5) HL.out.2.2.2)))
      clear hb5 H4 f4_0_0 f4_0_1 f4_0_2 f4_0_3 f4_0_4 f4_1_0 f4_1_1 f4_1_2
      rcases hb with _ | _
      · skip
        by_cases hc : ce = 0
        · subst hc
          obtain ⟨f5_1_0, f5_1_1, f5_1_2⟩ := H5.out.c1
          go_wp2_with fail
          with_reducible refine (HK.out.2.2.2.2.1 _ H5.out.1 (by trivial) (by trivial)).mono ?_
          rintro e w6 ⟨rfl, hb6⟩
          have H6 := Lib.hid (H5.out.on hb6)
          have HM := Lib.hid (And.intro (HL.out.2.2.1.on hb6) HL.out.2.2.2)
          clear hb6 H5 f5_1_0 f5_1_1 f5_1_2
          rcases hz with hz | hz
          · have d0 : decide (z < 0) = true := decide_eq_true hz
            have HB := Lib.hid H6.out.1
            go_wp2_with fail
            go_ret
            exact ⟨rfl, HB.out⟩
          · have d0 : decide (z < 0) = false := decide_eq_false (by omega)
            have hyes := Lib.hid (HK.out.2.2.2.2.2.2 (by trivial) hz)
            clear hz
            go_wp2_with fail
            refine (hasc_any cl c _ _ _ g _ HM.out.1 HM.out.2 H6.out.2.2.2).mono ?_
            rintro e w7 ⟨rfl, hb7⟩
            have H7 := Lib.hid (H6.out.on hb7)
            clear hb7 H6 
            rw [hyes.out]
            have HB := Lib.hid H7.out.1
            clear H7
            go_wp2_with fail
            go_ret
            exact ⟨rfl, HB.out⟩
        · have hne : (ce != 0) = true := by simpa using hc
          clear hc
          have HB := Lib.hid H5.out.1
          go_wp2_with fail
          go_ret
          exact ⟨rfl, HB.out⟩
      · have hyes := Lib.hid (HK.out.2.2.2.2.2.1 (by trivial) (by trivial))
        go_wp2_with fail
        refine (hasc_any sl c _ _ _ g _ HL.out.1 HL.out.2.1 H5.out.2.2.2).mono ?_
        rintro e w6 ⟨rfl, hb6⟩
        have H6 := Lib.hid (H5.out.on hb6)
        have HL := Lib.hid (And.intro (HL.out.1.on hb6) (And.intro HL.out.2.1 (And.intro (HL.out.2.2.1.on hb6) HL.out.2.2.2)))
        clear hb6 H5 
        rw [hyes.out]
        by_cases hc : ce = 0
        · subst hc
          obtain ⟨f6_1_0, f6_1_1, f6_1_2⟩ := H6.out.c1
          go_wp2_with fail
          with_reducible refine (HK.out.2.2.2.2.1 _ H6.out.1 (by trivial) (by trivial)).mono ?_
          rintro e w7 ⟨rfl, hb7⟩
          have H7 := Lib.hid (H6.out.on hb7)
          have HM := Lib.hid (And.intro (HL.out.2.2.1.on hb7) HL.out.2.2.2)
          clear hb7 H6 f6_1_0 f6_1_1 f6_1_2
          rcases hz with hz | hz
          · have d0 : decide (z < 0) = true := decide_eq_true hz
            have HB := Lib.hid H7.out.1
            go_wp2_with fail
            go_ret
            exact ⟨rfl, HB.out⟩
          · have d0 : decide (z < 0) = false := decide_eq_false (by omega)
            have hyes := Lib.hid (HK.out.2.2.2.2.2.2 (by trivial) hz)
            clear hz
            go_wp2_with fail
            refine (hasc_any cl c _ _ _ g _ HM.out.1 HM.out.2 H7.out.2.2.2).mono ?_
            rintro e w8 ⟨rfl, hb8⟩
            have H8 := Lib.hid (H7.out.on hb8)
            clear hb8 H7 
            rw [hyes.out]
            have HB := Lib.hid H8.out.1
            clear H8
            go_wp2_with fail
            go_ret
            exact ⟨rfl, HB.out⟩
        · have hne : (ce != 0) = true := by simpa using hc
          clear hc
          have HB := Lib.hid H6.out.1
          go_wp2_with fail
          go_ret
          exact ⟨rfl, HB.out⟩
    · have hne0 : (ue == 0) = false := by simpa using hu0
      clear hu0
      by_cases hc : ce = 0
      · subst hc
        obtain ⟨f4_1_0, f4_1_1, f4_1_2⟩ := H4.out.c1
        go_wp2_with fail
        with_reducible refine (HK.out.2.2.2.2.1 _ H4.out.1 (by trivial) (by trivial)).mono ?_
        rintro e w5 ⟨rfl, hb5⟩
        have H5 := Lib.hid (H4.out.on hb5)
        have HM := Lib.hid (And.intro (HL.out.2.2.1.on hb5) HL.out.2.2.2)
        clear hb5 H4 f4_1_0 f4_1_1 f4_1_2
        rcases hz with hz | hz
        · have d0 : decide (z < 0) = true := decide_eq_true hz
          have HB := Lib.hid H5.out.1
          go_wp2_with fail
          go_ret
          exact ⟨rfl, HB.out⟩
        · have d0 : decide (z < 0) = false := decide_eq_false (by omega)
          have hyes := Lib.hid (HK.out.2.2.2.2.2.2 (by trivial) hz)
          clear hz
          go_wp2_with fail
          refine (hasc_any cl c _ _ _ g _ HM.out.1 HM.out.2 H5.out.2.2.2).mono ?_
          rintro e w6 ⟨rfl, hb6⟩
          have H6 := Lib.hid (H5.out.on hb6)
          clear hb6 H5 
          rw [hyes.out]
          have HB := Lib.hid H6.out.1
          clear H6
          go_wp2_with fail
          go_ret
          exact ⟨rfl, HB.out⟩
      · have hne : (ce != 0) = true := by simpa using hc
        clear hc
        have HB := Lib.hid H4.out.1
        go_wp2_with fail
        go_ret
        exact ⟨rfl, HB.out⟩
end Go.Proofs.Ytcohioplkchojaa

/- merestonelaw03.RingSides: the walk. -/
import Derived.Test.YtcohioplkchojaaLaw03
import Derived.Test.YtcohioplkchojaaCheckR
namespace Go.Proofs.Ytcohioplkchojaa
open Go.RowKit
theorem side_cases (xs : List Pt) (p : Pt) : (checkI xs ≠ 0 ∧ sideV xs p = 0 ∧ sideE xs p = checkI xs) ∨ (checkI xs = 0 ∧ good p = false ∧ sideV xs p = 0 ∧ sideE xs p = 3) ∨ (checkI xs = 0 ∧ good p = true ∧ sideV xs p = sideI xs p ∧ sideE xs p = 0) := by
  by_cases h1 : checkI xs = 0
  · have e1 : sideV xs p = if good p = true then sideI xs p else 0 := by unfold sideV; rw [if_neg (fun h => h h1)]
    have e2 : sideE xs p = if good p = true then 0 else 3 := by unfold sideE; rw [if_neg (fun h => h h1)]
    rcases hg : good p with _ | _
    · exact .inr (.inl ⟨h1, rfl, by rw [e1, hg]; rfl, by rw [e2, hg]; rfl⟩)
    · exact .inr (.inr ⟨h1, rfl, by rw [e1, hg]; rfl, by rw [e2, hg]; rfl⟩)
  · exact .inl ⟨h1, by unfold sideV; rw [if_pos h1], by unfold sideE; rw [if_pos h1]⟩
/-- A point's two cells, and all older blocks. -/
abbrev HoldP (W V : World) (h : Nat) (x y : Int) : Prop := V.cell? ⟨h, 0, none⟩ = some (.int .i64 x) ∧ V.cell? ⟨h, 1, none⟩ = some (.int .i64 y) ∧ Below W.heap.size W V
theorem heldP {W V V' : World} {h : Nat} {x y : Int} (hh : h < W.heap.size) (hs : V.cell? ⟨h, 0, none⟩ = some (.int .i64 x) ∧ V.cell? ⟨h, 1, none⟩ = some (.int .i64 y) ∧ Below W.heap.size W V) (hb : Below V.heap.size V V') :
    V'.cell? ⟨h, 0, none⟩ = some (.int .i64 x) ∧ V'.cell? ⟨h, 1, none⟩ = some (.int .i64 y) ∧ Below W.heap.size W V' := by
  have := hs.2.2.size
  exact ⟨(hb.cell (p := ⟨h, 0, none⟩) (by simp only; omega)).trans hs.1, (hb.cell (p := ⟨h, 1, none⟩) (by simp only; omega)).trans hs.2.1, below_on hs.2.2 (Nat.le_refl _) hb⟩
set_option maxRecDepth 100000 in
set_option maxHeartbeats 1600000 in
theorem ringSides_any (xs : List Pt) (p : Pt) (A : Option Addr) (n cap : Nat) (w : World) (hr : Reads w w.heap.size 2 A n (ptsV xs)) (hn : n ≤ 8796093022208) (hx : ∀ p ∈ xs, p.inI) (hp : p.inI) :
    Calls Try.prog 4 #[.slice A n cap, ptV p] w fun e w' => e = .returned (.bool true) ∧ Below w.heap.size w w' := by
  have kO : ∀ V, Below w.heap.size w V → Calls Try.prog 16 #[.slice A n cap] V fun e V' => ∃ A' c, e = .returned (.slice A' n c) ∧ Reads V' V'.heap.size 2 A' n (ptsV xs) ∧ Below V.heap.size V V' := fun V hV =>
    (own03_any xs A n cap V ((hr.below hV).more hV.size) hn).mono fun e V' ⟨A', c, h1, h2, h3⟩ => ⟨A', c, h1, Reads.of_own h2, h3⟩
  have kS : ∀ V A' c, Reads V V.heap.size 2 A' n (ptsV xs) → Calls Try.prog 21 #[.slice A' n c, .agg #[.int .i64 p.x, .int .i64 p.y]] V fun e V' => e = .returned (.tuple #[.int .i64 (sideV xs p), .int .i64 (sideE xs p)]) ∧ Below V.heap.size V V' := fun V A' c h => sideW_any xs p A' n c V h (by omega) hx hp
  have kD : ∀ V, Below w.heap.size w V → Calls Try.prog 20 #[.slice A n cap] V fun e V' => e = .returned (.int .i64 (checkI xs)) ∧ Below V.heap.size V V' := fun V hV => checkR_any xs A n cap V ((hr.below hV).more hV.size) (by omega) hx
  have kR : ∀ V, Below w.heap.size w V → checkI xs = 0 → good p = true → Calls Try.prog 23 #[.slice A n cap, .agg #[.int .i64 p.x, .int .i64 p.y]] V fun e V' => e = .returned (.int .i64 (sideI xs p)) ∧ Below V.heap.size V V' := fun V hV h0 hg => by
    obtain ⟨h1, h2, -⟩ := checkI_zero h0
    exact sideR_any xs p A n cap V ((hr.below hV).more hV.size) (by have := hr.lenPt; omega) h2 hg
  have hc := side_cases xs p
  generalize sideV xs p = sv at *
  generalize sideE xs p = se at *
  generalize sideI xs p = si at *
  generalize checkI xs = ce at *
  generalize hgp : good p = gp at *
  have HK := Lib.hid (And.intro kO (And.intro kS (And.intro kD (And.intro kR (And.intro hc (And.intro hgp hp))))))
  clear kO kS kD kR hc hr hx hn hp hgp
  have hP := PtK.new w p
  have hB := (Below.refl w.heap.size w).alloc (Nat.le_refl _) (.cells #[.int .i64 p.x, .int .i64 p.y] 35)
  have hlt := Blk.lt hP
  have HB := Lib.hid (And.intro hB hP)
  clear hB hP
  unfold ptV
  go_enter Try.func4, Try.ntmps4
  go_wp2_with fail
  generalize w.alloc (.cells #[.int .i64 p.x, .int .i64 p.y] 35) = W at *
  have hBd := HB.out.1.drew
  have hP0 : W.drew.cell? ⟨w.heap.size, 0, none⟩ = some (.int .i64 p.x) ∧ W.drew.cell? ⟨w.heap.size, 1, none⟩ = some (.int .i64 p.y) ∧ Below W.heap.size W W.drew := ⟨HB.out.2.facts.1, HB.out.2.facts.2.1, (Below.refl _ _).drew⟩
  go_region_held3 (fun V => V.cell? ⟨w.heap.size, 0, none⟩ = some (.int .i64 p.x) ∧ V.cell? ⟨w.heap.size, 1, none⟩ = some (.int .i64 p.y) ∧ Below W.heap.size W V)
    (first | with_reducible exact hP0 | with_reducible exact heldP hlt (by assumption) (by assumption))
    (first
      | (go_simp; go_at_call 16; (with_reducible refine (HK.out.1 _ hBd).mono ?_); rintro e w' ⟨A1, c1, rfl, hr1, hb'⟩; try dsimp only)
      | (go_simp; go_at_call 21; (with_reducible refine (HK.out.2.1 _ _ _ (by assumption)).mono ?_); rintro e w' ⟨rfl, hb'⟩; try dsimp only))
  clear hP0 hBd
  obtain ⟨g1, g2, hbV⟩ := (by assumption : HoldP W _ w.heap.size p.x p.y)
  have H1 := Lib.hid (And.intro (below_on HB.out.1 (Nat.le_refl _) hbV) (HB.out.2.on hbV))
  clear hbV g1 g2 HB hlt
  go_wp2_with fail
  with_reducible refine (HK.out.2.2.1 _ H1.out.1).mono ?_
  rintro e w2 ⟨rfl, hb2⟩
  have H2 := Lib.hid (And.intro (below_on H1.out.1 (Nat.le_refl _) hb2) (H1.out.2.on hb2))
  clear hb2 H1
  go_wp2_with fail
  refine (ans03_any _).mono ?_
  rintro e w3 ⟨rfl, hb3⟩
  have H3 := Lib.hid (And.intro (below_on H2.out.1 (Nat.le_refl _) hb3) (H2.out.2.on hb3))
  clear hb3 H2
  rcases HK.out.2.2.2.2.1 with ⟨h1, h2, h3⟩ | ⟨h1, h2, h3, h4⟩ | ⟨h1, h2, h3, h4⟩
  · subst h2 h3
    have hne : (se != 0) = true := by simpa using h1
    clear h1
    go_wp2_with fail
    go_ret
    exact ⟨by simp, H3.out.1⟩
  · subst h1 h3 h4
    have HG := Lib.hid h2
    obtain ⟨p1, p2, -, -, -⟩ := H3.out.2.facts
    clear h2
    go_wp2_with fail
    refine (goodR_any [p] _ 1 1 _ (reads_onePt w3 p _ rfl) (by omega) (fun q hq => by simp at hq; subst hq; exact HK.out.2.2.2.2.2.2)).mono ?_
    rintro e w4 ⟨rfl, hb4⟩
    have hgl : goodL [p] = false := by simp [goodL, HK.out.2.2.2.2.2.1, HG.out]
    rw [hgl]
    have hB4 := below_on (H3.out.1.alloc H3.out.1.size (.cells #[.int .i64 p.x, .int .i64 p.y] 35)) (Nat.le_refl _) hb4
    clear hgl hb4 p1 p2 H3
    go_wp2_with fail
    go_ret
    exact ⟨rfl, hB4⟩
  · subst h1 h3 h4
    have HG := Lib.hid h2
    obtain ⟨p1, p2, -, -, -⟩ := H3.out.2.facts
    clear h2
    go_wp2_with fail
    refine (goodR_any [p] _ 1 1 _ (reads_onePt w3 p _ rfl) (by omega) (fun q hq => by simp at hq; subst hq; exact HK.out.2.2.2.2.2.2)).mono ?_
    rintro e w4 ⟨rfl, hb4⟩
    have hgl : goodL [p] = true := by simp [goodL, HK.out.2.2.2.2.2.1, HG.out]
    rw [hgl]
    have H4 := Lib.hid (below_on (H3.out.1.alloc H3.out.1.size (.cells #[.int .i64 p.x, .int .i64 p.y] 35)) (Nat.le_refl _) hb4)
    obtain ⟨q1, q2, -, -, -⟩ := ((H3.out.2.alloc (.cells #[.int .i64 p.x, .int .i64 p.y] 35)).on hb4).facts
    clear hgl hb4 p1 p2 H3
    go_wp2_with fail
    with_reducible refine (HK.out.2.2.2.1 _ H4.out (by trivial) HG.out).mono ?_
    rintro e w5 ⟨rfl, hb5⟩
    have hB5 := below_on H4.out (Nat.le_refl _) hb5
    clear hb5 q1 q2 H4
    go_wp2_with fail
    go_ret
    exact ⟨by simp, hB5⟩
end Go.Proofs.Ytcohioplkchojaa

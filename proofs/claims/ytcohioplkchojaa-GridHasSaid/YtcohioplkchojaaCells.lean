/- grid.Cells: the walk. -/
import Derived.Test.YtcohioplkchojaaAroundR
import Derived.Test.YtcohioplkchojaaSame
namespace Go.Proofs.Ytcohioplkchojaa
open Go.RowKit
theorem aroW_ok {xs : List Pt} (hg : goodL xs = true) (k : Nat) : good (aroW xs k).low = true ∧ good (aroW xs k).high = true ∧ (aroW xs k).lx ≤ (aroW xs k).hx ∧ (aroW xs k).ly ≤ (aroW xs k).hy := by
  induction k with
  | zero =>
    have h := ptAt_good hg 0
    exact ⟨h, h, Int.le_refl _, Int.le_refl _⟩
  | succ k ih =>
    have h := ptAt_good hg k
    obtain ⟨h1, h2, h3, h4⟩ := ih
    rw [good_iff] at h h1 h2 ⊢
    rw [good_iff]
    simp only [Win.low, Win.high] at h1 h2 ⊢
    show ((_ : Int) ≤ mn _ _ ∧ _) ∧ _
    simp only [aroW, mn, mx]
    refine ⟨?_, ?_, ?_, ?_⟩
    · refine ⟨?_, ?_, ?_, ?_⟩ <;> split <;> omega
    · refine ⟨?_, ?_, ?_, ?_⟩ <;> split <;> omega
    · split <;> split <;> omega
    · split <;> split <;> omega
theorem aroW_win {xs : List Pt} (hg : goodL xs = true) (k : Nat) : winE (aroW xs k) = 0 ∧ (aroW xs k).inI := by
  obtain ⟨h1, h2, h3, h4⟩ := aroW_ok hg k
  refine ⟨?_, good_in' h1, good_in' h2⟩
  unfold winE
  rw [if_pos (by simp [goodL, h1, h2]), if_neg (by omega)]
theorem ref_span2 {v : Win} (h : winE v = 0) : refW v 9 = spanC v := by
  obtain ⟨⟨g1, g2, g3⟩, g4, g5, g6⟩ := win_good h
  unfold refW spanC
  rw [if_pos h]
  unfold spanW nRow nCol
  exact spanF_eq _ _ _ _ (by omega) (by omega) (by omega) (by omega) (by omega) (by omega)
noncomputable def cellsL (xs : List Pt) : List Pt := if checkI xs = 0 then spanC (aroW xs xs.length) else []
set_option maxHeartbeats 800000 in
theorem cells_any (xs : List Pt) (A : Option Addr) (n cap : Nat) (w : World) (hr : Reads w w.heap.size 2 A n (ptsV xs)) (hn : n ≤ 9223372036854775807) (hx : ∀ p ∈ xs, p.inI) :
    Calls Try.prog 26 #[.slice A n cap] w fun e w' => ∃ A' c, e = .returned (.tuple #[.slice A' (cellsL xs).length c, .int .i64 (checkI xs)]) ∧ w'.ownsRow w.heap.size 54 2 (.slice A' (cellsL xs).length c) (cellsL xs).length (ptsV (cellsL xs)) ∧ Below w.heap.size w w' := by
  have hl : xs.length = n := hr.lenPt
  have kC := check_any xs A n cap w hr hn hx
  have hcl : cellsL xs = if checkI xs = 0 then spanC (aroW xs xs.length) else [] := rfl
  by_cases hE : checkI xs = 0
  · obtain ⟨h1, h2, h3, -⟩ := checkI_zero hE
    obtain ⟨hw1, hw2⟩ := aroW_win h2 xs.length
    rw [if_pos hE] at hcl
    rw [hE] at kC
    have kA : ∀ V, Below w.heap.size w V → Calls Try.prog 62 #[.slice A n cap] V fun e V' => e = .returned (winV (aroW xs xs.length)) ∧ Below V.heap.size V V' := fun V hV => by
      rw [hl]
      exact around_any xs A n cap V ((hr.below hV).more hV.size) (by omega) (by omega)
    have kS := fun V => span_any (aroW xs xs.length) V hw2
    rw [hcl, hE]
    unfold winV at kA kS
    unfold SpanPost at kS
    rw [hw1] at kS
    generalize spanC (aroW xs xs.length) = cs at *
    generalize aroW xs xs.length = v at *
    have HK := Lib.hid (And.intro kC (And.intro kA kS))
    clear kC kA kS hw1 hw2 h1 h2 h3 hE hcl hx hr hn hl
    go_enter Try.func26, Try.ntmps26
    go_wp2_with fail
    with_reducible refine HK.out.1.mono ?_
    rintro e w1 ⟨rfl, hb1⟩
    have H1 := Lib.hid hb1
    clear hb1
    go_wp2_with fail
    with_reducible refine (HK.out.2.1 _ H1.out).mono ?_
    rintro e w2 ⟨rfl, hb2⟩
    have H2 := Lib.hid (below_on H1.out (Nat.le_refl _) hb2)
    clear hb2 H1
    go_wp2_with fail
    with_reducible refine (HK.out.2.2 _).mono ?_
    rintro e w3 ⟨A3, c3, rfl, ho3, hb3⟩
    have H3 := Lib.hid (And.intro (own_mono ho3 H2.out.size) (below_on H2.out (Nat.le_refl _) hb3))
    clear hb3 ho3 H2
    go_wp2_with fail
    exact bodyPost_ret (v := .tuple #[.slice A3 cs.length c3, .int .i64 0]) (by simp [results, Try.results26, go_sem]) rfl ⟨A3, c3, rfl, H3.out⟩
  · rw [if_neg hE] at hcl
    rw [hcl]
    have hne : (checkI xs != 0) = true := by simpa using hE
    generalize checkI xs = ce at *
    have HK := Lib.hid kC
    clear kC hE hcl hx hr hn hl
    go_enter Try.func26, Try.ntmps26
    go_wp2_with fail
    with_reducible refine HK.out.mono ?_
    rintro e w1 ⟨rfl, hb1⟩
    clear HK
    go_wp2_with fail
    exact bodyPost_ret (v := .tuple #[.slice none 0 0, .int .i64 ce]) (by simp [results, Try.results26, go_sem]) rfl ⟨none, 0, rfl, World.ownsRow_nil _ _ _ _, hb1⟩
end Go.Proofs.Ytcohioplkchojaa

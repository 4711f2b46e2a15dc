/- merestonelaw09.GridCells: the walk. -/
import Derived.Test.YtcohioplkchojaaCells
import Derived.Test.YtcohioplkchojaaCheckR
import Derived.Test.YtcohioplkchojaaCollect
import Derived.Test.YtcohioplkchojaaAns09
namespace Go.Proofs.Ytcohioplkchojaa
open Go.RowKit
set_option maxRecDepth 100000 in
set_option maxHeartbeats 1600000 in
theorem gridCells_any (xs : List Pt) (A : Option Addr) (n cap : Nat) (w : World) (hr : Reads w w.heap.size 2 A n (ptsV xs)) (hn : n ≤ 8796093022208) (hx : ∀ p ∈ xs, p.inI) :
    Calls Try.prog 7 #[.slice A n cap] w fun e w' => e = .returned (.bool true) ∧ Below w.heap.size w w' := by
  obtain ⟨i0, hi0, hz0, hz1, hz2⟩ := info_parts info_pt
  have hl : xs.length = n := hr.lenPt
  have kD : ∀ V, Below w.heap.size w V → Calls Try.prog 20 #[.slice A n cap] V fun e V' => e = .returned (.int .i64 (checkI xs)) ∧ Below V.heap.size V V' := fun V hV => checkR_any xs A n cap V ((hr.below hV).more hV.size) (by omega) hx
  have kC : ∀ V A' c, Reads V V.heap.size 2 A' n (ptsV xs) → Calls Try.prog 26 #[.slice A' n c] V fun e V' => ∃ A'' c', e = .returned (.tuple #[.slice A'' (cellsL xs).length c', .int .i64 (checkI xs)]) ∧ Reads V' V'.heap.size 2 A'' (cellsL xs).length (ptsV (cellsL xs)) ∧ (cellsL xs).length ≤ 9223372036854775807 ∧ Below V.heap.size V V' := fun V A' c h =>
    (cells_any xs A' n c V h (by omega) hx).mono fun e V' ⟨A'', c', h1, h2, h3⟩ => ⟨A'', c', h1, Reads.of_own h2, by have := own_cap h2; omega, h3⟩
  have kR : ∀ V, Below w.heap.size w V → checkI xs = 0 → Calls Try.prog 30 #[.slice A n cap] V fun e V' => e = .returned (winV (aroW xs xs.length)) ∧ Below V.heap.size V V' := fun V hV h0 => by
    obtain ⟨h1, h2, h3, -⟩ := checkI_zero h0
    have ha : aroV xs n = aroW xs xs.length := by unfold aroV; rw [if_neg (by omega), hl]
    have := aroundR_any xs A n cap V ((hr.below hV).more hV.size) (by omega)
    rw [ha] at this
    exact this
  have kS : ∀ V, checkI xs = 0 → Calls Try.prog 29 #[winV (aroW xs xs.length)] V fun e V' => ∃ A'' c', e = .returned (.slice A'' (cellsL xs).length c') ∧ Reads V' V'.heap.size 2 A'' (cellsL xs).length (ptsV (cellsL xs)) ∧ Below V.heap.size V V' := fun V h0 => by
    obtain ⟨h1, h2, h3, -⟩ := checkI_zero h0
    obtain ⟨hw1, hw2⟩ := aroW_win h2 xs.length
    have hc : cellsL xs = refW (aroW xs xs.length) 9 := by unfold cellsL; rw [if_pos h0, ref_span2 hw1]
    rw [hc]
    exact (refSpan_any (aroW xs xs.length) V hw2).mono fun e V' ⟨A'', c', h1, h2, h3⟩ => ⟨A'', c', h1, Reads.of_own h2, h3⟩
  have hnil : checkI xs ≠ 0 → cellsL xs = [] := fun h => by unfold cellsL; rw [if_neg h]
  have hb1 := (Below.refl w.heap.size w).alloc (Nat.le_refl _) (.cells #[] 35)
  have hown1 : (w.alloc (.cells #[] 35)).ownsRow w.heap.size 35 2 (.slice (some ⟨w.heap.size, 0, none⟩) 0 0) 0 [] :=
    ⟨by simp, .inr ⟨w.heap.size, 0, #[], rfl, Nat.le_refl _, Blk.new w _ _, Nat.le_refl _, by simp [maxLen], by simp, by simp⟩⟩
  have hrd := hr.below hb1
  unfold winV at kR kS
  generalize cellsL xs = cl at *
  generalize aroW xs xs.length = v at *
  generalize checkI xs = ce at *
  have HK := Lib.hid (And.intro kD (And.intro kC (And.intro kR (And.intro kS hnil))))
  clear kD kC kR kS hnil hr hx hl
  go_enter Try.func7, Try.ntmps7
  go_wp2_with (at_builtin; refine wpList_append_any _ rfl (.tmp 7) (.tmp 8) _ rfl w.heap.size 35 i0 _ 2 16 Try.underlying23 hi0 hz0 hz1 hz2 rfl (by omega) (.slice (some ⟨w.heap.size, 0, none⟩) 0 0) 0 [] rfl hown1 w.heap.size A n cap (ptsV xs) rfl hrd (ptsV_one xs) (by simp only [maxLen]; omega) (by omega) (by simp) ?_
               intro v2 w2 hown2 hg2 hat2)
  rw [Nat.zero_add, List.nil_append] at hown2
  have hb2 : Below w.heap.size w w2 := hb1.grown hg2 hb1.size (by intro k hk; simp [Value.ownBlock] at hk; omega)
  obtain ⟨A2, c2, rfl⟩ := own_form hown2
  have H2 := Lib.hid (And.intro hb2 (Reads.of_own hown2))
  clear hb2 hown2 hg2 hat2 hrd hown1 hb1
  go_wp2_with fail
  with_reducible refine (HK.out.2.1 _ _ _ H2.out.2).mono ?_
  rintro e w3 ⟨A3, c3, rfl, hr3, hc3, hb3⟩
  have H3 := Lib.hid (And.intro (below_on H2.out.1 (Nat.le_refl _) hb3) (And.intro hr3 hc3))
  clear hb3 hr3 hc3 H2
  go_wp2_with fail
  with_reducible refine (HK.out.1 _ H3.out.1).mono ?_
  rintro e w4 ⟨rfl, hb4⟩
  have H4 := Lib.hid (And.intro (below_on H3.out.1 (Nat.le_refl _) hb4) (And.intro (H3.out.2.1.on hb4) H3.out.2.2))
  clear hb4 H3
  by_cases hE : ce = 0
  · subst hE
    go_wp2_with fail
    refine (ans09_any _).mono ?_
    rintro e w5 ⟨rfl, hb5⟩
    have H5 := Lib.hid (And.intro (below_on H4.out.1 (Nat.le_refl _) hb5) (And.intro (H4.out.2.1.on hb5) H4.out.2.2))
    clear hb5 H4
    go_wp2_with fail
    with_reducible refine (HK.out.2.2.1 _ H5.out.1 (by trivial)).mono ?_
    rintro e w6 ⟨rfl, hb6⟩
    have H6 := Lib.hid (And.intro (below_on H5.out.1 (Nat.le_refl _) hb6) (And.intro (H5.out.2.1.on hb6) H5.out.2.2))
    clear hb6 H5
    go_wp2_with fail
    with_reducible refine (HK.out.2.2.2.1 _ (by trivial)).mono ?_
    rintro e w7 ⟨A7, c7, rfl, hr7, hb7⟩
    have H7 := Lib.hid (And.intro (below_on H6.out.1 (Nat.le_refl _) hb7) (And.intro (H6.out.2.1.on hb7) (And.intro hr7 H6.out.2.2)))
    clear hb7 hr7 H6
    go_wp2_with fail
    refine (same_any cl cl _ _ _ _ _ _ _ H7.out.2.1 H7.out.2.2.1 H7.out.2.2.2 H7.out.2.2.2).mono ?_
    rintro e w8 ⟨rfl, hb8⟩
    have hd : decide (cl = cl) = true := by simp
    rw [hd]
    have hB8 := below_on H7.out.1 (Nat.le_refl _) hb8
    clear hb8 hd H7
    go_wp2_with fail
    go_ret
    exact ⟨rfl, hB8⟩
  · have hne : (ce != 0) = true := by simpa using hE
    have hself : (ce == ce) = true := by simp
    have hl0 : cl.length = 0 := by rw [HK.out.2.2.2.2 hE]; rfl
    clear hE
    rw [hl0]
    have HB4 := Lib.hid H4.out.1
    clear H4 hl0
    go_wp2_with fail
    refine (ans09_any _).mono ?_
    rintro e w5 ⟨rfl, hb5⟩
    have hB5 := below_on HB4.out (Nat.le_refl _) hb5
    clear hb5 HB4
    go_wp2_with fail
    go_ret
    exact ⟨rfl, hB5⟩
end Go.Proofs.Ytcohioplkchojaa

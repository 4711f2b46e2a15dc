/- merestonelaw05.PlanTiles: the walk. -/
import Derived.Test.YtglnklfhgdjccaaGreatPlanCovers0
import Derived.Test.YtglnklfhgdjccaaGreatTiles
namespace Go.Proofs.YtglnklfhgdjccaaGreat
open Go.RowKit Go.Lib
set_option maxRecDepth 100000 in
set_option maxHeartbeats 3200000 in
theorem planTiles_any (p : Plan) (q : Pt) (m : Int) (A A' : Option Addr) (n c n' c' : Nat) (w : World) (h : PlanAt w w.heap.size A n c A' n' c' p) :
    Calls Tryz.prog 11 #[planV A n c A' n' c', .int .i64 q.x, .int .i64 q.y, .int .i64 m] w fun e w' => e = .returned (.bool true) ∧ Below w.heap.size w w' := by
  have hn : n ≤ 8796093022208 := h.lens.2.2.1
  have HL := Lib.hid h.lens.2.1
  have HP := Lib.hid (fun V (hV : Below w.heap.size w V) => h.on hV)
  have H0 := Lib.hid (And.intro ((Below.refl w.heap.size w).alloc (Nat.le_refl _) (.cells #[.slice A n c, .slice A' n' c'] 26)) (PlK.new w A n c A' n' c'))
  clear h
  go_enter Tryz.func11, Tryz.ntmps11
  go_wp2_with fail
  refine (ans05_any _).mono ?_
  rintro e w1 ⟨rfl, hb⟩
  have H1 := Lib.hid (And.intro (below_on H0.out.1 (Nat.le_refl _) hb) (H0.out.2.on hb))
  clear hb H0
  obtain ⟨q1, q2, -⟩ := H1.out.2.facts
  go_wp2_with fail
  refine (small_any p A A' n c n' c' w1 (HP.out w1 H1.out.1)).mono ?_
  rintro e w2 hS
  obtain ⟨b, rfl, hsm, hb⟩ := hS
  have H2 := Lib.hid (And.intro (below_on H1.out.1 (Nat.le_refl _) hb) (H1.out.2.on hb))
  clear hb H1 q1 q2
  obtain ⟨q1, q2, -⟩ := H2.out.2.facts
  rcases b with _ | _
  · clear hsm
    go_wp2_with fail
    refine (ans05_any _).mono ?_
    rintro e w3 ⟨rfl, hb⟩
    have hB := below_on H2.out.1 (Nat.le_refl _) hb
    clear hb H2 q1 q2
    go_wp2_with fail
    go_ret
    exact ⟨rfl, hB⟩
  have hn80 := (hsm rfl).1
  clear hsm
  have HN := Lib.hid hn80
  clear hn80
  go_wp2_with fail
  refine (ownPl_any p A A' n c n' c' w2 (HP.out w2 H2.out.1) (by have := HN.out; omega)).mono ?_
  rintro e w3 ⟨A3, n3, c3, A4, n4, c4, rfl, hP3, hb⟩
  have kC := Lib.hid (coverPl_any p q m A3 A4 n3 c3 n4 c4 w3 hP3)
  have H3 := Lib.hid (And.intro (below_on H2.out.1 (Nat.le_refl _) hb) (H2.out.2.on hb))
  clear hb H2 q1 q2 hP3
  go_wp2_with fail
  refine kC.out.mono ?_
  rintro e w4 ⟨A5, n5, c5, A6, n6, c6, rfl, hT, hb⟩
  have H4 := Lib.hid (And.intro (below_on H3.out.1 (Nat.le_refl _) hb) (H3.out.2.on hb))
  have hR1 := Reads.of_own hT.one
  have hR2 := Reads.of_own hT.two
  have hl5 := hR1.lenI
  have hl6 := hR2.lenI
  obtain ⟨ce, hce⟩ : ∃ ce, ce = covE p q m := ⟨_, rfl⟩
  rw [← hce]
  have HE := Lib.hid hce
  have HN5 := Lib.hid (And.intro hl5 hl6)
  clear hb H3 kC hT hR1 hR2 hl5 hl6 hce
  obtain ⟨q1, q2, -⟩ := H4.out.2.facts
  by_cases h0 : ce = 0
  · subst h0
    have hz := covE_zero HE.out.symm
    have hl := tiles_law hz.1 hz.2.1 hz.2.2.1 (q := q) (by unfold BB; omega)
    rw [← covL_ok HE.out.symm 1, ← covL_ok HE.out.symm 0, HN5.out.1, HN5.out.2] at hl
    have hck := checkI_zero hz.1.2.1.1
    have kI := fun V (hV : Below w.heap.size w V) => coverR_any p.outer q m A n c V (HP.out V hV).outer (by have := (HP.out V hV).outer.lenPt; omega) hck.2.1 hz.2.1 hz.2.2.1 hz.2.2.2
    have hpb : planB p = true := planB_ok hz.1
    obtain ⟨s, hsd⟩ : ∃ s, s = sideI (scL m p.outer) q := ⟨_, rfl⟩
    rw [← hsd] at hl kI
    have KI := Lib.hid kI
    have HLW := Lib.hid hl
    have kP := fun V (hV : Below w.heap.size w V) => checkPR_any p A A' n c n' c' V (HP.out V hV)
    rw [hpb] at kP
    have KP := Lib.hid kP
    clear hz hl hck kI hpb hsd kP
    go_wp2_with fail
    refine (KP.out w4 H4.out.1).mono ?_
    rintro e w5 ⟨rfl, hb⟩
    have H5 := Lib.hid (And.intro (below_on H4.out.1 (Nat.le_refl _) hb) (H4.out.2.on hb))
    clear hb H4 q1 q2
    obtain ⟨q1, q2, -⟩ := H5.out.2.facts
    go_wp2_with fail
    refine (KI.out w5 H5.out.1).mono ?_
    rintro e w6 ⟨rfl, hb⟩
    have H6 := Lib.hid (below_on H5.out.1 (Nat.le_refl _) hb)
    clear hb H5 q1 q2 KI KP
    by_cases e1 : s = 1
    · have b1 : (s == 1) = true := by simp [e1]
      have hh := HLW.out.1 e1
      clear e1
      rcases hh with ⟨g1, g2⟩ | ⟨g1, g2⟩
      · have c1 : ((n5 : Int) == 1) = true := by simp [g1]
        have c2 : ((n6 : Int) == 0) = true := by simp [g2]
        clear g1 g2
        go_wp2_with fail
        go_ret
        exact ⟨by first | rfl | simp, H6.out⟩
      · have c1 : ((n5 : Int) == 1) = false := by simp [g1]
        have c2 : ((n5 : Int) == 0) = true := by simp [g1]
        have c3 : (2 : Int) ≤ (n6 : Int) := by omega
        clear g1 g2
        go_wp2_with fail
        go_ret
        exact ⟨by first | rfl | simp, H6.out⟩
    · have b1 : (s == 1) = false := by simp [e1]
      by_cases e0 : s = 0
      · have b0 : (s == 0) = true := by simp [e0]
        have hh := HLW.out.2.1 e0
        have c2 : ((n5 : Int) == 0) = true := by simp [hh.1]
        have c3 : (1 : Int) ≤ (n6 : Int) := by omega
        clear e1 e0 hh
        go_wp2_with fail
        go_ret
        exact ⟨by first | rfl | simp, H6.out⟩
      · have b0 : (s == 0) = false := by simp [e0]
        have hh := HLW.out.2.2 e1 e0
        have c2 : ((n5 : Int) == 0) = true := by simp [hh.1]
        have c3 : ((n6 : Int) == 0) = true := by simp [hh.2]
        clear e1 e0 hh
        go_wp2_with fail
        go_ret
        exact ⟨by first | rfl | simp, H6.out⟩
  · have b0 : (ce == 0) = false := by simp [h0]
    have hl := HN5.out
    rw [covL_no (fun k => h0 (HE.out.trans k)) 1, covL_no (fun k => h0 (HE.out.trans k)) 0] at hl
    have c1 : ((n5 : Int) == 0) = true := by simp [← hl.1]
    have c2 : ((n6 : Int) == 0) = true := by simp [← hl.2]
    clear hl q1 q2
    go_wp2_with fail
    go_ret
    exact ⟨by first | rfl | simp, H4.out.1⟩
end Go.Proofs.YtglnklfhgdjccaaGreat

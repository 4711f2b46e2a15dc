/- merestonelaw05.PlanChecks: the walk. -/
import Derived.Test.YtglnklfhgdjccaaGreatPlanCheck
import Derived.Test.YtglnklfhgdjccaaGreatCheckPR
import Derived.Test.YtglnklfhgdjccaaGreatOwned
namespace Go.Proofs.YtglnklfhgdjccaaGreat
open Go.RowKit
theorem planE_b (p : Plan) : (planB p = true ∧ planE p = 0) ∨ (planB p = false ∧ planE p = 2) := by
  by_cases h : SoundP p
  · exact .inl ⟨planB_ok h, planE_ok h⟩
  · exact .inr ⟨planB_no h, planE_no h⟩
set_option maxHeartbeats 1600000 in
theorem planChecks_any (p : Plan) (A A' : Option Addr) (n c n' c' : Nat) (w : World) (h : PlanAt w w.heap.size A n c A' n' c' p) :
    Calls Tryz.prog 3 #[planV A n c A' n' c'] w fun e w' => e = .returned (.bool true) ∧ Below w.heap.size w w' := by
  have HP := Lib.hid (fun V (hV : Below w.heap.size w V) => h.on hV)
  have H0 := Lib.hid (And.intro ((Below.refl w.heap.size w).alloc (Nat.le_refl _) (.cells #[.slice A n c, .slice A' n' c'] 26)) (PlK.new w A n c A' n' c'))
  clear h
  go_enter Tryz.func3, Tryz.ntmps3
  go_wp2_with fail
  refine (ans05_any _).mono ?_
  rintro e w1 ⟨rfl, hb⟩
  have H1 := Lib.hid (And.intro (below_on H0.out.1 (Nat.le_refl _) hb) (H0.out.2.on hb))
  clear hb H0
  obtain ⟨q1, q2, -⟩ := H1.out.2.facts
  go_wp2_with fail
  refine (small_any p A A' n c n' c' w1 (HP.out w1 H1.out.1)).mono ?_
  rintro e w2 hS
  obtain ⟨b, rfl, hsm, hb⟩ := hS
  have H2 := Lib.hid (And.intro (below_on H1.out.1 (Nat.le_refl _) hb) (H1.out.2.on hb))
  clear hb H1 q1 q2
  obtain ⟨q1, q2, -⟩ := H2.out.2.facts
  rcases b with _ | _
  · clear hsm
    go_wp2_with fail
    refine (ans05_any _).mono ?_
    rintro e w3 ⟨rfl, hb⟩
    have hB := below_on H2.out.1 (Nat.le_refl _) hb
    clear hb H2 q1 q2
    go_wp2_with fail
    go_ret
    exact ⟨rfl, hB⟩
  have hn80 := (hsm rfl).1
  clear hsm
  have HN := Lib.hid hn80
  clear hn80
  go_wp2_with fail
  refine (ownPl_any p A A' n c n' c' w2 (HP.out w2 H2.out.1) (by have := HN.out; omega)).mono ?_
  rintro e w3 ⟨A3, n3, c3, A4, n4, c4, rfl, hP3, hb⟩
  have kC := Lib.hid (checkPl_any p A3 A4 n3 c3 n4 c4 w3 hP3)
  have H3 := Lib.hid (And.intro (below_on H2.out.1 (Nat.le_refl _) hb) (H2.out.2.on hb))
  clear hb H2 q1 q2 hP3
  go_wp2_with fail
  refine kC.out.mono ?_
  rintro e w4 ⟨rfl, hb⟩
  have H4 := Lib.hid (And.intro (below_on H3.out.1 (Nat.le_refl _) hb) (H3.out.2.on hb))
  clear hb H3 kC
  obtain ⟨q1, q2, -⟩ := H4.out.2.facts
  have KR := Lib.hid (fun V (hV : Below w.heap.size w V) => checkPR_any p A A' n c n' c' V (HP.out V hV))
  rcases planE_b p with ⟨g1, g2⟩ | ⟨g1, g2⟩
  · rw [g1] at KR
    rw [g2]
    clear g1 g2
    go_wp2_with fail
    refine (KR.out w4 H4.out.1).mono ?_
    rintro e w5 ⟨rfl, hb⟩
    have H5 := Lib.hid (below_on H4.out.1 (Nat.le_refl _) hb)
    clear hb H4
    go_wp2_with fail
    go_ret
    exact ⟨rfl, H5.out⟩
  · rw [g1] at KR
    rw [g2]
    clear g1 g2
    go_wp2_with fail
    refine (KR.out w4 H4.out.1).mono ?_
    rintro e w5 ⟨rfl, hb⟩
    have H5 := Lib.hid (And.intro (below_on H4.out.1 (Nat.le_refl _) hb) (H4.out.2.on hb))
    clear hb H4 q1 q2
    obtain ⟨q1, q2, -⟩ := H5.out.2.facts
    go_wp2_with fail
    refine (KR.out w5 H5.out.1).mono ?_
    rintro e w6 ⟨rfl, hb⟩
    have H6 := Lib.hid (below_on H5.out.1 (Nat.le_refl _) hb)
    clear hb H5
    go_wp2_with fail
    go_ret
    exact ⟨rfl, H6.out⟩
end Go.Proofs.YtglnklfhgdjccaaGreat

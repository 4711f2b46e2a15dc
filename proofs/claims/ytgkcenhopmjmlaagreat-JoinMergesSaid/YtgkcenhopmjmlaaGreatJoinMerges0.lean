/- merestonelaw07.JoinMerges: the walk. -/
import Derived.Test.YtgkcenhopmjmlaaGreatAns07
import Derived.Test.YtgkcenhopmjmlaaGreatMergeR
import Derived.Test.YtgkcenhopmjmlaaGreatSamePc
namespace Go.Proofs.YtgkcenhopmjmlaaGreat
open Go.RowKit Go.Lib
def JmF (p : Plan) (A : Option Addr) (n c : Nat) (A' : Option Addr) (n' c' : Nat) (w W : World) : Prop := Below w.heap.size w W ∧ PlK W w.heap.size A n c A' n' c' ∧ PlanAt W W.heap.size A n c A' n' c' p
theorem JmF.on {p : Plan} {A A' : Option Addr} {n c n' c' : Nat} {w W W' : World} (h : JmF p A n c A' n' c' w W) (hb : Below W.heap.size W W') : JmF p A n c A' n' c' w W' := ⟨below_on h.1 (Nat.le_refl _) hb, h.2.1.on hb, h.2.2.on hb⟩
theorem JmF.new {p : Plan} {A A' : Option Addr} {n c n' c' : Nat} {w : World} (h : PlanAt w w.heap.size A n c A' n' c' p) : JmF p A n c A' n' c' w (w.alloc (.cells #[.slice A n c, .slice A' n' c'] 26)) := by
  have hB0 : Below w.heap.size w (w.alloc (.cells #[.slice A n c, .slice A' n' c'] 26)) := (Below.refl _ _).alloc (Nat.le_refl _) _
  exact ⟨hB0, PlK.new w A n c A' n' c', h.on hB0⟩
set_option maxRecDepth 100000 in
set_option maxHeartbeats 1600000 in
theorem joinMerges_any (p : Plan) (a b : Int) (A A' : Option Addr) (n c n' c' : Nat) (w : World) (h : PlanAt w w.heap.size A n c A' n' c' p) :
    Calls Tryz.prog 3 #[planV A n c A' n' c', .int .i64 a, .int .i64 b] w fun e w' => e = .returned (.bool true) ∧ Below w.heap.size w w' := by
  obtain ⟨wa, hwa⟩ : ∃ wa : World, wa = w.alloc (.cells #[.slice A n c, .slice A' n' c'] 26) := ⟨_, rfl⟩
  have hF : JmF p A n c A' n' c' w wa := by rw [hwa]; exact JmF.new h
  have H0 := Lib.hid hF
  clear hF h
  go_enter Tryz.func3, Tryz.ntmps3
  go_upto_region 1 with fail
  rw [← hwa]
  clear hwa
  go_wp2_with (go_at_call 14; (with_reducible refine (ans07_any _).mono ?_); rintro e w1 ⟨rfl, hb1⟩; have H1 := Lib.hid (H0.out.on hb1); obtain ⟨q1, q2, q3⟩ := H1.out.2.1.facts; clear hb1 H0)
  refine (few7_any p A A' n c n' c' w1 H1.out.2.2).mono ?_
  rintro e w2 ⟨fb, rfl, hsm, hb2⟩
  have H2 := Lib.hid (H1.out.on hb2)
  clear hb2 q1 q2 q3 H1
  rcases fb with _ | _
  · clear hsm
    go_wp2_with fail
    refine (ans07_any _).mono ?_
    rintro e w3 ⟨rfl, hb3⟩
    have HB := Lib.hid (below_on H2.out.1 (Nat.le_refl _) hb3)
    clear hb3 H2
    go_wp2_with fail
    go_ret
    exact ⟨rfl, HB.out⟩
  have hn' : n' ≤ 1048576 := by have := (hsm rfl).1; omega
  clear hsm
  have KO := Lib.hid (ownPl_any p A A' n c n' c' w2 H2.out.2.2 hn')
  obtain ⟨z, hz⟩ : ∃ z, z = joinE p a b := ⟨_, rfl⟩
  obtain ⟨R, hR⟩ : ∃ R, R = joinP p a b := ⟨_, rfl⟩
  have HZ := Lib.hid (And.intro hz hR)
  clear hz hR hn'
  obtain ⟨q1, q2, q3⟩ := H2.out.2.1.facts
  go_wp2_with fail
  refine KO.out.mono ?_
  rintro e w3 ⟨A1, n1, c1, A2, n2, c2, rfl, hP3, hb3⟩
  have kM := mergeP_any p a b A1 A2 n1 c1 n2 c2 w3 hP3
  rw [← HZ.out.1, ← HZ.out.2] at kM
  have KM := Lib.hid kM
  have H3 := Lib.hid (H2.out.on hb3)
  clear hP3 hb3 kM KO H2 q1 q2 q3
  go_wp2_with fail
  refine KM.out.mono ?_
  rintro e w4 ⟨A3, n3, c3, A4, n4, c4, hs, rfl, hpo, hb4⟩
  have hba : Below w4.heap.size w4 (w4.alloc (.cells #[.slice A3 n3 c3, .slice A4 n4 c4] 26)) := (Below.refl _ _).alloc (Nat.le_refl _) _
  have hK := PlK.new w4 A3 n3 c3 A4 n4 c4
  have H5 := Lib.hid (And.intro ((H3.out.on hb4).on hba) (And.intro hK (hpo.below hba).at_))
  obtain ⟨w5, hw5⟩ : ∃ w5, w5 = w4.alloc (.cells #[.slice A3 n3 c3, .slice A4 n4 c4] 26) := ⟨_, rfl⟩
  obtain ⟨B5, hB5⟩ : ∃ B, B = w4.heap.size := ⟨_, rfl⟩
  rw [← hw5, ← hB5] at H5
  clear hba hK hpo hb4 KM H3
  go_upto_region 4 with fail
  rw [← hw5, ← hB5]
  clear hw5 hB5
  have kR := mergeR_any p a b A A' n c n' c' w5 H5.out.1.2.2
  rw [← HZ.out.1, ← HZ.out.2] at kR
  have KR := Lib.hid kR
  obtain ⟨q1, q2, q3⟩ := H5.out.1.2.1.facts
  clear kR
  go_wp2_with fail
  refine KR.out.mono ?_
  rintro e w7 ⟨A7, n7, c7, A8, n8, c8, rfl, hP7, hb7⟩
  have hba : Below w7.heap.size w7 (w7.alloc (.cells #[.slice A7 n7 c7, .slice A8 n8 c8] 26)) := (Below.refl _ _).alloc (Nat.le_refl _) _
  have hK7 := PlK.new w7 A7 n7 c7 A8 n8 c8
  have H7 := Lib.hid (And.intro ((H5.out.1.on hb7).on hba) (And.intro ((H5.out.2.1.on hb7).on hba) (And.intro ((H5.out.2.2.on hb7).on hba) (And.intro hK7 (hP7.on hba)))))
  obtain ⟨x1, x2, -⟩ := H7.out.2.1.facts
  obtain ⟨y1, y2, -⟩ := H7.out.2.2.2.1.facts
  have kS := samePl_any R R A3 A4 A7 A8 n3 c3 n4 c4 n7 c7 n8 c8 _ H7.out.2.2.1 H7.out.2.2.2.2
  rw [plEq_self] at kS
  have KS := Lib.hid kS
  clear hba hK7 hP7 hb7 kS H5 KR q1 q2 q3
  go_wp2_with fail
  refine KS.out.mono ?_
  rintro e w8 ⟨rfl, hb8⟩
  have HB := Lib.hid (below_on H7.out.1.1 (Nat.le_refl _) hb8)
  clear hb8 H7 KS x1 x2 y1 y2
  go_wp2_with fail
  go_ret
  exact ⟨by first | rfl | simp, HB.out⟩
end Go.Proofs.YtgkcenhopmjmlaaGreat

/- ref05.done and ref05.Mark: the walks. -/
import Derived.Test.YtgkcenhopmjmlaaGreatLeastPl
import Derived.Test.YtgkcenhopmjmlaaGreatCheckPR
namespace Go.Proofs.YtgkcenhopmjmlaaGreat
open Go.RowKit Go.Lib
noncomputable def doneP (q : Plan) : Plan := if planB q = true then q else ⟨[], []⟩
noncomputable def doneE (q : Plan) : Int := if planB q = true then 0 else 8
set_option maxRecDepth 100000 in
set_option maxHeartbeats 1600000 in
theorem refDone_any (p : Plan) (A A' : Option Addr) (n c n' c' : Nat) (w : World) (h : PlanAt w w.heap.size A n c A' n' c' p) (hn : n' ≤ 1048576) (hg : ∀ xs, ringOf p xs → xs.length ≤ 1048576) :
    Calls Tryz.prog 53 #[planV A n c A' n' c'] w (ResPostS (doneP (mapG lst p)) (doneE (mapG lst p)) w) := by
  obtain ⟨wa, hwa⟩ : ∃ wa : World, wa = (w.alloc (.cells #[.slice A n c, .slice A' n' c'] 26)).alloc (.cells #[.slice none 0 0, .slice none 0 0] 26) := ⟨_, rfl⟩
  have hB0 : Below w.heap.size w wa := by rw [hwa]; exact ((Below.refl _ _).alloc (Nat.le_refl _) _).alloc (by simp) _
  have hX : PlK wa w.heap.size A n c A' n' c' := by rw [hwa]; exact Blk.alloc (PlK.new w A n c A' n' c') _
  have hZ : PlK wa (w.heap.size + 1) none 0 0 none 0 0 := by
    have := PlK.new (w.alloc (.cells #[.slice A n c, .slice A' n' c'] 26)) none 0 0 none 0 0
    rw [World.size_alloc] at this
    rw [hwa]
    exact this
  have KL := Lib.hid (refLeast_any p A A' n c n' c' wa (h.on hB0) hn hg)
  obtain ⟨q1, q2, q3⟩ := hX.facts
  have H0 := Lib.hid (And.intro hB0 hZ)
  obtain ⟨P, hP⟩ : ∃ P, P = mapG lst p := ⟨_, rfl⟩
  rw [← hP] at KL
  rw [← hP]
  clear hB0 hX hZ h hn hg hP
  go_enter Tryz.func53, Tryz.ntmps53
  go_upto_region 1 with fail
  rw [← hwa]
  clear hwa
  go_wp2_with fail
  refine KL.out.mono ?_
  rintro e w1 ⟨A1, n1, c1, A2, n2, c2, hs, rfl, hpo, hb1⟩
  obtain ⟨w2, hw2⟩ : ∃ w2, w2 = w1.alloc (.cells #[.slice A1 n1 c1, .slice A2 n2 c2] 26) := ⟨_, rfl⟩
  have hba : Below w1.heap.size w1 w2 := by rw [hw2]; exact (Below.refl _ _).alloc (Nat.le_refl _) _
  have hQ : PlK w2 w1.heap.size A1 n1 c1 A2 n2 c2 := by rw [hw2]; exact PlK.new w1 A1 n1 c1 A2 n2 c2
  obtain ⟨Bq, hBq⟩ : ∃ Bq, Bq = w1.heap.size := ⟨_, rfl⟩
  rw [← hBq] at hQ
  have hb2 := below_on hb1 (Nat.le_refl _) hba
  have H2 := Lib.hid (And.intro (And.intro (below_on H0.out.1 (Nat.le_refl _) hb2) (H0.out.2.on hb2)) (And.intro hQ ((hpo.below hba).mono H0.out.1.size)))
  clear hpo hba hQ hb1 hb2 H0 KL q1 q2 q3
  go_upto_region 2 with fail
  rw [← hw2, ← hBq]
  clear hw2 hBq
  obtain ⟨q1, q2, q3⟩ := H2.out.2.1.facts
  have KC := Lib.hid (checkPR_any P A1 A2 n1 c1 n2 c2 w2 H2.out.2.2.at_)
  go_wp2_with fail
  refine KC.out.mono ?_
  rintro e w3 ⟨rfl, hb3⟩
  have H3 := Lib.hid (And.intro (And.intro (below_on H2.out.1.1 (Nat.le_refl _) hb3) (H2.out.1.2.on hb3)) (And.intro (H2.out.2.1.on hb3) (H2.out.2.2.below hb3)))
  have HR3 := Lib.hid H3.out.1
  clear hb3 H2 KC q1 q2 q3
  rcases hpb : planB P with _ | _
  · have hd : doneE P = 8 ∧ doneP P = ⟨[], []⟩ := by unfold doneE doneP; rw [hpb]; exact ⟨rfl, rfl⟩
    have HD := Lib.hid hd
    clear hd hpb H3
    obtain ⟨V, hV, r1, r2, hbV⟩ := res_store (g := w.heap.size + 1) HR3.out.1 (by omega) HR3.out.2 (.slice none 0 0) (.slice none 0 0)
    obtain ⟨s1, s2, f1, f2⟩ := plk_facts4 HR3.out.2
    have HV := Lib.hid hV
    have HR := Lib.hid (And.intro r1 (And.intro r2 hbV))
    clear hV r1 r2 hbV
    go_wp2_with fail
    rw [← HV.out]
    obtain ⟨r1, r2, hbV⟩ := HR.out
    refine bodyPost_ret (v := .tuple #[planV none 0 0 none 0 0, .int .i64 8]) ?_ rfl (by rw [HD.out.1, HD.out.2]; exact resPostS_no rfl hbV)
    simp [results, Tryz.results53, go_sem, r1, r2]
  · have hd : doneE P = 0 ∧ doneP P = P := by unfold doneE doneP; rw [hpb]; exact ⟨rfl, rfl⟩
    have HD := Lib.hid hd
    clear hd hpb
    obtain ⟨q1, q2, q3⟩ := H3.out.2.1.facts
    obtain ⟨V, hV, r1, r2, hbV⟩ := res_store (g := w.heap.size + 1) HR3.out.1 (by omega) HR3.out.2 (.slice A1 n1 c1) (.slice A2 n2 c2)
    obtain ⟨s1, s2, f1, f2⟩ := plk_facts4 HR3.out.2
    have hpo := (H3.out.2.2.store HR3.out.2 (by decide) (by decide) 0 (.slice A1 n1 c1)).store (Blk.set_ HR3.out.2 0 (.slice A1 n1 c1)) (by decide) (by decide) 1 (.slice A2 n2 c2)
    rw [← hV] at hpo
    have HV := Lib.hid hV
    have HR := Lib.hid (And.intro r1 (And.intro r2 (And.intro hbV hpo)))
    clear hV r1 r2 hbV hpo
    go_wp2_with fail
    rw [← HV.out]
    obtain ⟨r1, r2, hbV, hpo⟩ := HR.out
    refine bodyPost_ret (v := .tuple #[planV A1 n1 c1 A2 n2 c2, .int .i64 0]) ?_ rfl ⟨A1, n1, c1, A2, n2, c2, hs, by rw [HD.out.1], by rw [HD.out.2]; exact hpo, hbV⟩
    simp [results, Tryz.results53, go_sem, r1, r2]
end Go.Proofs.YtgkcenhopmjmlaaGreat

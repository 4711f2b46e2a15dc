/- merestonelaw06.split: the walk. -/
import Derived.Test.YtnpjggcgnbgkjaaGreatK36
namespace Go.Proofs.YtnpjggcgnbgkjaaGreat
open Go.RowKit Go.Lib
set_option maxRecDepth 100000 in
set_option maxHeartbeats 3200000 in
theorem split6_any (p : Plan) (id fresh : Int) (path : List Pt) (A A' B : Option Addr) (n c n' c' m cb : Nat) (w : World) (h : PlanAt w w.heap.size A n c A' n' c' p) (hr : Reads w w.heap.size 2 B m (ptsV path)) (hx : ∀ q ∈ path, q.inI) (hn : n' ≤ 1048576) (hm : m ≤ 1048576) :
    Calls Tryz.prog 17 #[planV A n c A' n' c', .int .i64 id, .slice B m cb, .int .i64 fresh] w (ResPostS (spP p id path fresh) (spE p id path fresh) w) := by
  obtain ⟨i0, hi0, hz0, hz1, hz2⟩ := info_parts info_pt
  obtain ⟨wa, hwa⟩ : ∃ wa : World, wa = (w.alloc (.cells #[.slice A n c, .slice A' n' c'] 26)).alloc (.cells #[.slice none 0 0, .slice none 0 0] 26) := ⟨_, rfl⟩
  have hF : SpF p path A n c A' n' c' B m w wa := by
    have hB0 : Below w.heap.size w wa := by rw [hwa]; exact ((Below.refl _ _).alloc (Nat.le_refl _) _).alloc (by simp) _
    refine ⟨hB0, by rw [hwa]; exact Blk.alloc (PlK.new w A n c A' n' c') _, ?_, h.on hB0, hr.on hB0⟩
    have := PlK.new (w.alloc (.cells #[.slice A n c, .slice A' n' c'] 26)) none 0 0 none 0 0
    rw [World.size_alloc] at this
    rw [hwa]
    exact this
  have KO := Lib.hid (ownPlS_any p A A' n c n' c' wa hF.2.2.2.1 hn)
  have H0 := Lib.hid hF
  have HX := Lib.hid hx
  obtain ⟨q1, q2, q3⟩ := hF.2.1.facts
  clear hF h hr hx
  go_enter Tryz.func17, Tryz.ntmps17
  go_upto_region 1 with fail
  rw [← hwa]
  clear hwa
  go_wp2_with fail
  refine KO.out.mono ?_
  rintro e w1 ⟨A1, n1, c1, A2, n2, c2, hs, rfl, hpo, hb1⟩
  have H1 := Lib.hid (H0.out.on hb1)
  have hba : Below w1.heap.size w1 (w1.alloc (.cells #[] 35)) := (Below.refl _ _).alloc (Nat.le_refl _) _
  have hown0 : (w1.alloc (.cells #[] 35)).ownsRow w1.heap.size 35 2 (.slice (some ⟨w1.heap.size, 0, none⟩) 0 0) 0 [] := World.ownsRow_made (base := w1.heap.size) (e := 35) (size := 2) w1 #[] 0 (Nat.le_refl _) (by simp [maxLen]) rfl
  have H2 := Lib.hid (And.intro hown0 (And.intro (H1.out.on hba).2.2.2.2 (And.intro hpo (And.intro (show 0 + m ≤ maxLen by simp only [maxLen]; omega) (And.intro (show (0 + m) * 16 ≤ 140737488355328 by omega) (show w1.heap.size ≤ (w1.alloc (.cells #[] 35)).heap.size by simp))))))
  clear hb1 hba hown0 hpo q1 q2 q3 KO H0
  go_wp2_with (at_builtin; refine wpList_append_any _ rfl (.tmp 13) (.tmp 14) _ rfl w1.heap.size 35 i0 _ 2 16 Tryz.underlying23 hi0 hz0 hz1 hz2 rfl (Nat.zero_lt_succ _) (.slice (some ⟨w1.heap.size, 0, none⟩) 0 0) 0 [] rfl H2.out.1 _ B m cb (ptsV path) rfl H2.out.2.1 (ptsV_one _) H2.out.2.2.2.1 H2.out.2.2.2.2.1 H2.out.2.2.2.2.2 ?_
               intro v6 w6 hown6 hg6 hat6
               simp only [Nat.zero_add, List.nil_append] at hown6
               obtain ⟨A6, c6, rfl⟩ := own_form hown6
               have hb6 : Below w1.heap.size w1 w6 := Below.grown ((Below.refl _ _).alloc (Nat.le_refl _) _) hg6 (by simp) (fun g e => by simp [Value.ownBlock] at e; omega)
               have KS := Lib.hid (spP_any p id fresh path A1 A2 A6 n1 c1 n2 c2 m c6 w6 (H2.out.2.2.1.at_.on hb6) (Reads.of_own hown6) HX.out (by omega))
               have H3 := Lib.hid (H1.out.on hb6)
               clear hown6 hg6 hat6 hb6 H2 H1)
  refine KS.out.mono ?_
  rintro e w7 ⟨A3, n3, c3, A4, n4, c4, hs4, rfl, hpo, hb7⟩
  obtain ⟨hb8, hR8⟩ := (H3.out.on hb7).res
  obtain ⟨V, hV, r1, r2, hbV⟩ := res_store (g := w.heap.size + 1) hb8 (by omega) hR8 (.slice A3 n3 c3) (.slice A4 n4 c4)
  obtain ⟨s1, s2, f1, f2⟩ := plk_facts4 hR8
  have hpoV := ((hpo.mono H3.out.1.size).store hR8 (by decide) (by decide) 0 (.slice A3 n3 c3)).store (Blk.set_ hR8 0 (.slice A3 n3 c3)) (by decide) (by decide) 1 (.slice A4 n4 c4)
  rw [← hV] at hpoV
  have HV := Lib.hid hV
  have HRR := Lib.hid (And.intro r1 (And.intro r2 (And.intro hbV hpoV)))
  obtain ⟨z, hz⟩ : ∃ z, z = spE p id path fresh := ⟨_, rfl⟩
  rw [← hz]
  have HZ := Lib.hid hz
  clear hV r1 r2 hbV hpoV hpo hb7 hb8 hR8 KS H3 hz
  go_wp2_with fail
  rw [← HV.out]
  obtain ⟨r1, r2, hbV, hpoV⟩ := HRR.out
  refine bodyPost_ret (v := .tuple #[planV A3 n3 c3 A4 n4 c4, .int .i64 z]) ?_ rfl ⟨A3, n3, c3, A4, n4, c4, _, by rw [HZ.out], hpoV, hbV⟩
  simp [results, Tryz.results17, go_sem, r1, r2]
end Go.Proofs.YtnpjggcgnbgkjaaGreat

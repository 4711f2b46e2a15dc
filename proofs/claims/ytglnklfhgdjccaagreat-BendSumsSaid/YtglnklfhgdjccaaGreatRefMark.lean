/- ref05.done and ref05.Mark: the walks. -/
import Derived.Test.YtglnklfhgdjccaaGreatLeastPl
import Derived.Test.YtglnklfhgdjccaaGreatCheckPR
import Derived.Test.YtglnklfhgdjccaaGreatFindLaw
namespace Go.Proofs.YtglnklfhgdjccaaGreat
open Go.RowKit Go.Lib
theorem lst_idem (xs : List Pt) : lst (lst xs) = lst xs := by
  rcases Nat.eq_zero_or_pos xs.length with h0 | h0
  · have : xs = [] := List.eq_nil_of_length_eq_zero h0
    subst this
    rfl
  · have hk := leastN_lt xs (m := xs.length) h0
    have hf := leastN_first xs xs.length
    have hl := lst_len xs
    have hz : leastN (lst xs) (lst xs).length = 0 := by
      rw [hl]
      have hf2 := leastN_first (lst xs) xs.length
      have hi := leastN_lt (lst xs) (m := xs.length) h0
      generalize leastN (lst xs) xs.length = i at *
      rcases Nat.eq_zero_or_pos i with h1 | h1
      · exact h1
      · exfalso
        have e0 : ptAt (lst xs) 0 = ptAt xs (leastN xs xs.length) := by
          unfold lst
          rw [ptAt_rot hk h0, Nat.add_zero, Nat.mod_eq_of_lt hk]
        have ei : ptAt (lst xs) i = ptAt xs ((leastN xs xs.length + i) % xs.length) := by
          unfold lst
          rw [ptAt_rot hk hi]
        have h2 := hf2.1 0 h0
        have h3 := hf.1 ((leastN xs xs.length + i) % xs.length) (Nat.mod_lt _ h0)
        rw [← ei, ← e0] at h3
        have h4 : ordI (ptAt (lst xs) i) (ptAt (lst xs) 0) ≤ 0 := by
          by_cases h : 0 < ordI (ptAt (lst xs) i) (ptAt (lst xs) 0)
          · exact absurd (ordI_anti h) h2
          · omega
        have h5 : ordI (ptAt (lst xs) 0) (ptAt (lst xs) i) ≤ 0 := by
          by_cases h : 0 < ordI (ptAt (lst xs) 0) (ptAt (lst xs) i)
          · exact absurd (ordI_anti h) h3
          · omega
        exact hf2.2 0 h1 (ordI_both h5 h4)
    show rot (leastN (lst xs) (lst xs).length) (lst xs) = lst xs
    rw [hz]
    simp [rot]
theorem each_idem (g : List Pt → List Pt) (p : Plan) : mapG lst (eachP g p) = eachP g p := by
  unfold mapG eachP
  simp only [List.map_map, lst_idem, Plan.mk.injEq, true_and]
  refine List.map_congr_left fun x _ => ?_
  simp only [Function.comp, mapX, eachX, lst_idem]
theorem not_ring {p : Plan} {q : Pt} (hs : SoundP p) (h : hasC p.parcels q = false) : ∀ xs, ringOf p xs → q ∉ xs := by
  have hp : ∀ x ∈ p.parcels, q ∉ x.ring := fun x hx hq => by
    have : hasC p.parcels q = true := hasC_iff.2 ⟨x, hx, hq⟩
    rw [h] at this; cases this
  rintro xs (rfl | ⟨x, hx, rfl⟩)
  · intro hq
    obtain ⟨k, hk, rfl⟩ := List.getElem_of_mem hq
    have he : (⟨ptAt p.outer k, ptAt p.outer ((k + 1) % p.outer.length)⟩ : Ed) ∈ edgesOf p.outer := by
      unfold edgesOf
      exact List.mem_map.2 ⟨k, List.mem_range.2 hk, rfl⟩
    obtain ⟨x, hx, h3⟩ := allE_mem.1 (hs.2.2.2.1.2.1 _ he)
    have := (edge_pts h3).1
    simp only at this
    rw [ptAt_lt hk] at this
    exact hp x hx this
  · exact hp x hx
noncomputable def doneP (q : Plan) : Plan := if planB q = true then q else ⟨[], []⟩
noncomputable def doneE (q : Plan) : Int := if planB q = true then 0 else 8
set_option maxRecDepth 100000 in
set_option maxHeartbeats 1600000 in
theorem refDone_any (p : Plan) (A A' : Option Addr) (n c n' c' : Nat) (w : World) (h : PlanAt w w.heap.size A n c A' n' c' p) (hn : n' ≤ 1048576) (hg : ∀ xs, ringOf p xs → xs.length ≤ 1048576) :
    Calls Tryz.prog 76 #[planV A n c A' n' c'] w (ResPostS (doneP (mapG lst p)) (doneE (mapG lst p)) w) := by
  obtain ⟨wa, hwa⟩ : ∃ wa : World, wa = (w.alloc (.cells #[.slice A n c, .slice A' n' c'] 26)).alloc (.cells #[.slice none 0 0, .slice none 0 0] 26) := ⟨_, rfl⟩
  have hB0 : Below w.heap.size w wa := by rw [hwa]; exact ((Below.refl _ _).alloc (Nat.le_refl _) _).alloc (by simp) _
  have hX : PlK wa w.heap.size A n c A' n' c' := by rw [hwa]; exact Blk.alloc (PlK.new w A n c A' n' c') _
  have hZ : PlK wa (w.heap.size + 1) none 0 0 none 0 0 := by
    have := PlK.new (w.alloc (.cells #[.slice A n c, .slice A' n' c'] 26)) none 0 0 none 0 0
    rw [World.size_alloc] at this
    rw [hwa]
    exact this
  have KL := Lib.hid (refLeast_any p A A' n c n' c' wa (h.on hB0) hn hg)
  obtain ⟨q1, q2, q3⟩ := hX.facts
  have H0 := Lib.hid (And.intro hB0 hZ)
  obtain ⟨P, hP⟩ : ∃ P, P = mapG lst p := ⟨_, rfl⟩
  rw [← hP] at KL
  rw [← hP]
  clear hB0 hX hZ h hn hg hP
  go_enter Tryz.func76, Tryz.ntmps76
  go_upto_region 1 with fail
  rw [← hwa]
  clear hwa
  go_wp2_with fail
  refine KL.out.mono ?_
  rintro e w1 ⟨A1, n1, c1, A2, n2, c2, hs, rfl, hpo, hb1⟩
  obtain ⟨w2, hw2⟩ : ∃ w2, w2 = w1.alloc (.cells #[.slice A1 n1 c1, .slice A2 n2 c2] 26) := ⟨_, rfl⟩
  have hba : Below w1.heap.size w1 w2 := by rw [hw2]; exact (Below.refl _ _).alloc (Nat.le_refl _) _
  have hQ : PlK w2 w1.heap.size A1 n1 c1 A2 n2 c2 := by rw [hw2]; exact PlK.new w1 A1 n1 c1 A2 n2 c2
  obtain ⟨Bq, hBq⟩ : ∃ Bq, Bq = w1.heap.size := ⟨_, rfl⟩
  rw [← hBq] at hQ
  have hb2 := below_on hb1 (Nat.le_refl _) hba
  have H2 := Lib.hid (And.intro (And.intro (below_on H0.out.1 (Nat.le_refl _) hb2) (H0.out.2.on hb2)) (And.intro hQ ((hpo.below hba).mono H0.out.1.size)))
  clear hpo hba hQ hb1 hb2 H0 KL q1 q2 q3
  go_upto_region 2 with fail
  rw [← hw2, ← hBq]
  clear hw2 hBq
  obtain ⟨q1, q2, q3⟩ := H2.out.2.1.facts
  have KC := Lib.hid (checkPR_any P A1 A2 n1 c1 n2 c2 w2 H2.out.2.2.at_)
  go_wp2_with fail
  refine KC.out.mono ?_
  rintro e w3 ⟨rfl, hb3⟩
  have H3 := Lib.hid (And.intro (And.intro (below_on H2.out.1.1 (Nat.le_refl _) hb3) (H2.out.1.2.on hb3)) (And.intro (H2.out.2.1.on hb3) (H2.out.2.2.below hb3)))
  have HR3 := Lib.hid H3.out.1
  clear hb3 H2 KC q1 q2 q3
  rcases hpb : planB P with _ | _
  · have hd : doneE P = 8 ∧ doneP P = ⟨[], []⟩ := by unfold doneE doneP; rw [hpb]; exact ⟨rfl, rfl⟩
    have HD := Lib.hid hd
    clear hd hpb H3
    obtain ⟨V, hV, r1, r2, hbV⟩ := res_store (g := w.heap.size + 1) HR3.out.1 (by omega) HR3.out.2 (.slice none 0 0) (.slice none 0 0)
    obtain ⟨s1, s2, f1, f2⟩ := plk_facts4 HR3.out.2
    have HV := Lib.hid hV
    have HR := Lib.hid (And.intro r1 (And.intro r2 hbV))
    clear hV r1 r2 hbV
    go_wp2_with fail
    rw [← HV.out]
    obtain ⟨r1, r2, hbV⟩ := HR.out
    refine bodyPost_ret (v := .tuple #[planV none 0 0 none 0 0, .int .i64 8]) ?_ rfl (by rw [HD.out.1, HD.out.2]; exact resPostS_no rfl hbV)
    simp [results, Tryz.results76, go_sem, r1, r2]
  · have hd : doneE P = 0 ∧ doneP P = P := by unfold doneE doneP; rw [hpb]; exact ⟨rfl, rfl⟩
    have HD := Lib.hid hd
    clear hd hpb
    obtain ⟨q1, q2, q3⟩ := H3.out.2.1.facts
    obtain ⟨V, hV, r1, r2, hbV⟩ := res_store (g := w.heap.size + 1) HR3.out.1 (by omega) HR3.out.2 (.slice A1 n1 c1) (.slice A2 n2 c2)
    obtain ⟨s1, s2, f1, f2⟩ := plk_facts4 HR3.out.2
    have hpo := (H3.out.2.2.store HR3.out.2 (by decide) (by decide) 0 (.slice A1 n1 c1)).store (Blk.set_ HR3.out.2 0 (.slice A1 n1 c1)) (by decide) (by decide) 1 (.slice A2 n2 c2)
    rw [← hV] at hpo
    have HV := Lib.hid hV
    have HR := Lib.hid (And.intro r1 (And.intro r2 (And.intro hbV hpo)))
    clear hV r1 r2 hbV hpo
    go_wp2_with fail
    rw [← HV.out]
    obtain ⟨r1, r2, hbV, hpo⟩ := HR.out
    refine bodyPost_ret (v := .tuple #[planV A1 n1 c1 A2 n2 c2, .int .i64 0]) ?_ rfl ⟨A1, n1, c1, A2, n2, c2, hs, by rw [HD.out.1], by rw [HD.out.2]; exact hpo, hbV⟩
    simp [results, Tryz.results76, go_sem, r1, r2]
set_option maxRecDepth 100000 in
set_option maxHeartbeats 1600000 in
theorem refMark_any (p : Plan) (q : Pt) (A A' : Option Addr) (n c n' c' : Nat) (w : World) (h : PlanAt w w.heap.size A n c A' n' c' p) (hq : q.inI) :
    Calls Tryz.prog 33 #[planV A n c A' n' c', .agg #[.int .i64 q.x, .int .i64 q.y]] w (ResPost (markP p q) (markE p q) w) := by
  obtain ⟨wa, hwa⟩ : ∃ wa : World, wa = ((w.alloc (.cells #[.slice A n c, .slice A' n' c'] 26)).alloc (.cells #[.int .i64 q.x, .int .i64 q.y] 43)).alloc (.cells #[.slice none 0 0, .slice none 0 0] 26) := ⟨_, rfl⟩
  have hB0 : Below w.heap.size w wa := by rw [hwa]; exact (((Below.refl _ _).alloc (Nat.le_refl _) _).alloc (by simp) _).alloc (by simp; omega) _
  have hX : PlK wa w.heap.size A n c A' n' c' := by rw [hwa]; exact Blk.alloc (Blk.alloc (PlK.new w A n c A' n' c') _) _
  have hY : PtK wa (w.heap.size + 1) q := by
    have := PtK.new (w.alloc (.cells #[.slice A n c, .slice A' n' c'] 26)) q
    rw [World.size_alloc] at this
    rw [hwa]
    exact Blk.alloc this _
  have hZ : PlK wa (w.heap.size + 1 + 1) none 0 0 none 0 0 := by
    have := PlK.new ((w.alloc (.cells #[.slice A n c, .slice A' n' c'] 26)).alloc (.cells #[.int .i64 q.x, .int .i64 q.y] 43)) none 0 0 none 0 0
    rw [World.size_alloc, World.size_alloc] at this
    rw [hwa]
    exact this
  have hP := h.on hB0
  have KB := Lib.hid (checkPR_any p A A' n c n' c' wa hP)
  obtain ⟨q1, q2, q3⟩ := hX.facts
  have H0 := Lib.hid (And.intro hB0 (And.intro hX (And.intro hY (And.intro hZ hP))))
  have HE : Hid (markE p q = if planB p = true then (if good q = true then (if hasC p.parcels q = true then 6 else (if hasC (eachP (insG q) p).parcels q = true then (if planB (eachP (insG q) p) = true then 0 else 8) else 7)) else 3) else 2) := rfl
  have HQI := Lib.hid hq
  clear hB0 hX hY hZ hP h hq
  go_enter Tryz.func33, Tryz.ntmps33
  go_upto_region 1 with fail
  rw [← hwa]
  clear hwa
  go_wp2_with fail
  refine KB.out.mono ?_
  rintro e w1 ⟨rfl, hb1⟩
  have hY1 : PtK w1 (w.heap.size + 1) q := Blk.below H0.out.2.2.1 hb1 (Blk.lt H0.out.2.2.1)
  have H1 := Lib.hid (And.intro (And.intro (below_on H0.out.1 (Nat.le_refl _) hb1) (H0.out.2.2.2.1.on hb1)) (And.intro (H0.out.2.1.on hb1) (And.intro hY1 (H0.out.2.2.2.2.on hb1))))
  have HR1 := Lib.hid H1.out.1
  clear hb1 H0 KB q1 q2 q3
  rcases hpb : planB p with _ | _
  · rw [hpb] at HE
    have hme : markE p q = 2 := HE.out
    have HM := Lib.hid hme
    clear HE hme hpb H1 hY1
    obtain ⟨V, hV, r1, r2, hbV⟩ := res_store (g := w.heap.size + 1 + 1) HR1.out.1 (by omega) HR1.out.2 (.slice none 0 0) (.slice none 0 0)
    obtain ⟨s1, s2, f1, f2⟩ := plk_facts4 HR1.out.2
    have HV := Lib.hid hV
    have HR := Lib.hid (And.intro r1 (And.intro r2 hbV))
    clear hV r1 r2 hbV
    go_wp2_with fail
    rw [← HV.out]
    obtain ⟨r1, r2, hbV⟩ := HR.out
    refine bodyPost_ret (v := .tuple #[planV none 0 0 none 0 0, .int .i64 2]) ?_ rfl (by rw [HM.out]; exact resPost_no (markP_no HM.out (by decide)) hbV)
    simp [results, Tryz.results33, go_sem, r1, r2]
  rw [hpb, if_pos rfl] at HE
  have HS := Lib.hid (planB_sound hpb)
  clear hpb
  have hba : Below w1.heap.size w1 (w1.alloc (.cells #[.int .i64 q.x, .int .i64 q.y] 43)) := (Below.refl _ _).alloc (Nat.le_refl _) _
  have kG := goodR_any [q] (some ⟨w1.heap.size, 0, none⟩) 1 1 _ (Reads.made w1 #[.int .i64 q.x, .int .i64 q.y] 43 (0, 0) 2 1 (ptsV [q]) rfl rfl) (by omega) (fun r hr => by rw [List.mem_singleton] at hr; rw [hr]; exact HQI.out)
  rw [goodL_one] at kG
  have KG := Lib.hid kG
  obtain ⟨r1, r2, -, -, -⟩ := hY1.facts
  have H1b := Lib.hid (And.intro (And.intro (below_on H1.out.1.1 (Nat.le_refl _) hba) (H1.out.1.2.on hba)) (And.intro (H1.out.2.1.on hba) (And.intro (show PtK _ (w.heap.size + 1) q from Blk.below H1.out.2.2.1 hba (Blk.lt H1.out.2.2.1)) (H1.out.2.2.2.on hba))))
  clear hba kG hY1 H1 HR1
  go_wp2_with fail
  refine KG.out.mono ?_
  rintro e w2 ⟨rfl, hb2⟩
  have H2 := Lib.hid (And.intro (And.intro (below_on H1b.out.1.1 (Nat.le_refl _) hb2) (H1b.out.1.2.on hb2)) (And.intro (H1b.out.2.1.on hb2) (And.intro (show PtK w2 (w.heap.size + 1) q from Blk.below H1b.out.2.2.1 hb2 (Blk.lt H1b.out.2.2.1)) (H1b.out.2.2.2.on hb2))))
  have HR2 := Lib.hid H2.out.1
  clear hb2 H1b KG r1 r2
  rcases hgd : good q with _ | _
  · rw [hgd] at HE
    have hme : markE p q = 3 := HE.out
    have HM := Lib.hid hme
    clear HE hme hgd H2
    obtain ⟨V, hV, r1, r2, hbV⟩ := res_store (g := w.heap.size + 1 + 1) HR2.out.1 (by omega) HR2.out.2 (.slice none 0 0) (.slice none 0 0)
    obtain ⟨s1, s2, f1, f2⟩ := plk_facts4 HR2.out.2
    have HV := Lib.hid hV
    have HR := Lib.hid (And.intro r1 (And.intro r2 hbV))
    clear hV r1 r2 hbV
    go_wp2_with fail
    rw [← HV.out]
    obtain ⟨r1, r2, hbV⟩ := HR.out
    refine bodyPost_ret (v := .tuple #[planV none 0 0 none 0 0, .int .i64 3]) ?_ rfl (by rw [HM.out]; exact resPost_no (markP_no HM.out (by decide)) hbV)
    simp [results, Tryz.results33, go_sem, r1, r2]
  rw [hgd, if_pos rfl] at HE
  have HG := Lib.hid hgd
  clear hgd
  obtain ⟨q1, q2, q3⟩ := H2.out.2.1.facts
  obtain ⟨r1, r2, -, -, -⟩ := PtK.facts H2.out.2.2.1
  have KH := Lib.hid (cornerR_any p q A A' n c n' c' w2 H2.out.2.2.2)
  go_wp2_with fail
  refine KH.out.mono ?_
  rintro e w3 ⟨rfl, hb3⟩
  have H3 := Lib.hid (And.intro (And.intro (below_on H2.out.1.1 (Nat.le_refl _) hb3) (H2.out.1.2.on hb3)) (And.intro (H2.out.2.1.on hb3) (And.intro (show PtK w3 (w.heap.size + 1) q from Blk.below H2.out.2.2.1 hb3 (Blk.lt H2.out.2.2.1)) (H2.out.2.2.2.on hb3))))
  have HR3 := Lib.hid H3.out.1
  clear hb3 H2 HR2 KH q1 q2 q3 r1 r2
  rcases hh1 : hasC p.parcels q with _ | _
  case true =>
    rw [hh1] at HE
    have hme : markE p q = 6 := HE.out
    have HM := Lib.hid hme
    clear HE hme hh1 H3
    obtain ⟨V, hV, r1, r2, hbV⟩ := res_store (g := w.heap.size + 1 + 1) HR3.out.1 (by omega) HR3.out.2 (.slice none 0 0) (.slice none 0 0)
    obtain ⟨s1, s2, f1, f2⟩ := plk_facts4 HR3.out.2
    have HV := Lib.hid hV
    have HR := Lib.hid (And.intro r1 (And.intro r2 hbV))
    clear hV r1 r2 hbV
    go_wp2_with fail
    rw [← HV.out]
    obtain ⟨r1, r2, hbV⟩ := HR.out
    refine bodyPost_ret (v := .tuple #[planV none 0 0 none 0 0, .int .i64 6]) ?_ rfl (by rw [HM.out]; exact resPost_no (markP_no HM.out (by decide)) hbV)
    simp [results, Tryz.results33, go_sem, r1, r2]
  rw [hh1, if_neg (by decide)] at HE
  obtain ⟨q1, q2, q3⟩ := H3.out.2.1.facts
  obtain ⟨r1, r2, -, -, -⟩ := PtK.facts H3.out.2.2.1
  have KI := Lib.hid (refInsert_any q p A A' n c n' c' w3 H3.out.2.2.2 HS.out HG.out (not_ring HS.out hh1))
  clear hh1
  obtain ⟨P, hP⟩ : ∃ P, P = eachP (insG q) p := ⟨_, rfl⟩
  rw [← hP] at KI HE
  have HP := Lib.hid hP
  clear hP
  go_wp2_with fail
  refine KI.out.mono ?_
  rintro e w4 ⟨A1, n1, c1, A2, n2, c2, hs, rfl, hpo, hb4⟩
  obtain ⟨w5, hw5⟩ : ∃ w5, w5 = w4.alloc (.cells #[.slice A1 n1 c1, .slice A2 n2 c2] 26) := ⟨_, rfl⟩
  have hba : Below w4.heap.size w4 w5 := by rw [hw5]; exact (Below.refl _ _).alloc (Nat.le_refl _) _
  have hQ : PlK w5 w4.heap.size A1 n1 c1 A2 n2 c2 := by rw [hw5]; exact PlK.new w4 A1 n1 c1 A2 n2 c2
  obtain ⟨Bq, hBq⟩ : ∃ Bq, Bq = w4.heap.size := ⟨_, rfl⟩
  rw [← hBq] at hQ
  have hb5 : Below w3.heap.size w3 w5 := below_on hb4 (Nat.le_refl _) hba
  have H5 := Lib.hid (And.intro (And.intro (below_on H3.out.1.1 (Nat.le_refl _) hb5) (H3.out.1.2.on hb5)) (And.intro hQ (And.intro (show PtK w5 (w.heap.size + 1) q from Blk.below H3.out.2.2.1 hb5 (Blk.lt H3.out.2.2.1)) (hpo.below hba))))
  have HR5 := Lib.hid H5.out.1
  have HN2 : Hid (n2 ≤ 1048576 ∧ ∀ xs, ringOf P xs → xs.length ≤ 1048576) := by
    refine ⟨?_, fun xs hx => ?_⟩
    · have h1 := hpo.lenp
      have h2 := (listed_bd HS.out.1).2.1
      rw [HP.out, each_len] at h1
      omega
    · rw [HP.out] at hx
      rcases hx with rfl | ⟨x, hx, rfl⟩
      · rw [each_outer, lst_len]; have := insG_len q p.outer; have := (sound_ring HS.out (.inl rfl : ringOf p p.outer)).2.1; omega
      · unfold eachP at hx
        obtain ⟨z, hz, rfl⟩ := List.mem_map.1 hx
        show (lst (insG q z.ring)).length ≤ _
        rw [lst_len]; have := insG_len q z.ring; have := (sound_ring HS.out (.inr ⟨z, hz, rfl⟩ : ringOf p z.ring)).2.1; omega
  clear hpo hb4 hba hQ hb5 H3 HR3 KI q1 q2 q3 r1 r2
  go_upto_region 8 with fail
  rw [← hw5, ← hBq]
  clear hw5 hBq
  obtain ⟨q1, q2, q3⟩ := H5.out.2.1.facts
  obtain ⟨r1, r2, -, -, -⟩ := PtK.facts H5.out.2.2.1
  have KH := Lib.hid (cornerR_any P q A1 A2 n1 c1 n2 c2 w5 H5.out.2.2.2.at_)
  go_wp2_with fail
  refine KH.out.mono ?_
  rintro e w6 ⟨rfl, hb6⟩
  have H6 := Lib.hid (And.intro (And.intro (below_on H5.out.1.1 (Nat.le_refl _) hb6) (H5.out.1.2.on hb6)) (And.intro (H5.out.2.1.on hb6) (H5.out.2.2.2.below hb6)))
  have HR6 := Lib.hid H6.out.1
  clear hb6 H5 HR5 KH q1 q2 q3 r1 r2
  rcases hh2 : hasC P.parcels q with _ | _
  · rw [hh2] at HE
    have hme : markE p q = 7 := HE.out
    have HM := Lib.hid hme
    clear HE hme hh2 H6
    obtain ⟨V, hV, r1, r2, hbV⟩ := res_store (g := w.heap.size + 1 + 1) HR6.out.1 (by omega) HR6.out.2 (.slice none 0 0) (.slice none 0 0)
    obtain ⟨s1, s2, f1, f2⟩ := plk_facts4 HR6.out.2
    have HV := Lib.hid hV
    have HR := Lib.hid (And.intro r1 (And.intro r2 hbV))
    clear hV r1 r2 hbV
    go_wp2_with fail
    rw [← HV.out]
    obtain ⟨r1, r2, hbV⟩ := HR.out
    refine bodyPost_ret (v := .tuple #[planV none 0 0 none 0 0, .int .i64 7]) ?_ rfl (by rw [HM.out]; exact resPost_no (markP_no HM.out (by decide)) hbV)
    simp [results, Tryz.results33, go_sem, r1, r2]
  rw [hh2, if_pos rfl] at HE
  clear hh2
  obtain ⟨q1, q2, q3⟩ := H6.out.2.1.facts
  have kD := refDone_any P A1 A2 n1 c1 n2 c2 w6 H6.out.2.2.at_ HN2.out.1 HN2.out.2
  have hid : mapG lst P = P := by rw [HP.out]; exact each_idem _ _
  rw [hid] at kD
  have KD := Lib.hid kD
  clear kD hid
  have hmz : markE p q = doneE P ∧ markP p q = doneP P := by
    have h1 : markE p q = doneE P := by rw [HE.out]; rfl
    refine ⟨h1, ?_⟩
    unfold markP doneP
    rw [h1, ← HP.out]
    unfold doneE
    rcases planB P with _ | _
    · rfl
    · rfl
  have HM := Lib.hid hmz
  clear hmz HE
  go_wp2_with fail
  refine KD.out.mono ?_
  rintro e w7 ⟨A3, n3, c3, A4, n4, c4, hs7, rfl, hpo7, hb7⟩
  have hR7 := HR6.out.2.on hb7
  obtain ⟨V, hV, r1, r2, hbV⟩ := res_store (g := w.heap.size + 1 + 1) (below_on HR6.out.1 (Nat.le_refl _) hb7) (by omega) hR7 (.slice A3 n3 c3) (.slice A4 n4 c4)
  obtain ⟨s1, s2, f1, f2⟩ := plk_facts4 hR7
  have hpo := (hpo7.store hR7 (by decide) (by decide) 0 (.slice A3 n3 c3)).store (Blk.set_ hR7 0 (.slice A3 n3 c3)) (by decide) (by decide) 1 (.slice A4 n4 c4)
  rw [← hV] at hpo
  have HV := Lib.hid hV
  have HR := Lib.hid (And.intro r1 (And.intro r2 (And.intro hbV hpo)))
  clear hV r1 r2 hbV hpo hpo7 hb7 hR7 H6 HR6 KD q1 q2 q3
  go_wp2_with fail
  rw [← HV.out]
  obtain ⟨r1, r2, hbV, hpo⟩ := HR.out
  refine bodyPost_ret (v := .tuple #[planV A3 n3 c3 A4 n4 c4, .int .i64 (doneE P)]) ?_ rfl ⟨A3, n3, c3, A4, n4, c4, by rw [HM.out.1], by rw [HM.out.2]; exact hpo.at_, hbV⟩
  simp [results, Tryz.results33, go_sem, r1, r2]
end Go.Proofs.YtglnklfhgdjccaaGreat

/- bend.Move: the walk. -/
import Derived.Test.YtglnklfhgdjccaaGreatBendMark
import Derived.Test.YtglnklfhgdjccaaGreatMove1
namespace Go.Proofs.YtglnklfhgdjccaaGreat
open Go.RowKit Go.Lib
noncomputable def moveE (p : Plan) (f t : Pt) : Int := if planB p = true then (if (good f && good t) = true then (if hasC p.parcels f = true then (if f ∈ p.outer then 10 else (if hasC p.parcels t = true then 6 else (if planB (eachP (movG f t) p) = true then 0 else 8))) else 5) else 3) else 2
noncomputable def moveP (p : Plan) (f t : Pt) : Plan := if moveE p f t = 0 then eachP (movG f t) p else ⟨[], []⟩
theorem moveP_no {p : Plan} {f t : Pt} {z : Int} (h : moveE p f t = z) (h0 : z ≠ 0) : moveP p f t = ⟨[], []⟩ := by unfold moveP; rw [if_neg (by rw [h]; exact h0)]
theorem goodL_two (f t : Pt) : goodL [f, t] = (good f && good t) := by simp [goodL]
theorem mov_ok {p : Plan} {f t : Pt} (hs : SoundP p) (ht : good t = true) : ∀ xs, ringOf p xs → (movG f t xs).length ≤ 128 ∧ ∀ r ∈ movG f t xs, r.inI := fun xs hx => by
  obtain ⟨h1, h2, -⟩ := sound_ring hs hx
  refine ⟨by rw [movG_len]; omega, fun r hr => ?_⟩
  rcases movG_mem hr with h | rfl
  · exact good_in2 (goodL_mem h1 h)
  · exact good_in2 ht
set_option maxRecDepth 100000 in
set_option maxHeartbeats 1600000 in
theorem move_any (p : Plan) (f t : Pt) (A A' : Option Addr) (n c n' c' : Nat) (w : World) (h : PlanAt w w.heap.size A n c A' n' c' p) (hf : f.inI) (ht : t.inI) :
    Calls Tryz.prog 39 #[planV A n c A' n' c', .agg #[.int .i64 f.x, .int .i64 f.y], .agg #[.int .i64 t.x, .int .i64 t.y]] w (ResPostS (moveP p f t) (moveE p f t) w) := by
  obtain ⟨wa, hwa⟩ : ∃ wa : World, wa = (((w.alloc (.cells #[.slice A n c, .slice A' n' c'] 26)).alloc (.cells #[.int .i64 f.x, .int .i64 f.y] 43)).alloc (.cells #[.int .i64 t.x, .int .i64 t.y] 43)).alloc (.cells #[.slice none 0 0, .slice none 0 0] 26) := ⟨_, rfl⟩
  have hB0 : Below w.heap.size w wa := by rw [hwa]; exact ((((Below.refl _ _).alloc (Nat.le_refl _) _).alloc (by simp) _).alloc (by simp; omega) _).alloc (by simp; omega) _
  have hX : PlK wa w.heap.size A n c A' n' c' := by rw [hwa]; exact Blk.alloc (Blk.alloc (Blk.alloc (PlK.new w A n c A' n' c') _) _) _
  have hY : PtK wa (w.heap.size + 1) f := by
    have := PtK.new (w.alloc (.cells #[.slice A n c, .slice A' n' c'] 26)) f
    rw [World.size_alloc] at this
    rw [hwa]
    exact Blk.alloc (Blk.alloc this _) _
  have hT : PtK wa (w.heap.size + 1 + 1) t := by
    have := PtK.new ((w.alloc (.cells #[.slice A n c, .slice A' n' c'] 26)).alloc (.cells #[.int .i64 f.x, .int .i64 f.y] 43)) t
    rw [World.size_alloc, World.size_alloc] at this
    rw [hwa]
    exact Blk.alloc this _
  have hZ : PlK wa (w.heap.size + 1 + 1 + 1) none 0 0 none 0 0 := by
    have := PlK.new (((w.alloc (.cells #[.slice A n c, .slice A' n' c'] 26)).alloc (.cells #[.int .i64 f.x, .int .i64 f.y] 43)).alloc (.cells #[.int .i64 t.x, .int .i64 t.y] 43)) none 0 0 none 0 0
    rw [World.size_alloc, World.size_alloc, World.size_alloc] at this
    rw [hwa]
    exact this
  have hP := h.on hB0
  have hba : Below wa.heap.size wa (wa.alloc (.cells #[.int .i64 f.x, .int .i64 f.y, .int .i64 t.x, .int .i64 t.y] 43)) := (Below.refl _ _).alloc (Nat.le_refl _) _
  have KB := Lib.hid (bendBegin_any p [f, t] A A' (some ⟨wa.heap.size, 0, none⟩) n c n' c' 2 2 _ (hP.on hba) (Reads.made wa #[.int .i64 f.x, .int .i64 f.y, .int .i64 t.x, .int .i64 t.y] 43 (0, 0) 2 2 (ptsV [f, t]) rfl rfl) (by omega) (fun r hr => by
    simp at hr
    rcases hr with rfl | rfl
    · exact hf
    · exact ht))
  obtain ⟨q1, q2, q3⟩ := hX.facts
  obtain ⟨r1, r2, -, -, -⟩ := hY.facts
  obtain ⟨t1, t2, -, -, -⟩ := hT.facts
  have H := Lib.hid (And.intro (And.intro (below_on hB0 (Nat.le_refl _) hba) (hZ.on hba)) (And.intro (hX.on hba) (And.intro (show PtK _ (w.heap.size + 1) f from Blk.below hY hba (Blk.lt hY)) (And.intro (show PtK _ (w.heap.size + 1 + 1) t from Blk.below hT hba (Blk.lt hT)) (hP.on hba)))))
  have HE : Hid (moveE p f t = if planB p = true then (if (good f && good t) = true then (if hasC p.parcels f = true then (if f ∈ p.outer then 10 else (if hasC p.parcels t = true then 6 else (if planB (eachP (movG f t) p) = true then 0 else 8))) else 5) else 3) else 2) := rfl
  have HB : Hid (bendE p [f, t] = if planB p = true then (if (good f && good t) = true then 0 else 3) else 2) := by show _ = _; unfold bendE; rw [goodL_two]
  clear hB0 hX hY hT hZ hP h hba hf ht
  go_enter Tryz.func39, Tryz.ntmps39
  go_upto_region 1 with fail
  rw [← hwa]
  clear hwa
  go_wp2_with fail
  refine KB.out.mono ?_
  rintro e w1 ⟨rfl, hb⟩
  have H' := Lib.hid (And.intro (And.intro (below_on H.out.1.1 (Nat.le_refl _) hb) (H.out.1.2.on hb)) (And.intro (H.out.2.1.on hb) (And.intro (show PtK w1 (w.heap.size + 1) f from Blk.below H.out.2.2.1 hb (Blk.lt H.out.2.2.1)) (And.intro (show PtK w1 (w.heap.size + 1 + 1) t from Blk.below H.out.2.2.2.1 hb (Blk.lt H.out.2.2.2.1)) (H.out.2.2.2.2.on hb)))))
  have HR := Lib.hid H'.out.1
  clear hb H
  have H := H'
  clear H'
  clear KB q1 q2 q3 r1 r2 t1 t2
  rcases hpb : planB p with _ | _
  · rw [hpb] at HB HE
    have hbe : bendE p [f, t] = 2 := HB.out
    have hme : moveE p f t = 2 := HE.out
    rw [hbe]
    have HM := Lib.hid hme
    clear HB HE hbe hme hpb H
    obtain ⟨V, hV, r1, r2, hbV⟩ := res_store (g := w.heap.size + 1 + 1 + 1) HR.out.1 (by omega) HR.out.2 (.slice none 0 0) (.slice none 0 0)
    obtain ⟨s1, s2, f1, f2⟩ := plk_facts4 HR.out.2
    have HV := Lib.hid hV
    have HR := Lib.hid (And.intro r1 (And.intro r2 hbV))
    clear hV r1 r2 hbV
    go_wp2_with fail
    rw [← HV.out]
    obtain ⟨r1, r2, hbV⟩ := HR.out
    refine bodyPost_ret (v := .tuple #[planV none 0 0 none 0 0, .int .i64 2]) ?_ rfl (by rw [HM.out]; exact resPostS_no (moveP_no HM.out (by decide)) hbV)
    simp [results, Tryz.results39, go_sem, r1, r2]
  rw [hpb, if_pos rfl] at HB HE
  have HS := Lib.hid (planB_sound hpb)
  rcases hgd : (good f && good t) with _ | _
  · rw [hgd] at HB HE
    have hbe : bendE p [f, t] = 3 := HB.out
    have hme : moveE p f t = 3 := HE.out
    rw [hbe]
    have HM := Lib.hid hme
    clear HB HE hbe hme hpb hgd H
    obtain ⟨V, hV, r1, r2, hbV⟩ := res_store (g := w.heap.size + 1 + 1 + 1) HR.out.1 (by omega) HR.out.2 (.slice none 0 0) (.slice none 0 0)
    obtain ⟨s1, s2, f1, f2⟩ := plk_facts4 HR.out.2
    have HV := Lib.hid hV
    have HR := Lib.hid (And.intro r1 (And.intro r2 hbV))
    clear hV r1 r2 hbV
    go_wp2_with fail
    rw [← HV.out]
    obtain ⟨r1, r2, hbV⟩ := HR.out
    refine bodyPost_ret (v := .tuple #[planV none 0 0 none 0 0, .int .i64 3]) ?_ rfl (by rw [HM.out]; exact resPostS_no (moveP_no HM.out (by decide)) hbV)
    simp [results, Tryz.results39, go_sem, r1, r2]
  rw [hgd, if_pos rfl] at HB HE
  have hbe : bendE p [f, t] = 0 := HB.out
  rw [hbe]
  have HG := Lib.hid (by rw [Bool.and_eq_true] at hgd; exact hgd : good f = true ∧ good t = true)
  clear HB hbe hpb hgd
  obtain ⟨q1, q2, q3⟩ := H.out.2.1.facts
  obtain ⟨r1, r2, -, -, -⟩ := PtK.facts H.out.2.2.1
  have KH := Lib.hid (has_any p f A A' n c n' c' w1 H.out.2.2.2.2)
  go_wp2_with fail
  refine KH.out.mono ?_
  rintro e w2 ⟨rfl, hb⟩
  clear HR
  have H' := Lib.hid (And.intro (And.intro (below_on H.out.1.1 (Nat.le_refl _) hb) (H.out.1.2.on hb)) (And.intro (H.out.2.1.on hb) (And.intro (show PtK w2 (w.heap.size + 1) f from Blk.below H.out.2.2.1 hb (Blk.lt H.out.2.2.1)) (And.intro (show PtK w2 (w.heap.size + 1 + 1) t from Blk.below H.out.2.2.2.1 hb (Blk.lt H.out.2.2.2.1)) (H.out.2.2.2.2.on hb)))))
  have HR := Lib.hid H'.out.1
  clear hb H
  have H := H'
  clear H'
  clear KH q1 q2 q3 r1 r2
  rcases hh1 : hasC p.parcels f with _ | _
  · rw [hh1] at HE
    have hme : moveE p f t = 5 := HE.out
    have HM := Lib.hid hme
    clear HE hme hh1 H
    obtain ⟨V, hV, r1, r2, hbV⟩ := res_store (g := w.heap.size + 1 + 1 + 1) HR.out.1 (by omega) HR.out.2 (.slice none 0 0) (.slice none 0 0)
    obtain ⟨s1, s2, f1, f2⟩ := plk_facts4 HR.out.2
    have HV := Lib.hid hV
    have HR := Lib.hid (And.intro r1 (And.intro r2 hbV))
    clear hV r1 r2 hbV
    go_wp2_with fail
    rw [← HV.out]
    obtain ⟨r1, r2, hbV⟩ := HR.out
    refine bodyPost_ret (v := .tuple #[planV none 0 0 none 0 0, .int .i64 5]) ?_ rfl (by rw [HM.out]; exact resPostS_no (moveP_no HM.out (by decide)) hbV)
    simp [results, Tryz.results39, go_sem, r1, r2]
  rw [hh1, if_pos rfl] at HE
  clear hh1
  obtain ⟨q1, q2, q3⟩ := H.out.2.1.facts
  obtain ⟨r1, r2, -, -, -⟩ := PtK.facts H.out.2.2.1
  have KC := Lib.hid (containsPt_any p.outer f A n c w2 H.out.2.2.2.2.outer H.out.2.2.2.2.lens.2.2.1)
  go_wp2_with fail
  refine KC.out.mono ?_
  rintro e w3 ⟨rfl, hb⟩
  clear HR
  have H' := Lib.hid (And.intro (And.intro (below_on H.out.1.1 (Nat.le_refl _) hb) (H.out.1.2.on hb)) (And.intro (H.out.2.1.on hb) (And.intro (show PtK w3 (w.heap.size + 1) f from Blk.below H.out.2.2.1 hb (Blk.lt H.out.2.2.1)) (And.intro (show PtK w3 (w.heap.size + 1 + 1) t from Blk.below H.out.2.2.2.1 hb (Blk.lt H.out.2.2.2.1)) (H.out.2.2.2.2.on hb)))))
  have HR := Lib.hid H'.out.1
  clear hb H
  have H := H'
  clear H'
  clear KC q1 q2 q3 r1 r2
  by_cases hio : f ∈ p.outer
  · rw [if_pos hio] at HE
    rw [decide_eq_true hio]
    have HM := Lib.hid HE.out
    clear HE hio H
    obtain ⟨V, hV, r1, r2, hbV⟩ := res_store (g := w.heap.size + 1 + 1 + 1) HR.out.1 (by omega) HR.out.2 (.slice none 0 0) (.slice none 0 0)
    obtain ⟨s1, s2, f1, f2⟩ := plk_facts4 HR.out.2
    have HV := Lib.hid hV
    have HR := Lib.hid (And.intro r1 (And.intro r2 hbV))
    clear hV r1 r2 hbV
    go_wp2_with fail
    rw [← HV.out]
    obtain ⟨r1, r2, hbV⟩ := HR.out
    refine bodyPost_ret (v := .tuple #[planV none 0 0 none 0 0, .int .i64 10]) ?_ rfl (by rw [HM.out]; exact resPostS_no (moveP_no HM.out (by decide)) hbV)
    simp [results, Tryz.results39, go_sem, r1, r2]
  rw [if_neg hio] at HE
  rw [decide_eq_false hio]
  clear hio
  obtain ⟨q1, q2, q3⟩ := H.out.2.1.facts
  obtain ⟨t1, t2, -, -, -⟩ := PtK.facts H.out.2.2.2.1
  have KH := Lib.hid (has_any p t A A' n c n' c' w3 H.out.2.2.2.2)
  go_wp2_with fail
  refine KH.out.mono ?_
  rintro e w4 ⟨rfl, hb⟩
  clear HR
  have H' := Lib.hid (And.intro (And.intro (below_on H.out.1.1 (Nat.le_refl _) hb) (H.out.1.2.on hb)) (And.intro (H.out.2.1.on hb) (And.intro (show PtK w4 (w.heap.size + 1) f from Blk.below H.out.2.2.1 hb (Blk.lt H.out.2.2.1)) (And.intro (show PtK w4 (w.heap.size + 1 + 1) t from Blk.below H.out.2.2.2.1 hb (Blk.lt H.out.2.2.2.1)) (H.out.2.2.2.2.on hb)))))
  have HR := Lib.hid H'.out.1
  clear hb H
  have H := H'
  clear H'
  clear KH q1 q2 q3 t1 t2
  rcases hh2 : hasC p.parcels t with _ | _
  case true =>
    rw [hh2] at HE
    have hme : moveE p f t = 6 := HE.out
    have HM := Lib.hid hme
    clear HE hme hh2 H
    obtain ⟨V, hV, r1, r2, hbV⟩ := res_store (g := w.heap.size + 1 + 1 + 1) HR.out.1 (by omega) HR.out.2 (.slice none 0 0) (.slice none 0 0)
    obtain ⟨s1, s2, f1, f2⟩ := plk_facts4 HR.out.2
    have HV := Lib.hid hV
    have HR := Lib.hid (And.intro r1 (And.intro r2 hbV))
    clear hV r1 r2 hbV
    go_wp2_with fail
    rw [← HV.out]
    obtain ⟨r1, r2, hbV⟩ := HR.out
    refine bodyPost_ret (v := .tuple #[planV none 0 0 none 0 0, .int .i64 6]) ?_ rfl (by rw [HM.out]; exact resPostS_no (moveP_no HM.out (by decide)) hbV)
    simp [results, Tryz.results39, go_sem, r1, r2]
  rw [hh2, if_neg (by decide)] at HE
  clear hh2
  obtain ⟨q1, q2, q3⟩ := H.out.2.1.facts
  have hfl := Blk.lt H.out.2.2.1
  have htl := Blk.lt H.out.2.2.2.1
  have KI := Lib.hid (eachMov_any (w.heap.size + 1) (w.heap.size + 1 + 1) (movG f t) p A A' n c n' c' w4 H.out.2.2.2.2 (each_fits H.out.2.2.2.2.fits fun xs hx => ⟨by have := (mov_ok HS.out HG.out.2 (f := f) xs hx).1; omega, (mov_ok HS.out HG.out.2 xs hx).2⟩) (fun xs hx => by have := (mov_ok HS.out HG.out.2 (f := f) xs hx).1; omega) (by have := (listed_bd HS.out.1).2.1; have := H.out.2.2.2.2.lens.2.1; omega)
    (fun V xs B m cap hV hr hm hc hx => move1_any (w.heap.size + 1) (w.heap.size + 1 + 1) f t xs B m cap V hr (by have := (sound_ring HS.out hx).2.1; have := hr.lenPt; omega) (Blk.below H.out.2.2.1 hV hfl) (Blk.below H.out.2.2.2.1 hV htl)))
  obtain ⟨P, hP⟩ : ∃ P, P = eachP (movG f t) p := ⟨_, rfl⟩
  rw [← hP] at KI HE
  have HP := Lib.hid hP
  have HZW : Hid (w.heap.size ≤ w4.heap.size) := H.out.1.1.size
  clear hP hfl htl
  go_wp2_with fail
  refine KI.out.mono ?_
  rintro e w5 ⟨A1, n1, c1, A2, n2, c2, hs, rfl, hpo, hb⟩
  clear HR
  have H5 := Lib.hid (And.intro (And.intro (below_on H.out.1.1 (Nat.le_refl _) hb) (H.out.1.2.on hb)) hpo)
  clear hpo hb H KI q1 q2 q3
  have KD := Lib.hid (bendDone_any P A1 A2 n1 c1 n2 c2 w5 H5.out.2.at_)
  go_wp2_with fail
  refine KD.out.mono ?_
  rintro e w6 ⟨hyes, hno, hb⟩
  have H6 := Lib.hid (And.intro (And.intro (below_on H5.out.1.1 (Nat.le_refl _) hb) (H5.out.1.2.on hb)) (H5.out.2.below hb))
  have HR6 := Lib.hid H6.out.1
  clear hb H5 KD
  rcases hpb : planB P with _ | _
  · obtain rfl := hno hpb
    rw [hpb] at HE
    have hme : moveE p f t = 8 := HE.out
    have HM := Lib.hid hme
    clear HE hme hpb H6 hyes hno
    obtain ⟨V, hV, r1, r2, hbV⟩ := res_store (g := w.heap.size + 1 + 1 + 1) HR6.out.1 (by omega) HR6.out.2 (.slice none 0 0) (.slice none 0 0)
    obtain ⟨s1, s2, f1, f2⟩ := plk_facts4 HR6.out.2
    have HV := Lib.hid hV
    have HR := Lib.hid (And.intro r1 (And.intro r2 hbV))
    clear hV r1 r2 hbV
    go_wp2_with fail
    rw [← HV.out]
    obtain ⟨r1, r2, hbV⟩ := HR.out
    refine bodyPost_ret (v := .tuple #[planV none 0 0 none 0 0, .int .i64 8]) ?_ rfl (by rw [HM.out]; exact resPostS_no (moveP_no HM.out (by decide)) hbV)
    simp [results, Tryz.results39, go_sem, r1, r2]
  · obtain rfl := hyes hpb
    rw [hpb] at HE
    have hme : moveE p f t = 0 := HE.out
    have hmp : moveP p f t = P := by unfold moveP; rw [if_pos hme, HP.out]
    have HM := Lib.hid (And.intro hme hmp)
    clear HE hme hmp hpb hyes hno
    obtain ⟨V, hV, r1, r2, hbV⟩ := res_store (g := w.heap.size + 1 + 1 + 1) HR6.out.1 (by omega) HR6.out.2 (.slice A1 n1 c1) (.slice A2 n2 c2)
    obtain ⟨s1, s2, f1, f2⟩ := plk_facts4 HR6.out.2
    have hpo := (H6.out.2.store HR6.out.2 (by decide) (by decide) 0 (.slice A1 n1 c1)).store (Blk.set_ HR6.out.2 0 (.slice A1 n1 c1)) (by decide) (by decide) 1 (.slice A2 n2 c2)
    rw [← hV] at hpo
    have HV := Lib.hid hV
    have HR := Lib.hid (And.intro r1 (And.intro r2 (And.intro hbV hpo)))
    clear hV r1 r2 hbV hpo
    go_wp2_with fail
    rw [← HV.out]
    obtain ⟨r1, r2, hbV, hpo⟩ := HR.out
    refine bodyPost_ret (v := .tuple #[planV A1 n1 c1 A2 n2 c2, .int .i64 0]) ?_ rfl ⟨A1, n1, c1, A2, n2, c2, hs, by rw [HM.out.1], by rw [HM.out.2]; exact hpo.mono HZW.out, hbV⟩
    simp [results, Tryz.results39, go_sem, r1, r2]
end Go.Proofs.YtglnklfhgdjccaaGreat

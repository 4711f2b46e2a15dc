/- ref05.Move: the walk. -/
import Derived.Test.YtglnklfhgdjccaaGreatOwnD
namespace Go.Proofs.YtglnklfhgdjccaaGreat
open Go.RowKit Go.Lib
theorem setR_same {q : Plan} {k : Nat} (hk : k < q.parcels.length) : setR q k (pcAt q.parcels k).ring = q := by
  unfold setR
  have : (⟨(pcAt q.parcels k).id, (pcAt q.parcels k).ring, (pcAt q.parcels k).owner⟩ : Parc) = q.parcels[k] := by rw [pcAt_lt hk]
  rw [this, List.set_getElem_self]
theorem PlanOwn.head {B n c n' c' k : Nat} {W : World} {A A' : Option Addr} {p : Plan} {hs : List Hd} (h : PlanOwn B W A n c A' n' c' p hs) (hk : k < n') : ∃ ad, A' = some ad ∧ ad.block < W.heap.size ∧ B ≤ ad.block ∧ W.cell? ⟨(ad.add (k * 3)).block, (ad.add (k * 3)).off + 1, none⟩ = some (.slice (hdAt hs k).1 (hdAt hs k).2.1 (hdAt hs k).2.2) := by
  obtain ⟨ad, e, hb, hc⟩ := (Reads.of_own h.row).2 (by omega)
  subst e
  obtain ⟨-, g2, -⟩ := rowPV_at (hs := hs) (ps := p.parcels) (by rw [h.len, h.lenp]) (k := k) (by rw [h.lenp]; exact hk)
  exact ⟨ad, rfl, hb, (h.row.lt ad.block rfl).1, by rw [add_off3 _ _ _ (by omega)]; exact hc _ _ g2⟩
set_option maxRecDepth 100000 in
set_option maxHeartbeats 3200000 in
theorem refMove_any (p : Plan) (f t : Pt) (A A' : Option Addr) (n c n' c' : Nat) (w : World) (h : PlanAt w w.heap.size A n c A' n' c' p) (hf : f.inI) (ht : t.inI) :
    Calls Tryz.prog 40 #[planV A n c A' n' c', .agg #[.int .i64 f.x, .int .i64 f.y], .agg #[.int .i64 t.x, .int .i64 t.y]] w (ResPostS (moveP p f t) (moveE p f t) w) := by
  obtain ⟨wa, hwa⟩ : ∃ wa : World, wa = (((w.alloc (.cells #[.slice A n c, .slice A' n' c'] 26)).alloc (.cells #[.int .i64 f.x, .int .i64 f.y] 43)).alloc (.cells #[.int .i64 t.x, .int .i64 t.y] 43)).alloc (.cells #[.slice none 0 0, .slice none 0 0] 26) := ⟨_, rfl⟩
  have hB0 : Below w.heap.size w wa := by rw [hwa]; exact ((((Below.refl _ _).alloc (Nat.le_refl _) _).alloc (by simp) _).alloc (by simp; omega) _).alloc (by simp; omega) _
  have hX : PlK wa w.heap.size A n c A' n' c' := by rw [hwa]; exact Blk.alloc (Blk.alloc (Blk.alloc (PlK.new w A n c A' n' c') _) _) _
  have hY : PtK wa (w.heap.size + 1) f := by
    have := PtK.new (w.alloc (.cells #[.slice A n c, .slice A' n' c'] 26)) f
    rw [World.size_alloc] at this
    rw [hwa]
    exact Blk.alloc (Blk.alloc this _) _
  have hT : PtK wa (w.heap.size + 1 + 1) t := by
    have := PtK.new ((w.alloc (.cells #[.slice A n c, .slice A' n' c'] 26)).alloc (.cells #[.int .i64 f.x, .int .i64 f.y] 43)) t
    rw [World.size_alloc, World.size_alloc] at this
    rw [hwa]
    exact Blk.alloc this _
  have hZ : PlK wa (w.heap.size + 1 + 1 + 1) none 0 0 none 0 0 := by
    have := PlK.new (((w.alloc (.cells #[.slice A n c, .slice A' n' c'] 26)).alloc (.cells #[.int .i64 f.x, .int .i64 f.y] 43)).alloc (.cells #[.int .i64 t.x, .int .i64 t.y] 43)) none 0 0 none 0 0
    rw [World.size_alloc, World.size_alloc, World.size_alloc] at this
    rw [hwa]
    exact this
  have hP := h.on hB0
  have KB := Lib.hid (checkPR_any p A A' n c n' c' wa hP)
  obtain ⟨q1, q2, q3⟩ := hX.facts
  have H := Lib.hid (And.intro (And.intro hB0 hZ) (And.intro hX (And.intro hY (And.intro hT hP))))
  have HE : Hid (moveE p f t = if planB p = true then (if (good f && good t) = true then (if hasC p.parcels f = true then (if f ∈ p.outer then 10 else (if hasC p.parcels t = true then 6 else (if planB (eachP (movG f t) p) = true then 0 else 8))) else 5) else 3) else 2) := rfl
  have HI := Lib.hid (And.intro hf ht)
  clear hB0 hX hY hT hZ hP h hf ht
  go_enter Tryz.func40, Tryz.ntmps40
  go_upto_region 1 with fail
  rw [← hwa]
  clear hwa
  go_wp2_with fail
  refine KB.out.mono ?_
  rintro e w1 ⟨rfl, hb⟩
  have H' := Lib.hid (And.intro (And.intro (below_on H.out.1.1 (Nat.le_refl _) hb) (H.out.1.2.on hb)) (And.intro (H.out.2.1.on hb) (And.intro (show PtK w1 (w.heap.size + 1) f from Blk.below H.out.2.2.1 hb (Blk.lt H.out.2.2.1)) (And.intro (show PtK w1 (w.heap.size + 1 + 1) t from Blk.below H.out.2.2.2.1 hb (Blk.lt H.out.2.2.2.1)) (H.out.2.2.2.2.on hb)))))
  have HR := Lib.hid H'.out.1
  clear hb H
  have H := H'
  clear H'
  clear KB q1 q2 q3
  rcases hpb : planB p with _ | _
  · rw [hpb] at HE
    have hme : moveE p f t = 2 := HE.out
    have HM := Lib.hid hme
    clear HE hme hpb H
    obtain ⟨V, hV, r1, r2, hbV⟩ := res_store (g := w.heap.size + 1 + 1 + 1) HR.out.1 (by omega) HR.out.2 (.slice none 0 0) (.slice none 0 0)
    obtain ⟨s1, s2, f1, f2⟩ := plk_facts4 HR.out.2
    have HV := Lib.hid hV
    have HR := Lib.hid (And.intro r1 (And.intro r2 hbV))
    clear hV r1 r2 hbV
    go_wp2_with fail
    rw [← HV.out]
    obtain ⟨r1, r2, hbV⟩ := HR.out
    refine bodyPost_ret (v := .tuple #[planV none 0 0 none 0 0, .int .i64 2]) ?_ rfl (by rw [HM.out]; exact resPostS_no (moveP_no HM.out (by decide)) hbV)
    simp [results, Tryz.results40, go_sem, r1, r2]
  rw [hpb, if_pos rfl] at HE
  have HS := Lib.hid (planB_sound hpb)
  clear hpb HR
  obtain ⟨r1, r2, -, -, -⟩ := PtK.facts H.out.2.2.1
  obtain ⟨t1, t2, -, -, -⟩ := PtK.facts H.out.2.2.2.1
  have hb : Below w1.heap.size w1 (w1.alloc (.cells #[.int .i64 f.x, .int .i64 f.y, .int .i64 t.x, .int .i64 t.y] 43)) := (Below.refl _ _).alloc (Nat.le_refl _) _
  have KG := Lib.hid (goodR_any [f, t] (some ⟨w1.heap.size, 0, none⟩) 2 2 _ (Reads.made w1 #[.int .i64 f.x, .int .i64 f.y, .int .i64 t.x, .int .i64 t.y] 43 (0, 0) 2 2 (ptsV [f, t]) rfl rfl) (by omega) (fun r hr => by
    simp at hr
    rcases hr with rfl | rfl
    · exact HI.out.1
    · exact HI.out.2))
  have H' := Lib.hid (And.intro (And.intro (below_on H.out.1.1 (Nat.le_refl _) hb) (H.out.1.2.on hb)) (And.intro (H.out.2.1.on hb) (And.intro (show PtK _ (w.heap.size + 1) f from Blk.below H.out.2.2.1 hb (Blk.lt H.out.2.2.1)) (And.intro (show PtK _ (w.heap.size + 1 + 1) t from Blk.below H.out.2.2.2.1 hb (Blk.lt H.out.2.2.2.1)) (H.out.2.2.2.2.on hb)))))
  have HR := Lib.hid H'.out.1
  clear hb H
  have H := H'
  clear H'
  go_wp2_with fail
  refine KG.out.mono ?_
  rintro e w2 ⟨rfl, hb⟩
  clear HR
  have H' := Lib.hid (And.intro (And.intro (below_on H.out.1.1 (Nat.le_refl _) hb) (H.out.1.2.on hb)) (And.intro (H.out.2.1.on hb) (And.intro (show PtK w2 (w.heap.size + 1) f from Blk.below H.out.2.2.1 hb (Blk.lt H.out.2.2.1)) (And.intro (show PtK w2 (w.heap.size + 1 + 1) t from Blk.below H.out.2.2.2.1 hb (Blk.lt H.out.2.2.2.1)) (H.out.2.2.2.2.on hb)))))
  have HR := Lib.hid H'.out.1
  clear hb H
  have H := H'
  clear H'
  clear KG r1 r2 t1 t2
  rw [goodL_two]
  rcases hgd : (good f && good t) with _ | _
  · rw [hgd] at HE
    have hme : moveE p f t = 3 := HE.out
    have HM := Lib.hid hme
    clear HE hme hgd H
    obtain ⟨V, hV, r1, r2, hbV⟩ := res_store (g := w.heap.size + 1 + 1 + 1) HR.out.1 (by omega) HR.out.2 (.slice none 0 0) (.slice none 0 0)
    obtain ⟨s1, s2, f1, f2⟩ := plk_facts4 HR.out.2
    have HV := Lib.hid hV
    have HR := Lib.hid (And.intro r1 (And.intro r2 hbV))
    clear hV r1 r2 hbV
    go_wp2_with fail
    rw [← HV.out]
    obtain ⟨r1, r2, hbV⟩ := HR.out
    refine bodyPost_ret (v := .tuple #[planV none 0 0 none 0 0, .int .i64 3]) ?_ rfl (by rw [HM.out]; exact resPostS_no (moveP_no HM.out (by decide)) hbV)
    simp [results, Tryz.results40, go_sem, r1, r2]
  rw [hgd, if_pos rfl] at HE
  have HG := Lib.hid (by rw [Bool.and_eq_true] at hgd; exact hgd : good f = true ∧ good t = true)
  clear hgd
  obtain ⟨q1, q2, q3⟩ := H.out.2.1.facts
  obtain ⟨r1, r2, -, -, -⟩ := PtK.facts H.out.2.2.1
  have KH := Lib.hid (cornerR_any p f A A' n c n' c' w2 H.out.2.2.2.2)
  go_wp2_with fail
  refine KH.out.mono ?_
  rintro e w3 ⟨rfl, hb⟩
  clear HR
  have H' := Lib.hid (And.intro (And.intro (below_on H.out.1.1 (Nat.le_refl _) hb) (H.out.1.2.on hb)) (And.intro (H.out.2.1.on hb) (And.intro (show PtK w3 (w.heap.size + 1) f from Blk.below H.out.2.2.1 hb (Blk.lt H.out.2.2.1)) (And.intro (show PtK w3 (w.heap.size + 1 + 1) t from Blk.below H.out.2.2.2.1 hb (Blk.lt H.out.2.2.2.1)) (H.out.2.2.2.2.on hb)))))
  have HR := Lib.hid H'.out.1
  clear hb H
  have H := H'
  clear H'
  clear KH q1 q2 q3 r1 r2
  rcases hh1 : hasC p.parcels f with _ | _
  · rw [hh1] at HE
    have hme : moveE p f t = 5 := HE.out
    have HM := Lib.hid hme
    clear HE hme hh1 H
    obtain ⟨V, hV, r1, r2, hbV⟩ := res_store (g := w.heap.size + 1 + 1 + 1) HR.out.1 (by omega) HR.out.2 (.slice none 0 0) (.slice none 0 0)
    obtain ⟨s1, s2, f1, f2⟩ := plk_facts4 HR.out.2
    have HV := Lib.hid hV
    have HR := Lib.hid (And.intro r1 (And.intro r2 hbV))
    clear hV r1 r2 hbV
    go_wp2_with fail
    rw [← HV.out]
    obtain ⟨r1, r2, hbV⟩ := HR.out
    refine bodyPost_ret (v := .tuple #[planV none 0 0 none 0 0, .int .i64 5]) ?_ rfl (by rw [HM.out]; exact resPostS_no (moveP_no HM.out (by decide)) hbV)
    simp [results, Tryz.results40, go_sem, r1, r2]
  rw [hh1, if_pos rfl] at HE
  clear hh1
  obtain ⟨q1, q2, q3⟩ := H.out.2.1.facts
  obtain ⟨r1, r2, -, -, -⟩ := PtK.facts H.out.2.2.1
  have KC := Lib.hid (inR_any p.outer f A n c w3 H.out.2.2.2.2.outer H.out.2.2.2.2.lens.2.2.1)
  go_wp2_with fail
  refine KC.out.mono ?_
  rintro e w4 ⟨rfl, hb⟩
  clear HR
  have H' := Lib.hid (And.intro (And.intro (below_on H.out.1.1 (Nat.le_refl _) hb) (H.out.1.2.on hb)) (And.intro (H.out.2.1.on hb) (And.intro (show PtK w4 (w.heap.size + 1) f from Blk.below H.out.2.2.1 hb (Blk.lt H.out.2.2.1)) (And.intro (show PtK w4 (w.heap.size + 1 + 1) t from Blk.below H.out.2.2.2.1 hb (Blk.lt H.out.2.2.2.1)) (H.out.2.2.2.2.on hb)))))
  have HR := Lib.hid H'.out.1
  clear hb H
  have H := H'
  clear H'
  clear KC q1 q2 q3 r1 r2
  by_cases hio : f ∈ p.outer
  · rw [if_pos hio] at HE
    have hge : 0 ≤ idxPt p.outer f := idx_nonneg.2 hio
    generalize idxPt p.outer f = ix at *
    have HM := Lib.hid HE.out
    clear HE hio H
    obtain ⟨V, hV, r1, r2, hbV⟩ := res_store (g := w.heap.size + 1 + 1 + 1) HR.out.1 (by omega) HR.out.2 (.slice none 0 0) (.slice none 0 0)
    obtain ⟨s1, s2, f1, f2⟩ := plk_facts4 HR.out.2
    have HV := Lib.hid hV
    have HR := Lib.hid (And.intro r1 (And.intro r2 hbV))
    clear hV r1 r2 hbV
    go_wp2_with fail
    rw [← HV.out]
    obtain ⟨r1, r2, hbV⟩ := HR.out
    refine bodyPost_ret (v := .tuple #[planV none 0 0 none 0 0, .int .i64 10]) ?_ rfl (by rw [HM.out]; exact resPostS_no (moveP_no HM.out (by decide)) hbV)
    simp [results, Tryz.results40, go_sem, r1, r2]
  rw [if_neg hio] at HE
  have hge : ¬ 0 ≤ idxPt p.outer f := fun h => hio (idx_nonneg.1 h)
  generalize idxPt p.outer f = ix at *
  have HIO := Lib.hid hio
  clear hio
  obtain ⟨q1, q2, q3⟩ := H.out.2.1.facts
  obtain ⟨t1, t2, -, -, -⟩ := PtK.facts H.out.2.2.2.1
  have KH := Lib.hid (cornerR_any p t A A' n c n' c' w4 H.out.2.2.2.2)
  go_wp2_with fail
  refine KH.out.mono ?_
  rintro e w5 ⟨rfl, hb⟩
  clear HR
  have H' := Lib.hid (And.intro (And.intro (below_on H.out.1.1 (Nat.le_refl _) hb) (H.out.1.2.on hb)) (And.intro (H.out.2.1.on hb) (And.intro (show PtK w5 (w.heap.size + 1) f from Blk.below H.out.2.2.1 hb (Blk.lt H.out.2.2.1)) (And.intro (show PtK w5 (w.heap.size + 1 + 1) t from Blk.below H.out.2.2.2.1 hb (Blk.lt H.out.2.2.2.1)) (H.out.2.2.2.2.on hb)))))
  have HR := Lib.hid H'.out.1
  clear hb H
  have H := H'
  clear H'
  clear KH q1 q2 q3 t1 t2 hge
  rcases hh2 : hasC p.parcels t with _ | _
  case true =>
    rw [hh2] at HE
    have hme : moveE p f t = 6 := HE.out
    have HM := Lib.hid hme
    clear HE hme hh2 H
    obtain ⟨V, hV, r1, r2, hbV⟩ := res_store (g := w.heap.size + 1 + 1 + 1) HR.out.1 (by omega) HR.out.2 (.slice none 0 0) (.slice none 0 0)
    obtain ⟨s1, s2, f1, f2⟩ := plk_facts4 HR.out.2
    have HV := Lib.hid hV
    have HR := Lib.hid (And.intro r1 (And.intro r2 hbV))
    clear hV r1 r2 hbV
    go_wp2_with fail
    rw [← HV.out]
    obtain ⟨r1, r2, hbV⟩ := HR.out
    refine bodyPost_ret (v := .tuple #[planV none 0 0 none 0 0, .int .i64 6]) ?_ rfl (by rw [HM.out]; exact resPostS_no (moveP_no HM.out (by decide)) hbV)
    simp [results, Tryz.results40, go_sem, r1, r2]
  rw [hh2, if_neg (by decide)] at HE
  clear hh2 HR
  obtain ⟨q1, q2, q3⟩ := H.out.2.1.facts
  have KO := Lib.hid (ownPlD_any p A A' n c n' c' w5 H.out.2.2.2.2 (by have := (listed_bd HS.out.1).2.1; have := H.out.2.2.2.2.lens.2.1; omega))
  have HLF : Hid (∀ k, k ≤ p.parcels.length → (mapTo (movG f t) p k).fits) := fun k hk => mapTo_fits H.out.2.2.2.2.fits (fun xs hx => ⟨by have := (mov_ok HS.out HG.out.2 (f := f) xs hx).1; omega, (mov_ok HS.out HG.out.2 xs hx).2⟩) hk
  go_wp2_with fail
  refine KO.out.mono ?_
  rintro e w6 ⟨A1, n1, c1, A2, n2, c2, hs, rfl, hpo, hdis, hb6⟩
  obtain ⟨w8, hw8⟩ : ∃ w8, w8 = w6.alloc (.cells #[.slice A1 n1 c1, .slice A2 n2 c2] 26) := ⟨_, rfl⟩
  have hba : Below w6.heap.size w6 w8 := by rw [hw8]; exact (Below.refl _ _).alloc (Nat.le_refl _) _
  have hQ : PlK w8 w6.heap.size A1 n1 c1 A2 n2 c2 := by rw [hw8]; exact PlK.new w6 A1 n1 c1 A2 n2 c2
  obtain ⟨Bq, hBq⟩ : ∃ Bq, Bq = w6.heap.size := ⟨_, rfl⟩
  rw [← hBq] at hQ
  have hb := below_on hb6 (Nat.le_refl _) hba
  have hB5 : w.heap.size + 1 + 1 + 1 < w5.heap.size := Blk.lt H.out.1.2
  obtain ⟨B5, hB5e⟩ : ∃ B5, B5 = w5.heap.size := ⟨_, rfl⟩
  rw [← hB5e] at hpo hB5
  have hm0 : mapTo (movG f t) p 0 = p := by rw [mapTo_zero, movG_out HIO.out]
  have hn2 : p.parcels.length = n2 := hpo.lenp
  have H8 : Hid (Below w.heap.size w w8 ∧ PlK w8 (w.heap.size + 1 + 1 + 1) none 0 0 none 0 0 ∧ PtK w8 (w.heap.size + 1) f ∧ PtK w8 (w.heap.size + 1 + 1) t ∧ PlK w8 Bq A1 n1 c1 A2 n2 c2 ∧ PlanOwn B5 w8 A1 n1 c1 A2 n2 c2 (mapTo (movG f t) p 0) hs) :=
    ⟨below_on H.out.1.1 (Nat.le_refl _) hb, H.out.1.2.on hb, Blk.below H.out.2.2.1 hb (Blk.lt H.out.2.2.1), Blk.below H.out.2.2.2.1 hb (Blk.lt H.out.2.2.2.1), hQ, by rw [hm0]; exact hpo.below hba⟩
  have HN := Lib.hid (And.intro hn2 (And.intro hdis hB5))
  have HLX := Lib.hid H.out.2.2.2.2.lens
  clear hpo hdis hb6 hba hQ hb hB5 hB5e hm0 hn2 H KO q1 q2 q3
  go_upto_region 12 with fail
  rw [← hw8, ← hBq]
  clear hw8 hBq
  go_wp2_with fail
  go_loopw [9] (fun i wr => ∃ k : Nat, k ≤ n2 ∧ i = .int .i64 (k : Int) ∧ Hid (Below w.heap.size w wr ∧ PlK wr (w.heap.size + 1 + 1 + 1) none 0 0 none 0 0 ∧ PtK wr (w.heap.size + 1) f ∧ PtK wr (w.heap.size + 1 + 1) t ∧ PlK wr Bq A1 n1 c1 A2 n2 c2 ∧ PlanOwn B5 wr A1 n1 c1 A2 n2 c2 (mapTo (movG f t) p k) hs)) (fun i _ => n2 - (intOf i).toNat)
  case atStart => exact ⟨0, Nat.zero_le _, rfl, H8⟩
  case round =>
    clear H8
    obtain ⟨k, hk, rfl, HW⟩ := hrel
    obtain ⟨q1, q2, q3⟩ := HW.out.2.2.2.2.1.facts
    by_cases hlt : k < n2
    · have hlt' : (k : Int) < (n2 : Int) := by omega
      have hw1 : IntKind.i64.wrap ((k : Int) + 1) = (k : Int) + 1 := by rw [IntKind.wrap_i64]; have := HLX.out.2.2.2; have := HLX.out.2.1; have := HN.out.1; omega
      obtain ⟨ad, rfl, hbd, hbB, p2⟩ := HW.out.2.2.2.2.2.head hlt
      have hlk : k < p.parcels.length := by have := HN.out.1; omega
      have hring := HW.out.2.2.2.2.2.rings k hlt
      rw [mapTo_at hlk] at hring
      obtain ⟨⟨Ar, nr, cr⟩, hhd⟩ : ∃ z, z = hdAt hs k := ⟨_, rfl⟩
      rw [← hhd] at p2 hring
      simp only at p2 hring
      obtain ⟨x, hx⟩ : ∃ x, x = pcAt p.parcels k := ⟨_, rfl⟩
      rw [← hx] at hring
      have hxr : ringOf p x.ring := .inr ⟨x, by rw [hx, pcAt_lt hlk]; exact List.getElem_mem _, rfl⟩
      have hlx : x.ring.length = nr := (Reads.of_own hring).lenPt
      have hl128 := (sound_ring HS.out hxr).2.1
      have HMN := Lib.hid (show setR (mapTo (movG f t) p k) k (movG f t x.ring) = mapTo (movG f t) p (k + 1) by rw [hx]; exact mapTo_next hlk)
      have HXX := Lib.hid (And.intro hx (And.intro hlk (And.intro hhd hlx)))
      have kF := inR_any x.ring f Ar nr cr wr.drew ((Reads.of_own hring).on (Below.refl _ _).drew) (by omega)
      obtain ⟨r1, r2, -, -, -⟩ := PtK.facts HW.out.2.2.1
      have hP0 : wr.drew.cell? ⟨Bq, 1, none⟩ = some (.slice (some ad) n2 c2) ∧ wr.drew.cell? ⟨(ad.add (k * 3)).block, (ad.add (k * 3)).off + 1, none⟩ = some (.slice Ar nr cr) ∧ wr.drew.cell? ⟨w.heap.size + 1, 0, none⟩ = some (.int .i64 f.x) ∧ wr.drew.cell? ⟨w.heap.size + 1, 1, none⟩ = some (.int .i64 f.y) ∧ Below wr.heap.size wr wr.drew := ⟨q2, p2, r1, r2, (Below.refl _ _).drew⟩
      have hh : (⟨Bq, 1, none⟩ : Addr).block < wr.heap.size ∧ (⟨(ad.add (k * 3)).block, (ad.add (k * 3)).off + 1, none⟩ : Addr).block < wr.heap.size ∧ (⟨w.heap.size + 1, 0, none⟩ : Addr).block < wr.heap.size ∧ (⟨w.heap.size + 1, 1, none⟩ : Addr).block < wr.heap.size := by
        have := Blk.lt HW.out.2.2.1
        simp only [block_of_add]
        exact ⟨q3, hbd, this, this⟩
      have HRG := Lib.hid hring
      clear q1 q3 r1 r2 p2 hring hx hhd hlx hxr hlk
      go_upto_region 15 with fail
      clear q2
      refine wp_region_held_drew (S := fun V => V.cell? ⟨Bq, 1, none⟩ = some (.slice (some ad) n2 c2) ∧ V.cell? ⟨(ad.add (k * 3)).block, (ad.add (k * 3)).off + 1, none⟩ = some (.slice Ar nr cr) ∧ V.cell? ⟨w.heap.size + 1, 0, none⟩ = some (.int .i64 f.x) ∧ V.cell? ⟨w.heap.size + 1, 1, none⟩ = some (.int .i64 f.y) ∧ Below wr.heap.size wr V) (by kernel_rfl) ?_ (fun hHeld => ?_)
      · exact hP0
      refine wpAnyH_take (i := 0) (v := ?_) rfl (by kernel_rfl) (by kernel_rfl) (by kernel_rfl) (fun _ _ _ h => h) (Or.inl ⟨by rfl, ?_⟩) (by assumption) ?_
      rotate_left
      · intro w hSw; (try dsimp only at hSw); go_simp; try with_reducible rfl
      simp only [Act.put, List.setIfInBounds_toArray, List.set_cons_zero, List.set_cons_succ, List.getElem_toArray, List.getElem_cons_zero]
      refine wpAnyH_take (i := 1) (v := ?_) rfl (by kernel_rfl) (by kernel_rfl) (by kernel_rfl) (fun _ _ _ h => h) (Or.inl ⟨by rfl, ?_⟩) (by assumption) ?_
      rotate_left
      · intro w hSw; (try dsimp only at hSw); go_simp; try with_reducible rfl
      simp only [Act.put, List.setIfInBounds_toArray, List.set_cons_zero, List.set_cons_succ, List.getElem_toArray, List.getElem_cons_zero, List.getElem_cons_succ]
      refine wpAnyH_take (i := 2) (v := ?_) rfl (by kernel_rfl) (by kernel_rfl) (by kernel_rfl) (fun _ _ _ h => h) (Or.inl ⟨by rfl, ?_⟩) (by assumption) ?_
      rotate_left
      · intro w hSw; (try dsimp only at hSw); go_simp; try with_reducible rfl
      simp only [Act.put, List.setIfInBounds_toArray, List.set_cons_zero, List.set_cons_succ, List.getElem_toArray, List.getElem_cons_zero, List.getElem_cons_succ]
      refine wpAnyH_take (i := 3) (v := ?_) rfl (by kernel_rfl) (by kernel_rfl) (by kernel_rfl) (fun _ _ _ h => h) (Or.inl ⟨by rfl, ?_⟩) (by assumption) ?_
      rotate_left
      · intro w hSw; (try dsimp only at hSw); go_simp; try with_reducible rfl
      simp only [Act.put, List.setIfInBounds_toArray, List.set_cons_zero, List.set_cons_succ, List.getElem_toArray, List.getElem_cons_zero, List.getElem_cons_succ]
      refine wpAnyH_take (i := 4) (v := ?_) rfl (by kernel_rfl) (by kernel_rfl) (by kernel_rfl) (fun _ _ _ h => h) (Or.inl ⟨by rfl, ?_⟩) (by assumption) ?_
      rotate_left
      · intro w hSw; (try dsimp only at hSw); go_simp; try with_reducible rfl
      simp only [Act.put, List.setIfInBounds_toArray, List.set_cons_zero, List.set_cons_succ, List.getElem_toArray, List.getElem_cons_zero, List.getElem_cons_succ]
      refine wpAnyH_take (i := 5) (v := ?_) rfl (by kernel_rfl) (by kernel_rfl) (by kernel_rfl) (fun _ _ _ h => h) (Or.inl ⟨by rfl, ?_⟩) (by assumption) ?_
      rotate_left
      · intro w hSw; (try dsimp only at hSw); go_simp; try with_reducible rfl
      simp only [Act.put, List.setIfInBounds_toArray, List.set_cons_zero, List.set_cons_succ, List.getElem_toArray, List.getElem_cons_zero, List.getElem_cons_succ]
      refine wpAnyH_take (i := 6) (v := ?_) rfl (by kernel_rfl) (by kernel_rfl) (by kernel_rfl) (fun _ _ _ h => h) (Or.inl ⟨by rfl, ?_⟩) (by assumption) ?_
      rotate_left
      · intro w hSw; (try dsimp only at hSw); go_simp; try with_reducible rfl
      simp only [Act.put, List.setIfInBounds_toArray, List.set_cons_zero, List.set_cons_succ, List.getElem_toArray, List.getElem_cons_zero, List.getElem_cons_succ]
      refine wpAnyH_ready (rs := [7]) (by kernel_rfl) (by simp) ?_
      refine AllReadyH.cons rfl (fun K hK => ?_) AllReadyH.nil
      go_simp
      go_at_call 42
      (with_reducible refine (kF).mono ?_)
      rintro e w7 ⟨rfl, hb'⟩
      try dsimp only
      refine hK.out _ _ ?_ (fun hHeld => ?_)
      · exact hld4 hh hP0 hb'
      clear hK K
      try simp only [Act.put, List.setIfInBounds_toArray, List.set_cons_zero, List.set_cons_succ]
      refine wpAnyH_take (i := 8) (v := ?_) rfl (by kernel_rfl) (by kernel_rfl) (by kernel_rfl) (fun _ _ _ h => h) (Or.inl ⟨by rfl, ?_⟩) (by assumption) ?_
      rotate_left
      · intro w hSw; (try dsimp only at hSw); go_simp; try with_reducible rfl
      simp only [Act.put, List.setIfInBounds_toArray, List.set_cons_zero, List.set_cons_succ, List.getElem_toArray, List.getElem_cons_zero, List.getElem_cons_succ]
      refine wpAnyH_done (by kernel_rfl) ?_ _
      have hb7 := hHeld.2.2.2.2
      have H7 : Hid (Below w.heap.size w w7 ∧ PlK w7 (w.heap.size + 1 + 1 + 1) none 0 0 none 0 0 ∧ PtK w7 (w.heap.size + 1) f ∧ PtK w7 (w.heap.size + 1 + 1) t ∧ PlK w7 Bq A1 n1 c1 (some ad) n2 c2 ∧ PlanOwn B5 w7 A1 n1 c1 (some ad) n2 c2 (mapTo (movG f t) p k) hs) := ⟨below_on HW.out.1 (Nat.le_refl _) hb7, HW.out.2.1.on hb7, Blk.below HW.out.2.2.1 hb7 (Blk.lt HW.out.2.2.1), Blk.below HW.out.2.2.2.1 hb7 (Blk.lt HW.out.2.2.2.1), HW.out.2.2.2.2.1.on hb7, HW.out.2.2.2.2.2.below hb7⟩
      have hrg7 := own_below HRG.out hb7
      have hbd7 : ad.block < w7.heap.size := by have := hb7.size; omega
      clear hP0 hHeld hh hb7 hb' HW HRG hbd
      by_cases hin : f ∈ x.ring
      · obtain ⟨j, hjl, hix, -, -⟩ := idx_lt hin
        obtain ⟨-, hmv⟩ := movG_at (t := t) hix
        rw [hix]
        have hj : j < nr := by have := HXX.out.2.2.2; omega
        have hj' : (j : Int) < (nr : Int) := by omega
        have hj0 : 0 ≤ (j : Int) := by omega
        obtain ⟨g, cap', e, -, -⟩ := hrg7.form (by omega)
        obtain ⟨rd, rfl⟩ : ∃ rd, Ar = some rd := by cases e; exact ⟨_, rfl⟩
        obtain ⟨hown, f1, f2, hB, hltr, f3, p3⟩ := own_put_pt hrg7 hj t
        obtain ⟨-, p1, p2⟩ := (Reads.of_own hrg7).ptA hj
        rw [p2] at p3
        obtain ⟨ad', e', -, -, pc⟩ := H7.out.2.2.2.2.2.head hlt
        cases e'
        rw [← HXX.out.2.2.1] at pc
        simp only at pc
        have hpo := PlanOwn.setPoint H7.out.2.2.2.2.2 HN.out.2.1 hlt HXX.out.2.2.1.symm hj t (by
          rw [mapTo_at HXX.out.2.1, ← HXX.out.1, ← hmv, HMN.out]
          exact HLF.out _ (by have := HXX.out.2.1; omega))
        rw [mapTo_at HXX.out.2.1, ← HXX.out.1, ← hmv, HMN.out] at hpo
        obtain ⟨q1, q2, q3⟩ := H7.out.2.2.2.2.1.facts
        obtain ⟨t1, t2, -, -, -⟩ := PtK.facts H7.out.2.2.2.1
        have hne1 : rd.block ≠ Bq := fun e => own_blk_ne hrg7 H7.out.2.2.2.2.1 (by decide) (by rw [← e]; rfl)
        have hne2 : rd.block ≠ ad.block := fun e => own_own_ne hrg7 H7.out.2.2.2.2.2.row (by decide) (g := rd.block) rfl (by rw [e]; rfl)
        have hne3 : rd.block ≠ w.heap.size + 1 + 1 := by have := HN.out.2.2; omega
        have hne4 : rd.block ≠ w.heap.size + 1 := by have := HN.out.2.2; omega
        have hne5 : rd.block ≠ w.heap.size + 1 + 1 + 1 := by have := HN.out.2.2; omega
        have hge : w.heap.size ≤ rd.block := by have := HN.out.2.2; omega
        have hP0 : w7.drew.cell? ⟨Bq, 1, none⟩ = some (.slice (some ad) n2 c2) ∧ w7.drew.cell? ⟨(ad.add (k * 3)).block, (ad.add (k * 3)).off + 1, none⟩ = some (.slice (some rd) nr cr) ∧ w7.drew.cell? ⟨w.heap.size + 1 + 1, 0, none⟩ = some (.int .i64 t.x) ∧ w7.drew.cell? ⟨w.heap.size + 1 + 1, 1, none⟩ = some (.int .i64 t.y) := ⟨q2, pc, t1, t2⟩
        have HPO := Lib.hid hpo
        have HNE := Lib.hid (And.intro hne1 (And.intro hne4 (And.intro hne3 (And.intro hne5 hge))))
        clear hown hpo hB hltr hix hmv hin e q1 q2 q3 t1 t2 pc hrg7 hbd7
        generalize ptAt x.ring j = pk at *
        go_upto_region 17 with fail
        refine wp_region_held_drew (S := fun V => V.cell? ⟨Bq, 1, none⟩ = some (.slice (some ad) n2 c2) ∧ V.cell? ⟨(ad.add (k * 3)).block, (ad.add (k * 3)).off + 1, none⟩ = some (.slice (some rd) nr cr) ∧ V.cell? ⟨w.heap.size + 1 + 1, 0, none⟩ = some (.int .i64 t.x) ∧ V.cell? ⟨w.heap.size + 1 + 1, 1, none⟩ = some (.int .i64 t.y)) (by kernel_rfl) ?_ (fun hHeld => ?_)
        · exact hP0
        refine wpAnyH_take (i := 0) (v := ?_) rfl (by kernel_rfl) (by kernel_rfl) (by kernel_rfl) (fun _ _ _ h => h) (Or.inl ⟨by rfl, ?_⟩) (by assumption) ?_
        rotate_left
        · intro w hSw; (try dsimp only at hSw); go_simp; try with_reducible rfl
        simp only [Act.put, List.setIfInBounds_toArray, List.set_cons_zero, List.set_cons_succ, List.getElem_toArray, List.getElem_cons_zero]
        refine wpAnyH_take (i := 1) (v := ?_) rfl (by kernel_rfl) (by kernel_rfl) (by kernel_rfl) (fun _ _ _ h => h) (Or.inl ⟨by rfl, ?_⟩) (by assumption) ?_
        rotate_left
        · intro w hSw; (try dsimp only at hSw); go_simp; try with_reducible rfl
        simp only [Act.put, List.setIfInBounds_toArray, List.set_cons_zero, List.set_cons_succ, List.getElem_toArray, List.getElem_cons_zero, List.getElem_cons_succ]
        refine wpAnyH_take (i := 2) (v := ?_) rfl (by kernel_rfl) (by kernel_rfl) (by kernel_rfl) (fun _ _ _ h => h) (Or.inl ⟨by rfl, ?_⟩) (by assumption) ?_
        rotate_left
        · intro w hSw; (try dsimp only at hSw); go_simp; try with_reducible rfl
        simp only [Act.put, List.setIfInBounds_toArray, List.set_cons_zero, List.set_cons_succ, List.getElem_toArray, List.getElem_cons_zero, List.getElem_cons_succ]
        refine wpAnyH_take (i := 3) (v := ?_) rfl (by kernel_rfl) (by kernel_rfl) (by kernel_rfl) (fun _ _ _ h => h) (Or.inl ⟨by rfl, ?_⟩) (by assumption) ?_
        rotate_left
        · intro w hSw; (try dsimp only at hSw); go_simp; try with_reducible rfl
        simp only [Act.put, List.setIfInBounds_toArray, List.set_cons_zero, List.set_cons_succ, List.getElem_toArray, List.getElem_cons_zero, List.getElem_cons_succ]
        refine wpAnyH_take (i := 4) (v := ?_) rfl (by kernel_rfl) (by kernel_rfl) (by kernel_rfl) (fun _ _ _ h => h) (Or.inl ⟨by rfl, ?_⟩) (by assumption) ?_
        rotate_left
        · intro w hSw; (try dsimp only at hSw); go_simp; try with_reducible rfl
        simp only [Act.put, List.setIfInBounds_toArray, List.set_cons_zero, List.set_cons_succ, List.getElem_toArray, List.getElem_cons_zero, List.getElem_cons_succ]
        refine wpAnyH_take (i := 5) (v := ?_) rfl (by kernel_rfl) (by kernel_rfl) (by kernel_rfl) (fun _ _ _ h => h) (Or.inl ⟨by rfl, ?_⟩) (by assumption) ?_
        rotate_left
        · intro w hSw; (try dsimp only at hSw); go_simp; try with_reducible rfl
        simp only [Act.put, List.setIfInBounds_toArray, List.set_cons_zero, List.set_cons_succ, List.getElem_toArray, List.getElem_cons_zero, List.getElem_cons_succ]
        refine wpAnyH_take (i := 6) (v := ?_) rfl (by kernel_rfl) (by kernel_rfl) (by kernel_rfl) (fun _ _ _ h => h) (Or.inl ⟨by rfl, ?_⟩) (by assumption) ?_
        rotate_left
        · intro w hSw; (try dsimp only at hSw); go_simp; try with_reducible rfl
        simp only [Act.put, List.setIfInBounds_toArray, List.set_cons_zero, List.set_cons_succ, List.getElem_toArray, List.getElem_cons_zero, List.getElem_cons_succ]
        refine wpAnyH_take (i := 7) (v := ?_) rfl (by kernel_rfl) (by kernel_rfl) (by kernel_rfl) (fun _ _ _ h => h) (Or.inl ⟨by rfl, ?_⟩) (by assumption) ?_
        rotate_left
        · intro w hSw; (try dsimp only at hSw); go_simp; try with_reducible rfl
        simp only [Act.put, List.setIfInBounds_toArray, List.set_cons_zero, List.set_cons_succ, List.getElem_toArray, List.getElem_cons_zero, List.getElem_cons_succ]
        refine wpAnyH_take (i := 8) (v := ?_) rfl (by kernel_rfl) (by kernel_rfl) (by kernel_rfl) (fun _ _ _ h => h) (Or.inl ⟨by rfl, ?_⟩) (by assumption) ?_
        rotate_left
        · intro w hSw; (try dsimp only at hSw); go_simp; try with_reducible rfl
        simp only [Act.put, List.setIfInBounds_toArray, List.set_cons_zero, List.set_cons_succ, List.getElem_toArray, List.getElem_cons_zero, List.getElem_cons_succ]
        refine wpAnyH_ready (rs := [9]) (by kernel_rfl) (by simp) ?_
        refine AllReadyH.cons rfl (fun K hK => ?_) AllReadyH.nil
        go_simp
        refine hK.out _ _ ?_ (fun hHeld => ?_)
        · exact ⟨(World.cell?_setCell_other _ _ _ _ (fun e => hne1 (by have := congrArg Addr.block e; simpa [block_of_add] using this))).trans ((World.cell?_setCell_other _ _ _ _ (fun e => hne1 (by have := congrArg Addr.block e; simpa [block_of_add] using this))).trans hP0.1), (World.cell?_setCell_other _ _ _ _ (fun e => hne2 (by have := congrArg Addr.block e; simpa [block_of_add] using this))).trans ((World.cell?_setCell_other _ _ _ _ (fun e => hne2 (by have := congrArg Addr.block e; simpa [block_of_add] using this))).trans hP0.2.1), (World.cell?_setCell_other _ _ _ _ (fun e => hne3 (by have := congrArg Addr.block e; simpa [block_of_add] using this))).trans ((World.cell?_setCell_other _ _ _ _ (fun e => hne3 (by have := congrArg Addr.block e; simpa [block_of_add] using this))).trans hP0.2.2.1), (World.cell?_setCell_other _ _ _ _ (fun e => hne3 (by have := congrArg Addr.block e; simpa [block_of_add] using this))).trans ((World.cell?_setCell_other _ _ _ _ (fun e => hne3 (by have := congrArg Addr.block e; simpa [block_of_add] using this))).trans hP0.2.2.2)⟩
        clear hK K
        try simp only [Act.put, List.setIfInBounds_toArray, List.set_cons_zero, List.set_cons_succ]
        refine wpAnyH_done (by kernel_rfl) ?_ _
        have hd := fun (g : Nat) (cs : Array Value) (ty : TypeId) (hb : Blk w7 g ty cs) (hg : rd.block ≠ g) => Blk.far (p := ⟨(rd.add (j * 2)).block, (rd.add (j * 2)).off + 1, none⟩) (Blk.far (p := rd.add (j * 2)) hb (by rw [block_of_add]; exact fun e => hg e.symm) (.int .i64 t.x)) (by simp only [block_of_add]; exact fun e => hg e.symm) (.int .i64 t.y)
        have k1 := hd _ _ _ H7.out.2.1 HNE.out.2.2.2.1
        have k2 := hd _ _ _ H7.out.2.2.1 HNE.out.2.1
        have k3 := hd _ _ _ H7.out.2.2.2.1 HNE.out.2.2.1
        have k4 := hd _ _ _ H7.out.2.2.2.2.1 HNE.out.1
        have k5 := (H7.out.1.setCell (p := rd.add (j * 2)) (by rw [block_of_add]; exact HNE.out.2.2.2.2) (.int .i64 t.x)).setCell (p := ⟨(rd.add (j * 2)).block, (rd.add (j * 2)).off + 1, none⟩) (by simp only [block_of_add]; exact HNE.out.2.2.2.2) (.int .i64 t.y)
        have k6 := HPO.out
        obtain ⟨V, hV⟩ : ∃ V, V = (w7.setCell (rd.add (j * 2)) (.int .i64 t.x)).setCell ⟨(rd.add (j * 2)).block, (rd.add (j * 2)).off + 1, none⟩ (.int .i64 t.y) := ⟨_, rfl⟩
        rw [← hV] at k1 k2 k3 k4 k5 k6
        have hdr : Below V.heap.size V V.drew := (Below.refl _ _).drew
        have H9 := Lib.hid (And.intro (below_on k5 (Nat.le_refl _) hdr) (And.intro (Blk.below k1 hdr (Blk.lt k1)) (And.intro (Blk.below k2 hdr (Blk.lt k2)) (And.intro (Blk.below k3 hdr (Blk.lt k3)) (And.intro (Blk.below k4 hdr (Blk.lt k4)) (k6.below hdr))))))
        rw [← hV]
        clear hd k1 k2 k3 k4 k5 k6 hV hdr hP0 hHeld HPO f1 f2 f3 p1 p2 p3 H7
        go_wp2_with fail
        go_roundw
        case rel => exact ⟨k + 1, by omega, by go_num, H9⟩
        case measure => simp [intOf]; omega
      · have hix : idxPt x.ring f = -1 := by unfold idxPt; rw [if_neg hin]
        rw [hix]
        have hmv := movG_out (t := t) hin
        have hsame : mapTo (movG f t) p (k + 1) = mapTo (movG f t) p k := by
          rw [← HMN.out, hmv]
          have h1 := setR_same (q := mapTo (movG f t) p k) (k := k) (by rw [mapTo_len (Nat.le_of_lt HXX.out.2.1)]; exact HXX.out.2.1)
          rw [mapTo_at HXX.out.2.1, ← HXX.out.1] at h1
          exact h1
        have HSM := Lib.hid hsame
        clear hsame hmv hin hix hrg7
        go_wp2_with fail
        go_roundw
        case rel => exact ⟨k + 1, by omega, by go_num, by rw [HSM.out]; exact H7⟩
        case measure => simp [intOf]; omega
    · have hkn : k = n2 := by omega
      subst hkn
      have hpo := HW.out.2.2.2.2.2
      have hall : mapTo (movG f t) p k = mapG (movG f t) p := by rw [← HN.out.1]; exact mapTo_all
      rw [hall] at hpo
      have kD := refDone_any (mapG (movG f t) p) A1 A2 n1 c1 k c2 wr hpo.at_ (by have := (listed_bd HS.out.1).2.1; have := HN.out.1; omega) (fun xs hx => by
        rcases hx with rfl | ⟨y, hy, rfl⟩
        · have := (mov_ok HS.out HG.out.2 (f := f) p.outer (.inl rfl)).1; show (movG f t p.outer).length ≤ _; omega
        · obtain ⟨z, hz, rfl⟩ := List.mem_map.1 hy
          have := (mov_ok HS.out HG.out.2 (f := f) z.ring (.inr ⟨z, hz, rfl⟩)).1; show (movG f t z.ring).length ≤ _; omega)
      rw [each_map] at kD
      obtain ⟨P, hP⟩ : ∃ P, P = eachP (movG f t) p := ⟨_, rfl⟩
      rw [← hP] at kD HE
      have hmz : moveE p f t = doneE P ∧ moveP p f t = doneP P := by
        have h1 : moveE p f t = doneE P := by rw [HE.out]; rfl
        refine ⟨h1, ?_⟩
        unfold moveP doneP
        rw [h1, ← hP]
        unfold doneE
        rcases planB P with _ | _
        · rfl
        · rfl
      have HM := Lib.hid hmz
      have KD := Lib.hid kD
      have HZW : Hid (w.heap.size ≤ wr.heap.size) := HW.out.1.size
      clear hall hpo kD hP hmz HE
      go_wp2_with fail
      refine KD.out.mono ?_
      rintro e w7 ⟨A3, n3, c3, A4, n4, c4, hs7, rfl, hpo7, hb7⟩
      have hR7 := HW.out.2.1.on hb7
      obtain ⟨V, hV, r1, r2, hbV⟩ := res_store (g := w.heap.size + 1 + 1 + 1) (below_on HW.out.1 (Nat.le_refl _) hb7) (by omega) hR7 (.slice A3 n3 c3) (.slice A4 n4 c4)
      obtain ⟨s1, s2, f1, f2⟩ := plk_facts4 hR7
      have hpo := ((hpo7.mono HZW.out).store hR7 (by decide) (by decide) 0 (.slice A3 n3 c3)).store (Blk.set_ hR7 0 (.slice A3 n3 c3)) (by decide) (by decide) 1 (.slice A4 n4 c4)
      rw [← hV] at hpo
      have HV := Lib.hid hV
      have HR := Lib.hid (And.intro r1 (And.intro r2 (And.intro hbV hpo)))
      clear hV r1 r2 hbV hpo hpo7 hb7 hR7 HW KD q1 q2 q3
      go_wp2_with fail
      rw [← HV.out]
      obtain ⟨r1, r2, hbV, hpo⟩ := HR.out
      refine bodyPost_ret (v := .tuple #[planV A3 n3 c3 A4 n4 c4, .int .i64 (doneE P)]) ?_ rfl ⟨A3, n3, c3, A4, n4, c4, hs7, by rw [HM.out.1], by rw [HM.out.2]; exact hpo, hbV⟩
      simp [results, Tryz.results40, go_sem, r1, r2]
end Go.Proofs.YtglnklfhgdjccaaGreat

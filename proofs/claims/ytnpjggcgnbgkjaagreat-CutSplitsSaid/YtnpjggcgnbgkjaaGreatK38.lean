/- merestoneref05.Split: the walk. -/
import Derived.Deep.CutBlock
import Derived.Deep.DeepCutAuto
import Derived.Test.YtnpjggcgnbgkjaaGreatK01
import Derived.Test.YtnpjggcgnbgkjaaGreatK14
import Derived.Test.YtnpjggcgnbgkjaaGreatK17
import Derived.Test.YtnpjggcgnbgkjaaGreatK29
import Derived.Test.YtnpjggcgnbgkjaaGreatK32
import Derived.Test.YtnpjggcgnbgkjaaGreatK34
import Derived.Test.YtnpjggcgnbgkjaaGreatK35
import Derived.Test.YtnpjggcgnbgkjaaGreatK36
namespace Go.Proofs.YtnpjggcgnbgkjaaGreat
open Go.RowKit Go.Lib
/-- What comes of the parcel that is appended. -/
theorem rsp_end {q : Plan} {A1 A5 D : Option Addr} {adq : Addr} {Bq n1 c1 n2 c2 mD cD c5 N : Nat} {y : Parc} {hs : List Hd} {w Z V W' : World}
    (H : Below w.heap.size w Z ∧ PlK Z Bq A1 n1 c1 (some adq) n2 c2 ∧ PlK Z N none 0 0 none 0 0 ∧ PlanOwn w.heap.size Z A1 n1 c1 (some adq) n2 c2 q hs)
    (hf : (⟨q.outer, q.parcels ++ [y]⟩ : Plan).fits) (hV : Below Z.heap.size Z V) (rD : V.ownsRow w.heap.size 35 2 (.slice D mD cD) mD (ptsV y.ring))
    (hown : W'.ownsRow w.heap.size 37 3 (.slice A5 (n2 + 1) c5) (n2 + 1) (rowPV q.parcels hs ++ pcV y (D, mD, cD))) (hg : V.grownBy W' (Value.slice (some adq) n2 c2).ownBlock) :
    Below w.heap.size w W' ∧ PlK W' Bq A1 n1 c1 (some adq) n2 c2 ∧ PlK W' N none 0 0 none 0 0 ∧ PlanOwn w.heap.size W' A1 n1 c1 A5 (n2 + 1) c5 ⟨q.outer, q.parcels ++ [y]⟩ (hs ++ [(D, mD, cD)]) := by
  obtain ⟨hB, hQ, hR, hpo⟩ := H
  have hQ1 := hQ.on hV
  have hR1 := hR.on hV
  have hpo1 := hpo.below hV
  have hB1 := below_on hB (Nat.le_refl _) hV
  exact ⟨hB1.grown hg hB1.size (fun j e => (hpo1.row.lt j e).1), (hg.block _ (Blk.lt hQ1) (fun e => own_blk_ne hpo1.row hQ1 (by decide) e.symm)).trans hQ1,
    (hg.block _ (Blk.lt hR1) (fun e => own_blk_ne hpo1.row hR1 (by decide) e.symm)).trans hR1, hpo1.snoc rD hown hg hf⟩
/-- What Sorted makes of it. -/
theorem rsp_sort {q : Plan} {A1 A5 : Option Addr} {n1 c1 n2 c5 : Nat} {y : Parc} {hs : List Hd} {w W : World}
    (H : PlanOwn w.heap.size W A1 n1 c1 A5 (n2 + 1) c5 ⟨q.outer, q.parcels ++ [y]⟩ hs) (hn : n2 + 1 ≤ 1048576) (hw : w.heap.size ≤ W.heap.size) (hp : q.parcels.Pairwise (fun x y => x.id < y.id)) (hx : ∀ z ∈ q.parcels, z.id ≠ y.id) :
    Calls Tryz.prog 56 #[.slice A5 (n2 + 1) c5] W fun e W' => ∃ A9 c9 hs9, e = .returned (.slice A9 (n2 + 1) c9) ∧ Below W.heap.size W W' ∧ PlanOwn w.heap.size W' A1 n1 c1 A9 (n2 + 1) c9 ⟨q.outer, putId y q.parcels⟩ hs9 := by
  have hl : hs.length = q.parcels.length + 1 := by have := H.len; have := H.lenp; simp at this; omega
  have hr := Reads.of_own H.row
  simp only at hr
  rw [rowPV_pch (by rw [hl]; simp)] at hr
  refine (sortedR_any _ A5 (n2 + 1) c5 W hr hn).mono fun e W' => ?_
  rintro ⟨A9, c9, d, he, hd, ho, hrow, hb⟩
  have h := H.resort hd (own_mono hrow hw) hb
  simp only at h
  rw [sorted_put hl hp hx hd ho] at h
  exact ⟨A9, c9, _, he, hb, h⟩
theorem rsp_put {q : Plan} {A1 A9 Ax : Option Addr} {Bq n1 c1 n2 c2 n9 c9 N : Nat} {hs : List Hd} {w W : World} (hB : Below w.heap.size w W) (hQ : PlK W Bq A1 n1 c1 Ax n2 c2) (hR : PlK W N none 0 0 none 0 0)
    (hpo : PlanOwn w.heap.size W A1 n1 c1 A9 n9 c9 q hs) (hBq : w.heap.size ≤ Bq) (hN : N ≠ Bq) :
    Below w.heap.size w (W.setCell ⟨Bq, 1, none⟩ (.slice A9 n9 c9)) ∧ PlK (W.setCell ⟨Bq, 1, none⟩ (.slice A9 n9 c9)) Bq A1 n1 c1 A9 n9 c9 ∧ PlK (W.setCell ⟨Bq, 1, none⟩ (.slice A9 n9 c9)) N none 0 0 none 0 0 ∧ PlanOwn w.heap.size (W.setCell ⟨Bq, 1, none⟩ (.slice A9 n9 c9)) A1 n1 c1 A9 n9 c9 q hs := by
  have hQ3 := Blk.set_ hQ 1 (.slice A9 n9 c9)
  simp only [List.setIfInBounds_toArray, List.set_cons_zero, List.set_cons_succ] at hQ3
  exact ⟨hB.setCell (p := ⟨Bq, 1, none⟩) hBq _, hQ3, Blk.far hR hN _, hpo.store hQ (by decide) (by decide) 1 (.slice A9 n9 c9)⟩
theorem put_mem {y x : Parc} {ps : List Parc} (h : x ∈ putId y ps) : x = y ∨ x ∈ ps := by
  unfold putId at h
  rcases List.mem_append.1 h with h | h
  · exact .inr (List.mem_filter.1 h).1
  · rcases List.mem_cons.1 h with h | h
    · exact .inl h
    · exact .inr (List.mem_filter.1 h).1
theorem setR_cases {p : Plan} {k : Nat} {ys : List Pt} {x : Parc} (h : x ∈ (setR p k ys).parcels) : x.ring = ys ∨ x ∈ p.parcels := by
  rcases List.mem_or_eq_of_mem_set h with h | rfl
  · exact .inr h
  · exact .inl rfl
set_option maxRecDepth 100000 in
set_option maxHeartbeats 6400000 in
theorem refSplit_any (p : Plan) (id fresh : Int) (path : List Pt) (A A' B : Option Addr) (n c n' c' m cb : Nat) (w : World) (h : PlanAt w w.heap.size A n c A' n' c' p) (hr : Reads w w.heap.size 2 B m (ptsV path)) (hx : ∀ q ∈ path, q.inI) (hm : m ≤ 8796093022208) :
    Calls Tryz.prog 18 #[planV A n c A' n' c', .int .i64 id, .slice B m cb, .int .i64 fresh] w (ResPostS (spP p id path fresh) (spE p id path fresh) w) := by
  obtain ⟨wa, hwa⟩ : ∃ wa : World, wa = (w.alloc (.cells #[.slice A n c, .slice A' n' c'] 26)).alloc (.cells #[.slice none 0 0, .slice none 0 0] 26) := ⟨_, rfl⟩
  have hF : SpF p path A n c A' n' c' B m w wa := by
    have hB0 : Below w.heap.size w wa := by rw [hwa]; exact ((Below.refl _ _).alloc (Nat.le_refl _) _).alloc (by simp) _
    refine ⟨hB0, by rw [hwa]; exact Blk.alloc (PlK.new w A n c A' n' c') _, ?_, h.on hB0, hr.on hB0⟩
    have := PlK.new (w.alloc (.cells #[.slice A n c, .slice A' n' c'] 26)) none 0 0 none 0 0
    rw [World.size_alloc] at this
    rw [hwa]
    exact this
  have KF := Lib.hid (checkPR_any p A A' n c n' c' wa hF.2.2.2.1)
  have H0 := Lib.hid hF
  have HL := Lib.hid hr.lenPt
  have HPR := Lib.hid (And.intro h (And.intro hr hx))
  obtain ⟨q1, q2, q3⟩ := hF.2.1.facts
  clear hF h hr hx
  go_enter Tryz.func18, Tryz.ntmps18
  go_upto_region 1 with fail
  rw [← hwa]
  clear hwa
  have kC := KF.out
  rcases hpb : planB p with _ | _
  · rw [hpb] at kC
    have KC := Lib.hid kC
    have HM := Lib.hid (And.intro (spE_fault (fault_2 (id := id) (fresh := fresh) (path := path) hpb) (by decide)) (show (2 : Int) ≠ 0 by decide))
    clear kC hpb KF
    go_wp2_with fail
    refine KC.out.mono ?_
    rintro e w1 ⟨rfl, hb1⟩
    have HR := Lib.hid (H0.out.on hb1).res
    clear hb1 H0 KC q1 q2 q3
    obtain ⟨V, hV, r1, r2, hbV⟩ := res_store (g := w.heap.size + 1) HR.out.1 (by omega) HR.out.2 (.slice none 0 0) (.slice none 0 0)
    obtain ⟨s1, s2, f1, f2⟩ := plk_facts4 HR.out.2
    have HV := Lib.hid hV
    have HRR := Lib.hid (And.intro r1 (And.intro r2 hbV))
    clear hV r1 r2 hbV
    go_wp2_with fail
    rw [← HV.out]
    obtain ⟨r1, r2, hbV⟩ := HRR.out
    refine bodyPost_ret (v := .tuple #[planV none 0 0 none 0 0, .int .i64 2]) ?_ rfl (by rw [HM.out.1]; exact resPostS_no (spP_no HM.out.1 HM.out.2) hbV)
    simp [results, Tryz.results18, go_sem, r1, r2]
  rw [hpb] at kC
  have KC := Lib.hid kC
  have HS := Lib.hid (planB_sound hpb)
  have HPB := Lib.hid hpb
  clear kC hpb KF
  go_wp2_with fail
  refine KC.out.mono ?_
  rintro e w1 ⟨rfl, hb1⟩
  have H1 := Lib.hid (H0.out.on hb1)
  clear hb1 H0 KC q1 q2 q3
  obtain ⟨z, hz⟩ : ∃ z, z = atP p.parcels id := ⟨_, rfl⟩
  have HZ := Lib.hid hz
  obtain ⟨q1, q2, q3⟩ := H1.out.2.1.facts
  have kA := atR_any p id A A' n c n' c' w1 H1.out.2.2.2.1
  rw [← hz] at kA
  have KA := Lib.hid kA
  clear kA hz
  by_cases hz0 : z < 0
  · have HM := Lib.hid (And.intro (spE_fault (fault_5 (id := id) (fresh := fresh) (path := path) HPB.out (by rw [← HZ.out]; exact hz0)) (by decide)) (show (5 : Int) ≠ 0 by decide))
    go_wp2_with fail
    refine KA.out.mono ?_
    rintro e w2 ⟨rfl, hb2⟩
    have HR := Lib.hid (H1.out.on hb2).res
    clear hb2 H1 KA q1 q2 q3
    obtain ⟨V, hV, r1, r2, hbV⟩ := res_store (g := w.heap.size + 1) HR.out.1 (by omega) HR.out.2 (.slice none 0 0) (.slice none 0 0)
    obtain ⟨s1, s2, f1, f2⟩ := plk_facts4 HR.out.2
    have HV := Lib.hid hV
    have HRR := Lib.hid (And.intro r1 (And.intro r2 hbV))
    clear hV r1 r2 hbV
    go_wp2_with fail
    rw [← HV.out]
    obtain ⟨r1, r2, hbV⟩ := HRR.out
    refine bodyPost_ret (v := .tuple #[planV none 0 0 none 0 0, .int .i64 5]) ?_ rfl (by rw [HM.out.1]; exact resPostS_no (spP_no HM.out.1 HM.out.2) hbV)
    simp [results, Tryz.results18, go_sem, r1, r2]
  obtain ⟨k, hk, rfl⟩ : ∃ k : Nat, k < p.parcels.length ∧ z = (k : Int) := by
    rcases atP_cases p.parcels id with ⟨e, -⟩ | ⟨k, hk, e, -⟩
    · have := HZ.out; omega
    · exact ⟨k, hk, HZ.out.trans e⟩
  have HZK := Lib.hid HZ.out
  have hE := fault_rest (id := id) (fresh := fresh) (path := path) HPB.out (by rw [← HZ.out]; exact hz0)
  rw [← HZ.out, Int.toNat_natCast, HL.out] at hE
  have HE := Lib.hid hE
  have HK := Lib.hid hk
  clear hE hk
  have hE1 : (idB fresh = false ∨ m < 2 ∨ 128 < m) → faultI p id path fresh = 1 := fun h => by rw [HE.out, if_pos h]
  have hE2 : ¬ (idB fresh = false ∨ m < 2 ∨ 128 < m) → faultI p id path fresh = if 0 ≤ atP p.parcels fresh then 6 else if goodL path = false then 3 else if ptAt path 0 = ptAt path (m - 1) ∨ sideI (pcAt p.parcels k).ring (ptAt path 0) ≠ 0 ∨ sideI (pcAt p.parcels k).ring (ptAt path (m - 1)) ≠ 0 then 7 else 0 := fun h => by rw [HE.out, if_neg h]
  go_wp2_with fail
  refine KA.out.mono ?_
  rintro e w2 ⟨rfl, hb2⟩
  have H2 := Lib.hid (H1.out.on hb2)
  clear hb2 H1 KA q1 q2 q3 HE
  go_upto_region 7 with fail
  clear hz0
  have kI := fun V => idR_any fresh V
  obtain ⟨bi, hbi⟩ : ∃ b, b = idB fresh := ⟨_, rfl⟩
  rw [← hbi] at kI hE1 hE2
  have HR2 := Lib.hid H2.out.res
  rcases bi with _ | _
  · have HM := Lib.hid (And.intro (spE_fault (hE1 (.inl rfl)) (by decide)) (show (1 : Int) ≠ 0 by decide))
    clear hE1 hE2 hbi H2
    go_wp2_with fail
    refine (kI _).mono ?_
    rintro e w3 ⟨rfl, rfl⟩
    clear kI
    obtain ⟨V, hV, r1, r2, hbV⟩ := res_store (g := w.heap.size + 1) HR2.out.1 (by omega) HR2.out.2 (.slice none 0 0) (.slice none 0 0)
    obtain ⟨s1, s2, f1, f2⟩ := plk_facts4 HR2.out.2
    have HV := Lib.hid hV
    have HRR := Lib.hid (And.intro r1 (And.intro r2 hbV))
    clear hV r1 r2 hbV
    go_wp2_with fail
    rw [← HV.out]
    obtain ⟨r1, r2, hbV⟩ := HRR.out
    refine bodyPost_ret (v := .tuple #[planV none 0 0 none 0 0, .int .i64 1]) ?_ rfl (by rw [HM.out.1]; exact resPostS_no (spP_no HM.out.1 HM.out.2) hbV)
    simp [results, Tryz.results18, go_sem, r1, r2]
  by_cases h2 : m < 2
  · have HM := Lib.hid (And.intro (spE_fault (hE1 (.inr (.inl h2))) (by decide)) (show (1 : Int) ≠ 0 by decide))
    have h2' : (m : Int) < 2 := by omega
    clear hE1 hE2 hbi H2
    go_wp2_with fail
    refine (kI _).mono ?_
    rintro e w3 ⟨rfl, rfl⟩
    clear kI
    obtain ⟨V, hV, r1, r2, hbV⟩ := res_store (g := w.heap.size + 1) HR2.out.1 (by omega) HR2.out.2 (.slice none 0 0) (.slice none 0 0)
    obtain ⟨s1, s2, f1, f2⟩ := plk_facts4 HR2.out.2
    have HV := Lib.hid hV
    have HRR := Lib.hid (And.intro r1 (And.intro r2 hbV))
    clear hV r1 r2 hbV
    go_wp2_with fail
    rw [← HV.out]
    obtain ⟨r1, r2, hbV⟩ := HRR.out
    refine bodyPost_ret (v := .tuple #[planV none 0 0 none 0 0, .int .i64 1]) ?_ rfl (by rw [HM.out.1]; exact resPostS_no (spP_no HM.out.1 HM.out.2) hbV)
    simp [results, Tryz.results18, go_sem, r1, r2]
  have h2' : ¬ (m : Int) < 2 := by omega
  by_cases h3 : 128 < m
  · have HM := Lib.hid (And.intro (spE_fault (hE1 (.inr (.inr h3))) (by decide)) (show (1 : Int) ≠ 0 by decide))
    have h3' : (128 : Int) < (m : Int) := by omega
    clear hE1 hE2 hbi H2
    go_wp2_with fail
    refine (kI _).mono ?_
    rintro e w3 ⟨rfl, rfl⟩
    clear kI
    obtain ⟨V, hV, r1, r2, hbV⟩ := res_store (g := w.heap.size + 1) HR2.out.1 (by omega) HR2.out.2 (.slice none 0 0) (.slice none 0 0)
    obtain ⟨s1, s2, f1, f2⟩ := plk_facts4 HR2.out.2
    have HV := Lib.hid hV
    have HRR := Lib.hid (And.intro r1 (And.intro r2 hbV))
    clear hV r1 r2 hbV
    go_wp2_with fail
    rw [← HV.out]
    obtain ⟨r1, r2, hbV⟩ := HRR.out
    refine bodyPost_ret (v := .tuple #[planV none 0 0 none 0 0, .int .i64 1]) ?_ rfl (by rw [HM.out.1]; exact resPostS_no (spP_no HM.out.1 HM.out.2) hbV)
    simp [results, Tryz.results18, go_sem, r1, r2]
  have h3' : ¬ (128 : Int) < (m : Int) := by omega
  have HE := Lib.hid (hE2 (by simp [h2, h3]))
  have HI0 := Lib.hid hbi.symm
  clear hE1 hE2 hbi HR2
  go_wp2_with fail
  refine (kI _).mono ?_
  rintro e w3 ⟨rfl, rfl⟩
  clear kI
  go_upto_region 9 with fail
  clear h2' h3'
  obtain ⟨q1, q2, q3⟩ := H2.out.2.1.facts
  have kF := atR_any p fresh A A' n c n' c' w2 H2.out.2.2.2.1
  obtain ⟨zf, hzf⟩ : ∃ z, z = atP p.parcels fresh := ⟨_, rfl⟩
  have hE := HE.out
  rw [← hzf] at kF hE
  have KF := Lib.hid kF
  have HZF := Lib.hid hzf
  clear kF HE hzf
  by_cases h4 : 0 ≤ zf
  · rw [if_pos h4] at hE
    have HM := Lib.hid (And.intro (spE_fault hE (by decide)) (show (6 : Int) ≠ 0 by decide))
    clear hE
    go_wp2_with fail
    refine KF.out.mono ?_
    rintro e w3 ⟨rfl, hb3⟩
    have HR := Lib.hid (H2.out.on hb3).res
    clear hb3 H2 KF q1 q2 q3
    obtain ⟨V, hV, r1, r2, hbV⟩ := res_store (g := w.heap.size + 1) HR.out.1 (by omega) HR.out.2 (.slice none 0 0) (.slice none 0 0)
    obtain ⟨s1, s2, f1, f2⟩ := plk_facts4 HR.out.2
    have HV := Lib.hid hV
    have HRR := Lib.hid (And.intro r1 (And.intro r2 hbV))
    clear hV r1 r2 hbV
    go_wp2_with fail
    rw [← HV.out]
    obtain ⟨r1, r2, hbV⟩ := HRR.out
    refine bodyPost_ret (v := .tuple #[planV none 0 0 none 0 0, .int .i64 6]) ?_ rfl (by rw [HM.out.1]; exact resPostS_no (spP_no HM.out.1 HM.out.2) hbV)
    simp [results, Tryz.results18, go_sem, r1, r2]
  rw [if_neg h4] at hE
  have HE := Lib.hid hE
  have HID : Hid (idB fresh = true ∧ atP p.parcels fresh < 0) := Lib.hid (And.intro HI0.out (by rw [← HZF.out]; omega))
  clear hE
  go_wp2_with fail
  refine KF.out.mono ?_
  rintro e w3 ⟨rfl, hb3⟩
  have H3 := Lib.hid (H2.out.on hb3)
  clear hb3 H2 KF q1 q2 q3
  go_upto_region 11 with fail
  clear h4
  have kG := goodR_any path B m cb w3 H3.out.2.2.2.2 (by omega) HPR.out.2.2
  have hE := HE.out
  rcases hgd : goodL path with _ | _
  · rw [hgd] at kG hE
    have KG := Lib.hid kG
    have HM := Lib.hid (And.intro (spE_fault (hE.trans (if_pos rfl)) (by decide)) (show (3 : Int) ≠ 0 by decide))
    clear kG hE hgd
    go_wp2_with fail
    refine KG.out.mono ?_
    rintro e w4 ⟨rfl, hb4⟩
    have HR := Lib.hid (H3.out.on hb4).res
    clear hb4 H3 KG
    obtain ⟨V, hV, r1, r2, hbV⟩ := res_store (g := w.heap.size + 1) HR.out.1 (by omega) HR.out.2 (.slice none 0 0) (.slice none 0 0)
    obtain ⟨s1, s2, f1, f2⟩ := plk_facts4 HR.out.2
    have HV := Lib.hid hV
    have HRR := Lib.hid (And.intro r1 (And.intro r2 hbV))
    clear hV r1 r2 hbV
    go_wp2_with fail
    rw [← HV.out]
    obtain ⟨r1, r2, hbV⟩ := HRR.out
    refine bodyPost_ret (v := .tuple #[planV none 0 0 none 0 0, .int .i64 3]) ?_ rfl (by rw [HM.out.1]; exact resPostS_no (spP_no HM.out.1 HM.out.2) hbV)
    simp [results, Tryz.results18, go_sem, r1, r2]
  rw [hgd] at kG hE
  have KG := Lib.hid kG
  rw [if_neg (by decide)] at hE
  have HG := Lib.hid hgd
  clear kG hgd HE
  have e0 := goodL_mem HG.out (show ptAt path 0 ∈ path from ptAt_mem (by have := HL.out; omega))
  have e1 := goodL_mem HG.out (show ptAt path (m - 1) ∈ path from ptAt_mem (by have := HL.out; omega))
  obtain ⟨a, ha⟩ : ∃ a, a = ptAt path 0 := ⟨_, rfl⟩
  obtain ⟨b, hb⟩ : ∃ b, b = ptAt path (m - 1) := ⟨_, rfl⟩
  rw [← ha, ← hb] at hE
  rw [← ha] at e0
  rw [← hb] at e1
  have HE := Lib.hid hE
  have HAB := Lib.hid (And.intro ha (And.intro hb (And.intro e0 e1)))
  clear ha hb e0 e1 hE
  go_wp2_with fail
  refine KG.out.mono ?_
  rintro e w4 ⟨rfl, hb4⟩
  have H4 := Lib.hid (H3.out.on hb4)
  clear hb4 H3 KG
  obtain ⟨W, hW⟩ : ∃ W, W = w4 := ⟨_, rfl⟩
  rw [← hW] at H4
  go_upto_region 13 with fail
  rw [← hW]
  clear hW w4
  obtain ⟨q1, q2, q3⟩ := H4.out.2.1.facts
  have hkn : k < n' := by have := H4.out.2.2.2.1.lens.2.1; have := HK.out; omega
  have hkn' : (k : Int) < (n' : Int) := by omega
  obtain ⟨adp, rfl⟩ := H4.out.2.2.2.1.parcs.some_ (by omega)
  obtain ⟨hadp, -, ⟨Ak, nk, ck, p5, hrk, -, -⟩, -⟩ := H4.out.2.2.2.1.parcs.at_ hkn
  obtain ⟨rr, hrr⟩ : ∃ rr, rr = (pcAt p.parcels k).ring := ⟨_, rfl⟩
  have hsr := sound_ring HS.out (xs := rr) (.inr ⟨pcAt p.parcels k, by rw [pcAt_lt HK.out]; exact List.getElem_mem _, hrr⟩)
  have hE := HE.out
  rw [← hrr] at hrk hE
  have hrl := hrk.lenPt
  have kS1 := fun V (hV : Below W.heap.size W V) => sideR_any rr a Ak nk ck V (hrk.on hV) (by omega) hsr.1 HAB.out.2.2.1
  have kS2 := fun V (hV : Below W.heap.size W V) => sideR_any rr b Ak nk ck V (hrk.on hV) (by omega) hsr.1 HAB.out.2.2.2
  obtain ⟨sa, hsa⟩ : ∃ z, z = sideI rr a := ⟨_, rfl⟩
  obtain ⟨sb, hsb⟩ : ∃ z, z = sideI rr b := ⟨_, rfl⟩
  rw [← hsa] at kS1 hE
  rw [← hsb] at kS2 hE
  dsimp only [ptV] at kS1 kS2
  have HRR := Lib.hid (And.intro hrr (And.intro hsa hsb))
  have HE := Lib.hid hE
  clear hrr hsr hrl hE hrk hsa hsb
  obtain ⟨ad, rfl, -, -, -, -⟩ := H4.out.2.2.2.2.pt (k := 0) (by omega)
  obtain ⟨had, p1, p2⟩ := H4.out.2.2.2.2.ptA (k := 0) (by omega)
  obtain ⟨m1, hm1⟩ : ∃ m1, m1 = m - 1 := ⟨_, rfl⟩
  obtain ⟨-, p3, p4⟩ := H4.out.2.2.2.2.ptA (k := m1) (by omega)
  rw [show ptAt path 0 = a from HAB.out.1.symm, show ad.add (0 * 2) = ad by simp [Addr.add]] at p1 p2
  rw [show ptAt path m1 = b by rw [hm1]; exact HAB.out.2.1.symm] at p3 p4
  have hmi : IntKind.i64.wrap ((m : Int) - 1) = (m1 : Int) := by rw [IntKind.wrap_i64]; omega
  have hm0 : (0 : Int) < (m : Int) := by omega
  have hm2 : (m1 : Int) < (m : Int) := by omega
  have hm3 : m1 < m := by omega
  have hm00 : 0 < m := by omega
  have HM1 := Lib.hid hm1
  have hh : (⟨w.heap.size, 1, none⟩ : Addr).block < W.heap.size ∧ (⟨(adp.add (k * 3)).block, (adp.add (k * 3)).off + 1, none⟩ : Addr).block < W.heap.size ∧ ad.block < W.heap.size ∧ (⟨ad.block, ad.off + 1, none⟩ : Addr).block < W.heap.size ∧ (ad.add (m1 * 2)).block < W.heap.size ∧ (⟨(ad.add (m1 * 2)).block, (ad.add (m1 * 2)).off + 1, none⟩ : Addr).block < W.heap.size := by simp only [block_of_add]; exact ⟨q3, hadp, had, had, had, had⟩
  have hP0 : W.drew.cell? ⟨w.heap.size, 1, none⟩ = some (.slice (some adp) n' c') ∧ W.drew.cell? ⟨(adp.add (k * 3)).block, (adp.add (k * 3)).off + 1, none⟩ = some (.slice Ak nk ck) ∧ W.drew.cell? ad = some (.int .i64 a.x) ∧ W.drew.cell? ⟨ad.block, ad.off + 1, none⟩ = some (.int .i64 a.y) ∧ W.drew.cell? (ad.add (m1 * 2)) = some (.int .i64 b.x) ∧ W.drew.cell? ⟨(ad.add (m1 * 2)).block, (ad.add (m1 * 2)).off + 1, none⟩ = some (.int .i64 b.y) ∧ Below W.heap.size W W.drew := ⟨q2, p5, p1, p2, p3, p4, (Below.refl _ _).drew⟩
  have hbd : Below W.heap.size W W.drew := (Below.refl _ _).drew
  clear q1 q2 p1 p2 p3 p4 p5 hm1 q3 hadp had
  by_cases ha0 : sa = 0
  case neg =>
    have hne : (sa != 0) = true := by simpa using ha0
    have HM := Lib.hid (And.intro (spE_fault (HE.out.trans (if_pos (.inr (.inl ha0)))) (by decide)) (show (7 : Int) ≠ 0 by decide))
    refine wp_region_held_drew (S := fun V => V.cell? ⟨w.heap.size, 1, none⟩ = some (.slice (some adp) n' c') ∧ V.cell? ⟨(adp.add (k * 3)).block, (adp.add (k * 3)).off + 1, none⟩ = some (.slice Ak nk ck) ∧ V.cell? ad = some (.int .i64 a.x) ∧ V.cell? ⟨ad.block, ad.off + 1, none⟩ = some (.int .i64 a.y) ∧ V.cell? (ad.add (m1 * 2)) = some (.int .i64 b.x) ∧ V.cell? ⟨(ad.add (m1 * 2)).block, (ad.add (m1 * 2)).off + 1, none⟩ = some (.int .i64 b.y) ∧ Below W.heap.size W V) (by kernel_rfl) ?_ (fun hHeld => ?_)
    · exact hP0
    refine tk 0 ?_
    refine tk 1 ?_
    refine tk 2 ?_
    refine tk 3 ?_
    refine tk 4 ?_
    refine tk 5 ?_
    refine tk 6 ?_
    refine tk 7 ?_
    refine tk 8 ?_
    refine wpAnyH_ready (rs := [9]) (by kernel_rfl) (by simp) ?_
    refine AllReadyH.cons rfl (fun K hK => ?_) AllReadyH.nil
    go_simp
    go_at_call 44
    (with_reducible refine (kS1 _ hbd).mono ?_)
    rintro e w5 ⟨rfl, hb5⟩
    have hbU := hbd.trans hb5
    try dsimp only
    refine hK.out _ _ ?_ (fun hHeld => ?_)
    · exact hldR6 hh hP0 hb5
    clear hK K
    try simp only [Act.put, List.setIfInBounds_toArray, List.set_cons_zero, List.set_cons_succ]
    refine tk 10 ?_
    refine tk 11 ?_
    refine tu 12 ?_
    refine tu 13 ?_
    refine tu 14 ?_
    refine tu 15 ?_
    refine tu 16 ?_
    refine tu 17 ?_
    refine tu 18 ?_
    refine tu 19 ?_
    refine tu 20 ?_
    refine tu 21 ?_
    refine tu 22 ?_
    refine tu 23 ?_
    refine tu 24 ?_
    refine tk 25 ?_
    refine tk 26 ?_
    refine tu 27 ?_
    refine tu 28 ?_
    refine tu 29 ?_
    refine tu 30 ?_
    refine tu 31 ?_
    refine tu 32 ?_
    refine tu 33 ?_
    refine tu 34 ?_
    refine tu 35 ?_
    refine tk 36 ?_
    refine wpAnyH_done (by kernel_rfl) ?_ _
    have HR := Lib.hid (H4.out.on hbU).res
    clear hbU hbd hh hP0 kS1 kS2
    obtain ⟨V, hV, r1, r2, hbV⟩ := res_store (g := w.heap.size + 1) HR.out.1 (by omega) HR.out.2 (.slice none 0 0) (.slice none 0 0)
    obtain ⟨s1, s2, f1, f2⟩ := plk_facts4 HR.out.2
    have HV := Lib.hid hV
    have HRR := Lib.hid (And.intro r1 (And.intro r2 hbV))
    clear hV r1 r2 hbV
    go_wp2_with fail
    rw [← HV.out]
    obtain ⟨r1, r2, hbV⟩ := HRR.out
    refine bodyPost_ret (v := .tuple #[planV none 0 0 none 0 0, .int .i64 7]) ?_ rfl (by rw [HM.out.1]; exact resPostS_no (spP_no HM.out.1 HM.out.2) hbV)
    simp [results, Tryz.results18, go_sem, r1, r2]
  subst ha0
  by_cases hb0 : sb = 0
  case neg =>
    have hne : (sb != 0) = true := by simpa using hb0
    have HM := Lib.hid (And.intro (spE_fault (HE.out.trans (if_pos (.inr (.inr hb0)))) (by decide)) (show (7 : Int) ≠ 0 by decide))
    refine wp_region_held_drew (S := fun V => V.cell? ⟨w.heap.size, 1, none⟩ = some (.slice (some adp) n' c') ∧ V.cell? ⟨(adp.add (k * 3)).block, (adp.add (k * 3)).off + 1, none⟩ = some (.slice Ak nk ck) ∧ V.cell? ad = some (.int .i64 a.x) ∧ V.cell? ⟨ad.block, ad.off + 1, none⟩ = some (.int .i64 a.y) ∧ V.cell? (ad.add (m1 * 2)) = some (.int .i64 b.x) ∧ V.cell? ⟨(ad.add (m1 * 2)).block, (ad.add (m1 * 2)).off + 1, none⟩ = some (.int .i64 b.y) ∧ Below W.heap.size W V) (by kernel_rfl) ?_ (fun hHeld => ?_)
    · exact hP0
    refine tk 0 ?_
    refine tk 1 ?_
    refine tk 2 ?_
    refine tk 3 ?_
    refine tk 4 ?_
    refine tk 5 ?_
    refine tk 6 ?_
    refine tk 7 ?_
    refine tk 8 ?_
    refine wpAnyH_ready (rs := [9]) (by kernel_rfl) (by simp) ?_
    refine AllReadyH.cons rfl (fun K hK => ?_) AllReadyH.nil
    go_simp
    go_at_call 44
    (with_reducible refine (kS1 _ hbd).mono ?_)
    rintro e w5 ⟨rfl, hb5⟩
    have hbU := hbd.trans hb5
    try dsimp only
    refine hK.out _ _ ?_ (fun hHeld => ?_)
    · exact hldR6 hh hP0 hb5
    clear hK K
    try simp only [Act.put, List.setIfInBounds_toArray, List.set_cons_zero, List.set_cons_succ]
    refine tk 10 ?_
    refine tk 11 ?_
    refine tk 12 ?_
    refine tk 13 ?_
    refine tk 14 ?_
    refine tk 15 ?_
    refine tk 16 ?_
    refine tk 17 ?_
    refine tk 18 ?_
    refine tk 19 ?_
    refine tk 20 ?_
    refine tk 21 ?_
    refine tk 22 ?_
    refine wpAnyH_ready (rs := [23]) (by kernel_rfl) (by simp) ?_
    refine AllReadyH.cons rfl (fun K hK => ?_) AllReadyH.nil
    go_simp
    go_at_call 44
    (with_reducible refine (kS2 _ hbU).mono ?_)
    rintro e w6 ⟨rfl, hb6⟩
    have hbV := below_on hbU (Nat.le_refl _) hb6
    try dsimp only
    refine hK.out _ _ ?_ (fun hHeld => ?_)
    · exact hldR6 hh hHeld hb6
    clear hK K
    try simp only [Act.put, List.setIfInBounds_toArray, List.set_cons_zero, List.set_cons_succ]
    refine tk 24 ?_
    refine tk 25 ?_
    refine tk 26 ?_
    refine tu 27 ?_
    refine tu 28 ?_
    refine tu 29 ?_
    refine tu 30 ?_
    refine tu 31 ?_
    refine tu 32 ?_
    refine tu 33 ?_
    refine tu 34 ?_
    refine tu 35 ?_
    refine tk 36 ?_
    refine wpAnyH_done (by kernel_rfl) ?_ _
    have HR := Lib.hid (H4.out.on hbV).res
    clear hbU hbV hbd hh hP0 kS1 kS2
    obtain ⟨V, hV, r1, r2, hbV⟩ := res_store (g := w.heap.size + 1) HR.out.1 (by omega) HR.out.2 (.slice none 0 0) (.slice none 0 0)
    obtain ⟨s1, s2, f1, f2⟩ := plk_facts4 HR.out.2
    have HV := Lib.hid hV
    have HRR := Lib.hid (And.intro r1 (And.intro r2 hbV))
    clear hV r1 r2 hbV
    go_wp2_with fail
    rw [← HV.out]
    obtain ⟨r1, r2, hbV⟩ := HRR.out
    refine bodyPost_ret (v := .tuple #[planV none 0 0 none 0 0, .int .i64 7]) ?_ rfl (by rw [HM.out.1]; exact resPostS_no (spP_no HM.out.1 HM.out.2) hbV)
    simp [results, Tryz.results18, go_sem, r1, r2]
  subst hb0
  by_cases hab : a = b
  case pos =>
    have HM := Lib.hid (And.intro (spE_fault (HE.out.trans (if_pos (.inl hab))) (by decide)) (show (7 : Int) ≠ 0 by decide))
    have hp1 := fun V => (eqPt_runs a b .eql (.tmp 0) (.tmp 0) V).1
    have hq1 := fun op x y V => (eqPt_runs a b op x y V).2
    rw [decide_eq_true hab] at hp1
    clear hab
    refine wp_region_held_drew (S := fun V => V.cell? ⟨w.heap.size, 1, none⟩ = some (.slice (some adp) n' c') ∧ V.cell? ⟨(adp.add (k * 3)).block, (adp.add (k * 3)).off + 1, none⟩ = some (.slice Ak nk ck) ∧ V.cell? ad = some (.int .i64 a.x) ∧ V.cell? ⟨ad.block, ad.off + 1, none⟩ = some (.int .i64 a.y) ∧ V.cell? (ad.add (m1 * 2)) = some (.int .i64 b.x) ∧ V.cell? ⟨(ad.add (m1 * 2)).block, (ad.add (m1 * 2)).off + 1, none⟩ = some (.int .i64 b.y) ∧ Below W.heap.size W V) (by kernel_rfl) ?_ (fun hHeld => ?_)
    · exact hP0
    refine tk 0 ?_
    refine tk 1 ?_
    refine tk 2 ?_
    refine tk 3 ?_
    refine tk 4 ?_
    refine tk 5 ?_
    refine tk 6 ?_
    refine tk 7 ?_
    refine tk 8 ?_
    refine wpAnyH_ready (rs := [9]) (by kernel_rfl) (by simp) ?_
    refine AllReadyH.cons rfl (fun K hK => ?_) AllReadyH.nil
    go_simp
    go_at_call 44
    (with_reducible refine (kS1 _ hbd).mono ?_)
    rintro e w5 ⟨rfl, hb5⟩
    have hbU := hbd.trans hb5
    try dsimp only
    refine hK.out _ _ ?_ (fun hHeld => ?_)
    · exact hldR6 hh hP0 hb5
    clear hK K
    try simp only [Act.put, List.setIfInBounds_toArray, List.set_cons_zero, List.set_cons_succ]
    refine tk 10 ?_
    refine tk 11 ?_
    refine tk 12 ?_
    refine tk 13 ?_
    refine tk 14 ?_
    refine tk 15 ?_
    refine tk 16 ?_
    refine tk 17 ?_
    refine tk 18 ?_
    refine tk 19 ?_
    refine tk 20 ?_
    refine tk 21 ?_
    refine tk 22 ?_
    refine wpAnyH_ready (rs := [23]) (by kernel_rfl) (by simp) ?_
    refine AllReadyH.cons rfl (fun K hK => ?_) AllReadyH.nil
    go_simp
    go_at_call 44
    (with_reducible refine (kS2 _ hbU).mono ?_)
    rintro e w6 ⟨rfl, hb6⟩
    have hbV := below_on hbU (Nat.le_refl _) hb6
    try dsimp only
    refine hK.out _ _ ?_ (fun hHeld => ?_)
    · exact hldR6 hh hHeld hb6
    clear hK K
    try simp only [Act.put, List.setIfInBounds_toArray, List.set_cons_zero, List.set_cons_succ]
    refine tk 24 ?_
    refine tk 25 ?_
    refine tk 26 ?_
    refine tk 27 ?_
    refine tk 28 ?_
    refine tk 29 ?_
    refine tk 30 ?_
    refine tk 31 ?_
    refine tk 32 ?_
    refine tk 33 ?_
    refine tk 34 ?_
    refine tk 35 ?_
    refine tk 36 ?_
    refine wpAnyH_done (by kernel_rfl) ?_ _
    have HR := Lib.hid (H4.out.on hbV).res
    clear hbU hbV hbd hh hP0 kS1 kS2
    obtain ⟨V, hV, r1, r2, hbV⟩ := res_store (g := w.heap.size + 1) HR.out.1 (by omega) HR.out.2 (.slice none 0 0) (.slice none 0 0)
    obtain ⟨s1, s2, f1, f2⟩ := plk_facts4 HR.out.2
    have HV := Lib.hid hV
    have HRR := Lib.hid (And.intro r1 (And.intro r2 hbV))
    clear hV r1 r2 hbV
    go_wp2_with fail
    rw [← HV.out]
    obtain ⟨r1, r2, hbV⟩ := HRR.out
    refine bodyPost_ret (v := .tuple #[planV none 0 0 none 0 0, .int .i64 7]) ?_ rfl (by rw [HM.out.1]; exact resPostS_no (spP_no HM.out.1 HM.out.2) hbV)
    simp [results, Tryz.results18, go_sem, r1, r2]
  have hF0 := HE.out.trans (if_neg (by simp [hab]))
  have HF0 := Lib.hid hF0
  have hp1 := fun V => (eqPt_runs a b .eql (.tmp 0) (.tmp 0) V).1
  have hq1 := fun op x y V => (eqPt_runs a b op x y V).2
  rw [decide_eq_false hab] at hp1
  clear hF0 HE
  refine wp_region_held_drew (S := fun V => V.cell? ⟨w.heap.size, 1, none⟩ = some (.slice (some adp) n' c') ∧ V.cell? ⟨(adp.add (k * 3)).block, (adp.add (k * 3)).off + 1, none⟩ = some (.slice Ak nk ck) ∧ V.cell? ad = some (.int .i64 a.x) ∧ V.cell? ⟨ad.block, ad.off + 1, none⟩ = some (.int .i64 a.y) ∧ V.cell? (ad.add (m1 * 2)) = some (.int .i64 b.x) ∧ V.cell? ⟨(ad.add (m1 * 2)).block, (ad.add (m1 * 2)).off + 1, none⟩ = some (.int .i64 b.y) ∧ Below W.heap.size W V) (by kernel_rfl) ?_ (fun hHeld => ?_)
  · exact hP0
  refine tk 0 ?_
  refine tk 1 ?_
  refine tk 2 ?_
  refine tk 3 ?_
  refine tk 4 ?_
  refine tk 5 ?_
  refine tk 6 ?_
  refine tk 7 ?_
  refine tk 8 ?_
  refine wpAnyH_ready (rs := [9]) (by kernel_rfl) (by simp) ?_
  refine AllReadyH.cons rfl (fun K hK => ?_) AllReadyH.nil
  go_simp
  go_at_call 44
  (with_reducible refine (kS1 _ hbd).mono ?_)
  rintro e w5 ⟨rfl, hb5⟩
  have hbU := hbd.trans hb5
  try dsimp only
  refine hK.out _ _ ?_ (fun hHeld => ?_)
  · exact hldR6 hh hP0 hb5
  clear hK K
  try simp only [Act.put, List.setIfInBounds_toArray, List.set_cons_zero, List.set_cons_succ]
  refine tk 10 ?_
  refine tk 11 ?_
  refine tk 12 ?_
  refine tk 13 ?_
  refine tk 14 ?_
  refine tk 15 ?_
  refine tk 16 ?_
  refine tk 17 ?_
  refine tk 18 ?_
  refine tk 19 ?_
  refine tk 20 ?_
  refine tk 21 ?_
  refine tk 22 ?_
  refine wpAnyH_ready (rs := [23]) (by kernel_rfl) (by simp) ?_
  refine AllReadyH.cons rfl (fun K hK => ?_) AllReadyH.nil
  go_simp
  go_at_call 44
  (with_reducible refine (kS2 _ hbU).mono ?_)
  rintro e w6 ⟨rfl, hb6⟩
  have hbV := below_on hbU (Nat.le_refl _) hb6
  try dsimp only
  refine hK.out _ _ ?_ (fun hHeld => ?_)
  · exact hldR6 hh hHeld hb6
  clear hK K
  try simp only [Act.put, List.setIfInBounds_toArray, List.set_cons_zero, List.set_cons_succ]
  refine tk 24 ?_
  refine tk 25 ?_
  refine tk 26 ?_
  refine tk 27 ?_
  refine tk 28 ?_
  refine tk 29 ?_
  refine tk 30 ?_
  refine tk 31 ?_
  refine tk 32 ?_
  refine tk 33 ?_
  refine tk 34 ?_
  refine tk 35 ?_
  refine tk 36 ?_
  refine wpAnyH_done (by kernel_rfl) ?_ _
  have H5 := Lib.hid (H4.out.on hbV)
  clear hbU hbV hbd hh hP0 kS1 kS2 H4
  obtain ⟨U, hU⟩ : ∃ U, U = w6 := ⟨_, rfl⟩
  rw [← hU] at H5
  clear hp1 hq1
  go_upto_region 15 with fail
  rw [← hU]
  clear hU
  obtain ⟨q1, q2, q3⟩ := H5.out.2.1.facts
  obtain ⟨had, p1, p2⟩ := H5.out.2.2.2.2.ptA (k := 0) (by omega)
  obtain ⟨-, p3, p4⟩ := H5.out.2.2.2.2.ptA (k := m1) (by omega)
  rw [show ptAt path 0 = a from HAB.out.1.symm, show ad.add (0 * 2) = ad by simp [Addr.add]] at p1 p2
  rw [show ptAt path m1 = b by rw [HM1.out]; exact HAB.out.2.1.symm] at p3 p4
  have hwU : w.heap.size ≤ U.heap.size := H5.out.1.size
  have hn6 : n' ≤ 1048576 := by have := (listed_bd HS.out.1).2.1; have := H5.out.2.2.2.1.lens.2.1; omega
  have kI1 := fun V (hV : Below U.heap.size U V) => refInsertW_any a p A (some adp) n c n' c' V (H5.out.on hV).2.2.2.1 (ref_rings1 HS.out) hn6 HAB.out.2.2.1
  have kI2 := fun V (hV : Below U.heap.size U V) A1 n1 c1 A2 n2 c2 (hp1 : PlanAt V V.heap.size A1 n1 c1 A2 n2 c2 (eachP (insG a) p)) => refInsertW_any b (eachP (insG a) p) A1 A2 n1 c1 n2 c2 V hp1 (ref_rings2 HS.out HAB.out.2.2.1 HAB.out.2.2.2 hab) (by have := (listed_bd HS.out.1).2.1; have := hp1.lens.2.1; rw [each_len] at this; omega) HAB.out.2.2.2
  have hSP : eachP (insG b) (eachP (insG a) p) = spB p a b := rfl
  rw [hSP] at kI2
  clear hSP
  have hh : (⟨w.heap.size, 0, none⟩ : Addr).block < U.heap.size ∧ (⟨w.heap.size, 1, none⟩ : Addr).block < U.heap.size ∧ ad.block < U.heap.size ∧ (⟨ad.block, ad.off + 1, none⟩ : Addr).block < U.heap.size ∧ (ad.add (m1 * 2)).block < U.heap.size ∧ (⟨(ad.add (m1 * 2)).block, (ad.add (m1 * 2)).off + 1, none⟩ : Addr).block < U.heap.size := by simp only [block_of_add]; exact ⟨q3, q3, had, had, had, had⟩
  have hP0 : U.drew.cell? ⟨w.heap.size, 0, none⟩ = some (.slice A n c) ∧ U.drew.cell? ⟨w.heap.size, 1, none⟩ = some (.slice (some adp) n' c') ∧ U.drew.cell? ad = some (.int .i64 a.x) ∧ U.drew.cell? ⟨ad.block, ad.off + 1, none⟩ = some (.int .i64 a.y) ∧ U.drew.cell? (ad.add (m1 * 2)) = some (.int .i64 b.x) ∧ U.drew.cell? ⟨(ad.add (m1 * 2)).block, (ad.add (m1 * 2)).off + 1, none⟩ = some (.int .i64 b.y) ∧ U.heap.size ≤ U.drew.heap.size := ⟨q1, q2, p1, p2, p3, p4, Nat.le_refl _⟩
  have hbd : Below U.heap.size U U.drew := (Below.refl _ _).drew
  clear q1 q2 p1 p2 p3 p4
  go_cut [12] (fun x wx => QBox w.heap.size U wx (spB p a b) x)
  case first =>
    refine wp_region_held_drew (S := fun V => V.cell? ⟨w.heap.size, 0, none⟩ = some (.slice A n c) ∧ V.cell? ⟨w.heap.size, 1, none⟩ = some (.slice (some adp) n' c') ∧ V.cell? ad = some (.int .i64 a.x) ∧ V.cell? ⟨ad.block, ad.off + 1, none⟩ = some (.int .i64 a.y) ∧ V.cell? (ad.add (m1 * 2)) = some (.int .i64 b.x) ∧ V.cell? ⟨(ad.add (m1 * 2)).block, (ad.add (m1 * 2)).off + 1, none⟩ = some (.int .i64 b.y) ∧ U.heap.size ≤ V.heap.size) (by kernel_rfl) ?_ (fun hHeld => ?_)
    · exact hP0
    refine tk 0 ?_
    refine tk 1 ?_
    refine tk 2 ?_
    refine tk 3 ?_
    refine tk 5 ?_
    refine tk 6 ?_
    refine tk 7 ?_
    refine tk 8 ?_
    refine tk 9 ?_
    refine wpAnyH_ready (rs := [4, 11]) (by kernel_rfl) (by simp) ?_
    refine AllReadyH.cons rfl (fun K hK => ?_) (AllReadyH.cons rfl (fun K hK => ?_) AllReadyH.nil)
    · go_simp
      go_at_call 54
      (with_reducible refine (kI1 _ hbd).mono ?_)
      rintro e w5 ⟨A1, n1, c1, A2, n2, c2, hs1, rfl, hpo1, hb5⟩
      have hbU := hbd.trans hb5
      try dsimp only
      refine hK.out _ _ ?_ (fun hHeld => ?_)
      · exact hldZ6 hh hP0 hb5
      clear hK K
      try simp only [Act.put, List.setIfInBounds_toArray, List.set_cons_zero, List.set_cons_succ]
      refine wpAnyH_ready (rs := [10, 11]) (by kernel_rfl) (by simp) ?_
      refine AllReadyH.cons rfl (fun K hK => ?_) (AllReadyH.cons rfl (fun K hK => ?_) AllReadyH.nil)
      · go_simp
        go_at_call 54
        (with_reducible refine (kI2 w5 hbU _ _ _ _ _ _ hpo1.at_).mono ?_)
        rintro e w6 ⟨A3, n3, c3, A4, n4, c4, hs2, rfl, hpo2, hb6⟩
        have hbU6 := below_on hbU (Nat.le_refl _) hb6
        try dsimp only
        refine hK.out _ _ ?_ (fun hHeld => ?_)
        · exact hldZ6 hh hHeld hb6
        clear hK K
        try simp only [Act.put, List.setIfInBounds_toArray, List.set_cons_zero, List.set_cons_succ]
        have hH6 := hHeld
        refine wpAnyH_ready (rs := [11]) (by kernel_rfl) (by simp) ?_
        refine AllReadyH.cons rfl (fun K hK => ?_) AllReadyH.nil
        go_simp
        refine hK.out _ _ ?_ (fun hHeld => ?_)
        · exact hldZ6 hh hHeld ((Below.refl _ _).alloc (Nat.le_refl _) _)
        clear hK K
        try simp only [Act.put, List.setIfInBounds_toArray, List.set_cons_zero, List.set_cons_succ]
        refine wpAnyH_ready (rs := [12]) (by kernel_rfl) (by simp) ?_
        refine AllReadyH.cons rfl (fun K hK => ?_) AllReadyH.nil
        go_simp
        refine hK.out _ _ ?_ (fun hHeld => ?_)
        · exact hldZ6 hh hH6 ((Below.refl _ _).alloc (Nat.le_refl _) _)
        clear hK K
        try simp only [Act.put, List.setIfInBounds_toArray, List.set_cons_zero, List.set_cons_succ]
        refine wpAnyH_done (by kernel_rfl) ?_ _
        go_wp2_with fail
        go_meet
        exact qbox_1 hbU6 (hpo2.mono (Nat.le_trans hwU hbU.size))
      · go_simp
        refine hK.out _ _ ?_ (fun hHeld => ?_)
        · exact hldZ6 hh hHeld ((Below.refl _ _).alloc (Nat.le_refl _) _)
        clear hK K
        try simp only [Act.put, List.setIfInBounds_toArray, List.set_cons_zero, List.set_cons_succ]
        refine wpAnyH_ready (rs := [10]) (by kernel_rfl) (by simp) ?_
        refine AllReadyH.cons rfl (fun K hK => ?_) AllReadyH.nil
        go_simp
        go_at_call 54
        (with_reducible refine (kI2 _ (hbU.alloc hbU.size _) _ _ _ _ _ _ (hpo1.at_.on ((Below.refl _ _).alloc (Nat.le_refl _) _))).mono ?_)
        rintro e w6 ⟨A3, n3, c3, A4, n4, c4, hs2, rfl, hpo2, hb6⟩
        have hk6 := (PlK.new w5 none 0 0 none 0 0).on hb6
        obtain ⟨y1, y2, f1, f2⟩ := plk_facts4 hk6
        have hbU6 := below_on (hbU.alloc hbU.size _) (Nat.le_refl _) hb6
        try dsimp only
        refine hK.out _ _ ?_ (fun hHeld => ?_)
        · exact hldZ6 hh hHeld hb6
        clear hK K
        try simp only [Act.put, List.setIfInBounds_toArray, List.set_cons_zero, List.set_cons_succ]
        refine wpAnyH_ready (rs := [12]) (by kernel_rfl) (by simp) ?_
        refine AllReadyH.cons rfl (fun K hK => ?_) AllReadyH.nil
        have hs7 := hHeld
        have hsz := hbU.size
        go_simp
        refine hK.out _ _ ?_ (fun hHeld => ?_)
        · exact hldZ6c ⟨fun e => by have := congrArg Addr.block e; simp only at this; omega, fun e => by have := congrArg Addr.block e; simp only at this; omega, fun e => by have := congrArg Addr.block e; simp only at this; omega, fun e => by have := congrArg Addr.block e; simp only at this; omega, fun e => by have := congrArg Addr.block e; simp only [block_of_add] at this; omega, fun e => by have := congrArg Addr.block e; simp only [block_of_add] at this; omega⟩ (hldZ6c ⟨fun e => by have := congrArg Addr.block e; simp only at this; omega, fun e => by have := congrArg Addr.block e; simp only at this; omega, fun e => by have := congrArg Addr.block e; simp only at this; omega, fun e => by have := congrArg Addr.block e; simp only at this; omega, fun e => by have := congrArg Addr.block e; simp only [block_of_add] at this; omega, fun e => by have := congrArg Addr.block e; simp only [block_of_add] at this; omega⟩ hs7)
        clear hK K
        try simp only [Act.put, List.setIfInBounds_toArray, List.set_cons_zero, List.set_cons_succ]
        refine wpAnyH_done (by kernel_rfl) ?_ _
        go_wp2_with fail
        go_meet
        exact qbox_2 hbU6 hbU.size hk6 (hpo2.mono (Nat.le_trans hwU (by have := hbU.size; simp; omega)))
    · go_simp
      refine hK.out _ _ ?_ (fun hHeld => ?_)
      · exact hldZ6 hh hP0 (show Below U.drew.heap.size U.drew (World.drew _) from (Below.refl U.drew.heap.size U.drew).alloc (Nat.le_refl _) _)
      clear hK K
      try simp only [Act.put, List.setIfInBounds_toArray, List.set_cons_zero, List.set_cons_succ]
      have hbz : Below U.heap.size U (World.drew (U.alloc (.cells #[.slice none 0 0, .slice none 0 0] 26))) := ((Below.refl _ _).alloc (Nat.le_refl _) _).drew
      refine wpAnyH_ready (rs := [4]) (by kernel_rfl) (by simp) ?_
      refine AllReadyH.cons rfl (fun K hK => ?_) AllReadyH.nil
      go_simp
      go_at_call 54
      (with_reducible refine (kI1 _ hbz).mono ?_)
      rintro e w5 ⟨A1, n1, c1, A2, n2, c2, hs1, rfl, hpo1, hb5⟩
      have hk5 : PlK w5 U.heap.size none 0 0 none 0 0 := Blk.below (Blk.drew (PlK.new U none 0 0 none 0 0)) hb5 (by simp)
      have hbU := below_on hbz (Nat.le_refl _) hb5
      try dsimp only
      refine hK.out _ _ ?_ (fun hHeld => ?_)
      · exact hldZ6 hh hHeld hb5
      clear hK K
      try simp only [Act.put, List.setIfInBounds_toArray, List.set_cons_zero, List.set_cons_succ]
      refine wpAnyH_ready (rs := [10]) (by kernel_rfl) (by simp) ?_
      refine AllReadyH.cons rfl (fun K hK => ?_) AllReadyH.nil
      go_simp
      go_at_call 54
      (with_reducible refine (kI2 w5 hbU _ _ _ _ _ _ hpo1.at_).mono ?_)
      rintro e w6 ⟨A3, n3, c3, A4, n4, c4, hs2, rfl, hpo2, hb6⟩
      have hk6 := hk5.on hb6
      obtain ⟨y1, y2, f1, f2⟩ := plk_facts4 hk6
      have hbU6 := below_on hbU (Nat.le_refl _) hb6
      try dsimp only
      refine hK.out _ _ ?_ (fun hHeld => ?_)
      · exact hldZ6 hh hHeld hb6
      clear hK K
      try simp only [Act.put, List.setIfInBounds_toArray, List.set_cons_zero, List.set_cons_succ]
      refine wpAnyH_ready (rs := [12]) (by kernel_rfl) (by simp) ?_
      refine AllReadyH.cons rfl (fun K hK => ?_) AllReadyH.nil
      have hs7 := hHeld
      go_simp
      refine hK.out _ _ ?_ (fun hHeld => ?_)
      · exact hldZ6c ⟨fun e => by have := congrArg Addr.block e; simp only at this; omega, fun e => by have := congrArg Addr.block e; simp only at this; omega, fun e => by have := congrArg Addr.block e; simp only at this; omega, fun e => by have := congrArg Addr.block e; simp only at this; omega, fun e => by have := congrArg Addr.block e; simp only [block_of_add] at this; omega, fun e => by have := congrArg Addr.block e; simp only [block_of_add] at this; omega⟩ (hldZ6c ⟨fun e => by have := congrArg Addr.block e; simp only at this; omega, fun e => by have := congrArg Addr.block e; simp only at this; omega, fun e => by have := congrArg Addr.block e; simp only at this; omega, fun e => by have := congrArg Addr.block e; simp only at this; omega, fun e => by have := congrArg Addr.block e; simp only [block_of_add] at this; omega, fun e => by have := congrArg Addr.block e; simp only [block_of_add] at this; omega⟩ hs7)
      clear hK K
      try simp only [Act.put, List.setIfInBounds_toArray, List.set_cons_zero, List.set_cons_succ]
      refine wpAnyH_done (by kernel_rfl) ?_ _
      go_wp2_with fail
      go_meet
      exact qbox_2 hbU6 (Nat.le_refl _) hk6 (hpo2.mono (Nat.le_trans hwU hbU.size))
  case rest =>
    obtain ⟨Bq, A1, n1, c1, A2, n2, c2, hs, rfl, hBq, hQ, hpo, hbc⟩ := hcut
    obtain ⟨W7, rfl⟩ : ∃ X, X = wc := ⟨_, rfl⟩
    have H7 := Lib.hid (And.intro (H5.out.on hbc) (And.intro hQ hpo))
    have HNB0 := Lib.hid (show w.heap.size + 1 < Bq by have := Blk.lt H5.out.2.2.1; omega)
    clear hQ hpo hbc H5 hh hP0 hbd kI1 kI2
    obtain ⟨q1, q2, q3⟩ := H7.out.2.1.facts
    have hk2 : k < n2 := by have := H7.out.2.2.lenp; rw [spB_len] at this; have := HK.out; omega
    have hk2' : (k : Int) < (n2 : Int) := by omega
    obtain ⟨adq, rfl⟩ := H7.out.2.2.at_.parcs.some_ (by omega)
    obtain ⟨hadq, -, -, -⟩ := H7.out.2.2.at_.parcs.at_ hk2
    have s2 := H7.out.2.2.hdC hk2
    have hro := H7.out.2.2.rings k hk2
    obtain ⟨⟨Ar, nr, cr⟩, hhd⟩ : ∃ h, h = hdAt hs k := ⟨_, rfl⟩
    rw [← hhd] at s2 hro
    simp only at s2 hro
    obtain ⟨r, hr⟩ : ∃ r, r = cutRing p k a b := ⟨_, rfl⟩
    rw [show (pcAt (spB p a b).parcels k).ring = r from hr.symm] at hro
    have hrl : r.length ≤ 512 := by rw [hr]; exact (cut_rings HS.out HAB.out.2.2.1 HAB.out.2.2.2 _ (cutRing_of HK.out)).2
    have har : a ∈ r ∧ b ∈ r := by rw [hr]; exact cut_has HS.out HK.out HAB.out.2.2.1 HAB.out.2.2.2 (by rw [← HRR.out.1]; exact HRR.out.2.1.symm) (by rw [← HRR.out.1]; exact HRR.out.2.2.symm)
    have hrn : r.length = nr := (Reads.of_own hro).lenPt
    have HR := Lib.hid (And.intro hrl (And.intro har (And.intro hrn (And.intro hr hhd))))
    have HO := Lib.hid hro
    clear hro hrl har hrn hr hhd hadq
    go_upto_region 17 with fail
    clear s2 q1 q2 q3 hk2'
    obtain ⟨i0, hi0, hz0, hz1, hz2⟩ := info_parts info_pt
    have hba : Below W7.heap.size W7 (W7.alloc (.cells #[] 35)) := (Below.refl _ _).alloc (Nat.le_refl _) _
    have hown0 : (W7.alloc (.cells #[] 35)).ownsRow W7.heap.size 35 2 (.slice (some ⟨W7.heap.size, 0, none⟩) 0 0) 0 [] := World.ownsRow_made (base := W7.heap.size) (e := 35) (size := 2) W7 #[] 0 (Nat.le_refl _) (by simp [maxLen]) rfl
    have H8 := Lib.hid (And.intro hown0 (And.intro (H7.out.1.on hba).2.2.2.2 (And.intro (show 0 + m ≤ maxLen by simp only [maxLen]; omega) (And.intro (show (0 + m) * 16 ≤ 140737488355328 by omega) (show W7.heap.size ≤ (W7.alloc (.cells #[] 35)).heap.size by simp)))))
    clear hba hown0
    go_wp2_with (at_builtin; refine wpList_append_any _ rfl (.tmp 107) (.tmp 108) _ rfl W7.heap.size 35 i0 _ 2 16 Tryz.underlying23 hi0 hz0 hz1 hz2 rfl (Nat.zero_lt_succ _) (.slice (some ⟨W7.heap.size, 0, none⟩) 0 0) 0 [] rfl H8.out.1 _ (some ad) m cb (ptsV path) rfl H8.out.2.1 (ptsV_one _) H8.out.2.2.1 H8.out.2.2.2.1 H8.out.2.2.2.2 ?_
                 intro v6 w8 hown6 hg6 hat6
                 simp only [Nat.zero_add, List.nil_append] at hown6
                 obtain ⟨A6, c6, rfl⟩ := own_form hown6
                 have hb8 : Below W7.heap.size W7 w8 := Below.grown ((Below.refl _ _).alloc (Nat.le_refl _) _) hg6 (by simp) (fun g e => by simp [Value.ownBlock] at e; omega)
                 have H9 := Lib.hid (And.intro hown6 hb8)
                 obtain ⟨-, p3, p4⟩ := (H7.out.1.on hb8).2.2.2.2.ptA (k := m1) (by omega)
                 rw [show ptAt path m1 = b by rw [HM1.out]; exact HAB.out.2.1.symm] at p3 p4
                 clear hown6 hg6 hat6 hb8 H8)
    obtain ⟨i, hi, hidx, -, -⟩ := idx_lt HR.out.2.1.2
    obtain ⟨K, hK, hKt, hKn⟩ := way_comes HR.out.2.1.1 (i + 1)
    have hl := HR.out.2.2.1
    rw [hl] at hi hK hKt hKn
    have kI := inR_any r b Ar nr cr w8 ((Reads.of_own HO.out).on H9.out.2) (by have := HR.out.1; omega)
    rw [hidx] at kI
    refine kI.mono ?_
    rintro e w9 ⟨rfl, hb9⟩
    have H10 := Lib.hid (And.intro (own_below H9.out.1 hb9) (below_on H9.out.2 (Nat.le_refl _) hb9))
    have hnr : nr ≤ 512 := by have := HR.out.1; omega
    have hw0 : IntKind.i64.wrap ((i : Int) + 1) = (i : Int) + 1 := by rw [IntKind.wrap_i64]; omega
    have HKK := Lib.hid (And.intro hidx (And.intro hKt hKn))
    clear hb9 kI H9 p3 p4 hidx hKt hKn
    go_wp2_with fail
    go_loopw [14, 15] (fun o v wr => ∃ (j : Nat) (A' : Option Addr) (c' : Nat), j ≤ K ∧ v = .int .i64 ((i : Int) + 1 + (j : Int)) ∧ o = .slice A' (m + j) c' ∧ Hid (wr.ownsRow W7.heap.size 35 2 (.slice A' (m + j) c') (m + j) (ptsV (path ++ wayL r (i + 1) j)) ∧ Below W7.heap.size W7 wr)) (fun _ v _ => 2097152 - (intOf v).toNat)
    case atStart => exact ⟨0, A6, c6, Nat.zero_le _, by simp, rfl, by simpa [wayL] using H10.out.1, H10.out.2⟩
    case round =>
      clear H10
      obtain ⟨j, A7, c7, hj, rfl, rfl, HW⟩ := hrel
      obtain ⟨V, rfl⟩ : ∃ X, X = wr := ⟨_, rfl⟩
      have hw1 : IntKind.i64.wrap ((i : Int) + 1 + (j : Int) + 1) = (i : Int) + 1 + ((j + 1 : Nat) : Int) := by rw [IntKind.wrap_i64]; omega
      obtain ⟨M, hM⟩ : ∃ M, M = (i + 1 + j) % nr := ⟨_, rfl⟩
      have hMn : M < nr := by rw [hM]; exact Nat.mod_lt _ (by omega)
      have hMi : (M : Int) < (nr : Int) := by omega
      have hmt : ((i : Int) + 1 + (j : Int)).tmod (nr : Int) = (M : Int) := by
        rw [hM, Int.tmod_eq_emod_of_nonneg (by omega), Int.natCast_emod]
        congr 1
      have hwM : IntKind.i64.wrap (M : Int) = (M : Int) := by rw [IntKind.wrap_i64]; omega
      have hn0 : ((nr : Int) == 0) = false := by rw [beq_eq_false_iff_ne]; omega
      have HM := Lib.hid hM
      have hrd := (Reads.of_own HO.out).on HW.out.2
      obtain ⟨adr, rfl, -, -, -, -⟩ := hrd.pt hMn
      obtain ⟨-, p1, p2⟩ := hrd.ptA hMn
      obtain ⟨-, t1, t2⟩ := (H7.out.1.on HW.out.2).2.2.2.2.ptA (k := 0) (by omega)
      rw [show ptAt path 0 = a from HAB.out.1.symm, show ad.add (0 * 2) = ad by simp [Addr.add]] at t1 t2
      obtain ⟨Q, hQ⟩ : ∃ Q, Q = ptAt r M := ⟨_, rfl⟩
      rw [← hQ] at p1 p2
      have he := fun V => neqPt_runs Q a V
      have hg := fun op x y V => (eqPt_runs Q a op x y V).2
      have HP := Lib.hid hQ
      clear hM hQ hrd
      by_cases hpt : Q = a
      · have hkK : j = K := by
          rcases Nat.lt_or_ge j K with h | h
          · exact absurd (by rw [← HM.out, ← HP.out]; exact hpt) (HKK.out.2.2 j h)
          · omega
        subst hkK
        rw [decide_eq_true hpt] at he
        clear hpt
        go_wp2_with fail
        go_quiet (fail)
        obtain ⟨X, hX⟩ : ∃ X, X = V.drewN nq := ⟨_, rfl⟩
        have hbd : Below V.heap.size V X := by rw [hX]; exact below_drewN (Below.refl _ _) _
        have hwy : wayI r b a = wayL r (i + 1) j := wayI_eq HKK.out.1 (by rw [HR.out.2.2.1]; exact hK) (by rw [HR.out.2.2.1]; exact HKK.out.2.1) (fun j' hj' => by rw [HR.out.2.2.1]; exact HKK.out.2.2 j' hj')
        have H12 := Lib.hid (And.intro (show X.ownsRow W7.heap.size 35 2 (.slice A7 (m + j) c7) (m + j) (ptsV (path ++ wayI r b a)) by rw [hwy]; exact own_below HW.out.1 hbd) (And.intro (below_on HW.out.2 (Nat.le_refl _) hbd) (show j = (wayI r b a).length by rw [hwy, wayL_len])))
        rw [← hX]
        clear hX hbd hwy HW HKK HM HP t1 t2 p1 p2 he hg hmt hwM hn0 hMi hMn hw0 hw1 hj hi
        have hlm := HL.out
        have hjb : j ≤ 512 := by omega
        clear hK
        go_wp2_with fail
        go_loopw [16, 17] (fun s i wr => ∃ (q : Nat) (A9 : Option Addr) (c9 : Nat), q ≤ m ∧ i = .int .i64 ((m1 : Int) - (q : Int)) ∧ s = .slice A9 q c9 ∧ Hid (wr.ownsRow X.heap.size 35 2 (.slice A9 q c9) q (ptsV (path.reverse.take q)) ∧ Below X.heap.size X wr)) (fun _ i _ => (intOf i + 1).toNat)
        case atStart => exact ⟨0, none, 0, Nat.zero_le _, by simp, rfl, World.ownsRow_nil _ _ _ _, Below.refl _ _⟩
        case round =>
          obtain ⟨q, A9, c9, hq, rfl, rfl, HW⟩ := hrel
          obtain ⟨V, rfl⟩ : ∃ X, X = wr := ⟨_, rfl⟩
          by_cases hlt : q < m
          · have g1 : (0 : Int) ≤ (m1 : Int) - (q : Int) := by have := HM1.out; omega
            obtain ⟨M, hM⟩ : ∃ M, M = m1 - q := ⟨_, rfl⟩
            have hMi : (m1 : Int) - (q : Int) = (M : Int) := by have := HM1.out; omega
            have hMn : M < m := by omega
            have hMn' : (M : Int) < (m : Int) := by omega
            have hw1 : IntKind.i64.wrap ((M : Int) - 1) = (m1 : Int) - ((q + 1 : Nat) : Int) := by rw [IntKind.wrap_i64]; omega
            have hrd := ((H7.out.1.on H12.out.2.1).on HW.out.2).2.2.2.2
            obtain ⟨-, p1, p2⟩ := hrd.ptA hMn
            have HW1 := Lib.hid (And.intro hw1 (And.intro hMi hlt))
            clear hw1
            obtain ⟨R, hR⟩ : ∃ R, R = ptAt path M := ⟨_, rfl⟩
            rw [← hR] at p1 p2
            have hts : path.reverse.take (q + 1) = path.reverse.take q ++ [R] := by
              rw [List.take_succ_eq_append_getElem (by rw [List.length_reverse]; omega), hR, ← ptAt_lt, ptAt_rev (by omega)]
              congr 3
              have := HM1.out
              omega
            have HT := Lib.hid hts
            have hown := HW.out.1
            have HB := Lib.hid HW.out.2
            rw [hMi]
            clear hM hMi hR hts HW hrd
            go_wp2_with (at_builtin; refine wpList_append_any _ rfl (.tmp 147) (.tmp 152) _ rfl X.heap.size 35 i0 _ 2 16 Tryz.underlying23 hi0 hz0 hz1 hz2 rfl (by omega) (.slice A9 q c9) q _ rfl (hown.alloc _) (V.alloc (.cells #[.int .i64 R.x, .int .i64 R.y] 35)).heap.size (some ⟨V.heap.size, 0, none⟩) 1 1 (ptsV [R]) rfl (Reads.made V _ _ _ 2 1 _ rfl rfl) (ptsV_one _) (by simp only [maxLen]; omega) (by omega) (by have := HB.out.size; simp; omega) ?_; intro v6 w6 hown6 hg6 hat6; have hB6 := (HB.out.alloc HB.out.size _).grown hg6 (by have := HB.out.size; simp; omega) (fun g hg => by have := (hown.lt g hg).1; omega); rw [← ptsV_append, ← HT.out] at hown6; obtain ⟨A10, c10, rfl⟩ := own_form hown6; have H6 := Lib.hid (And.intro hown6 hB6); clear hown6 hB6 hg6 hat6 hown)
            go_roundw
            case rel => exact ⟨q + 1, A10, c10, by have := HW1.out.2.2; omega, congrArg (Value.int .i64) (by have := HW1.out.2.1; omega), rfl, H6.out⟩
            case measure => simp [intOf]
          · obtain rfl : q = m := by omega
            have g1 : ¬ (0 : Int) ≤ (m1 : Int) - (q : Int) := by have := HM1.out; omega
            have hrow := HW.out.1
            rw [List.take_of_length_le (by rw [List.length_reverse]; exact Nat.le_of_eq HL.out)] at hrow
            have H13 := Lib.hid (And.intro hrow HW.out.2)
            obtain ⟨-, t1, t2⟩ := ((H7.out.1.on H12.out.2.1).on HW.out.2).2.2.2.2.ptA (k := 0) (by omega)
            rw [show ptAt path 0 = a from HAB.out.1.symm, show ad.add (0 * 2) = ad by simp [Addr.add]] at t1 t2
            clear HW hrow
            go_wp2_with fail
            obtain ⟨i, hi, hidx, -, -⟩ := idx_lt HR.out.2.1.1
            obtain ⟨K, hK, hKt, hKn⟩ := way_comes HR.out.2.1.2 (i + 1)
            have hl := HR.out.2.2.1
            rw [hl] at hi hK hKt hKn
            have kI := inR_any r a (some adr) nr cr V ((Reads.of_own HO.out).on (below_on H12.out.2.1 (Nat.le_refl _) H13.out.2)) (by omega)
            rw [hidx] at kI
            refine kI.mono ?_
            rintro e w9 ⟨rfl, hb9⟩
            have H14 := Lib.hid (And.intro (own_below H13.out.1 hb9) (below_on H13.out.2 (Nat.le_refl _) hb9))
            have hw0 : IntKind.i64.wrap ((i : Int) + 1) = (i : Int) + 1 := by rw [IntKind.wrap_i64]; omega
            have HKK := Lib.hid (And.intro hidx (And.intro hKt hKn))
            have HXB := Lib.hid H12.out.2.1
            clear hb9 kI H13 t1 t2 hidx hKt hKn g1 hl
            go_wp2_with fail
            go_loopw [16, 18] (fun o v wr => ∃ (j : Nat) (A' : Option Addr) (c' : Nat), j ≤ K ∧ v = .int .i64 ((i : Int) + 1 + (j : Int)) ∧ o = .slice A' (q + j) c' ∧ Hid (wr.ownsRow X.heap.size 35 2 (.slice A' (q + j) c') (q + j) (ptsV (path.reverse ++ wayL r (i + 1) j)) ∧ Below X.heap.size X wr)) (fun _ v _ => 2097152 - (intOf v).toNat)
            case atStart => exact ⟨0, A9, c9, Nat.zero_le _, by simp, rfl, by simpa [wayL] using H14.out.1, H14.out.2⟩
            case round =>
              clear H14
              obtain ⟨jj, A8, c8, hj, rfl, rfl, HW⟩ := hrel
              obtain ⟨V, rfl⟩ : ∃ X, X = wr := ⟨_, rfl⟩
              have hw1 : IntKind.i64.wrap ((i : Int) + 1 + (jj : Int) + 1) = (i : Int) + 1 + ((jj + 1 : Nat) : Int) := by rw [IntKind.wrap_i64]; omega
              obtain ⟨M, hM⟩ : ∃ M, M = (i + 1 + jj) % nr := ⟨_, rfl⟩
              have hMn : M < nr := by rw [hM]; exact Nat.mod_lt _ (by omega)
              have hMi : (M : Int) < (nr : Int) := by omega
              have hmt : ((i : Int) + 1 + (jj : Int)).tmod (nr : Int) = (M : Int) := by
                rw [hM, Int.tmod_eq_emod_of_nonneg (by omega), Int.natCast_emod]
                congr 1
              have hwM : IntKind.i64.wrap (M : Int) = (M : Int) := by rw [IntKind.wrap_i64]; omega
              have hn0 : ((nr : Int) == 0) = false := by rw [beq_eq_false_iff_ne]; omega
              have HM := Lib.hid hM
              have hbW := below_on HXB.out (Nat.le_refl _) HW.out.2
              have hrd := (Reads.of_own HO.out).on hbW
              obtain ⟨-, p1, p2⟩ := hrd.ptA hMn
              obtain ⟨-, t1, t2⟩ := (H7.out.1.on hbW).2.2.2.2.ptA (k := m1) (by omega)
              rw [show ptAt path m1 = b by rw [HM1.out]; exact HAB.out.2.1.symm] at t1 t2
              obtain ⟨Q, hQ⟩ : ∃ Q, Q = ptAt r M := ⟨_, rfl⟩
              rw [← hQ] at p1 p2
              have he := fun V => neqPt_runs Q b V
              have hg := fun op x y V => (eqPt_runs Q b op x y V).2
              have HP := Lib.hid hQ
              clear hM hQ hrd hbW
              by_cases hpt : Q = b
              · have hkK : jj = K := by
                  rcases Nat.lt_or_ge jj K with h | h
                  · exact absurd (by rw [← HM.out, ← HP.out]; exact hpt) (HKK.out.2.2 jj h)
                  · omega
                subst hkK
                rw [decide_eq_true hpt] at he
                clear hpt
                go_wp2_with fail
                go_quiet (fail)
                obtain ⟨X2, hX2⟩ : ∃ Z, Z = V.drewN nq := ⟨_, rfl⟩
                have hbd : Below V.heap.size V X2 := by rw [hX2]; exact below_drewN (Below.refl _ _) _
                have hwy : wayI r a b = wayL r (i + 1) jj := wayI_eq HKK.out.1 (by rw [HR.out.2.2.1]; exact hK) (by rw [HR.out.2.2.1]; exact HKK.out.2.1) (fun j' hj' => by rw [HR.out.2.2.1]; exact HKK.out.2.2 j' hj')
                have hjj : jj ≤ 512 := by omega
                have hbX2 : Below X.heap.size X X2 := below_on HW.out.2 (Nat.le_refl _) hbd
                have hbW2 : Below W7.heap.size W7 X2 := below_on HXB.out (Nat.le_refl _) hbX2
                have hq0 : path0 path = a := HAB.out.1.symm
                have hq1 : path1 path = b := by rw [HAB.out.2.1]; unfold path1; rw [HL.out]
                have hrA : rawA r path = path.reverse ++ wayI r a b := by unfold rawA; rw [hq0, hq1]
                have hrB : rawB r path = path ++ wayI r b a := by unfold rawB; rw [hq0, hq1]
                have hrow : X2.ownsRow w.heap.size 35 2 (.slice A8 (q + jj) c8) (q + jj) (ptsV (rawA r path)) := by rw [hrA, hwy]; exact own_mono (own_below HW.out.1 hbd) (Nat.le_trans H7.out.1.1.size HXB.out.size)
                have hleft : X2.ownsRow w.heap.size 35 2 (.slice A7 (q + j) c7) (q + j) (ptsV (rawB r path)) := by rw [hrB]; exact own_mono (own_below H12.out.1 hbX2) H7.out.1.1.size
                have hpo2 := H7.out.2.2.below hbW2
                have hQ2 := H7.out.2.1.on hbW2
                have hR2 := (H7.out.1.on hbW2).2.2.1
                have hB2 := (H7.out.1.on hbW2).1
                have hlA : (rawA r path).length = q + jj := (Reads.of_own hrow).lenPt
                have hlB : (rawB r path).length = q + j := (Reads.of_own hleft).lenPt
                have hgr : ∀ z ∈ r, good z = true := by rw [HR.out.2.2.2.1]; exact fun z hz => goodL_mem (cut_rings HS.out HAB.out.2.2.1 HAB.out.2.2.2 _ (cutRing_of HK.out)).1 hz
                have hr0 : 0 < r.length := List.length_pos_of_mem HR.out.2.1.1
                have hgA : ∀ z ∈ rawA r path, z.inI := fun z hz => good_in2 (by rcases List.mem_append.1 hz with h | h; exact goodL_mem HG.out (List.mem_reverse.1 h); exact hgr _ (wayI_sub hr0 h))
                have hgB : ∀ z ∈ rawB r path, z.inI := fun z hz => good_in2 (by rcases List.mem_append.1 hz with h | h; exact goodL_mem HG.out h; exact hgr _ (wayI_sub hr0 h))
                have hfB := spB_fits HS.out HPR.out.1.fits HAB.out.2.2.1 HAB.out.2.2.2
                have hfA : (setR (spB p a b) k (rawA r path)).fits := setR_fits hfB (by rw [spB_len]; exact HK.out) (by omega) hgA
                obtain ⟨hpo3, hltq, hBq2⟩ := hpo2.setRing hk2 hrow hfA
                have s2 := hpo2.hdC hk2
                have f2 := hpo2.frzC hk2
                have hne := own_blk_ne hpo2.row hQ2 (by decide)
                have hne2 := own_blk_ne hpo2.row hR2 (by decide)
                have hne3 := fun e => own_own_ne hpo2.row hleft (by decide) (g := adq.block) rfl e
                obtain ⟨q1, q2, q3⟩ := hQ2.facts
                have hk2' : (k : Int) < (n2 : Int) := by omega
                rw [← hX2]
                clear hX2 hbd hwy HW HKK HM HP t1 t2 p1 p2 he hg hmt hwM hn0 hMi hMn hw0 hw1 hj hi hrA hrB hK
                obtain ⟨Z, hZ⟩ : ∃ Z, Z = X2.setCell ⟨(adq.add (k * 3)).block, (adq.add (k * 3)).off + 1, none⟩ (.slice A8 (q + jj) c8) := ⟨_, rfl⟩
                have hlZ : Z.ownsRow w.heap.size 35 2 (.slice A7 (q + j) c7) (q + j) (ptsV (rawB r path)) := by rw [hZ]; exact ownsRow_setCell_other hleft (by rw [block_of_add]; exact hne3) _
                have hQZ : PlK Z Bq A1 n1 c1 (some adq) n2 c2 := by rw [hZ]; exact Blk.far hQ2 (by rw [block_of_add]; exact fun e => hne (by rw [e]; rfl)) _
                have hRZ : PlK Z (w.heap.size + 1) none 0 0 none 0 0 := by rw [hZ]; exact Blk.far hR2 (by rw [block_of_add]; exact fun e => hne2 (by rw [e]; rfl)) _
                have hBZ : Below w.heap.size w Z := by rw [hZ]; exact hB2.setCell (p := ⟨(adq.add (k * 3)).block, (adq.add (k * 3)).off + 1, none⟩) (by simp only [block_of_add]; exact hBq2) _
                rw [← hZ] at hpo3
                obtain ⟨Q1, hQ1⟩ : ∃ q, q = setR (spB p a b) k (rawA r path) := ⟨_, rfl⟩
                rw [← hQ1] at hpo3
                obtain ⟨o, ho⟩ : ∃ o, o = (pcAt Q1.parcels k).owner := ⟨_, rfl⟩
                have hoo : o = (pcAt p.parcels k).owner := by rw [ho, hQ1]; unfold setR; rw [pcAt_set (by rw [spB_len]; exact HK.out), if_pos rfl, pcAt_spB HK.out]
                have hQl : Q1.parcels.length = p.parcels.length := by rw [hQ1, setR_len, spB_len]
                have hn64 : n2 ≤ 64 := by have h1 := (listed_bd HS.out.1).2.1; have h2 := hpo3.lenp; omega
                have hfS : (⟨Q1.outer, Q1.parcels ++ [⟨fresh, rawB r path, o⟩]⟩ : Plan).fits := snoc_fits hpo3.fits (by have := hpo3.lenp; omega) ⟨by show (rawB r path).length ≤ _; rw [hlB]; omega, hgB, by have h := HID.out.1; unfold idB at h; simp at h; show inI fresh; unfold inI; omega, by rw [hoo]; exact (HPR.out.1.fits.pc HK.out).2.2.2⟩
                have hids : Q1.parcels.map (·.id) = p.parcels.map (·.id) := by rw [hQ1, setR_ids]; unfold spB; rw [each_ids, each_ids]
                have hpw := pw_ids hids (listed_pw HS.out.1)
                have hno := no_ids hids HID.out.2
                have HPW := Lib.hid (And.intro hpw hno)
                have HFS := Lib.hid hfS
                have HAL := Lib.hid (And.intro (show n2 + 1 ≤ maxLen by simp only [maxLen]; omega) (And.intro (show (n2 + 1) * 48 ≤ 140737488355328 by omega) (show n2 + 1 ≤ 1048576 by omega)))
                have HZ := Lib.hid (And.intro hBZ (And.intro hQZ (And.intro hRZ (And.intro hpo3 hlZ))))
                have HNB := Lib.hid (And.intro (show w.heap.size ≤ Bq by have := Blk.lt H7.out.1.2.2.1; have := H7.out.1.1.size; omega) (show w.heap.size + 1 ≠ Bq by have := HNB0.out; omega))
                have HQ1 := Lib.hid (And.intro hQ1 (And.intro hoo (And.intro hlA hlB)))
                clear hlZ hQZ hRZ hBZ hpo3 hQl hn64 hfS hids hpw hno hQ1 hoo hlA hlB hgA hgB
                go_upto_region 32 with fail
                rw [← hZ]
                clear hZ s2 f2 q1 q2 q3 hne hne2 hne3 hpo2 hQ2 hR2 hB2 hrow hleft hltq hBq2 hfA hfB
                obtain ⟨i1, hi1, hy0, hy1, hy2⟩ := info_parts info_pc
                obtain ⟨q1, q2, q3⟩ := HZ.out.2.1.facts
                obtain ⟨-, -, -, s3⟩ := HZ.out.2.2.2.1.at_.parcs.at_ hk2
                rw [← ho] at s3
                clear ho
                have hcq := fun V (hV : Below Z.heap.size Z V) => (hV.cell (p := ⟨Bq, 1, none⟩) q3).trans q2
                have hco := fun V (hV : Below Z.heap.size Z V) => (hV.cell (p := ⟨(adq.add (k * 3)).block, (adq.add (k * 3)).off + 2, none⟩) (cell_lt s3)).trans s3
                clear q1 q2 q3 s3
                have hP0 : Z.heap.size ≤ Z.drew.heap.size := Nat.le_refl _
                have hbd : Below Z.heap.size Z Z.drew := (Below.refl _ _).drew
                go_cut [] (fun wx => ∃ (A9 : Option Addr) (c9 : Nat) (hs9 : List Hd), Below w.heap.size w wx ∧ PlK wx Bq A1 n1 c1 A9 (n2 + 1) c9 ∧ PlK wx (w.heap.size + 1) none 0 0 none 0 0 ∧ PlanOwn w.heap.size wx A1 n1 c1 A9 (n2 + 1) c9 ⟨Q1.outer, putId ⟨fresh, rawB r path, o⟩ Q1.parcels⟩ hs9)
                case first =>
                  refine wp_region_held_drew (S := fun V => Z.heap.size ≤ V.heap.size) (by kernel_rfl) ?_ (fun hHeld => ?_)
                  · exact hP0
                  refine tk 0 ?_
                  refine tk 2 ?_
                  refine tk 3 ?_
                  refine tk 4 ?_
                  refine tk 6 ?_
                  refine wpAnyH_ready (rs := [1, 5]) (by kernel_rfl) (by simp) ?_
                  refine AllReadyH.cons rfl (fun K hK => ?_) (AllReadyH.cons rfl (fun K hK => ?_) AllReadyH.nil)
                  · have LW := hcq _ hbd
                    go_simp
                    refine hK.out _ _ ?_ (fun hHeld => ?_)
                    · first | exact hHeld | exact hP0
                    clear LW
                    clear hK K
                    try simp only [Act.put, List.setIfInBounds_toArray, List.set_cons_zero, List.set_cons_succ]
                    refine wpAnyH_ready (rs := [5]) (by kernel_rfl) (by simp) ?_
                    refine AllReadyH.cons rfl (fun K hK => ?_) AllReadyH.nil
                    have LW := hcq _ hbd
                    go_simp
                    refine hK.out _ _ ?_ (fun hHeld => ?_)
                    · first | exact hHeld | exact hP0
                    clear LW
                    clear hK K
                    try simp only [Act.put, List.setIfInBounds_toArray, List.set_cons_zero, List.set_cons_succ]
                    refine tk 7 ?_
                    refine tk 8 ?_
                    refine wpAnyH_ready (rs := [9]) (by kernel_rfl) (by simp) ?_
                    refine AllReadyH.cons rfl (fun K hK => ?_) AllReadyH.nil
                    have LW := hco _ hbd
                    go_simp
                    refine hK.out _ _ ?_ (fun hHeld => ?_)
                    · first | exact hHeld | exact hP0
                    clear LW
                    clear hK K
                    try simp only [Act.put, List.setIfInBounds_toArray, List.set_cons_zero, List.set_cons_succ]
                    refine tk 10 ?_
                    refine wpAnyH_ready (rs := [11]) (by kernel_rfl) (by simp) ?_
                    refine AllReadyH.cons rfl (fun K hK => ?_) AllReadyH.nil
                    go_simp
                    refine hK.out _ _ ?_ (fun hHeld => ?_)
                    · exact Nat.le_trans hHeld (by simp)
                    clear hK K
                    try simp only [Act.put, List.setIfInBounds_toArray, List.set_cons_zero, List.set_cons_succ]
                    have hB11 : Below Z.heap.size Z (World.drew (Z.alloc (.cells #[.int .i64 fresh, .slice A7 (q + j) c7, .string o] 37))) := ((Below.refl _ _).alloc (Nat.le_refl _) _).drew
                    have hnew := own_below HZ.out.2.2.2.2 hB11
                    have HAP := Lib.hid (And.intro (HZ.out.2.2.2.1.below hB11).row (And.intro (show Reads (World.drew (Z.alloc (.cells #[.int .i64 fresh, .slice A7 (q + j) c7, .string o] 37))) (World.drew (Z.alloc (.cells #[.int .i64 fresh, .slice A7 (q + j) c7, .string o] 37))).heap.size 3 (some ⟨Z.heap.size, 0, none⟩) 1 (pcV ⟨fresh, rawB r path, o⟩ (A7, q + j, c7)) from (Reads.made Z #[.int .i64 fresh, .slice A7 (q + j) c7, .string o] 37 (0, 0) 3 1 (pcV ⟨fresh, rawB r path, o⟩ (A7, q + j, c7)) rfl rfl).drew) (And.intro HAL.out.1 (And.intro HAL.out.2.1 (Nat.le_trans HZ.out.1.size hB11.size)))))
                    refine wpAnyH_ready (rs := [12]) (by kernel_rfl) (by simp) ?_
                    refine AllReadyH.cons rfl (fun K hK => ?_) AllReadyH.nil
                    refine step_append_any _ (by rfl) (.tmp 192) (.tmp 202) _ (by rfl) w.heap.size 37 i1 _ 3 48 Tryz.underlying24 hi1 hy0 hy1 hy2 (by rfl) (Nat.zero_lt_succ _) (.slice (some adq) n2 c2) n2 _ (by rfl) HAP.out.1 _ (some ⟨_, 0, none⟩) 1 1 _ (by rfl) HAP.out.2.1 (pcV_one _ _) HAP.out.2.2.1 HAP.out.2.2.2.1 HAP.out.2.2.2.2 ?_
                    intro v2 w12 hown2 hg2 hat2
                    obtain ⟨A5, c5, rfl⟩ := own_form hown2
                    have hs12 := hg2.size
                    obtain ⟨hB12, hQ12, hR12, hpo12⟩ := rsp_end ⟨HZ.out.1, HZ.out.2.1, HZ.out.2.2.1, HZ.out.2.2.2.1⟩ HFS.out hB11 hnew hown2 hg2
                    clear hown2 hg2 hat2 hnew HAP
                    try dsimp only
                    refine hK.out _ _ ?_ (fun hHeld => ?_)
                    · exact Nat.le_trans hHeld hs12
                    clear hK K hs12
                    try simp only [Act.put, List.setIfInBounds_toArray]
                    refine wpAnyH_ready (rs := [13]) (by kernel_rfl) (by simp) ?_
                    refine AllReadyH.cons rfl (fun K hK => ?_) AllReadyH.nil
                    go_simp
                    go_at_call 56
                    (with_reducible refine (rsp_sort hpo12 HAL.out.2.2 hB12.size HPW.out.1 HPW.out.2).mono ?_)
                    rintro e w13 ⟨A9, c9, hs9, rfl, hb13, hpo13⟩
                    have hB13 := below_on hB12 (Nat.le_refl _) hb13
                    have hQ13 : PlK w13 Bq A1 n1 c1 (some adq) n2 c2 := hQ12.on hb13
                    have hR13 := hR12.on hb13
                    obtain ⟨z1, z2, zf1, zf2⟩ := plk_facts4 hQ13
                    clear hB12 hQ12 hR12 hpo12
                    try dsimp only
                    refine hK.out _ _ ?_ (fun hHeld => ?_)
                    · exact Nat.le_trans hHeld hb13.size
                    clear hK K
                    try simp only [Act.put, List.setIfInBounds_toArray, List.set_cons_zero, List.set_cons_succ]
                    refine tk 14 ?_
                    refine wpAnyH_ready (rs := [15]) (by kernel_rfl) (by simp) ?_
                    refine AllReadyH.cons rfl (fun K hK => ?_) AllReadyH.nil
                    go_simp
                    refine hK.out _ _ ?_ (fun hHeld => ?_)
                    · rw [World.size_setCell]; exact hHeld
                    clear hK K
                    try simp only [Act.put, List.setIfInBounds_toArray, List.set_cons_zero, List.set_cons_succ]
                    refine wpAnyH_done (by kernel_rfl) ?_ _
                    go_wp2_with fail
                    go_meet
                    exact ⟨A9, c9, hs9, rsp_put hB13 hQ13 hR13 hpo13 HNB.out.1 HNB.out.2⟩
                  · have LW := hcq _ hbd
                    go_simp
                    refine hK.out _ _ ?_ (fun hHeld => ?_)
                    · first | exact hHeld | exact hP0
                    clear LW
                    clear hK K
                    try simp only [Act.put, List.setIfInBounds_toArray, List.set_cons_zero, List.set_cons_succ]
                    refine tk 7 ?_
                    refine tk 8 ?_
                    refine wpAnyH_ready (rs := [1, 9]) (by kernel_rfl) (by simp) ?_
                    refine AllReadyH.cons rfl (fun K hK => ?_) (AllReadyH.cons rfl (fun K hK => ?_) AllReadyH.nil)
                    · have LW := hcq _ hbd
                      go_simp
                      refine hK.out _ _ ?_ (fun hHeld => ?_)
                      · first | exact hHeld | exact hP0
                      clear LW
                      clear hK K
                      try simp only [Act.put, List.setIfInBounds_toArray, List.set_cons_zero, List.set_cons_succ]
                      refine wpAnyH_ready (rs := [9]) (by kernel_rfl) (by simp) ?_
                      refine AllReadyH.cons rfl (fun K hK => ?_) AllReadyH.nil
                      have LW := hco _ hbd
                      go_simp
                      refine hK.out _ _ ?_ (fun hHeld => ?_)
                      · first | exact hHeld | exact hP0
                      clear LW
                      clear hK K
                      try simp only [Act.put, List.setIfInBounds_toArray, List.set_cons_zero, List.set_cons_succ]
                      refine tk 10 ?_
                      refine wpAnyH_ready (rs := [11]) (by kernel_rfl) (by simp) ?_
                      refine AllReadyH.cons rfl (fun K hK => ?_) AllReadyH.nil
                      go_simp
                      refine hK.out _ _ ?_ (fun hHeld => ?_)
                      · exact Nat.le_trans hHeld (by simp)
                      clear hK K
                      try simp only [Act.put, List.setIfInBounds_toArray, List.set_cons_zero, List.set_cons_succ]
                      have hB11 : Below Z.heap.size Z (World.drew (Z.alloc (.cells #[.int .i64 fresh, .slice A7 (q + j) c7, .string o] 37))) := ((Below.refl _ _).alloc (Nat.le_refl _) _).drew
                      have hnew := own_below HZ.out.2.2.2.2 hB11
                      have HAP := Lib.hid (And.intro (HZ.out.2.2.2.1.below hB11).row (And.intro (show Reads (World.drew (Z.alloc (.cells #[.int .i64 fresh, .slice A7 (q + j) c7, .string o] 37))) (World.drew (Z.alloc (.cells #[.int .i64 fresh, .slice A7 (q + j) c7, .string o] 37))).heap.size 3 (some ⟨Z.heap.size, 0, none⟩) 1 (pcV ⟨fresh, rawB r path, o⟩ (A7, q + j, c7)) from (Reads.made Z #[.int .i64 fresh, .slice A7 (q + j) c7, .string o] 37 (0, 0) 3 1 (pcV ⟨fresh, rawB r path, o⟩ (A7, q + j, c7)) rfl rfl).drew) (And.intro HAL.out.1 (And.intro HAL.out.2.1 (Nat.le_trans HZ.out.1.size hB11.size)))))
                      refine wpAnyH_ready (rs := [12]) (by kernel_rfl) (by simp) ?_
                      refine AllReadyH.cons rfl (fun K hK => ?_) AllReadyH.nil
                      refine step_append_any _ (by rfl) (.tmp 192) (.tmp 202) _ (by rfl) w.heap.size 37 i1 _ 3 48 Tryz.underlying24 hi1 hy0 hy1 hy2 (by rfl) (Nat.zero_lt_succ _) (.slice (some adq) n2 c2) n2 _ (by rfl) HAP.out.1 _ (some ⟨_, 0, none⟩) 1 1 _ (by rfl) HAP.out.2.1 (pcV_one _ _) HAP.out.2.2.1 HAP.out.2.2.2.1 HAP.out.2.2.2.2 ?_
                      intro v2 w12 hown2 hg2 hat2
                      obtain ⟨A5, c5, rfl⟩ := own_form hown2
                      have hs12 := hg2.size
                      obtain ⟨hB12, hQ12, hR12, hpo12⟩ := rsp_end ⟨HZ.out.1, HZ.out.2.1, HZ.out.2.2.1, HZ.out.2.2.2.1⟩ HFS.out hB11 hnew hown2 hg2
                      clear hown2 hg2 hat2 hnew HAP
                      try dsimp only
                      refine hK.out _ _ ?_ (fun hHeld => ?_)
                      · exact Nat.le_trans hHeld hs12
                      clear hK K hs12
                      try simp only [Act.put, List.setIfInBounds_toArray]
                      refine wpAnyH_ready (rs := [13]) (by kernel_rfl) (by simp) ?_
                      refine AllReadyH.cons rfl (fun K hK => ?_) AllReadyH.nil
                      go_simp
                      go_at_call 56
                      (with_reducible refine (rsp_sort hpo12 HAL.out.2.2 hB12.size HPW.out.1 HPW.out.2).mono ?_)
                      rintro e w13 ⟨A9, c9, hs9, rfl, hb13, hpo13⟩
                      have hB13 := below_on hB12 (Nat.le_refl _) hb13
                      have hQ13 : PlK w13 Bq A1 n1 c1 (some adq) n2 c2 := hQ12.on hb13
                      have hR13 := hR12.on hb13
                      obtain ⟨z1, z2, zf1, zf2⟩ := plk_facts4 hQ13
                      clear hB12 hQ12 hR12 hpo12
                      try dsimp only
                      refine hK.out _ _ ?_ (fun hHeld => ?_)
                      · exact Nat.le_trans hHeld hb13.size
                      clear hK K
                      try simp only [Act.put, List.setIfInBounds_toArray, List.set_cons_zero, List.set_cons_succ]
                      refine tk 14 ?_
                      refine wpAnyH_ready (rs := [15]) (by kernel_rfl) (by simp) ?_
                      refine AllReadyH.cons rfl (fun K hK => ?_) AllReadyH.nil
                      go_simp
                      refine hK.out _ _ ?_ (fun hHeld => ?_)
                      · rw [World.size_setCell]; exact hHeld
                      clear hK K
                      try simp only [Act.put, List.setIfInBounds_toArray, List.set_cons_zero, List.set_cons_succ]
                      refine wpAnyH_done (by kernel_rfl) ?_ _
                      go_wp2_with fail
                      go_meet
                      exact ⟨A9, c9, hs9, rsp_put hB13 hQ13 hR13 hpo13 HNB.out.1 HNB.out.2⟩
                    · have LW := hco _ hbd
                      go_simp
                      refine hK.out _ _ ?_ (fun hHeld => ?_)
                      · first | exact hHeld | exact hP0
                      clear LW
                      clear hK K
                      try simp only [Act.put, List.setIfInBounds_toArray, List.set_cons_zero, List.set_cons_succ]
                      refine tk 10 ?_
                      refine wpAnyH_ready (rs := [1, 11]) (by kernel_rfl) (by simp) ?_
                      refine AllReadyH.cons rfl (fun K hK => ?_) (AllReadyH.cons rfl (fun K hK => ?_) AllReadyH.nil)
                      · have LW := hcq _ hbd
                        go_simp
                        refine hK.out _ _ ?_ (fun hHeld => ?_)
                        · first | exact hHeld | exact hP0
                        clear LW
                        clear hK K
                        try simp only [Act.put, List.setIfInBounds_toArray, List.set_cons_zero, List.set_cons_succ]
                        refine wpAnyH_ready (rs := [11]) (by kernel_rfl) (by simp) ?_
                        refine AllReadyH.cons rfl (fun K hK => ?_) AllReadyH.nil
                        go_simp
                        refine hK.out _ _ ?_ (fun hHeld => ?_)
                        · exact Nat.le_trans hHeld (by simp)
                        clear hK K
                        try simp only [Act.put, List.setIfInBounds_toArray, List.set_cons_zero, List.set_cons_succ]
                        have hB11 : Below Z.heap.size Z (World.drew (Z.alloc (.cells #[.int .i64 fresh, .slice A7 (q + j) c7, .string o] 37))) := ((Below.refl _ _).alloc (Nat.le_refl _) _).drew
                        have hnew := own_below HZ.out.2.2.2.2 hB11
                        have HAP := Lib.hid (And.intro (HZ.out.2.2.2.1.below hB11).row (And.intro (show Reads (World.drew (Z.alloc (.cells #[.int .i64 fresh, .slice A7 (q + j) c7, .string o] 37))) (World.drew (Z.alloc (.cells #[.int .i64 fresh, .slice A7 (q + j) c7, .string o] 37))).heap.size 3 (some ⟨Z.heap.size, 0, none⟩) 1 (pcV ⟨fresh, rawB r path, o⟩ (A7, q + j, c7)) from (Reads.made Z #[.int .i64 fresh, .slice A7 (q + j) c7, .string o] 37 (0, 0) 3 1 (pcV ⟨fresh, rawB r path, o⟩ (A7, q + j, c7)) rfl rfl).drew) (And.intro HAL.out.1 (And.intro HAL.out.2.1 (Nat.le_trans HZ.out.1.size hB11.size)))))
                        refine wpAnyH_ready (rs := [12]) (by kernel_rfl) (by simp) ?_
                        refine AllReadyH.cons rfl (fun K hK => ?_) AllReadyH.nil
                        refine step_append_any _ (by rfl) (.tmp 192) (.tmp 202) _ (by rfl) w.heap.size 37 i1 _ 3 48 Tryz.underlying24 hi1 hy0 hy1 hy2 (by rfl) (Nat.zero_lt_succ _) (.slice (some adq) n2 c2) n2 _ (by rfl) HAP.out.1 _ (some ⟨_, 0, none⟩) 1 1 _ (by rfl) HAP.out.2.1 (pcV_one _ _) HAP.out.2.2.1 HAP.out.2.2.2.1 HAP.out.2.2.2.2 ?_
                        intro v2 w12 hown2 hg2 hat2
                        obtain ⟨A5, c5, rfl⟩ := own_form hown2
                        have hs12 := hg2.size
                        obtain ⟨hB12, hQ12, hR12, hpo12⟩ := rsp_end ⟨HZ.out.1, HZ.out.2.1, HZ.out.2.2.1, HZ.out.2.2.2.1⟩ HFS.out hB11 hnew hown2 hg2
                        clear hown2 hg2 hat2 hnew HAP
                        try dsimp only
                        refine hK.out _ _ ?_ (fun hHeld => ?_)
                        · exact Nat.le_trans hHeld hs12
                        clear hK K hs12
                        try simp only [Act.put, List.setIfInBounds_toArray]
                        refine wpAnyH_ready (rs := [13]) (by kernel_rfl) (by simp) ?_
                        refine AllReadyH.cons rfl (fun K hK => ?_) AllReadyH.nil
                        go_simp
                        go_at_call 56
                        (with_reducible refine (rsp_sort hpo12 HAL.out.2.2 hB12.size HPW.out.1 HPW.out.2).mono ?_)
                        rintro e w13 ⟨A9, c9, hs9, rfl, hb13, hpo13⟩
                        have hB13 := below_on hB12 (Nat.le_refl _) hb13
                        have hQ13 : PlK w13 Bq A1 n1 c1 (some adq) n2 c2 := hQ12.on hb13
                        have hR13 := hR12.on hb13
                        obtain ⟨z1, z2, zf1, zf2⟩ := plk_facts4 hQ13
                        clear hB12 hQ12 hR12 hpo12
                        try dsimp only
                        refine hK.out _ _ ?_ (fun hHeld => ?_)
                        · exact Nat.le_trans hHeld hb13.size
                        clear hK K
                        try simp only [Act.put, List.setIfInBounds_toArray, List.set_cons_zero, List.set_cons_succ]
                        refine tk 14 ?_
                        refine wpAnyH_ready (rs := [15]) (by kernel_rfl) (by simp) ?_
                        refine AllReadyH.cons rfl (fun K hK => ?_) AllReadyH.nil
                        go_simp
                        refine hK.out _ _ ?_ (fun hHeld => ?_)
                        · rw [World.size_setCell]; exact hHeld
                        clear hK K
                        try simp only [Act.put, List.setIfInBounds_toArray, List.set_cons_zero, List.set_cons_succ]
                        refine wpAnyH_done (by kernel_rfl) ?_ _
                        go_wp2_with fail
                        go_meet
                        exact ⟨A9, c9, hs9, rsp_put hB13 hQ13 hR13 hpo13 HNB.out.1 HNB.out.2⟩
                      · go_simp
                        refine hK.out _ _ ?_ (fun hHeld => ?_)
                        · exact Nat.le_trans hHeld (by simp)
                        clear hK K
                        try simp only [Act.put, List.setIfInBounds_toArray, List.set_cons_zero, List.set_cons_succ]
                        have hB11 : Below Z.heap.size Z (World.drew (Z.alloc (.cells #[.int .i64 fresh, .slice A7 (q + j) c7, .string o] 37))) := ((Below.refl _ _).alloc (Nat.le_refl _) _).drew
                        have hnew := own_below HZ.out.2.2.2.2 hB11
                        have HAP := Lib.hid (And.intro (HZ.out.2.2.2.1.below hB11).row (And.intro (show Reads (World.drew (Z.alloc (.cells #[.int .i64 fresh, .slice A7 (q + j) c7, .string o] 37))) (World.drew (Z.alloc (.cells #[.int .i64 fresh, .slice A7 (q + j) c7, .string o] 37))).heap.size 3 (some ⟨Z.heap.size, 0, none⟩) 1 (pcV ⟨fresh, rawB r path, o⟩ (A7, q + j, c7)) from (Reads.made Z #[.int .i64 fresh, .slice A7 (q + j) c7, .string o] 37 (0, 0) 3 1 (pcV ⟨fresh, rawB r path, o⟩ (A7, q + j, c7)) rfl rfl).drew) (And.intro HAL.out.1 (And.intro HAL.out.2.1 (Nat.le_trans HZ.out.1.size hB11.size)))))
                        refine wpAnyH_ready (rs := [1]) (by kernel_rfl) (by simp) ?_
                        refine AllReadyH.cons rfl (fun K hK => ?_) AllReadyH.nil
                        have LW := hcq _ hB11
                        go_simp
                        refine hK.out _ _ ?_ (fun hHeld => ?_)
                        · first | exact hHeld | exact hP0
                        clear LW
                        clear hK K
                        try simp only [Act.put, List.setIfInBounds_toArray, List.set_cons_zero, List.set_cons_succ]
                        refine wpAnyH_ready (rs := [12]) (by kernel_rfl) (by simp) ?_
                        refine AllReadyH.cons rfl (fun K hK => ?_) AllReadyH.nil
                        refine step_append_any _ (by rfl) (.tmp 192) (.tmp 202) _ (by rfl) w.heap.size 37 i1 _ 3 48 Tryz.underlying24 hi1 hy0 hy1 hy2 (by rfl) (Nat.zero_lt_succ _) (.slice (some adq) n2 c2) n2 _ (by rfl) HAP.out.1 _ (some ⟨_, 0, none⟩) 1 1 _ (by rfl) HAP.out.2.1 (pcV_one _ _) HAP.out.2.2.1 HAP.out.2.2.2.1 HAP.out.2.2.2.2 ?_
                        intro v2 w12 hown2 hg2 hat2
                        obtain ⟨A5, c5, rfl⟩ := own_form hown2
                        have hs12 := hg2.size
                        obtain ⟨hB12, hQ12, hR12, hpo12⟩ := rsp_end ⟨HZ.out.1, HZ.out.2.1, HZ.out.2.2.1, HZ.out.2.2.2.1⟩ HFS.out hB11 hnew hown2 hg2
                        clear hown2 hg2 hat2 hnew HAP
                        try dsimp only
                        refine hK.out _ _ ?_ (fun hHeld => ?_)
                        · exact Nat.le_trans hHeld hs12
                        clear hK K hs12
                        try simp only [Act.put, List.setIfInBounds_toArray]
                        refine wpAnyH_ready (rs := [13]) (by kernel_rfl) (by simp) ?_
                        refine AllReadyH.cons rfl (fun K hK => ?_) AllReadyH.nil
                        go_simp
                        go_at_call 56
                        (with_reducible refine (rsp_sort hpo12 HAL.out.2.2 hB12.size HPW.out.1 HPW.out.2).mono ?_)
                        rintro e w13 ⟨A9, c9, hs9, rfl, hb13, hpo13⟩
                        have hB13 := below_on hB12 (Nat.le_refl _) hb13
                        have hQ13 : PlK w13 Bq A1 n1 c1 (some adq) n2 c2 := hQ12.on hb13
                        have hR13 := hR12.on hb13
                        obtain ⟨z1, z2, zf1, zf2⟩ := plk_facts4 hQ13
                        clear hB12 hQ12 hR12 hpo12
                        try dsimp only
                        refine hK.out _ _ ?_ (fun hHeld => ?_)
                        · exact Nat.le_trans hHeld hb13.size
                        clear hK K
                        try simp only [Act.put, List.setIfInBounds_toArray, List.set_cons_zero, List.set_cons_succ]
                        refine tk 14 ?_
                        refine wpAnyH_ready (rs := [15]) (by kernel_rfl) (by simp) ?_
                        refine AllReadyH.cons rfl (fun K hK => ?_) AllReadyH.nil
                        go_simp
                        refine hK.out _ _ ?_ (fun hHeld => ?_)
                        · rw [World.size_setCell]; exact hHeld
                        clear hK K
                        try simp only [Act.put, List.setIfInBounds_toArray, List.set_cons_zero, List.set_cons_succ]
                        refine wpAnyH_done (by kernel_rfl) ?_ _
                        go_wp2_with fail
                        go_meet
                        exact ⟨A9, c9, hs9, rsp_put hB13 hQ13 hR13 hpo13 HNB.out.1 HNB.out.2⟩
                case rest =>
                  obtain ⟨A9, c9, hs9, hbW, hQ, hR, hpo⟩ := hcut
                  obtain ⟨T, rfl⟩ : ∃ V, V = wc := ⟨_, rfl⟩
                  have hRq : (⟨Q1.outer, putId ⟨fresh, rawB r path, o⟩ Q1.parcels⟩ : Plan) = rawQ p k path fresh := by
                    unfold rawQ
                    rw [HQ1.out.1, HQ1.out.2.1, hq0, hq1, ← HR.out.2.2.2.1]
                    rfl
                  have hgR : ∀ xs, ringOf (rawQ p k path fresh) xs → xs.length ≤ 1048576 := by
                    rw [← hRq]
                    rintro xs (rfl | ⟨x, hx, rfl⟩)
                    · have := (cut_rings HS.out HAB.out.2.2.1 HAB.out.2.2.2 Q1.outer (.inl (by rw [HQ1.out.1]; rfl))).2
                      show Q1.outer.length ≤ _
                      omega
                    · rcases put_mem hx with rfl | hx
                      · have := HQ1.out.2.2.2; show (rawB r path).length ≤ _; omega
                      · rw [HQ1.out.1] at hx
                        rcases setR_cases hx with e | hx
                        · rw [e]; have := HQ1.out.2.2.1; omega
                        · have := (cut_rings HS.out HAB.out.2.2.1 HAB.out.2.2.2 x.ring (.inr ⟨x, hx, rfl⟩)).2
                          omega
                  rw [hRq] at hpo
                  have kD := refDone_any (rawQ p k path fresh) A1 A9 n1 c1 (n2 + 1) c9 T hpo.at_ HAL.out.2.2 hgR
                  rw [rawQ_lst] at kD
                  have hE : spE p id path fresh = doneE (spQ p k path fresh) ∧ spP p id path fresh = doneP (spQ p k path fresh) := by
                    have h1 : spE p id path fresh = doneE (spQ p k path fresh) := by
                      unfold spE doneE
                      rw [HF0.out, if_neg (by simp), ← HZK.out, Int.toNat_natCast]
                    refine ⟨h1, ?_⟩
                    unfold spP doneP
                    rw [h1, ← HZK.out, Int.toNat_natCast]
                    unfold doneE
                    rcases planB (spQ p k path fresh) with _ | _ <;> rfl
                  rw [← hE.1, ← hE.2] at kD
                  have KD := Lib.hid kD
                  have H9 := Lib.hid (And.intro hbW (And.intro hQ hR))
                  obtain ⟨q1, q2, q3⟩ := hQ.facts
                  clear hRq hgR hpo kD hE hbW hQ hR hP0 hbd hcq hco
                  go_wp2_with fail
                  refine KD.out.mono ?_
                  rintro e w9 ⟨A3, n3, c3, A4, n4, c4, hs4, rfl, hpo4, hb4⟩
                  have hR10 := H9.out.2.2.on hb4
                  obtain ⟨V, hV, r1, r2, hbV⟩ := res_store (g := w.heap.size + 1) (below_on H9.out.1 (Nat.le_refl _) hb4) (by omega) hR10 (.slice A3 n3 c3) (.slice A4 n4 c4)
                  obtain ⟨s1, s2, f1, f2⟩ := plk_facts4 hR10
                  have hpoV := (hpo4.store hR10 (by decide) (by decide) 0 (.slice A3 n3 c3)).store (Blk.set_ hR10 0 (.slice A3 n3 c3)) (by decide) (by decide) 1 (.slice A4 n4 c4)
                  rw [← hV] at hpoV
                  have HV := Lib.hid hV
                  have HRR2 := Lib.hid (And.intro r1 (And.intro r2 (And.intro hbV (hpoV.mono H9.out.1.size))))
                  clear hV r1 r2 hbV hpoV hpo4 hR10 hb4 H9 KD q1 q2 q3
                  go_wp2_with fail
                  rw [← HV.out]
                  obtain ⟨r1, r2, hbV, hpoV⟩ := HRR2.out
                  refine bodyPost_ret (v := .tuple #[planV A3 n3 c3 A4 n4 c4, .int .i64 (spE p id path fresh)]) ?_ rfl ⟨A3, n3, c3, A4, n4, c4, hs4, rfl, hpoV, hbV⟩
                  simp [results, Tryz.results18, go_sem, r1, r2]
              · have hkK : jj < K := by
                  rcases Nat.lt_or_ge jj K with h | h
                  · exact h
                  · obtain rfl : jj = K := by omega
                    exact absurd (by rw [HP.out, HM.out]; exact HKK.out.2.1) hpt
                rw [decide_eq_false hpt] at he
                clear hpt
                go_wp2_with fail
                go_quiet (fail)
                obtain ⟨W5, hW5⟩ : ∃ X, X = V.drewN nq := ⟨_, rfl⟩
                have hbd : Below V.heap.size V W5 := by rw [hW5]; exact below_drewN (Below.refl _ _) _
                have hown5 := own_below HW.out.1 hbd
                have hb5 := below_on HW.out.2 (Nat.le_refl _) hbd
                have hs5 := hb5.size
                replace p1 : W5.cell? (adr.add (M * 2)) = some (.int .i64 Q.x) := by rw [hW5]; exact p1
                replace p2 : W5.cell? ⟨(adr.add (M * 2)).block, (adr.add (M * 2)).off + 1, none⟩ = some (.int .i64 Q.y) := by rw [hW5]; exact p2
                rw [← hW5]
                clear hW5 hbd t1 t2 he hg
                have HB5 := Lib.hid hb5
                clear hb5
                go_wp2_with (at_builtin; refine wpList_append_any _ rfl (.tmp 175) (.tmp 183) _ rfl X.heap.size 35 i0 _ 2 16 Tryz.underlying23 hi0 hz0 hz1 hz2 rfl (by omega) (.slice A8 (q + jj) c8) (q + jj) _ rfl (hown5.alloc _) (W5.alloc (.cells #[.int .i64 Q.x, .int .i64 Q.y] 35)).heap.size (some ⟨W5.heap.size, 0, none⟩) 1 1 (ptsV [Q]) rfl (Reads.made W5 _ _ _ 2 1 _ rfl rfl) (ptsV_one _) (by simp only [maxLen]; omega) (by omega) (by simp; omega) ?_; intro v6 w6 hown6 hg6 hat6; have hB6 := (HB5.out.alloc hs5 _).grown hg6 (by simp; omega) (fun g hg => by have := (hown5.lt g hg).1; omega); rw [← ptsV_append, HP.out, HM.out, ← HR.out.2.2.1, List.append_assoc, ← wayL_succ, Nat.add_assoc] at hown6; obtain ⟨A8, c8, rfl⟩ := own_form hown6; have H6 := Lib.hid (And.intro hown6 hB6); clear hown6 hB6 hg6 hat6 hown5 p1 p2)
                go_roundw
                case rel => exact ⟨jj + 1, A8, c8, by omega, by go_num, rfl, H6.out⟩
                case measure => simp [intOf]; omega
      · have hkK : j < K := by
          rcases Nat.lt_or_ge j K with h | h
          · exact h
          · obtain rfl : j = K := by omega
            exact absurd (by rw [HP.out, HM.out]; exact HKK.out.2.1) hpt
        rw [decide_eq_false hpt] at he
        clear hpt
        go_wp2_with fail
        go_quiet (fail)
        obtain ⟨W5, hW5⟩ : ∃ X, X = V.drewN nq := ⟨_, rfl⟩
        have hbd : Below V.heap.size V W5 := by rw [hW5]; exact below_drewN (Below.refl _ _) _
        have hown5 := own_below HW.out.1 hbd
        have hb5 := below_on HW.out.2 (Nat.le_refl _) hbd
        have hs5 := hb5.size
        replace p1 : W5.cell? (adr.add (M * 2)) = some (.int .i64 Q.x) := by rw [hW5]; exact p1
        replace p2 : W5.cell? ⟨(adr.add (M * 2)).block, (adr.add (M * 2)).off + 1, none⟩ = some (.int .i64 Q.y) := by rw [hW5]; exact p2
        rw [← hW5]
        clear hW5 hbd t1 t2 he hg
        have HB5 := Lib.hid hb5
        clear hb5
        go_wp2_with (at_builtin; refine wpList_append_any _ rfl (.tmp 131) (.tmp 139) _ rfl W7.heap.size 35 i0 _ 2 16 Tryz.underlying23 hi0 hz0 hz1 hz2 rfl (by omega) (.slice A7 (m + j) c7) (m + j) _ rfl (hown5.alloc _) (W5.alloc (.cells #[.int .i64 Q.x, .int .i64 Q.y] 35)).heap.size (some ⟨W5.heap.size, 0, none⟩) 1 1 (ptsV [Q]) rfl (Reads.made W5 _ _ _ 2 1 _ rfl rfl) (ptsV_one _) (by simp only [maxLen]; omega) (by omega) (by simp; omega) ?_; intro v6 w6 hown6 hg6 hat6; have hB6 := (HB5.out.alloc hs5 _).grown hg6 (by simp; omega) (fun g hg => by have := (hown5.lt g hg).1; omega); rw [← ptsV_append, HP.out, HM.out, ← HR.out.2.2.1, List.append_assoc, ← wayL_succ, Nat.add_assoc] at hown6; obtain ⟨A8, c8, rfl⟩ := own_form hown6; have H6 := Lib.hid (And.intro hown6 hB6); clear hown6 hB6 hg6 hat6 hown5 p1 p2)
        go_roundw
        case rel => exact ⟨j + 1, A8, c8, by omega, by go_num, rfl, H6.out⟩
        case measure => simp [intOf]; omega
end Go.Proofs.YtnpjggcgnbgkjaaGreat

/- plan.Corner, plan.Find, plan.Left: the walks. -/
import Derived.Test.YtglnklfhgdjccaaGreatPlanCheck
import Derived.Test.YtglnklfhgdjccaaGreatSamePc
import Derived.Test.YtglnklfhgdjccaaGreatCorn
namespace Go.Proofs.YtglnklfhgdjccaaGreat
open Go.RowKit
theorem goodL_one (q : Pt) : goodL [q] = good q := by simp [goodL]
theorem planE_b0 {p : Plan} (h : planB p = false) : planE p = 2 := by unfold planE; rw [h]; rfl
theorem planE_b1 {p : Plan} (h : planB p = true) : planE p = 0 := by unfold planE; rw [h]; rfl
theorem planB_sound {p : Plan} (h : planB p = true) : SoundP p := by unfold planB at h; simpa using h
noncomputable def cornerE (p : Plan) (q : Pt) : Int := if planB p = true then (if good q = true then 0 else 3) else 2
noncomputable def cornerV (p : Plan) (q : Pt) : Bool := planB p && (good q && hasC p.parcels q)
set_option maxRecDepth 100000 in
set_option maxHeartbeats 800000 in
theorem corner_any (p : Plan) (q : Pt) (A A' : Option Addr) (n c n' c' : Nat) (w : World) (h : PlanAt w w.heap.size A n c A' n' c' p) (hq : q.inI) :
    Calls Tryz.prog 28 #[planV A n c A' n' c', .agg #[.int .i64 q.x, .int .i64 q.y]] w fun e w' => e = .returned (.tuple #[.bool (cornerV p q), .int .i64 (cornerE p q)]) ∧ Below w.heap.size w w' := by
  obtain ⟨wa, hwa⟩ : ∃ wa : World, wa = (w.alloc (.cells #[.slice A n c, .slice A' n' c'] 26)).alloc (.cells #[.int .i64 q.x, .int .i64 q.y] 43) := ⟨_, rfl⟩
  have hB0 : Below w.heap.size w wa := by rw [hwa]; exact ((Below.refl _ _).alloc (Nat.le_refl _) _).alloc (by simp) _
  have hX : PlK wa w.heap.size A n c A' n' c' := by rw [hwa]; exact Blk.alloc (PlK.new w A n c A' n' c') _
  have hY : PtK wa (w.heap.size + 1) q := by
    rw [hwa]
    have := PtK.new (w.alloc (.cells #[.slice A n c, .slice A' n' c'] 26)) q
    rw [World.size_alloc] at this
    exact this
  have hP := h.on hB0
  have kC := checkPl_any p A A' n c n' c' wa hP
  obtain ⟨q1, q2, q3⟩ := hX.facts
  have H0 := Lib.hid (And.intro hB0 (And.intro hX (And.intro hY hP)))
  clear hB0 hX hY hP h
  have HE : Hid (cornerE p q = (if planB p = true then (if good q = true then 0 else 3) else 2) ∧ cornerV p q = (planB p && (good q && hasC p.parcels q))) := ⟨rfl, rfl⟩
  go_enter Tryz.func28, Tryz.ntmps28
  go_upto_region 1 with fail
  rw [← hwa]
  clear hwa
  rcases hb : planB p with _ | _
  · rw [planE_b0 hb] at kC
    have KC := Lib.hid kC
    rw [hb] at HE
    clear kC hb
    go_wp2_with fail
    refine KC.out.mono ?_
    rintro e w1 ⟨rfl, hb1⟩
    have HB := Lib.hid (below_on H0.out.1 (Nat.le_refl _) hb1)
    clear hb1 H0 KC q1 q2 q3
    go_wp2_with fail
    exact bodyPost_ret (v := .tuple #[.bool false, .int .i64 2]) (by simp [results, Tryz.results28, go_sem]) rfl ⟨by rw [HE.out.1, HE.out.2]; rfl, HB.out⟩
  · rw [planE_b1 hb] at kC
    have KC := Lib.hid kC
    rw [hb] at HE
    clear kC hb
    go_wp2_with fail
    refine KC.out.mono ?_
    rintro e w1 ⟨rfl, hb1⟩
    have hB1 := below_on H0.out.1 (Nat.le_refl _) hb1
    have hY1 := Blk.below H0.out.2.2.1 hb1 (Blk.lt H0.out.2.2.1)
    have hX1 := H0.out.2.1.on hb1
    have hP1 := H0.out.2.2.2.on hb1
    have hba : Below w1.heap.size w1 (w1.alloc (.cells #[.int .i64 q.x, .int .i64 q.y] 43)) := (Below.refl _ _).alloc (Nat.le_refl _) _
    have kG := good_any [q] (some ⟨w1.heap.size, 0, none⟩) 1 1 _ (Reads.made w1 #[.int .i64 q.x, .int .i64 q.y] 43 (0, 0) 2 1 (ptsV [q]) rfl rfl) (by omega) (fun p hp => by rw [List.mem_singleton] at hp; rw [hp]; exact hq)
    rw [goodL_one] at kG
    have KG := Lib.hid kG
    have H1 := Lib.hid (And.intro (below_on hB1 (Nat.le_refl _) hba) (And.intro (hX1.on hba) (And.intro (Blk.below hY1 hba (Blk.lt hY1)) (hP1.on hba))))
    obtain ⟨r1, r2, -, -, -⟩ := PtK.facts hY1
    clear q1 q2 q3 hb1 hB1 hY1 hX1 hP1 hba kG H0 KC
    go_wp2_with fail
    refine KG.out.mono ?_
    rintro e w2 ⟨rfl, hb2⟩
    clear r1 r2 KG
    have hP2 := H1.out.2.2.2.on hb2
    have HB := Lib.hid (below_on H1.out.1 (Nat.le_refl _) hb2)
    obtain ⟨q1, q2, q3⟩ := (H1.out.2.1.on hb2).facts
    have hY2 : PtK w2 (w.heap.size + 1) q := Blk.below H1.out.2.2.1 hb2 (Blk.lt H1.out.2.2.1)
    obtain ⟨r1, r2, -, -, -⟩ := hY2.facts
    have KH := Lib.hid (has_any p q A A' n c n' c' w2 hP2)
    clear hb2 hP2 hY2 H1
    rcases hg : good q with _ | _
    · clear KH
      go_wp2_with fail
      exact bodyPost_ret (v := .tuple #[.bool false, .int .i64 3]) (by simp [results, Tryz.results28, go_sem]) rfl ⟨by rw [HE.out.1, HE.out.2, hg]; rfl, HB.out⟩
    · go_wp2_with fail
      refine KH.out.mono ?_
      rintro e w3 ⟨rfl, hb3⟩
      have HB3 := Lib.hid (below_on HB.out (Nat.le_refl _) hb3)
      clear hb3 HB q1 q2 q3 r1 r2 KH
      go_wp2_with fail
      exact bodyPost_ret (v := .tuple #[.bool (hasC p.parcels q), .int .i64 0]) (by simp [results, Tryz.results28, go_sem]) rfl ⟨by rw [HE.out.1, HE.out.2, hg]; rfl, HB3.out⟩
noncomputable def findE (p : Plan) (id : Int) : Int := if planB p = true then (if atP p.parcels id < 0 then 5 else 0) else 2
noncomputable def findX (p : Plan) (id : Int) : Parc := if findE p id = 0 then pcAt p.parcels (atP p.parcels id).toNat else ⟨0, [], ⟨#[]⟩⟩
def FindPost (p : Plan) (id : Int) (w : World) (e : Ending) (w' : World) : Prop := ∃ A n c, e = .returned (.tuple #[pcVal (findX p id) A n c, .int .i64 (findE p id)]) ∧ (Reads w' w'.heap.size 2 A n (ptsV (findX p id).ring) ∧ n ≤ 1048576) ∧ Below w.heap.size w w'
theorem findX_no {p : Plan} {id e : Int} (h : findE p id = e) (h0 : e ≠ 0) : findX p id = ⟨0, [], ⟨#[]⟩⟩ := by unfold findX; rw [if_neg (by rw [h]; exact h0)]
theorem find_fail {p : Plan} {id e : Int} {w W : World} {g : Nat} {cs : Array Value} (he : findE p id = e) (h0 : e ≠ 0) (hb : Below w.heap.size w W) (hg : w.heap.size ≤ g) (hk : Blk W g 40 cs) (hs : cs.size = 3) :
    ∃ V, V = ((W.setCell ⟨g, 0, none⟩ (.int .i64 0)).setCell ⟨g, 1, none⟩ (.slice none 0 0)).setCell ⟨g, 2, none⟩ (.string ⟨#[]⟩) ∧ V.cell? ⟨g, 0, none⟩ = some (.int .i64 0) ∧ V.cell? ⟨g, 1, none⟩ = some (.slice none 0 0) ∧ V.cell? ⟨g, 2, none⟩ = some (.string ⟨#[]⟩) ∧ FindPost p id w (.returned (.tuple #[pcVal ⟨0, [], ⟨#[]⟩⟩ none 0 0, .int .i64 e])) V := by
  refine ⟨_, rfl, ?_⟩
  have hK := Blk.set_ (Blk.set_ (Blk.set_ hk 0 (.int .i64 0)) 1 (.slice none 0 0)) 2 (.string ⟨#[]⟩)
  have hB := ((hb.setCell (p := ⟨g, 0, none⟩) hg (.int .i64 0)).setCell (p := ⟨g, 1, none⟩) hg (.slice none 0 0)).setCell (p := ⟨g, 2, none⟩) hg (.string ⟨#[]⟩)
  obtain ⟨l⟩ := cs
  match l, hs with
  | [a, b, c], _ =>
    exact ⟨by rw [Blk.cell hK 0]; rfl, by rw [Blk.cell hK 1]; rfl, by rw [Blk.cell hK 2]; rfl, none, 0, 0, by rw [findX_no he h0, he], ⟨by rw [findX_no he h0]; exact Reads.none_, by omega⟩, hB⟩
set_option maxRecDepth 100000 in
set_option maxHeartbeats 1600000 in
theorem find_any (p : Plan) (id : Int) (A A' : Option Addr) (n c n' c' : Nat) (w : World) (h : PlanAt w w.heap.size A n c A' n' c' p) :
    Calls Tryz.prog 34 #[planV A n c A' n' c', .int .i64 id] w (FindPost p id w) := by
  obtain ⟨wa, hwa⟩ : ∃ wa : World, wa = (w.alloc (.cells #[.slice A n c, .slice A' n' c'] 26)).alloc (.cells #[.int .i64 0, .slice none 0 0, .string ⟨#[]⟩] 40) := ⟨_, rfl⟩
  have hB0 : Below w.heap.size w wa := by rw [hwa]; exact ((Below.refl _ _).alloc (Nat.le_refl _) _).alloc (by simp) _
  have hX : PlK wa w.heap.size A n c A' n' c' := by rw [hwa]; exact Blk.alloc (PlK.new w A n c A' n' c') _
  have hY : Blk wa (w.heap.size + 1) 40 #[.int .i64 0, .slice none 0 0, .string ⟨#[]⟩] := by
    rw [hwa]
    have := Blk.new (w.alloc (.cells #[.slice A n c, .slice A' n' c'] 26)) 40 #[.int .i64 0, .slice none 0 0, .string ⟨#[]⟩]
    rw [World.size_alloc] at this
    exact this
  have hP := h.on hB0
  have kC := checkPl_any p A A' n c n' c' wa hP
  obtain ⟨q1, q2, q3⟩ := hX.facts
  have H0 := Lib.hid (And.intro hB0 (And.intro hX (And.intro hY hP)))
  clear hB0 hX hY hP h
  have HE : Hid (findE p id = if planB p = true then (if atP p.parcels id < 0 then 5 else 0) else 2) := rfl
  go_enter Tryz.func34, Tryz.ntmps34
  go_upto_region 1 with fail
  rw [← hwa]
  clear hwa
  rcases hb : planB p with _ | _
  · rw [planE_b0 hb] at kC
    have KC := Lib.hid kC
    have hv : Hid (findE p id = 2) := by show _ = _; rw [HE.out, hb]; rfl
    clear kC hb
    go_wp2_with fail
    refine KC.out.mono ?_
    rintro e w1 ⟨rfl, hb1⟩
    have hY1 := Blk.below H0.out.2.2.1 hb1 (Blk.lt H0.out.2.2.1)
    obtain ⟨V, hV, r1, r2, r3, hpost⟩ := find_fail hv.out (by decide) (below_on H0.out.1 (Nat.le_refl _) hb1) (by omega : w.heap.size ≤ w.heap.size + 1) hY1 rfl
    have f1 := Blk.frozen hY1 0
    have f2 := Blk.frozen hY1 1
    have f3 := Blk.frozen hY1 2
    have s1 : w1.cell? ⟨w.heap.size + 1, 0, none⟩ = some (.int .i64 0) := by rw [Blk.cell hY1 0]; rfl
    have s2 : w1.cell? ⟨w.heap.size + 1, 1, none⟩ = some (.slice none 0 0) := by rw [Blk.cell hY1 1]; rfl
    have s3 : w1.cell? ⟨w.heap.size + 1, 2, none⟩ = some (.string ⟨#[]⟩) := by rw [Blk.cell hY1 2]; rfl
    have HV := Lib.hid hV
    have HPO := Lib.hid hpost
    have HR := Lib.hid (And.intro r1 (And.intro r2 r3))
    clear hb1 H0 KC q1 q2 q3 hV hpost r1 r2 r3 hY1
    go_wp2_with fail
    rw [← HV.out]
    obtain ⟨r1, r2, r3⟩ := HR.out
    refine bodyPost_ret (v := .tuple #[pcVal ⟨0, [], ⟨#[]⟩⟩ none 0 0, .int .i64 2]) ?_ rfl HPO.out
    simp [results, Tryz.results34, go_sem, r1, r2, r3]
  · rw [planE_b1 hb] at kC
    have KC := Lib.hid kC
    have HS := Lib.hid (planB_sound hb)
    rw [hb, if_pos rfl] at HE
    clear kC hb
    go_wp2_with fail
    refine KC.out.mono ?_
    rintro e w1 ⟨rfl, hb1⟩
    have hY1 := Blk.below H0.out.2.2.1 hb1 (Blk.lt H0.out.2.2.1)
    have hP1 := H0.out.2.2.2.on hb1
    have KA := Lib.hid (at_any p id A A' n c n' c' w1 hP1)
    have H1 := Lib.hid (And.intro (below_on H0.out.1 (Nat.le_refl _) hb1) (And.intro (H0.out.2.1.on hb1) (And.intro hY1 hP1)))
    obtain ⟨q1, q2, q3⟩ := (H1.out.2.1).facts
    clear hb1 hY1 hP1 H0 KC
    go_wp2_with fail
    refine KA.out.mono ?_
    rintro e w2 ⟨rfl, hb2⟩
    have hY2 := Blk.below H1.out.2.2.1 hb2 (Blk.lt H1.out.2.2.1)
    have H2 := Lib.hid (And.intro (below_on H1.out.1 (Nat.le_refl _) hb2) (And.intro (H1.out.2.1.on hb2) (And.intro hY2 (H1.out.2.2.2.on hb2))))
    clear q1 q2 q3 hb2 H1 KA
    obtain ⟨q1, q2, q3⟩ := (H2.out.2.1).facts
    have f1 := Blk.frozen hY2 0
    have f2 := Blk.frozen hY2 1
    have f3 := Blk.frozen hY2 2
    have s1 : w2.cell? ⟨w.heap.size + 1, 0, none⟩ = some (.int .i64 0) := by rw [Blk.cell hY2 0]; rfl
    have s2 : w2.cell? ⟨w.heap.size + 1, 1, none⟩ = some (.slice none 0 0) := by rw [Blk.cell hY2 1]; rfl
    have s3 : w2.cell? ⟨w.heap.size + 1, 2, none⟩ = some (.string ⟨#[]⟩) := by rw [Blk.cell hY2 2]; rfl
    rcases atP_cases p.parcels id with ⟨ha, -⟩ | ⟨k, hk, ha, -⟩
    · have hv : Hid (findE p id = 5) := by show _ = _; rw [HE.out, ha]; rfl
      obtain ⟨V, hV, r1, r2, r3, hpost⟩ := find_fail hv.out (by decide) H2.out.1 (by omega : w.heap.size ≤ w.heap.size + 1) hY2 rfl
      have HV := Lib.hid hV
      have HPO := Lib.hid hpost
      have HR := Lib.hid (And.intro r1 (And.intro r2 r3))
      clear hV hpost r1 r2 r3 hY2
      rw [ha]
      go_wp2_with fail
      rw [← HV.out]
      obtain ⟨r1, r2, r3⟩ := HR.out
      refine bodyPost_ret (v := .tuple #[pcVal ⟨0, [], ⟨#[]⟩⟩ none 0 0, .int .i64 5]) ?_ rfl HPO.out
      simp [results, Tryz.results34, go_sem, r1, r2, r3]
    · have hv : Hid (findE p id = 0) := by show _ = _; rw [HE.out, ha, if_neg (by omega)]
      have hfx : Hid (findX p id = pcAt p.parcels k) := by show _ = _; unfold findX; rw [if_pos hv.out, ha]; rfl
      have hP2 := H2.out.2.2.2
      have hl2 := hP2.lens.2.1
      have hkn : k < n' := by omega
      have hk0 : ¬ (k : Int) < 0 := by omega
      have hkn' : (k : Int) < (n' : Int) := by omega
      obtain ⟨ad, rfl⟩ := hP2.parcs.some_ (by omega)
      obtain ⟨hb1, p1, ⟨Ak, nk, ck, p2, hrk, hk1, hk2⟩, p3⟩ := hP2.parcs.at_ hkn
      obtain ⟨x, hx⟩ : ∃ x, x = pcAt p.parcels k := ⟨_, rfl⟩
      rw [← hx] at p1 p3 hrk hfx
      have hnk : nk ≤ 1048576 := by
        have h1 := hrk.lenPt
        have h2 := HS.out.2.2.1 x (by rw [hx, pcAt_lt hk]; exact List.getElem_mem hk)
        have h3 := (checkI_zero h2.1).1
        omega
      obtain ⟨w3, hw3⟩ : ∃ w3, w3 = w2.alloc (.cells #[.int .i64 x.id, .slice Ak nk ck, .string x.owner] 40) := ⟨_, rfl⟩
      have hba : Below w2.heap.size w2 w3 := by rw [hw3]; exact (Below.refl _ _).alloc (Nat.le_refl _) _
      have hG : Blk w3 w2.heap.size 40 #[.int .i64 x.id, .slice Ak nk ck, .string x.owner] := by rw [hw3]; exact Blk.new w2 _ _
      have kL := clonePt_any x.ring Ak nk ck w3 (hrk.on hba) hnk
      have KL := Lib.hid kL
      have g2 : w3.cell? ⟨w2.heap.size, 1, none⟩ = some (.slice Ak nk ck) := by rw [Blk.cell hG 1]; rfl
      have hYlt := Blk.lt hY2
      have hY3 := Blk.below hY2 hba hYlt
      have H3 := Lib.hid (And.intro (below_on H2.out.1 (Nat.le_refl _) hba) (And.intro hY3 (And.intro hG hYlt)))
      have HNK := Lib.hid hnk
      clear hP2 hl2 hrk hk1 hk2 hx hnk hba hG kL hYlt hY3 hY2 H2 HS HE f1 f2 f3 s1 s2 s3
      rw [ha]
      go_upto_region 8 with fail
      rw [← hw3]
      obtain ⟨gx, hgx⟩ : ∃ gx, gx = w2.heap.size := ⟨_, rfl⟩
      rw [← hgx] at g2 H3
      rw [← hgx]
      clear hw3 q1 q2 q3 p1 p2 p3 hgx
      go_wp2_with fail
      refine KL.out.mono ?_
      rintro e w4 ⟨A4, c4, rfl, ho4, hb4⟩
      have hG4 := Blk.below H3.out.2.2.1 hb4 (Blk.lt H3.out.2.2.1)
      have hY4 := Blk.below H3.out.2.1 hb4 (Blk.lt H3.out.2.1)
      have hG5 := Blk.set_ hG4 1 (.slice A4 nk c4)
      simp only [List.setIfInBounds_toArray, List.set_cons_zero, List.set_cons_succ] at hG5
      have hYlt := H3.out.2.2.2
      have hne : w.heap.size + 1 ≠ gx := by omega
      have hY5 := Blk.far (p := ⟨gx, 1, none⟩) hY4 hne (.slice A4 nk c4)
      have hB5 := (below_on H3.out.1 (Nat.le_refl _) hb4).setCell (p := ⟨gx, 1, none⟩) (by simp only; omega) (.slice A4 nk c4)
      have hbs := own_base ho4
      have hgl := Blk.lt H3.out.2.2.1
      have e1 : ∀ ad, A4 = some ad → ad.block ≠ gx := fun ad h => by have := hbs ad h; omega
      have e2 : ∀ ad, A4 = some ad → ad.block ≠ w.heap.size + 1 := fun ad h => by have := hbs ad h; omega
      have hr5 := Reads.farA (q := ⟨gx, 1, none⟩) (Reads.of_own ho4) e1 (.slice A4 nk c4)
      have f0 := Blk.frozen hG4 1
      have g2' : w4.cell? ⟨gx, 1, none⟩ = some (.slice Ak nk ck) := by rw [Blk.cell hG4 1]; rfl
      obtain ⟨w5, hw5⟩ : ∃ w5, w5 = w4.setCell ⟨gx, 1, none⟩ (.slice A4 nk c4) := ⟨_, rfl⟩
      have hz5 : w5.heap.size = w4.heap.size := by rw [hw5]; simp
      rw [← hw5] at hG5 hY5 hB5 hr5
      rw [← hz5] at hr5
      have H5 := Lib.hid (And.intro hB5 (And.intro hY5 (And.intro hG5 (And.intro hr5 e2))))
      clear g2 hG4 hY4 hG5 hY5 hB5 hr5 e1 e2 ho4 hb4 H3 KL hbs hgl hz5 hYlt
      go_upto_region 9 with fail
      rw [← hw5]
      clear hw5 f0 g2'
      obtain ⟨hB5, hY5, hG5, hr5, e2⟩ := H5.out
      have f1 := Blk.frozen hY5 0
      have f2 := Blk.frozen hY5 1
      have f3 := Blk.frozen hY5 2
      have s1 : w5.cell? ⟨w.heap.size + 1, 0, none⟩ = some (.int .i64 0) := by rw [Blk.cell hY5 0]; rfl
      have s2 : w5.cell? ⟨w.heap.size + 1, 1, none⟩ = some (.slice none 0 0) := by rw [Blk.cell hY5 1]; rfl
      have s3 : w5.cell? ⟨w.heap.size + 1, 2, none⟩ = some (.string ⟨#[]⟩) := by rw [Blk.cell hY5 2]; rfl
      have g1 : w5.cell? ⟨gx, 0, none⟩ = some (.int .i64 x.id) := by rw [Blk.cell hG5 0]; rfl
      have g2 : w5.cell? ⟨gx, 1, none⟩ = some (.slice A4 nk c4) := by rw [Blk.cell hG5 1]; rfl
      have g3 : w5.cell? ⟨gx, 2, none⟩ = some (.string x.owner) := by rw [Blk.cell hG5 2]; rfl
      clear hB5 hY5 hG5 hr5 e2 hne
      go_wp2_with fail
      obtain ⟨hB5, hY5, hG5, hr5, e2⟩ := H5.out
      have hK6 := Blk.set_ (Blk.set_ (Blk.set_ hY5 0 (.int .i64 x.id)) 1 (.slice A4 nk c4)) 2 (.string x.owner)
      have hB6 := ((hB5.setCell (p := ⟨w.heap.size + 1, 0, none⟩) (by simp) (.int .i64 x.id)).setCell (p := ⟨w.heap.size + 1, 1, none⟩) (by simp) (.slice A4 nk c4)).setCell (p := ⟨w.heap.size + 1, 2, none⟩) (by simp) (.string x.owner)
      have hr6 := Reads.farA (q := ⟨w.heap.size + 1, 2, none⟩) (Reads.farA (q := ⟨w.heap.size + 1, 1, none⟩) (Reads.farA (q := ⟨w.heap.size + 1, 0, none⟩) hr5 e2 (.int .i64 x.id)) e2 (.slice A4 nk c4)) e2 (.string x.owner)
      obtain ⟨V, hV⟩ : ∃ V, V = ((w5.setCell ⟨w.heap.size + 1, 0, none⟩ (.int .i64 x.id)).setCell ⟨w.heap.size + 1, 1, none⟩ (.slice A4 nk c4)).setCell ⟨w.heap.size + 1, 2, none⟩ (.string x.owner) := ⟨_, rfl⟩
      have hzV : V.heap.size = w5.heap.size := by rw [hV]; simp
      rw [← hV] at hK6 hB6 hr6
      rw [← hzV] at hr6
      rw [← hV]
      have r1 : V.cell? ⟨w.heap.size + 1, 0, none⟩ = some (.int .i64 x.id) := by rw [Blk.cell hK6 0]; rfl
      have r2 : V.cell? ⟨w.heap.size + 1, 1, none⟩ = some (.slice A4 nk c4) := by rw [Blk.cell hK6 1]; rfl
      have r3 : V.cell? ⟨w.heap.size + 1, 2, none⟩ = some (.string x.owner) := by rw [Blk.cell hK6 2]; rfl
      refine bodyPost_ret (v := .tuple #[pcVal x A4 nk c4, .int .i64 0]) ?_ rfl ⟨A4, nk, c4, by rw [hfx.out, hv.out], ⟨by rw [hfx.out]; exact hr6, HNK.out⟩, hB6⟩
      simp [results, Tryz.results34, go_sem, r1, r2, r3]
def whoE (ps : List Parc) (e : Ed) : Int := match look (edId ps) e with | some (.int _ z) => z | _ => 0
noncomputable def leftE (p : Plan) (e : Ed) : Int := if planB p = true then (if e ∈ allE p.parcels then 0 else 5) else 2
noncomputable def leftI (p : Plan) (e : Ed) : Int := if planB p = true then whoE p.parcels e else 0
theorem edId_mem {ps : List Parc} {e : Ed} {v : Value} (h : (e, v) ∈ edId ps) : ∃ x ∈ ps, e ∈ edgesOf x.ring ∧ v = .int .i64 x.id := by
  unfold edId at h
  obtain ⟨x, hx, h2⟩ := List.mem_flatMap.1 h
  obtain ⟨f, hf, h3⟩ := List.mem_map.1 h2
  simp only [Prod.mk.injEq] at h3
  exact ⟨x, hx, h3.1 ▸ hf, h3.2.symm⟩
theorem mem_edId {ps : List Parc} {x : Parc} {e : Ed} (hx : x ∈ ps) (he : e ∈ edgesOf x.ring) : (e, Value.int .i64 x.id) ∈ edId ps := by
  unfold edId
  exact List.mem_flatMap.2 ⟨x, hx, List.mem_map.2 ⟨e, he, rfl⟩⟩
theorem whoE_in {ps : List Parc} {x : Parc} {e : Ed} (hn : (allE ps).Nodup) (hx : x ∈ ps) (he : e ∈ edgesOf x.ring) : whoE ps e = x.id := by
  unfold whoE
  rw [look_of (v := .int .i64 x.id) (by rw [edId_keys]; exact hn) (mem_edId hx he)]
theorem whoE_out {ps : List Parc} {e : Ed} (he : e ∉ allE ps) : whoE ps e = 0 := by
  unfold whoE
  rw [look_none.2 (by rw [edId_keys]; exact he)]
theorem whoE_look {ps : List Parc} {e : Ed} (he : e ∈ allE ps) : look (edId ps) e = some (.int .i64 (whoE ps e)) := by
  unfold whoE
  rcases hq : look (edId ps) e with _ | v
  · exact absurd he (by rw [← edId_keys]; exact look_none.1 hq)
  · obtain ⟨x, -, -, rfl⟩ := edId_mem (look_mem hq)
    rfl
set_option maxRecDepth 100000 in
set_option maxHeartbeats 1600000 in
theorem left_any (p : Plan) (e : Ed) (A A' : Option Addr) (n c n' c' : Nat) (w : World) (h : PlanAt w w.heap.size A n c A' n' c' p) :
    Calls Tryz.prog 27 #[planV A n c A' n' c', .agg #[.int .i64 e.a.x, .int .i64 e.a.y, .int .i64 e.b.x, .int .i64 e.b.y]] w fun r w' => r = .returned (.tuple #[.int .i64 (leftI p e), .int .i64 (leftE p e)]) ∧ Below w.heap.size w w' := by
  obtain ⟨wa, hwa⟩ : ∃ wa : World, wa = (w.alloc (.cells #[.slice A n c, .slice A' n' c'] 26)).alloc (.cells #[.int .i64 e.a.x, .int .i64 e.a.y, .int .i64 e.b.x, .int .i64 e.b.y] 45) := ⟨_, rfl⟩
  have hB0 : Below w.heap.size w wa := by rw [hwa]; exact ((Below.refl _ _).alloc (Nat.le_refl _) _).alloc (by simp) _
  have hX : PlK wa w.heap.size A n c A' n' c' := by rw [hwa]; exact Blk.alloc (PlK.new w A n c A' n' c') _
  have hY : Blk wa (w.heap.size + 1) 45 #[.int .i64 e.a.x, .int .i64 e.a.y, .int .i64 e.b.x, .int .i64 e.b.y] := by
    rw [hwa]
    have := Blk.new (w.alloc (.cells #[.slice A n c, .slice A' n' c'] 26)) 45 #[.int .i64 e.a.x, .int .i64 e.a.y, .int .i64 e.b.x, .int .i64 e.b.y]
    rw [World.size_alloc] at this
    exact this
  have hP := h.on hB0
  have kC := checkPl_any p A A' n c n' c' wa hP
  obtain ⟨q1, q2, q3⟩ := hX.facts
  have H0 := Lib.hid (And.intro hB0 (And.intro hX (And.intro hY hP)))
  clear hB0 hX hY hP h
  have HE : Hid ((leftE p e = if planB p = true then (if e ∈ allE p.parcels then 0 else 5) else 2) ∧ (leftI p e = if planB p = true then whoE p.parcels e else 0)) := ⟨rfl, rfl⟩
  go_enter Tryz.func27, Tryz.ntmps27
  go_upto_region 1 with fail
  rw [← hwa]
  clear hwa
  rcases hb : planB p with _ | _
  · rw [planE_b0 hb] at kC
    have KC := Lib.hid kC
    rw [hb] at HE
    clear kC hb
    go_wp2_with fail
    refine KC.out.mono ?_
    rintro r w1 ⟨rfl, hb1⟩
    have HB := Lib.hid (below_on H0.out.1 (Nat.le_refl _) hb1)
    clear hb1 H0 KC q1 q2 q3
    go_wp2_with fail
    exact bodyPost_ret (v := .tuple #[.int .i64 0, .int .i64 2]) (by simp [results, Tryz.results27, go_sem]) rfl ⟨by rw [HE.out.1, HE.out.2]; rfl, HB.out⟩
  · rw [planE_b1 hb] at kC
    have KC := Lib.hid kC
    have HS := Lib.hid (planB_sound hb)
    rw [hb, if_pos rfl, if_pos rfl] at HE
    clear kC hb
    go_wp2_with fail
    refine KC.out.mono ?_
    rintro r w1 ⟨rfl, hb1⟩
    have hY1 := Blk.below H0.out.2.2.1 hb1 (Blk.lt H0.out.2.2.1)
    have hP1 := H0.out.2.2.2.on hb1
    have KA := Lib.hid (planEdges_any p.parcels A' n' c' w1 hP1.parcs hP1.lens.2.2.2 hP1.fits.2.2)
    have H1 := Lib.hid (And.intro (below_on H0.out.1 (Nat.le_refl _) hb1) hY1)
    clear q1 q2 q3
    obtain ⟨q1, q2, q3⟩ := (H0.out.2.1.on hb1).facts
    clear hb1 hY1 hP1 H0 KC
    go_wp2_with fail
    refine KA.out.mono ?_
    rintro r w2 ⟨hyes, -, hb2⟩
    obtain ⟨b, rfl, hm, -⟩ := hyes HS.out.2.2.2.1.1
    have hY2 := Blk.below H1.out.2 hb2 (Blk.lt H1.out.2)
    have y1 : w2.cell? ⟨w.heap.size + 1, 0, none⟩ = some (.int .i64 e.a.x) := by rw [Blk.cell hY2 0]; rfl
    have y2 : w2.cell? ⟨w.heap.size + 1, 1, none⟩ = some (.int .i64 e.a.y) := by rw [Blk.cell hY2 1]; rfl
    have y3 : w2.cell? ⟨w.heap.size + 1, 2, none⟩ = some (.int .i64 e.b.x) := by rw [Blk.cell hY2 2]; rfl
    have y4 : w2.cell? ⟨w.heap.size + 1, 3, none⟩ = some (.int .i64 e.b.y) := by rw [Blk.cell hY2 3]; rfl
    have HB := Lib.hid (below_on H1.out.1 (Nat.le_refl _) hb2)
    clear hY2 hb2 H1 KA hyes q1 q2 q3 HS
    by_cases he : e ∈ allE p.parcels
    · have hlk := run_look_in edKey Tryz.underlying88 hm (whoE_look he)
      rw [if_pos he] at HE
      unfold encE at hlk
      have HLK := hlk
      clear hlk hm he
      generalize whoE p.parcels e = z at *
      go_wp2_with fail
      exact bodyPost_ret (v := .tuple #[.int .i64 z, .int .i64 0]) (by simp [results, Tryz.results27, go_sem]) rfl ⟨by rw [HE.out.1, HE.out.2], HB.out⟩
    · have hlk := run_look_out edKey Tryz.underlying88 Tryz.zeroValue3 hm (look_none.2 (by rw [edId_keys]; exact he))
      rw [if_neg he, whoE_out he] at HE
      unfold encE at hlk
      have HLK := hlk
      clear hlk hm he
      go_wp2_with fail
      exact bodyPost_ret (v := .tuple #[.int .i64 0, .int .i64 5]) (by simp [results, Tryz.results27, go_sem]) rfl ⟨by rw [HE.out.1, HE.out.2], HB.out⟩
end Go.Proofs.YtglnklfhgdjccaaGreat

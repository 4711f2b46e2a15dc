/- bend.begin, bend.done, bend.Mark: the walks. -/
import Derived.Test.YtgkcenhopmjmlaaGreatBegin2
import Derived.Test.YtgkcenhopmjmlaaGreatCorn
import Derived.Test.YtgkcenhopmjmlaaGreatFind
import Derived.Test.YtgkcenhopmjmlaaGreatInsert
namespace Go.Proofs.YtgkcenhopmjmlaaGreat
open Go.RowKit Go.Lib
noncomputable def bendE (p : Plan) (l : List Pt) : Int := if planB p = true then (if goodL l = true then 0 else 3) else 2
set_option maxRecDepth 100000 in
set_option maxHeartbeats 800000 in
theorem bendBegin_any (p : Plan) (l : List Pt) (A A' B : Option Addr) (n c n' c' m cap : Nat) (w : World) (h : PlanAt w w.heap.size A n c A' n' c' p) (hl : Reads w w.heap.size 2 B m (ptsV l)) (hm : m ≤ 9223372036854775807) (hx : ∀ r ∈ l, r.inI) :
    Calls Tryz.prog 136 #[planV A n c A' n' c', .slice B m cap] w fun e w' => e = .returned (.int .i64 (bendE p l)) ∧ Below w.heap.size w w' := by
  have hB0 := (Below.refl w.heap.size w).alloc (Nat.le_refl _) (.cells #[.slice A n c, .slice A' n' c'] 26)
  have hX := PlK.new w A n c A' n' c'
  have kC := checkPl_any p A A' n c n' c' _ (h.on hB0)
  have HL := Lib.hid (fun V (hV : Below w.heap.size w V) => good_any l B m cap V ((hl.below hV).more hV.size) hm hx)
  have HE : Hid (bendE p l = if planB p = true then (if goodL l = true then 0 else 3) else 2) := rfl
  obtain ⟨q1, q2, -⟩ := hX.facts
  have HB := Lib.hid hB0
  clear hB0 hX h hl hx
  go_enter Tryz.func136, Tryz.ntmps136
  rcases hb : planB p with _ | _
  · rw [planE_b0 hb] at kC
    rw [hb] at HE
    have KC := Lib.hid kC
    clear kC hb HL
    go_wp2_with fail
    refine KC.out.mono ?_
    rintro e w1 ⟨rfl, hb1⟩
    have HB1 := Lib.hid (below_on HB.out (Nat.le_refl _) hb1)
    clear hb1 HB KC q1 q2
    go_wp2_with fail
    go_ret
    exact ⟨by rw [HE.out]; rfl, HB1.out⟩
  · rw [planE_b1 hb] at kC
    rw [hb, if_pos rfl] at HE
    have KC := Lib.hid kC
    clear kC hb
    go_wp2_with fail
    refine KC.out.mono ?_
    rintro e w1 ⟨rfl, hb1⟩
    have HB1 := Lib.hid (below_on HB.out (Nat.le_refl _) hb1)
    have KG := Lib.hid (HL.out w1 HB1.out)
    clear hb1 HB KC q1 q2 HL
    go_wp2_with fail
    refine KG.out.mono ?_
    rintro e w2 ⟨rfl, hb2⟩
    have HB2 := Lib.hid (below_on HB1.out (Nat.le_refl _) hb2)
    clear hb2 HB1 KG
    rcases hg : goodL l with _ | _
    · rw [hg] at HE
      clear hg
      go_wp2_with fail
      go_ret
      exact ⟨by rw [HE.out]; rfl, HB2.out⟩
    · rw [hg] at HE
      clear hg
      go_wp2_with fail
      go_ret
      exact ⟨by rw [HE.out]; rfl, HB2.out⟩
theorem res_store {w W : World} {g : Nat} {a b : Value} (hb : Below w.heap.size w W) (hg : w.heap.size ≤ g) (hk : Blk W g 26 #[a, b]) (u v : Value) :
    ∃ V, V = (W.setCell ⟨g, 0, none⟩ u).setCell ⟨g, 1, none⟩ v ∧ V.cell? ⟨g, 0, none⟩ = some u ∧ V.cell? ⟨g, 1, none⟩ = some v ∧ Below w.heap.size w V := by
  have hK := Blk.set_ (Blk.set_ hk 0 u) 1 v
  exact ⟨_, rfl, by rw [Blk.cell hK 0]; rfl, by rw [Blk.cell hK 1]; rfl, (hb.setCell (p := ⟨g, 0, none⟩) hg u).setCell (p := ⟨g, 1, none⟩) hg v⟩
theorem plk_facts4 {W : World} {g : Nat} {a b : Value} (hk : Blk W g 26 #[a, b]) : W.cell? ⟨g, 0, none⟩ = some a ∧ W.cell? ⟨g, 1, none⟩ = some b ∧ W.frozen? ⟨g, 0, none⟩ = false ∧ W.frozen? ⟨g, 1, none⟩ = false := ⟨Blk.cell hk 0, Blk.cell hk 1, Blk.frozen hk 0, Blk.frozen hk 1⟩
set_option maxRecDepth 100000 in
set_option maxHeartbeats 800000 in
theorem bendDone_any (q : Plan) (A A' : Option Addr) (n c n' c' : Nat) (w : World) (h : PlanAt w w.heap.size A n c A' n' c' q) :
    Calls Tryz.prog 139 #[planV A n c A' n' c'] w fun e w' => (planB q = true → e = .returned (.tuple #[planV A n c A' n' c', .int .i64 0])) ∧ (planB q = false → e = .returned (.tuple #[planV none 0 0 none 0 0, .int .i64 8])) ∧ Below w.heap.size w w' := by
  obtain ⟨wa, hwa⟩ : ∃ wa : World, wa = (w.alloc (.cells #[.slice A n c, .slice A' n' c'] 26)).alloc (.cells #[.slice none 0 0, .slice none 0 0] 26) := ⟨_, rfl⟩
  have hB0 : Below w.heap.size w wa := by rw [hwa]; exact ((Below.refl _ _).alloc (Nat.le_refl _) _).alloc (by simp) _
  have hX : PlK wa w.heap.size A n c A' n' c' := by rw [hwa]; exact Blk.alloc (PlK.new w A n c A' n' c') _
  have hY : PlK wa (w.heap.size + 1) none 0 0 none 0 0 := by
    have := PlK.new (w.alloc (.cells #[.slice A n c, .slice A' n' c'] 26)) none 0 0 none 0 0
    rw [World.size_alloc] at this
    rw [hwa]
    exact this
  have kC := checkPl_any q A A' n c n' c' wa (h.on hB0)
  obtain ⟨q1, q2, -⟩ := hX.facts
  have H0 := Lib.hid (And.intro hB0 (And.intro hX hY))
  clear hB0 hX hY h
  go_enter Tryz.func139, Tryz.ntmps139
  go_upto_region 1 with fail
  rw [← hwa]
  clear hwa
  rcases hb : planB q with _ | _
  · rw [planE_b0 hb] at kC
    have KC := Lib.hid kC
    clear kC
    go_wp2_with fail
    refine KC.out.mono ?_
    rintro e w1 ⟨rfl, hb1⟩
    obtain ⟨V, hV, r1, r2, hbV⟩ := res_store (g := w.heap.size + 1) (below_on H0.out.1 (Nat.le_refl _) hb1) (by omega) (H0.out.2.2.on hb1) (.slice none 0 0) (.slice none 0 0)
    obtain ⟨y1, y2, f1, f2⟩ := plk_facts4 (H0.out.2.2.on hb1)
    have HV := Lib.hid hV
    have HR := Lib.hid (And.intro r1 (And.intro r2 hbV))
    clear q1 q2 hb1 H0 KC hV r1 r2 hbV
    go_wp2_with fail
    rw [← HV.out]
    obtain ⟨r1, r2, hbV⟩ := HR.out
    refine bodyPost_ret (v := .tuple #[planV none 0 0 none 0 0, .int .i64 8]) ?_ rfl ⟨fun h => (by rw [hb] at h; cases h), fun _ => rfl, hbV⟩
    simp [results, Tryz.results139, go_sem, r1, r2]
  · rw [planE_b1 hb] at kC
    have KC := Lib.hid kC
    clear kC
    go_wp2_with fail
    refine KC.out.mono ?_
    rintro e w1 ⟨rfl, hb1⟩
    obtain ⟨V, hV, r1, r2, hbV⟩ := res_store (g := w.heap.size + 1) (below_on H0.out.1 (Nat.le_refl _) hb1) (by omega) (H0.out.2.2.on hb1) (.slice A n c) (.slice A' n' c')
    obtain ⟨y1, y2, f1, f2⟩ := plk_facts4 (H0.out.2.2.on hb1)
    clear q1 q2
    obtain ⟨q1, q2, -⟩ := (H0.out.2.1.on hb1).facts
    have HV := Lib.hid hV
    have HR := Lib.hid (And.intro r1 (And.intro r2 hbV))
    clear hb1 H0 KC hV r1 r2 hbV
    go_wp2_with fail
    rw [← HV.out]
    obtain ⟨r1, r2, hbV⟩ := HR.out
    refine bodyPost_ret (v := .tuple #[planV A n c A' n' c', .int .i64 0]) ?_ rfl ⟨fun _ => rfl, fun h => (by rw [hb] at h; cases h), hbV⟩
    simp [results, Tryz.results139, go_sem, r1, r2]
noncomputable def markE (p : Plan) (q : Pt) : Int := if planB p = true then (if good q = true then (if hasC p.parcels q = true then 6 else (if hasC (eachP (insG q) p).parcels q = true then (if planB (eachP (insG q) p) = true then 0 else 8) else 7)) else 3) else 2
noncomputable def markP (p : Plan) (q : Pt) : Plan := if markE p q = 0 then eachP (insG q) p else ⟨[], []⟩
def ResPost (r : Plan) (z : Int) (w : World) (e : Ending) (w' : World) : Prop := ∃ A n c A' n' c', e = .returned (.tuple #[planV A n c A' n' c', .int .i64 z]) ∧ PlanAt w' w'.heap.size A n c A' n' c' r ∧ Below w.heap.size w w'
theorem resPost_no {w V : World} {z : Int} {r : Plan} (hr : r = ⟨[], []⟩) (hb : Below w.heap.size w V) : ResPost r z w (.returned (.tuple #[planV none 0 0 none 0 0, .int .i64 z])) V := ⟨none, 0, 0, none, 0, 0, rfl, by rw [hr]; exact planAt_nil V, hb⟩
def ResPostS (r : Plan) (z : Int) (w : World) (e : Ending) (w' : World) : Prop := ∃ A n c A' n' c' hs, e = .returned (.tuple #[planV A n c A' n' c', .int .i64 z]) ∧ PlanOwn w.heap.size w' A n c A' n' c' r hs ∧ Below w.heap.size w w'
theorem planOwn_nil (B : Nat) (W : World) : PlanOwn B W none 0 0 none 0 0 ⟨[], []⟩ [] := ⟨World.ownsRow_nil _ _ _ _, World.ownsRow_nil _ _ _ _, rfl, rfl, fun j hj => absurd hj (Nat.not_lt_zero _), ⟨⟨by simp, by simp⟩, by simp, by simp⟩⟩
theorem resPostS_no {w V : World} {z : Int} {r : Plan} (hr : r = ⟨[], []⟩) (hb : Below w.heap.size w V) : ResPostS r z w (.returned (.tuple #[planV none 0 0 none 0 0, .int .i64 z])) V := ⟨none, 0, 0, none, 0, 0, [], rfl, by rw [hr]; exact planOwn_nil _ V, hb⟩
theorem ResPostS.weak {w V : World} {z : Int} {r : Plan} {e : Ending} (h : ResPostS r z w e V) : ResPost r z w e V := by
  obtain ⟨A, n, c, A', n', c', hs, h1, h2, h3⟩ := h
  exact ⟨A, n, c, A', n', c', h1, h2.at_, h3⟩
theorem markP_no {p : Plan} {q : Pt} {z : Int} (h : markE p q = z) (h0 : z ≠ 0) : markP p q = ⟨[], []⟩ := by unfold markP; rw [if_neg (by rw [h]; exact h0)]
-- MARK
set_option maxRecDepth 100000 in
set_option maxHeartbeats 1600000 in
theorem mark_any (p : Plan) (q : Pt) (A A' : Option Addr) (n c n' c' : Nat) (w : World) (h : PlanAt w w.heap.size A n c A' n' c' p) (hq : q.inI) :
    Calls Tryz.prog 92 #[planV A n c A' n' c', .agg #[.int .i64 q.x, .int .i64 q.y]] w (ResPostS (markP p q) (markE p q) w) := by
  obtain ⟨wa, hwa⟩ : ∃ wa : World, wa = ((w.alloc (.cells #[.slice A n c, .slice A' n' c'] 26)).alloc (.cells #[.int .i64 q.x, .int .i64 q.y] 53)).alloc (.cells #[.slice none 0 0, .slice none 0 0] 26) := ⟨_, rfl⟩
  have hB0 : Below w.heap.size w wa := by rw [hwa]; exact (((Below.refl _ _).alloc (Nat.le_refl _) _).alloc (by simp) _).alloc (by simp; omega) _
  have hX : PlK wa w.heap.size A n c A' n' c' := by rw [hwa]; exact Blk.alloc (Blk.alloc (PlK.new w A n c A' n' c') _) _
  have hY : PtK wa (w.heap.size + 1) q := by
    have := PtK.new (w.alloc (.cells #[.slice A n c, .slice A' n' c'] 26)) q
    rw [World.size_alloc] at this
    rw [hwa]
    exact Blk.alloc this _
  have hZ : PlK wa (w.heap.size + 1 + 1) none 0 0 none 0 0 := by
    have := PlK.new ((w.alloc (.cells #[.slice A n c, .slice A' n' c'] 26)).alloc (.cells #[.int .i64 q.x, .int .i64 q.y] 53)) none 0 0 none 0 0
    rw [World.size_alloc, World.size_alloc] at this
    rw [hwa]
    exact this
  have hP := h.on hB0
  have hba : Below wa.heap.size wa (wa.alloc (.cells #[.int .i64 q.x, .int .i64 q.y] 53)) := (Below.refl _ _).alloc (Nat.le_refl _) _
  have KB := Lib.hid (bendBegin_any p [q] A A' (some ⟨wa.heap.size, 0, none⟩) n c n' c' 1 1 _ (hP.on hba) (Reads.made wa #[.int .i64 q.x, .int .i64 q.y] 53 (0, 0) 2 1 (ptsV [q]) rfl rfl) (by omega) (fun r hr => by rw [List.mem_singleton] at hr; rw [hr]; exact hq))
  obtain ⟨q1, q2, q3⟩ := hX.facts
  obtain ⟨r1, r2, -, -, -⟩ := hY.facts
  have H0 := Lib.hid (And.intro (below_on hB0 (Nat.le_refl _) hba) (And.intro (hX.on hba) (And.intro (Blk.below hY hba (Blk.lt hY)) (And.intro (hZ.on hba) (hP.on hba)))))
  have HE : Hid (markE p q = if planB p = true then (if good q = true then (if hasC p.parcels q = true then 6 else (if hasC (eachP (insG q) p).parcels q = true then (if planB (eachP (insG q) p) = true then 0 else 8) else 7)) else 3) else 2) := rfl
  have HB : Hid (bendE p [q] = if planB p = true then (if good q = true then 0 else 3) else 2) := by show _ = _; unfold bendE; rw [goodL_one]
  clear hB0 hX hY hZ hP h hba hq
  go_enter Tryz.func92, Tryz.ntmps92
  go_upto_region 1 with fail
  rw [← hwa]
  clear hwa
  go_wp2_with fail
  refine KB.out.mono ?_
  rintro e w1 ⟨rfl, hb1⟩
  have H1 := Lib.hid (And.intro (And.intro (below_on H0.out.1 (Nat.le_refl _) hb1) (H0.out.2.2.2.1.on hb1)) (And.intro (H0.out.2.1.on hb1) (And.intro (Blk.below H0.out.2.2.1 hb1 (Blk.lt H0.out.2.2.1)) (H0.out.2.2.2.2.on hb1))))
  have HR1 := Lib.hid H1.out.1
  clear hb1 H0 KB q1 q2 q3 r1 r2
  rcases hpb : planB p with _ | _
  · rw [hpb] at HB HE
    have hbe : bendE p [q] = 2 := HB.out
    have hme : markE p q = 2 := HE.out
    rw [hbe]
    have HM := Lib.hid hme
    clear HB HE hbe hme hpb H1
    obtain ⟨V, hV, r1, r2, hbV⟩ := res_store (g := w.heap.size + 1 + 1) HR1.out.1 (by omega) HR1.out.2 (.slice none 0 0) (.slice none 0 0)
    obtain ⟨s1, s2, f1, f2⟩ := plk_facts4 HR1.out.2
    have HV := Lib.hid hV
    have HR := Lib.hid (And.intro r1 (And.intro r2 hbV))
    clear hV r1 r2 hbV
    go_wp2_with fail
    rw [← HV.out]
    obtain ⟨r1, r2, hbV⟩ := HR.out
    refine bodyPost_ret (v := .tuple #[planV none 0 0 none 0 0, .int .i64 2]) ?_ rfl (by rw [HM.out]; exact resPostS_no (markP_no HM.out (by decide)) hbV)
    simp [results, Tryz.results92, go_sem, r1, r2]
  rw [hpb, if_pos rfl] at HB HE
  have HS := Lib.hid (planB_sound hpb)
  rcases hgd : good q with _ | _
  · rw [hgd] at HB HE
    have hbe : bendE p [q] = 3 := HB.out
    have hme : markE p q = 3 := HE.out
    rw [hbe]
    have HM := Lib.hid hme
    clear HB HE hbe hme hpb hgd H1
    obtain ⟨V, hV, r1, r2, hbV⟩ := res_store (g := w.heap.size + 1 + 1) HR1.out.1 (by omega) HR1.out.2 (.slice none 0 0) (.slice none 0 0)
    obtain ⟨s1, s2, f1, f2⟩ := plk_facts4 HR1.out.2
    have HV := Lib.hid hV
    have HR := Lib.hid (And.intro r1 (And.intro r2 hbV))
    clear hV r1 r2 hbV
    go_wp2_with fail
    rw [← HV.out]
    obtain ⟨r1, r2, hbV⟩ := HR.out
    refine bodyPost_ret (v := .tuple #[planV none 0 0 none 0 0, .int .i64 3]) ?_ rfl (by rw [HM.out]; exact resPostS_no (markP_no HM.out (by decide)) hbV)
    simp [results, Tryz.results92, go_sem, r1, r2]
  rw [hgd, if_pos rfl] at HB HE
  have hbe : bendE p [q] = 0 := HB.out
  rw [hbe]
  have HG := Lib.hid hgd
  clear HB hbe hpb hgd
  obtain ⟨q1, q2, q3⟩ := H1.out.2.1.facts
  obtain ⟨r1, r2, -, -, -⟩ := PtK.facts H1.out.2.2.1
  have KH := Lib.hid (has_any p q A A' n c n' c' w1 H1.out.2.2.2)
  go_wp2_with fail
  refine KH.out.mono ?_
  rintro e w2 ⟨rfl, hb2⟩
  have H2 := Lib.hid (And.intro (And.intro (below_on H1.out.1.1 (Nat.le_refl _) hb2) (H1.out.1.2.on hb2)) (And.intro (H1.out.2.1.on hb2) (And.intro (Blk.below H1.out.2.2.1 hb2 (Blk.lt H1.out.2.2.1)) (H1.out.2.2.2.on hb2))))
  have HR2 := Lib.hid H2.out.1
  clear hb2 H1 HR1 KH q1 q2 q3 r1 r2
  rcases hh1 : hasC p.parcels q with _ | _
  case true =>
    rw [hh1] at HE
    have hme : markE p q = 6 := HE.out
    have HM := Lib.hid hme
    clear HE hme hh1 H2
    obtain ⟨V, hV, r1, r2, hbV⟩ := res_store (g := w.heap.size + 1 + 1) HR2.out.1 (by omega) HR2.out.2 (.slice none 0 0) (.slice none 0 0)
    obtain ⟨s1, s2, f1, f2⟩ := plk_facts4 HR2.out.2
    have HV := Lib.hid hV
    have HR := Lib.hid (And.intro r1 (And.intro r2 hbV))
    clear hV r1 r2 hbV
    go_wp2_with fail
    rw [← HV.out]
    obtain ⟨r1, r2, hbV⟩ := HR.out
    refine bodyPost_ret (v := .tuple #[planV none 0 0 none 0 0, .int .i64 6]) ?_ rfl (by rw [HM.out]; exact resPostS_no (markP_no HM.out (by decide)) hbV)
    simp [results, Tryz.results92, go_sem, r1, r2]
  rw [hh1, if_neg (by decide)] at HE
  clear hh1
  obtain ⟨q1, q2, q3⟩ := H2.out.2.1.facts
  obtain ⟨r1, r2, -, -, -⟩ := PtK.facts H2.out.2.2.1
  have KI := Lib.hid (insert_any p q A A' n c n' c' w2 H2.out.2.2.2 HS.out HG.out)
  obtain ⟨P, hP⟩ : ∃ P, P = eachP (insG q) p := ⟨_, rfl⟩
  rw [← hP] at KI HE
  have HP := Lib.hid hP
  clear hP
  go_wp2_with fail
  refine KI.out.mono ?_
  rintro e w3 ⟨A1, n1, c1, A2, n2, c2, hs, rfl, hpo, hb3⟩
  obtain ⟨w4, hw4⟩ : ∃ w4, w4 = w3.alloc (.cells #[.slice A1 n1 c1, .slice A2 n2 c2] 26) := ⟨_, rfl⟩
  have hba : Below w3.heap.size w3 w4 := by rw [hw4]; exact (Below.refl _ _).alloc (Nat.le_refl _) _
  have hQ : PlK w4 w3.heap.size A1 n1 c1 A2 n2 c2 := by rw [hw4]; exact PlK.new w3 A1 n1 c1 A2 n2 c2
  obtain ⟨Bq, hBq⟩ : ∃ Bq, Bq = w3.heap.size := ⟨_, rfl⟩
  rw [← hBq] at hQ
  have hb4 : Below w2.heap.size w2 w4 := below_on hb3 (Nat.le_refl _) hba
  have H4 := Lib.hid (And.intro (And.intro (below_on H2.out.1.1 (Nat.le_refl _) hb4) (H2.out.1.2.on hb4)) (And.intro hQ (And.intro (Blk.below H2.out.2.2.1 hb4 (Blk.lt H2.out.2.2.1)) (hpo.below hba))))
  have HR4 := Lib.hid H4.out.1
  have HZW : Hid (w.heap.size ≤ w2.heap.size) := H2.out.1.1.size
  clear hpo hb3 hba hQ hb4 H2 HR2 KI q1 q2 q3 r1 r2
  go_upto_region 7 with fail
  rw [← hw4, ← hBq]
  clear hw4 hBq
  obtain ⟨q1, q2, q3⟩ := H4.out.2.1.facts
  obtain ⟨r1, r2, -, -, -⟩ := PtK.facts H4.out.2.2.1
  have KH := Lib.hid (has_any P q A1 A2 n1 c1 n2 c2 w4 H4.out.2.2.2.at_)
  go_wp2_with fail
  refine KH.out.mono ?_
  rintro e w5 ⟨rfl, hb5⟩
  have H5 := Lib.hid (And.intro (And.intro (below_on H4.out.1.1 (Nat.le_refl _) hb5) (H4.out.1.2.on hb5)) (And.intro (H4.out.2.1.on hb5) (H4.out.2.2.2.below hb5)))
  have HR5 := Lib.hid H5.out.1
  clear hb5 H4 HR4 KH q1 q2 q3 r1 r2
  rcases hh2 : hasC P.parcels q with _ | _
  · rw [hh2] at HE
    have hme : markE p q = 7 := HE.out
    have HM := Lib.hid hme
    clear HE hme hh2 H5
    obtain ⟨V, hV, r1, r2, hbV⟩ := res_store (g := w.heap.size + 1 + 1) HR5.out.1 (by omega) HR5.out.2 (.slice none 0 0) (.slice none 0 0)
    obtain ⟨s1, s2, f1, f2⟩ := plk_facts4 HR5.out.2
    have HV := Lib.hid hV
    have HR := Lib.hid (And.intro r1 (And.intro r2 hbV))
    clear hV r1 r2 hbV
    go_wp2_with fail
    rw [← HV.out]
    obtain ⟨r1, r2, hbV⟩ := HR.out
    refine bodyPost_ret (v := .tuple #[planV none 0 0 none 0 0, .int .i64 7]) ?_ rfl (by rw [HM.out]; exact resPostS_no (markP_no HM.out (by decide)) hbV)
    simp [results, Tryz.results92, go_sem, r1, r2]
  rw [hh2, if_pos rfl] at HE
  clear hh2
  obtain ⟨q1, q2, q3⟩ := H5.out.2.1.facts
  have KD := Lib.hid (bendDone_any P A1 A2 n1 c1 n2 c2 w5 H5.out.2.2.at_)
  go_wp2_with fail
  refine KD.out.mono ?_
  rintro e w6 ⟨hyes, hno, hb6⟩
  have H6 := Lib.hid (And.intro (And.intro (below_on H5.out.1.1 (Nat.le_refl _) hb6) (H5.out.1.2.on hb6)) (H5.out.2.2.below hb6))
  have HR6 := Lib.hid H6.out.1
  clear hb6 H5 HR5 KD q1 q2 q3
  rcases hpb : planB P with _ | _
  · obtain rfl := hno hpb
    rw [hpb] at HE
    have hme : markE p q = 8 := HE.out
    have HM := Lib.hid hme
    clear HE hme hpb H6 hyes hno
    obtain ⟨V, hV, r1, r2, hbV⟩ := res_store (g := w.heap.size + 1 + 1) HR6.out.1 (by omega) HR6.out.2 (.slice none 0 0) (.slice none 0 0)
    obtain ⟨s1, s2, f1, f2⟩ := plk_facts4 HR6.out.2
    have HV := Lib.hid hV
    have HR := Lib.hid (And.intro r1 (And.intro r2 hbV))
    clear hV r1 r2 hbV
    go_wp2_with fail
    rw [← HV.out]
    obtain ⟨r1, r2, hbV⟩ := HR.out
    refine bodyPost_ret (v := .tuple #[planV none 0 0 none 0 0, .int .i64 8]) ?_ rfl (by rw [HM.out]; exact resPostS_no (markP_no HM.out (by decide)) hbV)
    simp [results, Tryz.results92, go_sem, r1, r2]
  · obtain rfl := hyes hpb
    rw [hpb] at HE
    have hme : markE p q = 0 := HE.out
    have hmp : markP p q = P := by unfold markP; rw [if_pos hme, HP.out]
    have HM := Lib.hid (And.intro hme hmp)
    clear HE hme hmp hpb hyes hno
    obtain ⟨V, hV, r1, r2, hbV⟩ := res_store (g := w.heap.size + 1 + 1) HR6.out.1 (by omega) HR6.out.2 (.slice A1 n1 c1) (.slice A2 n2 c2)
    obtain ⟨s1, s2, f1, f2⟩ := plk_facts4 HR6.out.2
    have hpo := (H6.out.2.store HR6.out.2 (by decide) (by decide) 0 (.slice A1 n1 c1)).store (Blk.set_ HR6.out.2 0 (.slice A1 n1 c1)) (by decide) (by decide) 1 (.slice A2 n2 c2)
    rw [← hV] at hpo
    have HV := Lib.hid hV
    have HR := Lib.hid (And.intro r1 (And.intro r2 (And.intro hbV hpo)))
    clear hV r1 r2 hbV hpo
    go_wp2_with fail
    rw [← HV.out]
    obtain ⟨r1, r2, hbV, hpo⟩ := HR.out
    refine bodyPost_ret (v := .tuple #[planV A1 n1 c1 A2 n2 c2, .int .i64 0]) ?_ rfl ⟨A1, n1, c1, A2, n2, c2, hs, by rw [HM.out.1], by rw [HM.out.2]; exact hpo.mono HZW.out, hbV⟩
    simp [results, Tryz.results92, go_sem, r1, r2]
end Go.Proofs.YtgkcenhopmjmlaaGreat

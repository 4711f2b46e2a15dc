/- cut.fault: the walk; A corner that is put into a ring: plain law; ref05.Least and ref05.Insert: the walks; Plain law: steps of a border, and the one closed way that they make, wherever it is begun. -/
import Derived.Deep.CutBlock
import Derived.Deep.DeepCutAuto
import Derived.Test.YtnpjggcgnbgkjaaGreatK01
import Derived.Test.YtnpjggcgnbgkjaaGreatK10
import Derived.Test.YtnpjggcgnbgkjaaGreatK16
import Derived.Test.YtnpjggcgnbgkjaaGreatK17
import Derived.Test.YtnpjggcgnbgkjaaGreatK18
import Derived.Test.YtnpjggcgnbgkjaaGreatK23
import Derived.Test.YtnpjggcgnbgkjaaGreatK26
import Derived.Test.YtnpjggcgnbgkjaaGreatK28
import Derived.Test.YtnpjggcgnbgkjaaGreatK30
namespace Go.Proofs.YtnpjggcgnbgkjaaGreat
open Go.RowKit Go.Lib
def TwoB (W V : World) (x y : Value) (a b : Pt) : Prop := ∃ g1 g2, x = .pointer (some ⟨g1, 0, none⟩) ∧ y = .pointer (some ⟨g2, 0, none⟩) ∧ PtK V g1 a ∧ PtK V g2 b ∧ Below W.heap.size W V
theorem twoB_1 {W : World} {a b : Pt} : TwoB W ((W.alloc (.cells #[.int .i64 a.x, .int .i64 a.y] 35)).alloc (.cells #[.int .i64 b.x, .int .i64 b.y] 35)).drew (.pointer (some ⟨W.heap.size, 0, none⟩)) (.pointer (some ⟨W.heap.size + 1, 0, none⟩)) a b := by
  refine ⟨_, _, rfl, rfl, Blk.drew (Blk.alloc (PtK.new W a) _), ?_, (((Below.refl W.heap.size W).alloc (Nat.le_refl _) _).alloc (by simp) _).drew⟩
  have := PtK.new (W.alloc (.cells #[.int .i64 a.x, .int .i64 a.y] 35)) b
  rw [World.size_alloc] at this
  exact Blk.drew this
theorem twoB_2 {W : World} {a b : Pt} : TwoB W ((W.alloc (.cells #[.int .i64 b.x, .int .i64 b.y] 35)).alloc (.cells #[.int .i64 a.x, .int .i64 a.y] 35)).drew (.pointer (some ⟨W.heap.size + 1, 0, none⟩)) (.pointer (some ⟨W.heap.size, 0, none⟩)) a b := by
  obtain ⟨g1, g2, h1, h2, k1, k2, hb⟩ := twoB_1 (W := W) (a := b) (b := a)
  exact ⟨g2, g1, h2, h1, k2, k1, hb⟩
def FtF (p : Plan) (path : List Pt) (A : Option Addr) (n c : Nat) (A' : Option Addr) (n' c' : Nat) (B : Option Addr) (m : Nat) (w W : World) : Prop := Below w.heap.size w W ∧ PlK W w.heap.size A n c A' n' c' ∧ PlanAt W W.heap.size A n c A' n' c' p ∧ Reads W W.heap.size 2 B m (ptsV path)
theorem FtF.on {p : Plan} {path : List Pt} {A A' B : Option Addr} {n c n' c' m : Nat} {w W W' : World} (h : FtF p path A n c A' n' c' B m w W) (hb : Below W.heap.size W W') : FtF p path A n c A' n' c' B m w W' :=
  ⟨below_on h.1 (Nat.le_refl _) hb, h.2.1.on hb, h.2.2.1.on hb, h.2.2.2.on hb⟩
theorem fault_2 {p : Plan} {id fresh : Int} {path : List Pt} (h : planB p = false) : faultI p id path fresh = 2 := by unfold faultI; rw [if_pos h]
theorem fault_5 {p : Plan} {id fresh : Int} {path : List Pt} (h : planB p = true) (h1 : atP p.parcels id < 0) : faultI p id path fresh = 5 := by unfold faultI; rw [if_neg (by rw [h]; decide), if_pos h1]
theorem fault_rest {p : Plan} {id fresh : Int} {path : List Pt} (h : planB p = true) (h1 : ¬ atP p.parcels id < 0) : faultI p id path fresh = if idB fresh = false ∨ path.length < 2 ∨ 128 < path.length then 1 else if 0 ≤ atP p.parcels fresh then 6 else if goodL path = false then 3 else
  if ptAt path 0 = ptAt path (path.length - 1) ∨ sideI (pcAt p.parcels (atP p.parcels id).toNat).ring (ptAt path 0) ≠ 0 ∨ sideI (pcAt p.parcels (atP p.parcels id).toNat).ring (ptAt path (path.length - 1)) ≠ 0 then 7 else 0 := by unfold faultI; rw [if_neg (by rw [h]; decide), if_neg h1]
theorem hldF {W V V' : World} {a0 a1 a2 a3 : Addr} {v0 v1 v2 v3 : Value} (hh : a0.block < W.heap.size ∧ a1.block < W.heap.size ∧ a2.block < W.heap.size ∧ a3.block < W.heap.size) (hs : V.cell? a0 = some v0 ∧ V.cell? a1 = some v1 ∧ V.cell? a2 = some v2 ∧ V.cell? a3 = some v3 ∧ Below W.heap.size W V) (hb : Below V.heap.size V V') :
    V'.cell? a0 = some v0 ∧ V'.cell? a1 = some v1 ∧ V'.cell? a2 = some v2 ∧ V'.cell? a3 = some v3 ∧ Below W.heap.size W V' := by
  obtain ⟨h0, h1, h2, h3⟩ := hh
  obtain ⟨c0, c1, c2, c3, cb⟩ := hs
  have := cb.size
  have k : ∀ {a : Addr} {v : Value}, a.block < W.heap.size → V.cell? a = some v → V'.cell? a = some v := fun {a v} ha hv => (hb.cell (p := a) (by omega)).trans hv
  exact ⟨k h0 c0, k h1 c1, k h2 c2, k h3 c3, below_on cb (Nat.le_refl _) hb⟩
set_option maxRecDepth 100000 in
set_option maxHeartbeats 6400000 in
theorem fault_any (p : Plan) (id fresh : Int) (path : List Pt) (A A' B : Option Addr) (n c n' c' m cb : Nat) (w : World) (h : PlanAt w w.heap.size A n c A' n' c' p) (hr : Reads w w.heap.size 2 B m (ptsV path)) (hx : ∀ q ∈ path, q.inI) (hm : m ≤ 8796093022208) :
    Calls Tryz.prog 127 #[planV A n c A' n' c', .int .i64 id, .slice B m cb, .int .i64 fresh] w fun e w' => e = .returned (.int .i64 (faultI p id path fresh)) ∧ Below w.heap.size w w' := by
  obtain ⟨wa, hwa⟩ : ∃ wa : World, wa = w.alloc (.cells #[.slice A n c, .slice A' n' c'] 26) := ⟨_, rfl⟩
  have hF : FtF p path A n c A' n' c' B m w wa := by
    have hB0 : Below w.heap.size w wa := by rw [hwa]; exact (Below.refl _ _).alloc (Nat.le_refl _) _
    exact ⟨hB0, by rw [hwa]; exact PlK.new w A n c A' n' c', h.on hB0, hr.on hB0⟩
  have hl := hr.lenPt
  have H0 := Lib.hid hF
  have HX := Lib.hid (And.intro hl hx)
  have KA := Lib.hid (at_any p id A A' n c n' c' wa hF.2.2.1)
  obtain ⟨q1, q2, q3⟩ := hF.2.1.facts
  clear hF h hr hl hx
  go_enter Tryz.func127, Tryz.ntmps127
  go_upto_region 1 with fail
  rw [← hwa]
  clear hwa
  go_wp2_with fail
  refine KA.out.mono ?_
  rintro e w1 ⟨rfl, hb1⟩
  have H1 := Lib.hid (H0.out.on hb1)
  obtain ⟨z, hz⟩ : ∃ z, z = atP p.parcels id := ⟨_, rfl⟩
  rw [← hz]
  have HZ := Lib.hid hz
  have kC := checkPl_any p A A' n c n' c' w1 H1.out.2.2.1
  clear hb1 H0 KA q1 q2 q3 hz
  obtain ⟨q1, q2, q3⟩ := H1.out.2.1.facts
  rcases hpb : planB p with _ | _
  · have hme := fault_2 (id := id) (fresh := fresh) (path := path) hpb
    have HM := Lib.hid hme
    rw [planE_b0 hpb] at kC
    have KC := Lib.hid kC
    clear kC hme hpb
    go_wp2_with fail
    refine KC.out.mono ?_
    rintro e w2 ⟨rfl, hb2⟩
    have HB := Lib.hid (H1.out.on hb2).1
    clear hb2 H1 KC q1 q2 q3
    go_wp2_with fail
    go_ret
    exact ⟨by rw [HM.out]; rfl, HB.out⟩
  rw [planE_b1 hpb] at kC
  have KC := Lib.hid kC
  have HS := Lib.hid (planB_sound hpb)
  have HPB := Lib.hid hpb
  clear kC hpb
  by_cases hz0 : z < 0
  · have HM := Lib.hid (fault_5 (id := id) (fresh := fresh) (path := path) HPB.out (by rw [← HZ.out]; exact hz0))
    go_wp2_with fail
    refine KC.out.mono ?_
    rintro e w2 ⟨rfl, hb2⟩
    have HB := Lib.hid (H1.out.on hb2).1
    clear hb2 H1 KC q1 q2 q3
    go_wp2_with fail
    go_ret
    exact ⟨by rw [HM.out]; rfl, HB.out⟩
  obtain ⟨k, hk, rfl⟩ : ∃ k : Nat, k < p.parcels.length ∧ z = (k : Int) := by
    rcases atP_cases p.parcels id with ⟨e, -⟩ | ⟨k, hk, e, -⟩
    · have := HZ.out; omega
    · exact ⟨k, hk, HZ.out.trans e⟩
  have hE := fault_rest (id := id) (fresh := fresh) (path := path) HPB.out (by rw [← HZ.out]; exact hz0)
  rw [← HZ.out, Int.toNat_natCast, HX.out.1] at hE
  have HE := Lib.hid hE
  have HK := Lib.hid hk
  clear hE hk
  have hE1 : (idB fresh = false ∨ m < 2 ∨ 128 < m) → faultI p id path fresh = 1 := fun h => by rw [HE.out, if_pos h]
  have hE2 : ¬ (idB fresh = false ∨ m < 2 ∨ 128 < m) → faultI p id path fresh = if 0 ≤ atP p.parcels fresh then 6 else if goodL path = false then 3 else if ptAt path 0 = ptAt path (m - 1) ∨ sideI (pcAt p.parcels k).ring (ptAt path 0) ≠ 0 ∨ sideI (pcAt p.parcels k).ring (ptAt path (m - 1)) ≠ 0 then 7 else 0 := fun h => by rw [HE.out, if_neg h]
  go_upto_region 2 with fail
  go_wp2_with fail
  refine KC.out.mono ?_
  rintro e w2 ⟨rfl, hb2⟩
  have H2 := Lib.hid (H1.out.on hb2)
  clear hb2 H1 KC q1 q2 q3 HE
  have kI := fun V => idP_any fresh V
  obtain ⟨bi, hbi⟩ : ∃ b, b = idB fresh := ⟨_, rfl⟩
  rw [← hbi] at kI hE1 hE2
  have HB2 := Lib.hid H2.out.1
  rcases bi with _ | _
  · have HM := Lib.hid (hE1 (.inl rfl))
    clear hE1 hE2 hbi H2
    go_wp2_with fail
    refine (kI _).mono ?_
    rintro e w3 ⟨rfl, rfl⟩
    clear kI
    go_wp2_with fail
    go_ret
    exact ⟨by rw [HM.out]; rfl, HB2.out⟩
  by_cases h2 : m < 2
  · have HM := Lib.hid (hE1 (.inr (.inl h2)))
    have h2' : (m : Int) < 2 := by omega
    clear hE1 hE2 hbi H2
    go_wp2_with fail
    refine (kI _).mono ?_
    rintro e w3 ⟨rfl, rfl⟩
    clear kI
    go_wp2_with fail
    go_ret
    exact ⟨by rw [HM.out]; rfl, HB2.out⟩
  have h2' : ¬ (m : Int) < 2 := by omega
  by_cases h3 : 128 < m
  · have HM := Lib.hid (hE1 (.inr (.inr h3)))
    have h3' : (128 : Int) < (m : Int) := by omega
    clear hE1 hE2 hbi H2
    go_wp2_with fail
    refine (kI _).mono ?_
    rintro e w3 ⟨rfl, rfl⟩
    clear kI
    go_wp2_with fail
    go_ret
    exact ⟨by rw [HM.out]; rfl, HB2.out⟩
  have h3' : ¬ (128 : Int) < (m : Int) := by omega
  have HE := Lib.hid (hE2 (by simp [h2, h3]))
  clear hE1 hE2 hbi
  go_wp2_with fail
  refine (kI _).mono ?_
  rintro e w3 ⟨rfl, rfl⟩
  clear kI
  go_upto_region 8 with fail
  clear h2' h3'
  obtain ⟨q1, q2, q3⟩ := H2.out.2.1.facts
  have kF := at_any p fresh A A' n c n' c' w2 H2.out.2.2.1
  obtain ⟨zf, hzf⟩ : ∃ z, z = atP p.parcels fresh := ⟨_, rfl⟩
  have hE := HE.out
  rw [← hzf] at kF hE
  have KF := Lib.hid kF
  clear kF HE hzf
  by_cases h4 : 0 ≤ zf
  · rw [if_pos h4] at hE
    have HM := Lib.hid hE
    clear hE
    go_wp2_with fail
    refine KF.out.mono ?_
    rintro e w3 ⟨rfl, hb3⟩
    have HB := Lib.hid (H2.out.on hb3).1
    clear hb3 H2 KF q1 q2 q3
    go_wp2_with fail
    go_ret
    exact ⟨by rw [HM.out]; rfl, HB.out⟩
  rw [if_neg h4] at hE
  have HE := Lib.hid hE
  clear hE
  go_wp2_with fail
  refine KF.out.mono ?_
  rintro e w3 ⟨rfl, hb3⟩
  have H3 := Lib.hid (H2.out.on hb3)
  have HB3 := Lib.hid H3.out.1
  clear hb3 H2 KF q1 q2 q3 HB2
  go_upto_region 10 with fail
  clear h4
  have kG := good_any path B m cb w3 H3.out.2.2.2 (by omega) HX.out.2
  have hE := HE.out
  rcases hgd : goodL path with _ | _
  · rw [hgd] at kG hE
    have KG := Lib.hid kG
    have HM := Lib.hid (hE.trans (if_pos rfl))
    clear kG hE hgd
    go_wp2_with fail
    refine KG.out.mono ?_
    rintro e w4 ⟨rfl, hb4⟩
    have HB := Lib.hid (H3.out.on hb4).1
    clear hb4 H3 KG
    go_wp2_with fail
    go_ret
    exact ⟨by rw [HM.out]; rfl, HB.out⟩
  rw [hgd] at kG hE
  have KG := Lib.hid kG
  rw [if_neg (by decide)] at hE
  have HG := Lib.hid hgd
  clear kG hgd HE
  have e0 := goodL_mem HG.out (show ptAt path 0 ∈ path from ptAt_mem (by have := HX.out.1; omega))
  have e1 := goodL_mem HG.out (show ptAt path (m - 1) ∈ path from ptAt_mem (by have := HX.out.1; omega))
  obtain ⟨a, ha⟩ : ∃ a, a = ptAt path 0 := ⟨_, rfl⟩
  obtain ⟨b, hb⟩ : ∃ b, b = ptAt path (m - 1) := ⟨_, rfl⟩
  rw [← ha, ← hb] at hE
  rw [← ha] at e0
  rw [← hb] at e1
  have HE := Lib.hid hE
  have HAB := Lib.hid (And.intro ha (And.intro hb (And.intro e0 e1)))
  clear ha hb e0 e1 hE
  go_wp2_with fail
  refine KG.out.mono ?_
  rintro e w4 ⟨rfl, hb4⟩
  have H4 := Lib.hid (H3.out.on hb4)
  clear hb4 H3 KG HB3
  obtain ⟨W, hW⟩ : ∃ W, W = w4 := ⟨_, rfl⟩
  rw [← hW] at H4
  go_upto_region 12 with fail
  rw [← hW]
  clear hW w4
  obtain ⟨q1, q2, q3⟩ := H4.out.2.1.facts
  have hkn : k < n' := by have := H4.out.2.2.1.lens.2.1; have := HK.out; omega
  have hkn' : (k : Int) < (n' : Int) := by omega
  obtain ⟨ad', rfl⟩ := H4.out.2.2.1.parcs.some_ (by omega)
  obtain ⟨-, -, ⟨Ak, nk, ck, p5, hrk, -, -⟩, -⟩ := H4.out.2.2.1.parcs.at_ hkn
  obtain ⟨rr, hrr⟩ : ∃ rr, rr = (pcAt p.parcels k).ring := ⟨_, rfl⟩
  have hsr := sound_ring HS.out (xs := rr) (.inr ⟨pcAt p.parcels k, by rw [pcAt_lt HK.out]; exact List.getElem_mem _, hrr⟩)
  have hE := HE.out
  rw [← hrr] at hrk hE
  have hrl := hrk.lenPt
  have HR := Lib.hid (And.intro hrk (And.intro (by omega : nk ≤ 128) hsr.1))
  have HE := Lib.hid hE
  clear hrk hrr hsr hrl hE
  obtain ⟨ad, rfl, -, -, -, -⟩ := H4.out.2.2.2.pt (k := 0) (by omega)
  obtain ⟨had, p1, p2⟩ := H4.out.2.2.2.ptA (k := 0) (by omega)
  obtain ⟨m1, hm1⟩ : ∃ m1, m1 = m - 1 := ⟨_, rfl⟩
  obtain ⟨-, p3, p4⟩ := H4.out.2.2.2.ptA (k := m1) (by omega)
  rw [show ptAt path 0 = a from HAB.out.1.symm, show ad.add (0 * 2) = ad by simp [Addr.add]] at p1 p2
  rw [show ptAt path m1 = b by rw [hm1]; exact HAB.out.2.1.symm] at p3 p4
  have hmi : IntKind.i64.wrap ((m : Int) - 1) = (m1 : Int) := by rw [IntKind.wrap_i64]; omega
  have hm0 : (0 : Int) < (m : Int) := by omega
  have hm2 : (m1 : Int) < (m : Int) := by omega
  have hk0 : ¬ (k : Int) < 0 := by omega
  have hm3 : m1 < m := by omega
  have HM1 := Lib.hid hm1
  clear hm1
  go_upto_region 13 with fail
  clear q1 q2 p5 hkn' hk0 hz0
  have hm00 : 0 < m := by omega
  have hh : ad.block < W.heap.size ∧ (⟨ad.block, ad.off + 1, none⟩ : Addr).block < W.heap.size ∧ (ad.add (m1 * 2)).block < W.heap.size ∧ (⟨(ad.add (m1 * 2)).block, (ad.add (m1 * 2)).off + 1, none⟩ : Addr).block < W.heap.size := by simp only [block_of_add]; exact ⟨had, had, had, had⟩
  have hP0 : W.drew.cell? ad = some (.int .i64 a.x) ∧ W.drew.cell? ⟨ad.block, ad.off + 1, none⟩ = some (.int .i64 a.y) ∧ W.drew.cell? (ad.add (m1 * 2)) = some (.int .i64 b.x) ∧ W.drew.cell? ⟨(ad.add (m1 * 2)).block, (ad.add (m1 * 2)).off + 1, none⟩ = some (.int .i64 b.y) ∧ Below W.heap.size W W.drew := ⟨p1, p2, p3, p4, (Below.refl _ _).drew⟩
  clear p1 p2 p3 p4 had
  go_cut [11, 12] (fun x y wx => TwoB W wx x y a b)
  case first =>
    refine wp_region_held_drew (S := fun V => V.cell? ad = some (.int .i64 a.x) ∧ V.cell? ⟨ad.block, ad.off + 1, none⟩ = some (.int .i64 a.y) ∧ V.cell? (ad.add (m1 * 2)) = some (.int .i64 b.x) ∧ V.cell? ⟨(ad.add (m1 * 2)).block, (ad.add (m1 * 2)).off + 1, none⟩ = some (.int .i64 b.y) ∧ Below W.heap.size W V) (by kernel_rfl) ?_ (fun hHeld => ?_)
    · exact hP0
    refine tk 0 ?_
    refine tk 1 ?_
    refine tk 2 ?_
    refine tk 3 ?_
    refine tk 4 ?_
    refine tk 5 ?_
    refine tk 6 ?_
    refine tk 7 ?_
    refine tk 8 ?_
    refine wpAnyH_ready (rs := [9, 10]) (by kernel_rfl) (by simp) ?_
    refine AllReadyH.cons rfl (fun K hK => ?_) (AllReadyH.cons rfl (fun K hK => ?_) AllReadyH.nil)
    · go_simp
      refine hK.out _ _ ?_ (fun hHeld => ?_)
      · exact hldF hh hP0 ((Below.refl _ _).alloc (Nat.le_refl _) _)
      clear hK K
      try simp only [Act.put, List.setIfInBounds_toArray, List.set_cons_zero, List.set_cons_succ]
      refine wpAnyH_ready (rs := [10]) (by kernel_rfl) (by simp) ?_
      refine AllReadyH.cons rfl (fun K hK => ?_) AllReadyH.nil
      go_simp
      refine hK.out _ _ ?_ (fun hHeld => ?_)
      · exact hldF hh hHeld ((Below.refl _ _).alloc (Nat.le_refl _) _)
      clear hK K
      try simp only [Act.put, List.setIfInBounds_toArray, List.set_cons_zero, List.set_cons_succ]
      refine wpAnyH_ready (rs := [11]) (by kernel_rfl) (by simp) ?_
      refine AllReadyH.cons rfl (fun K hK => ?_) AllReadyH.nil
      go_simp
      refine hK.out _ _ ?_ (fun hHeld => ?_)
      · exact hldF hh hP0 (show Below W.drew.heap.size W.drew (World.drew _) from ((Below.refl W.drew.heap.size W.drew).alloc (Nat.le_refl _) _).alloc (by simp) _)
      clear hK K
      try simp only [Act.put, List.setIfInBounds_toArray, List.set_cons_zero, List.set_cons_succ]
      refine wpAnyH_ready (rs := [12]) (by kernel_rfl) (by simp) ?_
      refine AllReadyH.cons rfl (fun K hK => ?_) AllReadyH.nil
      go_simp
      refine hK.out _ _ ?_ (fun hHeld => ?_)
      · exact hldF hh hP0 (show Below W.drew.heap.size W.drew (World.drew _) from ((Below.refl W.drew.heap.size W.drew).alloc (Nat.le_refl _) _).alloc (by simp) _)
      clear hK K
      try simp only [Act.put, List.setIfInBounds_toArray, List.set_cons_zero, List.set_cons_succ]
      refine wpAnyH_done (by kernel_rfl) ?_ _
      go_wp2_with fail
      go_meet
      exact twoB_1
    · go_simp
      refine hK.out _ _ ?_ (fun hHeld => ?_)
      · exact hldF hh hP0 ((Below.refl _ _).alloc (Nat.le_refl _) _)
      clear hK K
      try simp only [Act.put, List.setIfInBounds_toArray, List.set_cons_zero, List.set_cons_succ]
      refine wpAnyH_ready (rs := [9]) (by kernel_rfl) (by simp) ?_
      refine AllReadyH.cons rfl (fun K hK => ?_) AllReadyH.nil
      go_simp
      refine hK.out _ _ ?_ (fun hHeld => ?_)
      · exact hldF hh hHeld ((Below.refl _ _).alloc (Nat.le_refl _) _)
      clear hK K
      try simp only [Act.put, List.setIfInBounds_toArray, List.set_cons_zero, List.set_cons_succ]
      refine wpAnyH_ready (rs := [11]) (by kernel_rfl) (by simp) ?_
      refine AllReadyH.cons rfl (fun K hK => ?_) AllReadyH.nil
      go_simp
      refine hK.out _ _ ?_ (fun hHeld => ?_)
      · exact hldF hh hP0 (show Below W.drew.heap.size W.drew (World.drew _) from ((Below.refl W.drew.heap.size W.drew).alloc (Nat.le_refl _) _).alloc (by simp) _)
      clear hK K
      try simp only [Act.put, List.setIfInBounds_toArray, List.set_cons_zero, List.set_cons_succ]
      refine wpAnyH_ready (rs := [12]) (by kernel_rfl) (by simp) ?_
      refine AllReadyH.cons rfl (fun K hK => ?_) AllReadyH.nil
      go_simp
      refine hK.out _ _ ?_ (fun hHeld => ?_)
      · exact hldF hh hP0 (show Below W.drew.heap.size W.drew (World.drew _) from ((Below.refl W.drew.heap.size W.drew).alloc (Nat.le_refl _) _).alloc (by simp) _)
      clear hK K
      try simp only [Act.put, List.setIfInBounds_toArray, List.set_cons_zero, List.set_cons_succ]
      refine wpAnyH_done (by kernel_rfl) ?_ _
      go_wp2_with fail
      go_meet
      exact twoB_2
  case rest =>
    obtain ⟨g1, g2, rfl, rfl, k1, k2, hbc⟩ := hcut
    obtain ⟨V, rfl⟩ : ∃ V, V = wc := ⟨_, rfl⟩
    obtain ⟨r1, r2, -, -, -⟩ := k1.facts
    obtain ⟨r3, r4, r5, -, -⟩ := k2.facts
    have H5 := Lib.hid (H4.out.on hbc)
    have HR5 := Lib.hid (HR.out.1.on hbc)
    have HK2 := Lib.hid k2
    clear k1 k2 hbc hP0 hh H4 hm00 hm0 hm2 hm3 hmi
    have he := fun V => (eqPt_runs a b .eql (.tmp 0) (.tmp 0) V).1
    have hg := fun op x y V => (eqPt_runs a b op x y V).2
    have HB5 := Lib.hid H5.out.1
    by_cases hab : a = b
    · have HM := Lib.hid (HE.out.trans (if_pos (.inl hab)))
      rw [decide_eq_true hab] at he
      clear hab HE HAB
      go_wp2_with fail
      go_ret
      exact ⟨by rw [HM.out]; rfl, HB5.out⟩
    rw [decide_eq_false hab] at he
    have kW1 := within_any rr a Ak nk ck V HR5.out HR.out.2.1 HR.out.2.2 HAB.out.2.2.1
    obtain ⟨y1, hy1⟩ : ∃ y, y = sideI rr a := ⟨_, rfl⟩
    obtain ⟨y2, hy2⟩ : ∃ y, y = sideI rr b := ⟨_, rfl⟩
    have hE := HE.out
    rw [← hy1, ← hy2] at hE
    rw [← hy1] at kW1
    have KW1 := Lib.hid kW1
    have HY2 := Lib.hid hy2
    clear hy1 hy2 HE kW1
    by_cases h6 : y1 = 0
    case neg =>
      have HM := Lib.hid (hE.trans (if_pos (.inr (.inl h6))))
      clear hE hab
      go_wp2_with fail
      refine KW1.out.mono ?_
      rintro e w6 ⟨rfl, hb6⟩
      have HB := Lib.hid (H5.out.on hb6).1
      clear hb6 H5 KW1 r1 r2 r3 r4 r5 he hg HAB HK2 HB5
      go_wp2_with fail
      go_ret
      exact ⟨by rw [HM.out]; rfl, HB.out⟩
    subst h6
    have HE := Lib.hid hE
    have HNE := Lib.hid hab
    clear hE hab
    go_wp2_with fail
    refine KW1.out.mono ?_
    rintro e w6 ⟨rfl, hb6⟩
    have H6 := Lib.hid (H5.out.on hb6)
    obtain ⟨r3, r4, -, -, -⟩ := PtK.facts (show PtK w6 g2 b from Blk.below HK2.out hb6 (Blk.lt HK2.out))
    have kW2 := within_any rr b Ak nk ck w6 (HR5.out.on hb6) HR.out.2.1 HR.out.2.2 HAB.out.2.2.2
    rw [← HY2.out] at kW2
    have KW2 := Lib.hid kW2
    have hE := HE.out
    clear hb6 H5 KW1 r1 r2 r5 he hg HAB HK2 HB5 kW2 HE
    by_cases h7 : y2 = 0
    case neg =>
      have HM := Lib.hid (hE.trans (if_pos (.inr (.inr h7))))
      clear hE
      go_wp2_with fail
      refine KW2.out.mono ?_
      rintro e w7 ⟨rfl, hb7⟩
      have HB := Lib.hid (H6.out.on hb7).1
      clear hb7 H6 KW2 r3 r4
      go_wp2_with fail
      go_ret
      exact ⟨by rw [HM.out]; rfl, HB.out⟩
    subst h7
    have HM := Lib.hid (hE.trans (if_neg (by simp [HNE.out])))
    clear hE
    go_wp2_with fail
    refine KW2.out.mono ?_
    rintro e w7 ⟨rfl, hb7⟩
    have HB := Lib.hid (H6.out.on hb7).1
    clear hb7 H6 KW2 r3 r4
    go_wp2_with fail
    go_ret
    exact ⟨by rw [HM.out]; rfl, HB.out⟩

end Go.Proofs.YtnpjggcgnbgkjaaGreat
namespace Go.Proofs.YtnpjggcgnbgkjaaGreat
theorem insK_in (xs : List Pt) (q : Pt) (k : Nat) : (inS (ptAt xs k) (ptAt xs ((k + 1) % xs.length)) q → insK xs q k = [ptAt xs k, q]) ∧ (¬ inS (ptAt xs k) (ptAt xs ((k + 1) % xs.length)) q → insK xs q k = [ptAt xs k]) := by
  unfold insK inS
  generalize ptAt xs ((k + 1) % xs.length) = b
  generalize ptAt xs k = a
  rcases onB a b q with _ | _ <;> by_cases h1 : q = a <;> by_cases h2 : q = b <;> simp [h1, h2]
theorem insL_range (xs : List Pt) (q : Pt) : ∀ m, m ≤ xs.length → (∀ i, i < xs.length → ¬ inS (ptAt xs i) (ptAt xs ((i + 1) % xs.length)) q) → insL xs q (List.range m) = xs.take m := fun m => by
  induction m with
  | zero => intro _ _; simp [insL]
  | succ m ih =>
    intro hm hn
    have h1 := (insK_in xs q m).2 (hn m (by omega))
    have h2 := ih (by omega) hn
    unfold insL at *
    rw [List.range_succ, List.flatMap_append, h2, List.flatMap_singleton, h1, ptAt_lt (by omega), List.take_succ_eq_append_getElem (by omega)]
theorem ins_none {xs : List Pt} {q : Pt} (hn : ∀ i, i < xs.length → ¬ inS (ptAt xs i) (ptAt xs ((i + 1) % xs.length)) q) : insG q xs = xs := by
  unfold insG
  rw [insL_range xs q _ (Nat.le_refl _) hn, List.take_length]
theorem insL_one {xs : List Pt} {q : Pt} {k : Nat} (hk : k < xs.length) (hin : inS (ptAt xs k) (ptAt xs ((k + 1) % xs.length)) q) (hn : ∀ i, i < xs.length → i ≠ k → ¬ inS (ptAt xs i) (ptAt xs ((i + 1) % xs.length)) q) :
    ∀ m, m ≤ xs.length → insL xs q (List.range m) = if k < m then xs.take (k + 1) ++ [q] ++ (xs.take m).drop (k + 1) else xs.take m := fun m => by
  induction m with
  | zero => intro _; simp [insL]
  | succ m ih =>
    intro hm
    have h2 := ih (by omega)
    have ht : xs.take (m + 1) = xs.take m ++ [ptAt xs m] := by rw [ptAt_lt (by omega), List.take_succ_eq_append_getElem (by omega)]
    unfold insL at *
    rw [List.range_succ, List.flatMap_append, h2, List.flatMap_singleton]
    by_cases h : m = k
    · subst h
      rw [(insK_in xs q m).1 hin, if_neg (by omega), if_pos (by omega), ht, List.drop_of_length_le (by simp; omega)]
      simp
    · rw [(insK_in xs q m).2 (hn m (by omega) h)]
      by_cases h3 : k < m
      · rw [if_pos h3, if_pos (by omega), ht, List.drop_append_of_le_length (by rw [List.length_take]; omega)]
        simp
      · rw [if_neg h3, if_neg (by omega), ht]
theorem ins_one {xs : List Pt} {q : Pt} {k : Nat} (hk : k < xs.length) (hin : inS (ptAt xs k) (ptAt xs ((k + 1) % xs.length)) q) (hn : ∀ i, i < xs.length → i ≠ k → ¬ inS (ptAt xs i) (ptAt xs ((i + 1) % xs.length)) q) : insG q xs = mark k q xs := by
  unfold insG mark
  rw [insL_one hk hin hn _ (Nat.le_refl _), if_pos hk, List.take_length]
theorem ptAt_goodL {xs : List Pt} (hg : goodL xs = true) {k : Nat} (hk : k < xs.length) : good (ptAt xs k) = true := goodL_mem hg (ptAt_mem hk)
/-- A point lies within one edge of a ring at most. -/
theorem ins_uniq {xs : List Pt} {q : Pt} (hc : checkI xs = 0) (hq : good q = true) {i k : Nat} (hi : i < xs.length) (hk : k < xs.length) (h1 : inS (ptAt xs i) (ptAt xs ((i + 1) % xs.length)) q) (h2 : inS (ptAt xs k) (ptAt xs ((k + 1) % xs.length)) q) : i = k := by
  obtain ⟨-, hg, h3, -, hP⟩ := checkI_zero hc
  refine Classical.byContradiction fun hne => ?_
  have hp := ((pairs_iff xs).1 hP i k hi hk hne).2
  have hm : ∀ j, (j + 1) % xs.length < xs.length := fun j => Nat.mod_lt _ (by omega)
  have g := fun j (hj : j < xs.length) => ptAt_goodL hg hj
  have e : meetOf xs i k = meetR (ptAt xs i) (ptAt xs ((i + 1) % xs.length)) (ptAt xs k) (ptAt xs ((k + 1) % xs.length)) := rfl
  rw [e] at hp
  split at hp
  · exact inS_one (g i hi) (g _ (hm i)) (g k hk) (g _ (hm k)) hq h1 h2 hp
  · exact inS_touch (g i hi) (g _ (hm i)) (g k hk) (g _ (hm k)) h1 h2 hp
/-- What comes of a point that is no corner: nothing, or a corner more on just one edge. -/
theorem ins_cases {xs : List Pt} {q : Pt} (hc : checkI xs = 0) (hq : good q = true) : (insG q xs = xs ∧ ∀ i, i < xs.length → ¬ inS (ptAt xs i) (ptAt xs ((i + 1) % xs.length)) q) ∨ ∃ k, k < xs.length ∧ inS (ptAt xs k) (ptAt xs ((k + 1) % xs.length)) q ∧ insG q xs = mark k q xs := by
  by_cases h : ∃ k, k < xs.length ∧ inS (ptAt xs k) (ptAt xs ((k + 1) % xs.length)) q
  · obtain ⟨k, hk, hin⟩ := h
    exact .inr ⟨k, hk, hin, ins_one hk hin fun i hi hne h1 => hne (ins_uniq hc hq hi hk h1 hin)⟩
  · have hn : ∀ i, i < xs.length → ¬ inS (ptAt xs i) (ptAt xs ((i + 1) % xs.length)) q := fun i hi h1 => h ⟨i, hi, h1⟩
    exact .inl ⟨ins_none hn, hn⟩
theorem mark_lo {xs : List Pt} {q : Pt} {k i : Nat} (hk : k < xs.length) (hi : i ≤ k) : ptAt (mark k q xs) i = ptAt xs i := by
  have h0 : i < (xs.take (k + 1)).length := by rw [List.length_take]; omega
  unfold ptAt mark
  rw [List.append_assoc, List.getElem?_append_left h0, List.getElem?_take_of_lt (by omega)]
theorem mark_mid {xs : List Pt} {q : Pt} {k : Nat} (hk : k < xs.length) : ptAt (mark k q xs) (k + 1) = q := by
  have h0 : (xs.take (k + 1)).length = k + 1 := by rw [List.length_take]; omega
  unfold ptAt mark
  rw [List.append_assoc, List.getElem?_append_right (by omega), h0]
  simp
theorem mark_hi {xs : List Pt} {q : Pt} {k i : Nat} (hk : k < xs.length) (hi : k + 1 ≤ i) : ptAt (mark k q xs) (i + 1) = ptAt xs i := by
  have h0 : (xs.take (k + 1) ++ [q]).length = k + 2 := by simp; omega
  unfold ptAt mark
  rw [List.getElem?_append_right (by omega), h0, List.getElem?_drop, show k + 1 + (i + 1 - (k + 2)) = i by omega]
theorem ringOf_each {g : List Pt → List Pt} {p : Plan} {ys : List Pt} (h : ringOf (eachP g p) ys) : ∃ xs, ringOf p xs ∧ ys = lst (g xs) := by
  rcases h with rfl | ⟨y, hy, rfl⟩
  · exact ⟨p.outer, .inl rfl, rfl⟩
  · obtain ⟨x, hx, rfl⟩ := each_sound hy
    exact ⟨x.ring, .inr ⟨x, hx, rfl⟩, rfl⟩
end Go.Proofs.YtnpjggcgnbgkjaaGreat
namespace Go.Proofs.YtnpjggcgnbgkjaaGreat
open Go.RowKit Go.Lib
theorem PlanOwn.frz {B n c n' c' k : Nat} {W : World} {A : Option Addr} {ad : Addr} {p : Plan} {hs : List Hd} (h : PlanOwn B W A n c (some ad) n' c' p hs) (hk : k < n') : W.frozen? ⟨(ad.add (k * 3)).block, (ad.add (k * 3)).off + 1, none⟩ = false := by
  obtain ⟨g, cap, e, hb, hlt⟩ := h.row.form (by omega)
  have e1 : ad = ⟨g, 0, none⟩ := by cases e; rfl
  have e2 : cap = c' := by cases e; rfl
  subst e1 e2
  have hadr : (⟨((⟨g, 0, none⟩ : Addr).add (k * 3)).block, ((⟨g, 0, none⟩ : Addr).add (k * 3)).off + 1, none⟩ : Addr) = ⟨g, k * 3 + 1, none⟩ := by rw [add_off3 _ _ _ (by omega)]; simp [Addr.add]
  rw [hadr]
  exact h.row.frozenAt _
set_option maxRecDepth 100000 in
set_option maxHeartbeats 3200000 in
theorem refLeast_any (p : Plan) (A A' : Option Addr) (n c n' c' : Nat) (w : World) (h : PlanAt w w.heap.size A n c A' n' c' p) (hn : n' ≤ 1048576) (hg0 : ∀ xs, ringOf p xs → xs.length ≤ 1048576) :
    Calls Tryz.prog 137 #[planV A n c A' n' c'] w (OwnPostS (mapG lst p) w) := by
  obtain ⟨wa, hwa⟩ : ∃ wa : World, wa = (w.alloc (.cells #[.slice A n c, .slice A' n' c'] 26)).alloc (.cells #[.slice none 0 0, .slice none 0 0] 26) := ⟨_, rfl⟩
  have hB0 : Below w.heap.size w wa := by rw [hwa]; exact ((Below.refl _ _).alloc (Nat.le_refl _) _).alloc (by simp) _
  have hX : PlK wa w.heap.size A n c A' n' c' := by rw [hwa]; exact Blk.alloc (PlK.new w A n c A' n' c') _
  have hZ : PlK wa (w.heap.size + 1) none 0 0 none 0 0 := by
    have := PlK.new (w.alloc (.cells #[.slice A n c, .slice A' n' c'] 26)) none 0 0 none 0 0
    rw [World.size_alloc] at this
    rw [hwa]
    exact this
  have KO := Lib.hid (ownPlS_any p A A' n c n' c' wa (h.on hB0) hn)
  have HLF : Hid (∀ k, k ≤ p.parcels.length → (mapTo lst p k).fits) := fun k hk => mapTo_fits h.fits (fun xs hx => ⟨by rw [lst_len]; exact hg0 xs hx, fun r hr => by
    rcases hx with rfl | ⟨x, hx, rfl⟩
    · exact h.fits.1.2 r (lst_mem hr)
    · exact (h.fits.2.2 x hx).2.1 r (lst_mem hr)⟩) hk
  have HGF := Lib.hid hg0
  have H0 := Lib.hid (And.intro hB0 hZ)
  have HLN := Lib.hid h.lens
  obtain ⟨q1, q2, q3⟩ := hX.facts
  clear hB0 hX  hZ h hn hg0
  go_enter Tryz.func137, Tryz.ntmps137
  go_upto_region 1 with fail
  rw [← hwa]
  clear hwa
  go_wp2_with fail
  refine KO.out.mono ?_
  rintro e w1 ⟨A1, n1, c1, A2, n2, c2, hs, rfl, hpo, hb1⟩
  have hn2 : p.parcels.length = n2 := hpo.lenp
  have hn1 : p.outer.length = n1 := (Reads.of_own hpo.out).lenPt
  obtain ⟨w2, hw2⟩ : ∃ w2, w2 = w1.alloc (.cells #[.slice A1 n1 c1, .slice A2 n2 c2] 26) := ⟨_, rfl⟩
  have hba : Below w1.heap.size w1 w2 := by rw [hw2]; exact (Below.refl _ _).alloc (Nat.le_refl _) _
  have hQ : PlK w2 w1.heap.size A1 n1 c1 A2 n2 c2 := by rw [hw2]; exact PlK.new w1 A1 n1 c1 A2 n2 c2
  obtain ⟨Bq, hBq⟩ : ∃ Bq, Bq = w1.heap.size := ⟨_, rfl⟩
  rw [← hBq] at hQ
  have hb2 := below_on hb1 (Nat.le_refl _) hba
  have hB2 := below_on H0.out.1 (Nat.le_refl _) hb2
  have hBQ : (w.heap.size + 1) < Bq := by have := Blk.lt H0.out.2; have := hb1.size; omega
  have H2 := Lib.hid (And.intro hB2 (And.intro (H0.out.2.on hb2) (And.intro hQ (And.intro ((hpo.below hba).mono H0.out.1.size) (And.intro hBQ trivial)))))
  have HN := Lib.hid (And.intro hn1 hn2)
  clear hpo hn1 hn2 hba hQ hb1 hb2 hB2 hBQ H0 KO q1 q2 q3
  go_upto_region 2 with fail
  rw [← hw2, ← hBq]
  clear hw2 hBq
  obtain ⟨q1, q2, q3⟩ := H2.out.2.2.1.facts
  have KL := Lib.hid (leastR2_any p.outer A1 n1 c1 w2 (Reads.of_own H2.out.2.2.2.1.out) (by have := HGF.out _ (.inl rfl); have := HN.out.1; omega))
  go_wp2_with fail
  refine KL.out.mono ?_
  rintro e w3 ⟨A3, c3, rfl, ho3, hb3⟩
  have hlo : rot (leastN p.outer n1) p.outer = lst p.outer := by unfold lst; rw [HN.out.1]
  rw [hlo] at ho3
  have hQ3 := H2.out.2.2.1.on hb3
  obtain ⟨s1, s2, f1, f2⟩ := plk_facts4 hQ3
  have hQ4 := Blk.set_ hQ3 0 (.slice A3 n1 c3)
  simp only [List.setIfInBounds_toArray, List.set_cons_zero] at hQ4
  have hpo4 : PlanOwn w.heap.size (w3.setCell ⟨Bq, 0, none⟩ (.slice A3 n1 c3)) A3 n1 c3 A2 n2 c2 (mapTo lst p 0) hs := by
    rw [mapTo_zero]
    refine PlanOwn.store (PlanOwn.outR (H2.out.2.2.2.1.below hb3) (own_mono ho3 H2.out.1.size) ?_) hQ3 (by decide) (by decide) 0 _
    have := HLF.out 0 (Nat.zero_le _)
    rwa [mapTo_zero] at this
  have hB4 := (below_on H2.out.1 (Nat.le_refl _) hb3).setCell (p := ⟨Bq, 0, none⟩) (by have := H2.out.2.2.2.2.1; simp only; omega) (.slice A3 n1 c3)
  have hZ4 := Blk.far (p := ⟨Bq, 0, none⟩) (H2.out.2.1.on hb3) (by have := H2.out.2.2.2.2.1; simp only; omega) (.slice A3 n1 c3)
  obtain ⟨w4, hw4⟩ : ∃ w4, w4 = w3.setCell ⟨Bq, 0, none⟩ (.slice A3 n1 c3) := ⟨_, rfl⟩
  rw [← hw4] at hQ4 hpo4 hB4 hZ4
  have H4 := Lib.hid (And.intro hB4 (And.intro hZ4 (And.intro hQ4 (And.intro hpo4 trivial))))
  have HBQ := Lib.hid H2.out.2.2.2.2.1
  clear hQ3 hQ4 hpo4 hB4 hZ4  ho3 hb3 H2 KL q1 q2 q3 hlo
  go_upto_region 3 with fail
  rw [← hw4]
  clear hw4 s1 s2 f1 f2
  go_wp2_with fail
  go_loopw [4] (fun i wr => ∃ (k : Nat) (hs : List Hd), k ≤ n2 ∧ i = .int .i64 (k : Int) ∧ Hid (Below w.heap.size w wr ∧ PlK wr (w.heap.size + 1) none 0 0 none 0 0 ∧ PlK wr Bq A3 n1 c3 A2 n2 c2 ∧ PlanOwn w.heap.size wr A3 n1 c3 A2 n2 c2 (mapTo lst p k) hs ∧ True)) (fun i _ => n2 - (intOf i).toNat)
  case atStart => exact ⟨0, hs, Nat.zero_le _, rfl, H4⟩
  case round =>
    clear H4
    obtain ⟨k, hs, hk, rfl, HW⟩ := hrel
    obtain ⟨q1, q2, q3⟩ := HW.out.2.2.1.facts
    by_cases hlt : k < n2
    · have hlt' : (k : Int) < (n2 : Int) := by omega
      have hw1 : IntKind.i64.wrap ((k : Int) + 1) = (k : Int) + 1 := by rw [IntKind.wrap_i64]; have := HLN.out.2.2.2; have := HLN.out.2.1; have := HN.out.2; omega
      obtain ⟨ad, rfl⟩ := HW.out.2.2.2.1.at_.parcs.some_ (by omega)
      obtain ⟨hbd, p1, ⟨Ak, nk, ck, p2, hrk, hk1, hk2⟩, -⟩ := HW.out.2.2.2.1.at_.parcs.at_ hlt
      have hlk : k < p.parcels.length := by have := HN.out.2; omega
      rw [mapTo_at hlk] at p1 hrk
      obtain ⟨x, hx⟩ : ∃ x, x = pcAt p.parcels k := ⟨_, rfl⟩
      rw [← hx] at p1 hrk
      have hxr : ringOf p x.ring := .inr ⟨x, by rw [hx, pcAt_lt hlk]; exact List.getElem_mem _, rfl⟩
      have hlx : x.ring.length = nk := hrk.lenPt
      have HMN := Lib.hid (show setR (mapTo lst p k) k (lst x.ring) = mapTo lst p (k + 1) by rw [hx]; exact mapTo_next hlk)
      have kF := leastR2_any x.ring Ak nk ck wr.drew (hrk.on (Below.refl _ _).drew) (by have := HGF.out _ hxr; omega)
      have hlo : rot (leastN x.ring nk) x.ring = lst x.ring := by unfold lst; rw [hlx]
      rw [hlo] at kF
      clear hlo
      have HXX := Lib.hid (And.intro hx hlk)
      clear hrk hk1 hk2 hlk hx hxr hlx p1
      go_upto_region 6 with fail
      have hP0 : wr.drew.cell? ⟨Bq, 1, none⟩ = some (.slice (some ad) n2 c2) := q2
      have hfz := fun V (hV : Below wr.heap.size wr V) => PlanOwn.frz (HW.out.2.2.2.1.below hV) hlt
      have hcl := fun V (hV : Below wr.heap.size wr V) => (hV.cell (p := ⟨(ad.add (k * 3)).block, (ad.add (k * 3)).off + 1, none⟩) (by simp only [block_of_add]; exact hbd)).trans p2
      obtain ⟨hne, hnz, hbb, hny⟩ : ad.block ≠ Bq ∧ ad.block ≠ (w.heap.size + 1) ∧ w.heap.size ≤ ad.block ∧ True := by
        have h1 := own_blk_ne HW.out.2.2.2.1.row HW.out.2.2.1 (by decide)
        have h2 := own_blk_ne HW.out.2.2.2.1.row HW.out.2.1 (by decide)
        have h3 := (HW.out.2.2.2.1.row.lt ad.block rfl).1
        exact ⟨fun e => h1 (by rw [← e]; rfl), fun e => h2 (by rw [← e]; rfl), h3, trivial⟩
      have hbl : Bq < wr.heap.size := q3
      refine wp_region_held_drew (S := fun V => V.cell? ⟨Bq, 1, none⟩ = some (.slice (some ad) n2 c2)) (by kernel_rfl) ?_ (fun hHeld => ?_)
      · exact hP0
      refine tk 0 ?_
      refine tk 1 ?_
      refine tk 2 ?_
      refine tk 3 ?_
      refine tk 4 ?_
      refine tk 5 ?_
      refine tk 6 ?_
      refine tk 7 ?_
      refine wpAnyH_ready (rs := [8]) (by kernel_rfl) (by simp) ?_
      refine AllReadyH.cons rfl (fun K hK => ?_) AllReadyH.nil
      go_simp
      refine hK.out _ _ ?_ (fun hHeld => ?_)
      · exact hHeld
      clear hK K
      try simp only [Act.put, List.setIfInBounds_toArray, List.set_cons_zero, List.set_cons_succ]
      refine wpAnyH_ready (rs := [9]) (by kernel_rfl) (by simp) ?_
      refine AllReadyH.cons rfl (fun K hK => ?_) AllReadyH.nil
      go_simp
      go_at_call 143
      (with_reducible refine (kF).mono ?_)
      rintro e w7 ⟨A7, c7, rfl, ho7, hb'⟩
      have hf7 := hfz w7 ((Below.refl wr.heap.size wr).drew.trans hb')
      have hc7 := hcl w7 ((Below.refl wr.heap.size wr).drew.trans hb')
      try dsimp only
      refine hK.out _ _ ?_ (fun hHeld => ?_)
      · exact (hb'.cell (p := ⟨Bq, 1, none⟩) hbl).trans hP0
      have hS1 := hHeld
      clear hK K
      try simp only [Act.put, List.setIfInBounds_toArray, List.set_cons_zero, List.set_cons_succ]
      refine tk 10 ?_
      refine tk 11 ?_
      refine wpAnyH_ready (rs := [12]) (by kernel_rfl) (by simp) ?_
      refine AllReadyH.cons rfl (fun K hK => ?_) AllReadyH.nil
      go_simp
      refine hK.out _ _ ?_ (fun hHeld => ?_)
      · exact (World.cell?_setCell_other _ _ _ _ (fun e => hne (by have := congrArg Addr.block e; simpa [block_of_add] using this))).trans hS1
      clear hK K
      try simp only [Act.put, List.setIfInBounds_toArray, List.set_cons_zero, List.set_cons_succ]
      refine wpAnyH_done (by kernel_rfl) ?_ _
      have hb7 : Below wr.heap.size wr w7 := (Below.refl wr.heap.size wr).drew.trans hb'
      have hpo7 := HW.out.2.2.2.1.below hb7
      obtain ⟨hpo8, -, -⟩ := PlanOwn.setRing hpo7 hlt (own_mono ho7 (by have := HW.out.1.size; simpa using this)) (by rw [HMN.out]; exact HLF.out _ (by have := HXX.out.2; omega))
      rw [HMN.out] at hpo8
      have hB8 := (below_on HW.out.1 (Nat.le_refl _) hb7).setCell (p := ⟨(ad.add (k * 3)).block, (ad.add (k * 3)).off + 1, none⟩) (by simp only [block_of_add]; exact hbb) (.slice A7 nk c7)
      have hZ8 := Blk.far (p := ⟨(ad.add (k * 3)).block, (ad.add (k * 3)).off + 1, none⟩) (HW.out.2.1.on hb7) (by simp only [block_of_add]; exact fun e => hnz e.symm) (.slice A7 nk c7)
      have hQ8 := Blk.far (p := ⟨(ad.add (k * 3)).block, (ad.add (k * 3)).off + 1, none⟩) (HW.out.2.2.1.on hb7) (by simp only [block_of_add]; exact fun e => hne e.symm) (.slice A7 nk c7)
      have H8 := Lib.hid (And.intro hB8 (And.intro hZ8 (And.intro hQ8 (And.intro hpo8 trivial))))
      clear hP0 hHeld hS1 hfz hcl hf7 hc7 hb7 hpo7 hpo8 hB8 hZ8 hQ8  ho7 hb' p2 hbd q1 q2 q3 
      go_wp2_with fail
      go_roundw
      case rel => exact ⟨k + 1, hs.set k (A7, nk, c7), by omega, by go_num, H8⟩
      case measure => simp [intOf]; omega
    · have hkn : k = n2 := by omega
      subst hkn
      have hpo := HW.out.2.2.2.1
      have hall : mapTo lst p k = mapG lst p := by rw [← HN.out.2]; exact mapTo_all
      rw [hall] at hpo
      have hZ9 := HW.out.2.1
      have hB9 := HW.out.1
      clear hall HW
      obtain ⟨s1, s2, f1, f2⟩ := plk_facts4 hZ9
      obtain ⟨V, hV, r1, r2, hbV⟩ := res_store (g := (w.heap.size + 1)) hB9 (by omega) hZ9 (.slice A3 n1 c3) (.slice A2 k c2)
      have hpo := (hpo.store hZ9 (by decide) (by decide) 0 (.slice A3 n1 c3)).store (Blk.set_ hZ9 0 (.slice A3 n1 c3)) (by decide) (by decide) 1 (.slice A2 k c2)
      rw [← hV] at hpo
      have HV := Lib.hid hV
      have HR := Lib.hid (And.intro r1 (And.intro r2 (And.intro hbV hpo)))
      clear hV r1 r2 hbV hpo hZ9 hB9
      go_wp2_with fail
      rw [← HV.out]
      obtain ⟨r1, r2, hbV, hpo⟩ := HR.out
      refine bodyPost_ret (v := planV A3 n1 c3 A2 k c2) ?_ rfl ⟨A3, n1, c3, A2, k, c2, hs, rfl, hpo, hbV⟩
      simp [results, Tryz.results137, go_sem, r1, r2]
end Go.Proofs.YtnpjggcgnbgkjaaGreat
namespace Go.Proofs.YtnpjggcgnbgkjaaGreat
/-- A closed way of steps: all of them, each once. -/
structure CycE (l : List Ed) (c : List Pt) : Prop where
  ne : c ≠ []
  nd : c.Nodup
  len : c.length = l.length
  sub : ∀ k, k < c.length → (⟨ptAt c k, ptAt c ((k + 1) % c.length)⟩ : Ed) ∈ l
theorem CycE.pos {l : List Ed} {c : List Pt} (h : CycE l c) : 0 < c.length := List.length_pos_iff.2 h.ne
theorem perm_of_sub {α : Type} [DecidableEq α] : ∀ {a l : List α}, a.Nodup → (∀ x ∈ a, x ∈ l) → l.length ≤ a.length → a.Perm l
  | [], l, _, _, h => by
    have : l = [] := List.eq_nil_of_length_eq_zero (by simpa using h)
    subst this
    exact .nil
  | x :: a, l, hn, hs, h => by
    obtain ⟨h1, h2⟩ := List.nodup_cons.1 hn
    have hx : x ∈ l := hs x (by simp)
    have hp : l.Perm (x :: l.erase x) := List.perm_cons_erase hx
    have hl : (l.erase x).length = l.length - 1 := List.length_erase_of_mem hx
    refine List.Perm.trans ?_ hp.symm
    refine List.Perm.cons x (perm_of_sub h2 (fun y hy => ?_) (by rw [hl]; simp at h; omega))
    have hy2 : y ∈ l := hs y (by simp [hy])
    exact (List.mem_erase_of_ne (fun e => h1 (by rw [← e]; exact hy))).2 hy2
theorem edgesOf_at {c : List Pt} {e : Ed} (h : e ∈ edgesOf c) : ∃ k, k < c.length ∧ e = ⟨ptAt c k, ptAt c ((k + 1) % c.length)⟩ := by
  unfold edgesOf at h
  obtain ⟨k, h1, h2⟩ := List.mem_map.1 h
  exact ⟨k, List.mem_range.1 h1, h2.symm⟩
theorem edgesOf_in {c : List Pt} {k : Nat} (h : k < c.length) : (⟨ptAt c k, ptAt c ((k + 1) % c.length)⟩ : Ed) ∈ edgesOf c := by
  unfold edgesOf
  exact List.mem_map.2 ⟨k, List.mem_range.2 h, rfl⟩
theorem edgesOf_nd {c : List Pt} (hn : c.Nodup) : (edgesOf c).Nodup := by
  unfold edgesOf
  refine List.Pairwise.map _ (fun a b h => h) ?_
  refine List.pairwise_iff_getElem.2 fun i j hi hj hij he => ?_
  simp only [List.length_range] at hi hj
  simp only [List.getElem_range, Ed.mk.injEq] at he
  have := nodup_ptAt hn hi hj he.1
  omega
theorem CycE.perm {l : List Ed} {c : List Pt} (h : CycE l c) : (edgesOf c).Perm l := by
  refine perm_of_sub (edgesOf_nd h.nd) (fun e he => ?_) (by rw [← h.len]; simp [edgesOf])
  obtain ⟨k, hk, rfl⟩ := edgesOf_at he
  exact h.sub k hk
theorem CycE.of {l : List Ed} {c : List Pt} (h0 : c ≠ []) (hn : c.Nodup) (hp : (edgesOf c).Perm l) : CycE l c :=
  ⟨h0, hn, by have := hp.length_eq; simpa [edgesOf] using this, fun k hk => hp.mem_iff.1 (edgesOf_in hk)⟩
theorem CycE.at_ {l : List Ed} {c : List Pt} (h : CycE l c) {e : Ed} (he : e ∈ l) : ∃ k, k < c.length ∧ e = ⟨ptAt c k, ptAt c ((k + 1) % c.length)⟩ := edgesOf_at (h.perm.mem_iff.2 he)
theorem CycE.key {l : List Ed} {c : List Pt} (h : CycE l c) {e f : Ed} (he : e ∈ l) (hf : f ∈ l) (hk : e.a = f.a) : e = f := by
  obtain ⟨i, hi, rfl⟩ := h.at_ he
  obtain ⟨j, hj, rfl⟩ := h.at_ hf
  have := nodup_ptAt h.nd hi hj hk
  rw [this]
/-- A way of steps from its first corner to a next one. -/
def PathE (l : List Ed) (out : List Pt) (q : Pt) : Prop := ∀ j, j < out.length → (⟨ptAt (out ++ [q]) j, ptAt (out ++ [q]) (j + 1)⟩ : Ed) ∈ l
theorem ptAt_app1 {xs ys : List Pt} {j : Nat} (h : j < xs.length) : ptAt (xs ++ ys) j = ptAt xs j := by unfold ptAt; rw [List.getElem?_append_left h]
theorem ptAt_app2 (xs : List Pt) (q : Pt) : ptAt (xs ++ [q]) xs.length = q := by unfold ptAt; simp
theorem PathE.nil (l : List Ed) (q : Pt) : PathE l [] q := fun _ hj => absurd hj (Nat.not_lt_zero _)
theorem PathE.snoc {l : List Ed} {out : List Pt} {q r : Pt} (h : PathE l out q) (he : (⟨q, r⟩ : Ed) ∈ l) : PathE l (out ++ [q]) r := fun j hj => by
  rw [List.length_append, List.length_singleton] at hj
  by_cases h1 : j < out.length
  · rw [ptAt_app1 (by simp; omega)]
    have h2 := h j h1
    rw [ptAt_app1 (xs := out ++ [q]) (ys := [r]) (by simp; omega)]
    exact h2
  · obtain rfl : j = out.length := by omega
    rw [ptAt_app1 (by simp), ptAt_app2]
    have e : ptAt (out ++ [q] ++ [r]) (out.length + 1) = r := by
      have := ptAt_app2 (out ++ [q]) r
      rwa [List.length_append, List.length_singleton] at this
    rw [e]
    exact he
theorem CycE.path {l : List Ed} {c : List Pt} (h : CycE l c) : PathE l c (ptAt c 0) := fun j hj => by
  have h1 := h.sub j hj
  rw [ptAt_app1 hj]
  by_cases h2 : j + 1 < c.length
  · rw [Nat.mod_eq_of_lt h2] at h1
    rw [ptAt_app1 h2]
    exact h1
  · have e : j + 1 = c.length := by omega
    rw [e, Nat.mod_self] at h1
    rw [e, ptAt_app2]
    exact h1
end Go.Proofs.YtnpjggcgnbgkjaaGreat

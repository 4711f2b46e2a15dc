/- cut.fault: the walk; A corner that is put into a ring: plain law. -/
import Derived.Deep.CutBlock
import Derived.Deep.DeepCutAuto
import Derived.Test.YtmegmokjjlelgaaGreatK02
import Derived.Test.YtmegmokjjlelgaaGreatK11
import Derived.Test.YtmegmokjjlelgaaGreatK18
import Derived.Test.YtmegmokjjlelgaaGreatK20
import Derived.Test.YtmegmokjjlelgaaGreatK26
import Derived.Test.YtmegmokjjlelgaaGreatK30
import Derived.Test.YtmegmokjjlelgaaGreatK34
import Derived.Test.YtmegmokjjlelgaaGreatK35
namespace Go.Proofs.YtmegmokjjlelgaaGreat
open Go.RowKit Go.Lib
def TwoB (W V : World) (x y : Value) (a b : Pt) : Prop := ∃ g1 g2, x = .pointer (some ⟨g1, 0, none⟩) ∧ y = .pointer (some ⟨g2, 0, none⟩) ∧ PtK V g1 a ∧ PtK V g2 b ∧ Below W.heap.size W V
theorem twoB_1 {W : World} {a b : Pt} : TwoB W ((W.alloc (.cells #[.int .i64 a.x, .int .i64 a.y] 44)).alloc (.cells #[.int .i64 b.x, .int .i64 b.y] 44)).drew (.pointer (some ⟨W.heap.size, 0, none⟩)) (.pointer (some ⟨W.heap.size + 1, 0, none⟩)) a b := by
  refine ⟨_, _, rfl, rfl, Blk.drew (Blk.alloc (PtK.new W a) _), ?_, (((Below.refl W.heap.size W).alloc (Nat.le_refl _) _).alloc (by simp) _).drew⟩
  have := PtK.new (W.alloc (.cells #[.int .i64 a.x, .int .i64 a.y] 44)) b
  rw [World.size_alloc] at this
  exact Blk.drew this
theorem twoB_2 {W : World} {a b : Pt} : TwoB W ((W.alloc (.cells #[.int .i64 b.x, .int .i64 b.y] 44)).alloc (.cells #[.int .i64 a.x, .int .i64 a.y] 44)).drew (.pointer (some ⟨W.heap.size + 1, 0, none⟩)) (.pointer (some ⟨W.heap.size, 0, none⟩)) a b := by
  obtain ⟨g1, g2, h1, h2, k1, k2, hb⟩ := twoB_1 (W := W) (a := b) (b := a)
  exact ⟨g2, g1, h2, h1, k2, k1, hb⟩
def FtF (p : Plan) (path : List Pt) (A : Option Addr) (n c : Nat) (A' : Option Addr) (n' c' : Nat) (B : Option Addr) (m : Nat) (w W : World) : Prop := Below w.heap.size w W ∧ PlK W w.heap.size A n c A' n' c' ∧ PlanAt W W.heap.size A n c A' n' c' p ∧ Reads W W.heap.size 2 B m (ptsV path)
theorem FtF.on {p : Plan} {path : List Pt} {A A' B : Option Addr} {n c n' c' m : Nat} {w W W' : World} (h : FtF p path A n c A' n' c' B m w W) (hb : Below W.heap.size W W') : FtF p path A n c A' n' c' B m w W' :=
  ⟨below_on h.1 (Nat.le_refl _) hb, h.2.1.on hb, h.2.2.1.on hb, h.2.2.2.on hb⟩
theorem fault_2 {p : Plan} {id fresh : Int} {path : List Pt} (h : planB p = false) : faultI p id path fresh = 2 := by unfold faultI; rw [if_pos h]
theorem fault_5 {p : Plan} {id fresh : Int} {path : List Pt} (h : planB p = true) (h1 : atP p.parcels id < 0) : faultI p id path fresh = 5 := by unfold faultI; rw [if_neg (by rw [h]; decide), if_pos h1]
theorem fault_rest {p : Plan} {id fresh : Int} {path : List Pt} (h : planB p = true) (h1 : ¬ atP p.parcels id < 0) : faultI p id path fresh = if idB fresh = false ∨ path.length < 2 ∨ 128 < path.length then 1 else if 0 ≤ atP p.parcels fresh then 6 else if goodL path = false then 3 else
  if ptAt path 0 = ptAt path (path.length - 1) ∨ sideI (pcAt p.parcels (atP p.parcels id).toNat).ring (ptAt path 0) ≠ 0 ∨ sideI (pcAt p.parcels (atP p.parcels id).toNat).ring (ptAt path (path.length - 1)) ≠ 0 then 7 else 0 := by unfold faultI; rw [if_neg (by rw [h]; decide), if_neg h1]
theorem hldF {W V V' : World} {a0 a1 a2 a3 : Addr} {v0 v1 v2 v3 : Value} (hh : a0.block < W.heap.size ∧ a1.block < W.heap.size ∧ a2.block < W.heap.size ∧ a3.block < W.heap.size) (hs : V.cell? a0 = some v0 ∧ V.cell? a1 = some v1 ∧ V.cell? a2 = some v2 ∧ V.cell? a3 = some v3 ∧ Below W.heap.size W V) (hb : Below V.heap.size V V') :
    V'.cell? a0 = some v0 ∧ V'.cell? a1 = some v1 ∧ V'.cell? a2 = some v2 ∧ V'.cell? a3 = some v3 ∧ Below W.heap.size W V' := by
  obtain ⟨h0, h1, h2, h3⟩ := hh
  obtain ⟨c0, c1, c2, c3, cb⟩ := hs
  have := cb.size
  have k : ∀ {a : Addr} {v : Value}, a.block < W.heap.size → V.cell? a = some v → V'.cell? a = some v := fun {a v} ha hv => (hb.cell (p := a) (by omega)).trans hv
  exact ⟨k h0 c0, k h1 c1, k h2 c2, k h3 c3, below_on cb (Nat.le_refl _) hb⟩
set_option maxRecDepth 100000 in
set_option maxHeartbeats 6400000 in
theorem fault_any (p : Plan) (id fresh : Int) (path : List Pt) (A A' B : Option Addr) (n c n' c' m cb : Nat) (w : World) (h : PlanAt w w.heap.size A n c A' n' c' p) (hr : Reads w w.heap.size 2 B m (ptsV path)) (hx : ∀ q ∈ path, q.inI) (hm : m ≤ 8796093022208) :
    Calls Tryz.prog 59 #[planV A n c A' n' c', .int .i64 id, .slice B m cb, .int .i64 fresh] w fun e w' => e = .returned (.int .i64 (faultI p id path fresh)) ∧ Below w.heap.size w w' := by
  obtain ⟨wa, hwa⟩ : ∃ wa : World, wa = w.alloc (.cells #[.slice A n c, .slice A' n' c'] 26) := ⟨_, rfl⟩
  have hF : FtF p path A n c A' n' c' B m w wa := by
    have hB0 : Below w.heap.size w wa := by rw [hwa]; exact (Below.refl _ _).alloc (Nat.le_refl _) _
    exact ⟨hB0, by rw [hwa]; exact PlK.new w A n c A' n' c', h.on hB0, hr.on hB0⟩
  have hl := hr.lenPt
  have H0 := Lib.hid hF
  have HX := Lib.hid (And.intro hl hx)
  have KA := Lib.hid (at_any p id A A' n c n' c' wa hF.2.2.1)
  obtain ⟨q1, q2, q3⟩ := hF.2.1.facts
  clear hF h hr hl hx
  go_enter Tryz.func59, Tryz.ntmps59
  go_upto_region 1 with fail
  rw [← hwa]
  clear hwa
  go_wp2_with fail
  refine KA.out.mono ?_
  rintro e w1 ⟨rfl, hb1⟩
  have H1 := Lib.hid (H0.out.on hb1)
  obtain ⟨z, hz⟩ : ∃ z, z = atP p.parcels id := ⟨_, rfl⟩
  rw [← hz]
  have HZ := Lib.hid hz
  have kC := checkPl_any p A A' n c n' c' w1 H1.out.2.2.1
  clear hb1 H0 KA q1 q2 q3 hz
  obtain ⟨q1, q2, q3⟩ := H1.out.2.1.facts
  rcases hpb : planB p with _ | _
  · have hme := fault_2 (id := id) (fresh := fresh) (path := path) hpb
    have HM := Lib.hid hme
    rw [planE_b0 hpb] at kC
    have KC := Lib.hid kC
    clear kC hme hpb
    go_wp2_with fail
    refine KC.out.mono ?_
    rintro e w2 ⟨rfl, hb2⟩
    have HB := Lib.hid (H1.out.on hb2).1
    clear hb2 H1 KC q1 q2 q3
    go_wp2_with fail
    go_ret
    exact ⟨by rw [HM.out]; rfl, HB.out⟩
  rw [planE_b1 hpb] at kC
  have KC := Lib.hid kC
  have HS := Lib.hid (planB_sound hpb)
  have HPB := Lib.hid hpb
  clear kC hpb
  by_cases hz0 : z < 0
  · have HM := Lib.hid (fault_5 (id := id) (fresh := fresh) (path := path) HPB.out (by rw [← HZ.out]; exact hz0))
    go_wp2_with fail
    refine KC.out.mono ?_
    rintro e w2 ⟨rfl, hb2⟩
    have HB := Lib.hid (H1.out.on hb2).1
    clear hb2 H1 KC q1 q2 q3
    go_wp2_with fail
    go_ret
    exact ⟨by rw [HM.out]; rfl, HB.out⟩
  obtain ⟨k, hk, rfl⟩ : ∃ k : Nat, k < p.parcels.length ∧ z = (k : Int) := by
    rcases atP_cases p.parcels id with ⟨e, -⟩ | ⟨k, hk, e, -⟩
    · have := HZ.out; omega
    · exact ⟨k, hk, HZ.out.trans e⟩
  have hE := fault_rest (id := id) (fresh := fresh) (path := path) HPB.out (by rw [← HZ.out]; exact hz0)
  rw [← HZ.out, Int.toNat_natCast, HX.out.1] at hE
  have HE := Lib.hid hE
  have HK := Lib.hid hk
  clear hE hk
  have hE1 : (idB fresh = false ∨ m < 2 ∨ 128 < m) → faultI p id path fresh = 1 := fun h => by rw [HE.out, if_pos h]
  have hE2 : ¬ (idB fresh = false ∨ m < 2 ∨ 128 < m) → faultI p id path fresh = if 0 ≤ atP p.parcels fresh then 6 else if goodL path = false then 3 else if ptAt path 0 = ptAt path (m - 1) ∨ sideI (pcAt p.parcels k).ring (ptAt path 0) ≠ 0 ∨ sideI (pcAt p.parcels k).ring (ptAt path (m - 1)) ≠ 0 then 7 else 0 := fun h => by rw [HE.out, if_neg h]
  go_upto_region 2 with fail
  go_wp2_with fail
  refine KC.out.mono ?_
  rintro e w2 ⟨rfl, hb2⟩
  have H2 := Lib.hid (H1.out.on hb2)
  clear hb2 H1 KC q1 q2 q3 HE
  have kI := fun V => idP_any fresh V
  obtain ⟨bi, hbi⟩ : ∃ b, b = idB fresh := ⟨_, rfl⟩
  rw [← hbi] at kI hE1 hE2
  have HB2 := Lib.hid H2.out.1
  rcases bi with _ | _
  · have HM := Lib.hid (hE1 (.inl rfl))
    clear hE1 hE2 hbi H2
    go_wp2_with fail
    refine (kI _).mono ?_
    rintro e w3 ⟨rfl, rfl⟩
    clear kI
    go_wp2_with fail
    go_ret
    exact ⟨by rw [HM.out]; rfl, HB2.out⟩
  by_cases h2 : m < 2
  · have HM := Lib.hid (hE1 (.inr (.inl h2)))
    have h2' : (m : Int) < 2 := by omega
    clear hE1 hE2 hbi H2
    go_wp2_with fail
    refine (kI _).mono ?_
    rintro e w3 ⟨rfl, rfl⟩
    clear kI
    go_wp2_with fail
    go_ret
    exact ⟨by rw [HM.out]; rfl, HB2.out⟩
  have h2' : ¬ (m : Int) < 2 := by omega
  by_cases h3 : 128 < m
  · have HM := Lib.hid (hE1 (.inr (.inr h3)))
    have h3' : (128 : Int) < (m : Int) := by omega
    clear hE1 hE2 hbi H2
    go_wp2_with fail
    refine (kI _).mono ?_
    rintro e w3 ⟨rfl, rfl⟩
    clear kI
    go_wp2_with fail
    go_ret
    exact ⟨by rw [HM.out]; rfl, HB2.out⟩
  have h3' : ¬ (128 : Int) < (m : Int) := by omega
  have HE := Lib.hid (hE2 (by simp [h2, h3]))
  clear hE1 hE2 hbi
  go_wp2_with fail
  refine (kI _).mono ?_
  rintro e w3 ⟨rfl, rfl⟩
  clear kI
  go_upto_region 8 with fail
  clear h2' h3'
  obtain ⟨q1, q2, q3⟩ := H2.out.2.1.facts
  have kF := at_any p fresh A A' n c n' c' w2 H2.out.2.2.1
  obtain ⟨zf, hzf⟩ : ∃ z, z = atP p.parcels fresh := ⟨_, rfl⟩
  have hE := HE.out
  rw [← hzf] at kF hE
  have KF := Lib.hid kF
  clear kF HE hzf
  by_cases h4 : 0 ≤ zf
  · rw [if_pos h4] at hE
    have HM := Lib.hid hE
    clear hE
    go_wp2_with fail
    refine KF.out.mono ?_
    rintro e w3 ⟨rfl, hb3⟩
    have HB := Lib.hid (H2.out.on hb3).1
    clear hb3 H2 KF q1 q2 q3
    go_wp2_with fail
    go_ret
    exact ⟨by rw [HM.out]; rfl, HB.out⟩
  rw [if_neg h4] at hE
  have HE := Lib.hid hE
  clear hE
  go_wp2_with fail
  refine KF.out.mono ?_
  rintro e w3 ⟨rfl, hb3⟩
  have H3 := Lib.hid (H2.out.on hb3)
  have HB3 := Lib.hid H3.out.1
  clear hb3 H2 KF q1 q2 q3 HB2
  go_upto_region 10 with fail
  clear h4
  have kG := good_any path B m cb w3 H3.out.2.2.2 (by omega) HX.out.2
  have hE := HE.out
  rcases hgd : goodL path with _ | _
  · rw [hgd] at kG hE
    have KG := Lib.hid kG
    have HM := Lib.hid (hE.trans (if_pos rfl))
    clear kG hE hgd
    go_wp2_with fail
    refine KG.out.mono ?_
    rintro e w4 ⟨rfl, hb4⟩
    have HB := Lib.hid (H3.out.on hb4).1
    clear hb4 H3 KG
    go_wp2_with fail
    go_ret
    exact ⟨by rw [HM.out]; rfl, HB.out⟩
  rw [hgd] at kG hE
  have KG := Lib.hid kG
  rw [if_neg (by decide)] at hE
  have HG := Lib.hid hgd
  clear kG hgd HE
  have e0 := goodL_mem HG.out (show ptAt path 0 ∈ path from ptAt_mem (by have := HX.out.1; omega))
  have e1 := goodL_mem HG.out (show ptAt path (m - 1) ∈ path from ptAt_mem (by have := HX.out.1; omega))
  obtain ⟨a, ha⟩ : ∃ a, a = ptAt path 0 := ⟨_, rfl⟩
  obtain ⟨b, hb⟩ : ∃ b, b = ptAt path (m - 1) := ⟨_, rfl⟩
  rw [← ha, ← hb] at hE
  rw [← ha] at e0
  rw [← hb] at e1
  have HE := Lib.hid hE
  have HAB := Lib.hid (And.intro ha (And.intro hb (And.intro e0 e1)))
  clear ha hb e0 e1 hE
  go_wp2_with fail
  refine KG.out.mono ?_
  rintro e w4 ⟨rfl, hb4⟩
  have H4 := Lib.hid (H3.out.on hb4)
  clear hb4 H3 KG HB3
  obtain ⟨W, hW⟩ : ∃ W, W = w4 := ⟨_, rfl⟩
  rw [← hW] at H4
  go_upto_region 12 with fail
  rw [← hW]
  clear hW w4
  obtain ⟨q1, q2, q3⟩ := H4.out.2.1.facts
  have hkn : k < n' := by have := H4.out.2.2.1.lens.2.1; have := HK.out; omega
  have hkn' : (k : Int) < (n' : Int) := by omega
  obtain ⟨ad', rfl⟩ := H4.out.2.2.1.parcs.some_ (by omega)
  obtain ⟨-, -, ⟨Ak, nk, ck, p5, hrk, -, -⟩, -⟩ := H4.out.2.2.1.parcs.at_ hkn
  obtain ⟨rr, hrr⟩ : ∃ rr, rr = (pcAt p.parcels k).ring := ⟨_, rfl⟩
  have hsr := sound_ring HS.out (xs := rr) (.inr ⟨pcAt p.parcels k, by rw [pcAt_lt HK.out]; exact List.getElem_mem _, hrr⟩)
  have hE := HE.out
  rw [← hrr] at hrk hE
  have hrl := hrk.lenPt
  have HR := Lib.hid (And.intro hrk (And.intro (by omega : nk ≤ 128) hsr.1))
  have HE := Lib.hid hE
  clear hrk hrr hsr hrl hE
  obtain ⟨ad, rfl, -, -, -, -⟩ := H4.out.2.2.2.pt (k := 0) (by omega)
  obtain ⟨had, p1, p2⟩ := H4.out.2.2.2.ptA (k := 0) (by omega)
  obtain ⟨m1, hm1⟩ : ∃ m1, m1 = m - 1 := ⟨_, rfl⟩
  obtain ⟨-, p3, p4⟩ := H4.out.2.2.2.ptA (k := m1) (by omega)
  rw [show ptAt path 0 = a from HAB.out.1.symm, show ad.add (0 * 2) = ad by simp [Addr.add]] at p1 p2
  rw [show ptAt path m1 = b by rw [hm1]; exact HAB.out.2.1.symm] at p3 p4
  have hmi : IntKind.i64.wrap ((m : Int) - 1) = (m1 : Int) := by rw [IntKind.wrap_i64]; omega
  have hm0 : (0 : Int) < (m : Int) := by omega
  have hm2 : (m1 : Int) < (m : Int) := by omega
  have hk0 : ¬ (k : Int) < 0 := by omega
  have hm3 : m1 < m := by omega
  have HM1 := Lib.hid hm1
  clear hm1
  go_upto_region 13 with fail
  clear q1 q2 p5 hkn' hk0 hz0
  have hm00 : 0 < m := by omega
  have hh : ad.block < W.heap.size ∧ (⟨ad.block, ad.off + 1, none⟩ : Addr).block < W.heap.size ∧ (ad.add (m1 * 2)).block < W.heap.size ∧ (⟨(ad.add (m1 * 2)).block, (ad.add (m1 * 2)).off + 1, none⟩ : Addr).block < W.heap.size := by simp only [block_of_add]; exact ⟨had, had, had, had⟩
  have hP0 : W.drew.cell? ad = some (.int .i64 a.x) ∧ W.drew.cell? ⟨ad.block, ad.off + 1, none⟩ = some (.int .i64 a.y) ∧ W.drew.cell? (ad.add (m1 * 2)) = some (.int .i64 b.x) ∧ W.drew.cell? ⟨(ad.add (m1 * 2)).block, (ad.add (m1 * 2)).off + 1, none⟩ = some (.int .i64 b.y) ∧ Below W.heap.size W W.drew := ⟨p1, p2, p3, p4, (Below.refl _ _).drew⟩
  clear p1 p2 p3 p4 had
  go_cut [11, 12] (fun x y wx => TwoB W wx x y a b)
  case first =>
    refine wp_region_held_drew (S := fun V => V.cell? ad = some (.int .i64 a.x) ∧ V.cell? ⟨ad.block, ad.off + 1, none⟩ = some (.int .i64 a.y) ∧ V.cell? (ad.add (m1 * 2)) = some (.int .i64 b.x) ∧ V.cell? ⟨(ad.add (m1 * 2)).block, (ad.add (m1 * 2)).off + 1, none⟩ = some (.int .i64 b.y) ∧ Below W.heap.size W V) (by kernel_rfl) ?_ (fun hHeld => ?_)
    · exact hP0
    refine tk 0 ?_
    refine tk 1 ?_
    refine tk 2 ?_
    refine tk 3 ?_
    refine tk 4 ?_
    refine tk 5 ?_
    refine tk 6 ?_
    refine tk 7 ?_
    refine tk 8 ?_
    refine wpAnyH_ready (rs := [9, 10]) (by kernel_rfl) (by simp) ?_
    refine AllReadyH.cons rfl (fun K hK => ?_) (AllReadyH.cons rfl (fun K hK => ?_) AllReadyH.nil)
    · go_simp
      refine hK.out _ _ ?_ (fun hHeld => ?_)
      · exact hldF hh hP0 ((Below.refl _ _).alloc (Nat.le_refl _) _)
      clear hK K
      try simp only [Act.put, List.setIfInBounds_toArray, List.set_cons_zero, List.set_cons_succ]
      refine wpAnyH_ready (rs := [10]) (by kernel_rfl) (by simp) ?_
      refine AllReadyH.cons rfl (fun K hK => ?_) AllReadyH.nil
      go_simp
      refine hK.out _ _ ?_ (fun hHeld => ?_)
      · exact hldF hh hHeld ((Below.refl _ _).alloc (Nat.le_refl _) _)
      clear hK K
      try simp only [Act.put, List.setIfInBounds_toArray, List.set_cons_zero, List.set_cons_succ]
      refine wpAnyH_ready (rs := [11]) (by kernel_rfl) (by simp) ?_
      refine AllReadyH.cons rfl (fun K hK => ?_) AllReadyH.nil
      go_simp
      refine hK.out _ _ ?_ (fun hHeld => ?_)
      · exact hldF hh hP0 (show Below W.drew.heap.size W.drew (World.drew _) from ((Below.refl W.drew.heap.size W.drew).alloc (Nat.le_refl _) _).alloc (by simp) _)
      clear hK K
      try simp only [Act.put, List.setIfInBounds_toArray, List.set_cons_zero, List.set_cons_succ]
      refine wpAnyH_ready (rs := [12]) (by kernel_rfl) (by simp) ?_
      refine AllReadyH.cons rfl (fun K hK => ?_) AllReadyH.nil
      go_simp
      refine hK.out _ _ ?_ (fun hHeld => ?_)
      · exact hldF hh hP0 (show Below W.drew.heap.size W.drew (World.drew _) from ((Below.refl W.drew.heap.size W.drew).alloc (Nat.le_refl _) _).alloc (by simp) _)
      clear hK K
      try simp only [Act.put, List.setIfInBounds_toArray, List.set_cons_zero, List.set_cons_succ]
      refine wpAnyH_done (by kernel_rfl) ?_ _
      go_wp2_with fail
      go_meet
      exact twoB_1
    · go_simp
      refine hK.out _ _ ?_ (fun hHeld => ?_)
      · exact hldF hh hP0 ((Below.refl _ _).alloc (Nat.le_refl _) _)
      clear hK K
      try simp only [Act.put, List.setIfInBounds_toArray, List.set_cons_zero, List.set_cons_succ]
      refine wpAnyH_ready (rs := [9]) (by kernel_rfl) (by simp) ?_
      refine AllReadyH.cons rfl (fun K hK => ?_) AllReadyH.nil
      go_simp
      refine hK.out _ _ ?_ (fun hHeld => ?_)
      · exact hldF hh hHeld ((Below.refl _ _).alloc (Nat.le_refl _) _)
      clear hK K
      try simp only [Act.put, List.setIfInBounds_toArray, List.set_cons_zero, List.set_cons_succ]
      refine wpAnyH_ready (rs := [11]) (by kernel_rfl) (by simp) ?_
      refine AllReadyH.cons rfl (fun K hK => ?_) AllReadyH.nil
      go_simp
      refine hK.out _ _ ?_ (fun hHeld => ?_)
      · exact hldF hh hP0 (show Below W.drew.heap.size W.drew (World.drew _) from ((Below.refl W.drew.heap.size W.drew).alloc (Nat.le_refl _) _).alloc (by simp) _)
      clear hK K
      try simp only [Act.put, List.setIfInBounds_toArray, List.set_cons_zero, List.set_cons_succ]
      refine wpAnyH_ready (rs := [12]) (by kernel_rfl) (by simp) ?_
      refine AllReadyH.cons rfl (fun K hK => ?_) AllReadyH.nil
      go_simp
      refine hK.out _ _ ?_ (fun hHeld => ?_)
      · exact hldF hh hP0 (show Below W.drew.heap.size W.drew (World.drew _) from ((Below.refl W.drew.heap.size W.drew).alloc (Nat.le_refl _) _).alloc (by simp) _)
      clear hK K
      try simp only [Act.put, List.setIfInBounds_toArray, List.set_cons_zero, List.set_cons_succ]
      refine wpAnyH_done (by kernel_rfl) ?_ _
      go_wp2_with fail
      go_meet
      exact twoB_2
  case rest =>
    obtain ⟨g1, g2, rfl, rfl, k1, k2, hbc⟩ := hcut
    obtain ⟨V, rfl⟩ : ∃ V, V = wc := ⟨_, rfl⟩
    obtain ⟨r1, r2, -, -, -⟩ := k1.facts
    obtain ⟨r3, r4, r5, -, -⟩ := k2.facts
    have H5 := Lib.hid (H4.out.on hbc)
    have HR5 := Lib.hid (HR.out.1.on hbc)
    have HK2 := Lib.hid k2
    clear k1 k2 hbc hP0 hh H4 hm00 hm0 hm2 hm3 hmi
    have he := fun V => (eqPt_runs a b .eql (.tmp 0) (.tmp 0) V).1
    have hg := fun op x y V => (eqPt_runs a b op x y V).2
    have HB5 := Lib.hid H5.out.1
    by_cases hab : a = b
    · have HM := Lib.hid (HE.out.trans (if_pos (.inl hab)))
      rw [decide_eq_true hab] at he
      clear hab HE HAB
      go_wp2_with fail
      go_ret
      exact ⟨by rw [HM.out]; rfl, HB5.out⟩
    rw [decide_eq_false hab] at he
    have kW1 := within_any rr a Ak nk ck V HR5.out HR.out.2.1 HR.out.2.2 HAB.out.2.2.1
    obtain ⟨y1, hy1⟩ : ∃ y, y = sideI rr a := ⟨_, rfl⟩
    obtain ⟨y2, hy2⟩ : ∃ y, y = sideI rr b := ⟨_, rfl⟩
    have hE := HE.out
    rw [← hy1, ← hy2] at hE
    rw [← hy1] at kW1
    have KW1 := Lib.hid kW1
    have HY2 := Lib.hid hy2
    clear hy1 hy2 HE kW1
    by_cases h6 : y1 = 0
    case neg =>
      have HM := Lib.hid (hE.trans (if_pos (.inr (.inl h6))))
      clear hE hab
      go_wp2_with fail
      refine KW1.out.mono ?_
      rintro e w6 ⟨rfl, hb6⟩
      have HB := Lib.hid (H5.out.on hb6).1
      clear hb6 H5 KW1 r1 r2 r3 r4 r5 he hg HAB HK2 HB5
      go_wp2_with fail
      go_ret
      exact ⟨by rw [HM.out]; rfl, HB.out⟩
    subst h6
    have HE := Lib.hid hE
    have HNE := Lib.hid hab
    clear hE hab
    go_wp2_with fail
    refine KW1.out.mono ?_
    rintro e w6 ⟨rfl, hb6⟩
    have H6 := Lib.hid (H5.out.on hb6)
    obtain ⟨r3, r4, -, -, -⟩ := PtK.facts (show PtK w6 g2 b from Blk.below HK2.out hb6 (Blk.lt HK2.out))
    have kW2 := within_any rr b Ak nk ck w6 (HR5.out.on hb6) HR.out.2.1 HR.out.2.2 HAB.out.2.2.2
    rw [← HY2.out] at kW2
    have KW2 := Lib.hid kW2
    have hE := HE.out
    clear hb6 H5 KW1 r1 r2 r5 he hg HAB HK2 HB5 kW2 HE
    by_cases h7 : y2 = 0
    case neg =>
      have HM := Lib.hid (hE.trans (if_pos (.inr (.inr h7))))
      clear hE
      go_wp2_with fail
      refine KW2.out.mono ?_
      rintro e w7 ⟨rfl, hb7⟩
      have HB := Lib.hid (H6.out.on hb7).1
      clear hb7 H6 KW2 r3 r4
      go_wp2_with fail
      go_ret
      exact ⟨by rw [HM.out]; rfl, HB.out⟩
    subst h7
    have HM := Lib.hid (hE.trans (if_neg (by simp [HNE.out])))
    clear hE
    go_wp2_with fail
    refine KW2.out.mono ?_
    rintro e w7 ⟨rfl, hb7⟩
    have HB := Lib.hid (H6.out.on hb7).1
    clear hb7 H6 KW2 r3 r4
    go_wp2_with fail
    go_ret
    exact ⟨by rw [HM.out]; rfl, HB.out⟩

end Go.Proofs.YtmegmokjjlelgaaGreat
namespace Go.Proofs.YtmegmokjjlelgaaGreat
theorem insK_in (xs : List Pt) (q : Pt) (k : Nat) : (inS (ptAt xs k) (ptAt xs ((k + 1) % xs.length)) q → insK xs q k = [ptAt xs k, q]) ∧ (¬ inS (ptAt xs k) (ptAt xs ((k + 1) % xs.length)) q → insK xs q k = [ptAt xs k]) := by
  unfold insK inS
  generalize ptAt xs ((k + 1) % xs.length) = b
  generalize ptAt xs k = a
  rcases onB a b q with _ | _ <;> by_cases h1 : q = a <;> by_cases h2 : q = b <;> simp [h1, h2]
theorem insL_range (xs : List Pt) (q : Pt) : ∀ m, m ≤ xs.length → (∀ i, i < xs.length → ¬ inS (ptAt xs i) (ptAt xs ((i + 1) % xs.length)) q) → insL xs q (List.range m) = xs.take m := fun m => by
  induction m with
  | zero => intro _ _; simp [insL]
  | succ m ih =>
    intro hm hn
    have h1 := (insK_in xs q m).2 (hn m (by omega))
    have h2 := ih (by omega) hn
    unfold insL at *
    rw [List.range_succ, List.flatMap_append, h2, List.flatMap_singleton, h1, ptAt_lt (by omega), List.take_succ_eq_append_getElem (by omega)]
theorem ins_none {xs : List Pt} {q : Pt} (hn : ∀ i, i < xs.length → ¬ inS (ptAt xs i) (ptAt xs ((i + 1) % xs.length)) q) : insG q xs = xs := by
  unfold insG
  rw [insL_range xs q _ (Nat.le_refl _) hn, List.take_length]
theorem insL_one {xs : List Pt} {q : Pt} {k : Nat} (hk : k < xs.length) (hin : inS (ptAt xs k) (ptAt xs ((k + 1) % xs.length)) q) (hn : ∀ i, i < xs.length → i ≠ k → ¬ inS (ptAt xs i) (ptAt xs ((i + 1) % xs.length)) q) :
    ∀ m, m ≤ xs.length → insL xs q (List.range m) = if k < m then xs.take (k + 1) ++ [q] ++ (xs.take m).drop (k + 1) else xs.take m := fun m => by
  induction m with
  | zero => intro _; simp [insL]
  | succ m ih =>
    intro hm
    have h2 := ih (by omega)
    have ht : xs.take (m + 1) = xs.take m ++ [ptAt xs m] := by rw [ptAt_lt (by omega), List.take_succ_eq_append_getElem (by omega)]
    unfold insL at *
    rw [List.range_succ, List.flatMap_append, h2, List.flatMap_singleton]
    by_cases h : m = k
    · subst h
      rw [(insK_in xs q m).1 hin, if_neg (by omega), if_pos (by omega), ht, List.drop_of_length_le (by simp; omega)]
      simp
    · rw [(insK_in xs q m).2 (hn m (by omega) h)]
      by_cases h3 : k < m
      · rw [if_pos h3, if_pos (by omega), ht, List.drop_append_of_le_length (by rw [List.length_take]; omega)]
        simp
      · rw [if_neg h3, if_neg (by omega), ht]
theorem ins_one {xs : List Pt} {q : Pt} {k : Nat} (hk : k < xs.length) (hin : inS (ptAt xs k) (ptAt xs ((k + 1) % xs.length)) q) (hn : ∀ i, i < xs.length → i ≠ k → ¬ inS (ptAt xs i) (ptAt xs ((i + 1) % xs.length)) q) : insG q xs = mark k q xs := by
  unfold insG mark
  rw [insL_one hk hin hn _ (Nat.le_refl _), if_pos hk, List.take_length]
theorem ptAt_goodL {xs : List Pt} (hg : goodL xs = true) {k : Nat} (hk : k < xs.length) : good (ptAt xs k) = true := goodL_mem hg (ptAt_mem hk)
/-- A point lies within one edge of a ring at most. -/
theorem ins_uniq {xs : List Pt} {q : Pt} (hc : checkI xs = 0) (hq : good q = true) {i k : Nat} (hi : i < xs.length) (hk : k < xs.length) (h1 : inS (ptAt xs i) (ptAt xs ((i + 1) % xs.length)) q) (h2 : inS (ptAt xs k) (ptAt xs ((k + 1) % xs.length)) q) : i = k := by
  obtain ⟨-, hg, h3, -, hP⟩ := checkI_zero hc
  refine Classical.byContradiction fun hne => ?_
  have hp := ((pairs_iff xs).1 hP i k hi hk hne).2
  have hm : ∀ j, (j + 1) % xs.length < xs.length := fun j => Nat.mod_lt _ (by omega)
  have g := fun j (hj : j < xs.length) => ptAt_goodL hg hj
  have e : meetOf xs i k = meetR (ptAt xs i) (ptAt xs ((i + 1) % xs.length)) (ptAt xs k) (ptAt xs ((k + 1) % xs.length)) := rfl
  rw [e] at hp
  split at hp
  · exact inS_one (g i hi) (g _ (hm i)) (g k hk) (g _ (hm k)) hq h1 h2 hp
  · exact inS_touch (g i hi) (g _ (hm i)) (g k hk) (g _ (hm k)) h1 h2 hp
/-- What comes of a point that is no corner: nothing, or a corner more on just one edge. -/
theorem ins_cases {xs : List Pt} {q : Pt} (hc : checkI xs = 0) (hq : good q = true) : (insG q xs = xs ∧ ∀ i, i < xs.length → ¬ inS (ptAt xs i) (ptAt xs ((i + 1) % xs.length)) q) ∨ ∃ k, k < xs.length ∧ inS (ptAt xs k) (ptAt xs ((k + 1) % xs.length)) q ∧ insG q xs = mark k q xs := by
  by_cases h : ∃ k, k < xs.length ∧ inS (ptAt xs k) (ptAt xs ((k + 1) % xs.length)) q
  · obtain ⟨k, hk, hin⟩ := h
    exact .inr ⟨k, hk, hin, ins_one hk hin fun i hi hne h1 => hne (ins_uniq hc hq hi hk h1 hin)⟩
  · have hn : ∀ i, i < xs.length → ¬ inS (ptAt xs i) (ptAt xs ((i + 1) % xs.length)) q := fun i hi h1 => h ⟨i, hi, h1⟩
    exact .inl ⟨ins_none hn, hn⟩
theorem lst_rot' {xs : List Pt} (hn : xs.Nodup) {j : Nat} (hj : j ≤ xs.length) : lst (rot j xs) = lst xs := by
  by_cases h : j = xs.length
  · have e : rot j xs = xs := by unfold rot; rw [h, List.drop_length, List.take_length, List.nil_append]
    rw [e]
  · exact lst_rot hn (by omega)
theorem mark_lo {xs : List Pt} {q : Pt} {k i : Nat} (hk : k < xs.length) (hi : i ≤ k) : ptAt (mark k q xs) i = ptAt xs i := by
  have h0 : i < (xs.take (k + 1)).length := by rw [List.length_take]; omega
  unfold ptAt mark
  rw [List.append_assoc, List.getElem?_append_left h0, List.getElem?_take_of_lt (by omega)]
theorem mark_mid {xs : List Pt} {q : Pt} {k : Nat} (hk : k < xs.length) : ptAt (mark k q xs) (k + 1) = q := by
  have h0 : (xs.take (k + 1)).length = k + 1 := by rw [List.length_take]; omega
  unfold ptAt mark
  rw [List.append_assoc, List.getElem?_append_right (by omega), h0]
  simp
theorem mark_hi {xs : List Pt} {q : Pt} {k i : Nat} (hk : k < xs.length) (hi : k + 1 ≤ i) : ptAt (mark k q xs) (i + 1) = ptAt xs i := by
  have h0 : (xs.take (k + 1) ++ [q]).length = k + 2 := by simp; omega
  unfold ptAt mark
  rw [List.getElem?_append_right (by omega), h0, List.getElem?_drop, show k + 1 + (i + 1 - (k + 2)) = i by omega]
theorem ringOf_each {g : List Pt → List Pt} {p : Plan} {ys : List Pt} (h : ringOf (eachP g p) ys) : ∃ xs, ringOf p xs ∧ ys = lst (g xs) := by
  rcases h with rfl | ⟨y, hy, rfl⟩
  · exact ⟨p.outer, .inl rfl, rfl⟩
  · obtain ⟨x, hx, rfl⟩ := each_sound hy
    exact ⟨x.ring, .inr ⟨x, hx, rfl⟩, rfl⟩
end Go.Proofs.YtmegmokjjlelgaaGreat

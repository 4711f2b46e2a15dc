/- merestonelaw07.JoinEither: the walk. -/
import Derived.Deep.DeepCutAuto
import Derived.Test.YtgkcenhopmjmlaaAns07
import Derived.Test.YtgkcenhopmjmlaaEitherLaw
namespace Go.Proofs.Ytgkcenhopmjmlaa
open Go.RowKit Go.Lib
def JeF (p : Plan) (A : Option Addr) (n c : Nat) (A' : Option Addr) (n' c' : Nat) (w W : World) : Prop := Below w.heap.size w W ∧ PlK W w.heap.size A n c A' n' c' ∧ PlanAt W W.heap.size A n c A' n' c' p
theorem JeF.on {p : Plan} {A A' : Option Addr} {n c n' c' : Nat} {w W W' : World} (h : JeF p A n c A' n' c' w W) (hb : Below W.heap.size W W') : JeF p A n c A' n' c' w W' := ⟨below_on h.1 (Nat.le_refl _) hb, h.2.1.on hb, h.2.2.on hb⟩
def BxF (R : Plan) (B : Nat) (A : Option Addr) (n c : Nat) (A' : Option Addr) (n' c' : Nat) (W : World) : Prop := PlK W B A n c A' n' c' ∧ PlanAt W W.heap.size A n c A' n' c' R
theorem BxF.on {R : Plan} {B : Nat} {A A' : Option Addr} {n c n' c' : Nat} {W W' : World} (h : BxF R B A n c A' n' c' W) (hb : Below W.heap.size W W') : BxF R B A n c A' n' c' W' := ⟨h.1.on hb, h.2.on hb⟩
theorem hldE4 {W V V' : World} {a0 a1 a2 a3 : Addr} {v0 v1 v2 v3 : Value} (hh : a0.block < W.heap.size ∧ a1.block < W.heap.size ∧ a2.block < W.heap.size ∧ a3.block < W.heap.size) (hs : V.cell? a0 = some v0 ∧ V.cell? a1 = some v1 ∧ V.cell? a2 = some v2 ∧ V.cell? a3 = some v3 ∧ Below W.heap.size W V) (hb : Below V.heap.size V V') :
    V'.cell? a0 = some v0 ∧ V'.cell? a1 = some v1 ∧ V'.cell? a2 = some v2 ∧ V'.cell? a3 = some v3 ∧ Below W.heap.size W V' := by
  obtain ⟨h0, h1, h2, h3⟩ := hh
  obtain ⟨c0, c1, c2, c3, cb⟩ := hs
  have := cb.size
  have k : ∀ {a : Addr} {v : Value}, a.block < W.heap.size → V.cell? a = some v → V'.cell? a = some v := fun {a v} ha hv => (hb.cell (p := a) (by omega)).trans hv
  exact ⟨k h0 c0, k h1 c1, k h2 c2, k h3 c3, below_on cb (Nat.le_refl _) hb⟩
theorem hldE6 {W V V' : World} {a0 a1 a2 a3 a4 a5 : Addr} {v0 v1 v2 v3 v4 v5 : Value} (hh : a0.block < W.heap.size ∧ a1.block < W.heap.size ∧ a2.block < W.heap.size ∧ a3.block < W.heap.size ∧ a4.block < W.heap.size ∧ a5.block < W.heap.size) (hs : V.cell? a0 = some v0 ∧ V.cell? a1 = some v1 ∧ V.cell? a2 = some v2 ∧ V.cell? a3 = some v3 ∧ V.cell? a4 = some v4 ∧ V.cell? a5 = some v5 ∧ Below W.heap.size W V) (hb : Below V.heap.size V V') :
    V'.cell? a0 = some v0 ∧ V'.cell? a1 = some v1 ∧ V'.cell? a2 = some v2 ∧ V'.cell? a3 = some v3 ∧ V'.cell? a4 = some v4 ∧ V'.cell? a5 = some v5 ∧ Below W.heap.size W V' := by
  obtain ⟨h0, h1, h2, h3, h4, h5⟩ := hh
  obtain ⟨c0, c1, c2, c3, c4, c5, cb⟩ := hs
  have := cb.size
  have k : ∀ {a : Addr} {v : Value}, a.block < W.heap.size → V.cell? a = some v → V'.cell? a = some v := fun {a v} ha hv => (hb.cell (p := a) (by omega)).trans hv
  exact ⟨k h0 c0, k h1 c1, k h2 c2, k h3 c3, k h4 c4, k h5 c5, below_on cb (Nat.le_refl _) hb⟩
set_option maxRecDepth 100000 in
set_option maxHeartbeats 3200000 in
theorem joinEither_any (p : Plan) (a b : Int) (A A' : Option Addr) (n c n' c' : Nat) (w : World) (h : PlanAt w w.heap.size A n c A' n' c' p) :
    Calls Try.prog 3 #[planV A n c A' n' c', .int .i64 a, .int .i64 b] w fun e w' => e = .returned (.bool true) ∧ Below w.heap.size w w' := by
  obtain ⟨wa, hwa⟩ : ∃ wa : World, wa = w.alloc (.cells #[.slice A n c, .slice A' n' c'] 26) := ⟨_, rfl⟩
  have hF : JeF p A n c A' n' c' w wa := by
    have hB0 : Below w.heap.size w wa := by rw [hwa]; exact (Below.refl _ _).alloc (Nat.le_refl _) _
    exact ⟨hB0, by rw [hwa]; exact PlK.new w A n c A' n' c', h.on hB0⟩
  have H0 := Lib.hid hF
  clear hF h
  go_enter Try.func3, Try.ntmps3
  go_upto_region 1 with fail
  rw [← hwa]
  clear hwa
  go_wp2_with (go_at_call 4; (with_reducible refine (ans07_any _).mono ?_); rintro e w1 ⟨rfl, hb1⟩; have H1 := Lib.hid (H0.out.on hb1); obtain ⟨q1, q2, q3⟩ := H1.out.2.1.facts; clear hb1 H0)
  refine (few7_any p A A' n c n' c' w1 H1.out.2.2).mono ?_
  rintro e w2 ⟨fb, rfl, hsm, hb2⟩
  have H2 := Lib.hid (H1.out.on hb2)
  clear hb2 q1 q2 q3 H1
  rcases fb with _ | _
  · clear hsm
    go_wp2_with fail
    refine (ans07_any _).mono ?_
    rintro e w3 ⟨rfl, hb3⟩
    have HB := Lib.hid (below_on H2.out.1 (Nat.le_refl _) hb3)
    clear hb3 H2
    go_wp2_with fail
    go_ret
    exact ⟨rfl, HB.out⟩
  have hn' : n' ≤ 1048576 := by have := (hsm rfl).1; omega
  clear hsm
  have KO := Lib.hid (ownPl_any p A A' n c n' c' w2 H2.out.2.2 hn')
  obtain ⟨z, hz⟩ : ∃ z, z = joinE p a b := ⟨_, rfl⟩
  obtain ⟨R1, hR1⟩ : ∃ R, R = joinP p a b := ⟨_, rfl⟩
  obtain ⟨R2, hR2⟩ : ∃ R, R = joinP p b a := ⟨_, rfl⟩
  have HZ := Lib.hid (And.intro hz (And.intro hR1 hR2))
  clear hz hR1 hR2
  obtain ⟨q1, q2, q3⟩ := H2.out.2.1.facts
  go_wp2_with fail
  refine KO.out.mono ?_
  rintro e w3 ⟨A1, n1, c1, A2, n2, c2, rfl, hP3, hb3⟩
  have kM := mergeP_any p a b A1 A2 n1 c1 n2 c2 w3 hP3
  rw [← HZ.out.1, ← HZ.out.2.1] at kM
  have KM := Lib.hid kM
  have H3 := Lib.hid (H2.out.on hb3)
  clear hP3 hb3 kM KO H2 q1 q2 q3
  go_wp2_with fail
  refine KM.out.mono ?_
  rintro e w4 ⟨A3, n3, c3, A4, n4, c4, hs, rfl, hpo, hb4⟩
  have hba : Below w4.heap.size w4 (w4.alloc (.cells #[.slice A3 n3 c3, .slice A4 n4 c4] 26)) := (Below.refl _ _).alloc (Nat.le_refl _) _
  have H5 := Lib.hid (And.intro ((H3.out.on hb4).on hba) (show BxF R1 w4.heap.size A3 n3 c3 A4 n4 c4 _ from ⟨PlK.new w4 A3 n3 c3 A4 n4 c4, (hpo.below hba).at_⟩))
  obtain ⟨w5, hw5⟩ : ∃ w5, w5 = w4.alloc (.cells #[.slice A3 n3 c3, .slice A4 n4 c4] 26) := ⟨_, rfl⟩
  obtain ⟨B5, hB5⟩ : ∃ B, B = w4.heap.size := ⟨_, rfl⟩
  rw [← hw5, ← hB5] at H5
  clear hba hpo hb4 KM H3
  go_upto_region 4 with fail
  rw [← hw5, ← hB5]
  clear hw5 hB5
  have KO := Lib.hid (ownPl_any p A A' n c n' c' w5 H5.out.1.2.2 hn')
  obtain ⟨q1, q2, q3⟩ := H5.out.1.2.1.facts
  go_wp2_with fail
  refine KO.out.mono ?_
  rintro e w6 ⟨A1, n1, c1, A2, n2, c2, rfl, hP3, hb3⟩
  have kM := mergeP_any p b a A1 A2 n1 c1 n2 c2 w6 hP3
  rw [joinE_swap p b a, ← HZ.out.1, ← HZ.out.2.2] at kM
  have KM := Lib.hid kM
  have H6 := Lib.hid (And.intro (H5.out.1.on hb3) (H5.out.2.on hb3))
  clear hP3 hb3 kM KO H5 q1 q2 q3
  go_wp2_with fail
  refine KM.out.mono ?_
  rintro e w7 ⟨A7, n7, c7, A8, n8, c8, hs7, rfl, hpo, hb4⟩
  have hba : Below w7.heap.size w7 (w7.alloc (.cells #[.slice A7 n7 c7, .slice A8 n8 c8] 26)) := (Below.refl _ _).alloc (Nat.le_refl _) _
  have H8 := Lib.hid (And.intro ((H6.out.1.on hb4).on hba) (And.intro ((H6.out.2.on hb4).on hba) (show BxF R2 w7.heap.size A7 n7 c7 A8 n8 c8 _ from ⟨PlK.new w7 A7 n7 c7 A8 n8 c8, (hpo.below hba).at_⟩)))
  obtain ⟨W, hw8⟩ : ∃ w5, w5 = w7.alloc (.cells #[.slice A7 n7 c7, .slice A8 n8 c8] 26) := ⟨_, rfl⟩
  obtain ⟨B7, hB7⟩ : ∃ B, B = w7.heap.size := ⟨_, rfl⟩
  rw [← hw8, ← hB7] at H8
  clear hba hpo hb4 KM H6
  go_upto_region 5 with fail
  rw [← hw8, ← hB7]
  clear hw8 hB7
  by_cases hz0 : z = 0
  case neg =>
    have hz1 : (z == 0) = false := by rw [beq_eq_false_iff_ne]; exact hz0
    have HB := Lib.hid H8.out.1.1
    clear H8
    go_wp2_with fail
    go_ret
    exact ⟨by first | rfl | simp, HB.out⟩
  have HE := Lib.hid (either_law (p := p) (a := a) (b := b) (by rw [← HZ.out.1]; exact hz0))
  subst hz0
  obtain ⟨x1, x2, x3⟩ := H8.out.2.1.1.facts
  obtain ⟨y1, y2, y3⟩ := H8.out.2.2.1.facts
  obtain ⟨za, hza⟩ : ∃ z, z = atP R1.parcels a := ⟨_, rfl⟩
  obtain ⟨zb, hzb⟩ : ∃ z, z = atP R2.parcels b := ⟨_, rfl⟩
  have kA := fun V (hV : Below W.heap.size W V) => atR_any R1 a A3 A4 n3 c3 n4 c4 V (H8.out.2.1.on hV).2
  have kB := fun V (hV : Below W.heap.size W V) => atR_any R2 b A7 A8 n7 c7 n8 c8 V (H8.out.2.2.on hV).2
  rw [← hza] at kA
  rw [← hzb] at kB
  have HAB := Lib.hid (And.intro hza hzb)
  have hP0 : W.drew.cell? ⟨B5, 0, none⟩ = some (.slice A3 n3 c3) ∧ W.drew.cell? ⟨B5, 1, none⟩ = some (.slice A4 n4 c4) ∧ W.drew.cell? ⟨B7, 0, none⟩ = some (.slice A7 n7 c7) ∧ W.drew.cell? ⟨B7, 1, none⟩ = some (.slice A8 n8 c8) ∧ Below W.heap.size W W.drew := ⟨x1, x2, y1, y2, (Below.refl _ _).drew⟩
  have hh : (⟨B5, 0, none⟩ : Addr).block < W.heap.size ∧ (⟨B5, 1, none⟩ : Addr).block < W.heap.size ∧ (⟨B7, 0, none⟩ : Addr).block < W.heap.size ∧ (⟨B7, 1, none⟩ : Addr).block < W.heap.size := ⟨x3, x3, y3, y3⟩
  clear hza hzb x1 x2 x3 y1 y2 y3
  go_upto_region 7 with fail
  go_cut [11, 12] (fun x y wx => x = .int .i64 za ∧ y = .int .i64 zb ∧ Below W.heap.size W wx)
  case first =>
    refine wp_region_held_drew (S := fun V => V.cell? ⟨B5, 0, none⟩ = some (.slice A3 n3 c3) ∧ V.cell? ⟨B5, 1, none⟩ = some (.slice A4 n4 c4) ∧ V.cell? ⟨B7, 0, none⟩ = some (.slice A7 n7 c7) ∧ V.cell? ⟨B7, 1, none⟩ = some (.slice A8 n8 c8) ∧ Below W.heap.size W V) (by kernel_rfl) ?_ (fun hHeld => ?_)
    · exact hP0
    refine tk 0 ?_
    refine tk 1 ?_
    refine tk 3 ?_
    refine tk 4 ?_
    refine wpAnyH_ready (rs := [2]) (by kernel_rfl) (by simp) ?_
    refine AllReadyH.cons rfl (fun K hK => ?_) AllReadyH.nil
    go_simp
    go_at_call 8
    (with_reducible refine (kA _ (Below.refl _ _).drew).mono ?_)
    rintro e w1 ⟨rfl, hb1⟩
    try dsimp only
    refine hK.out _ _ ?_ (fun hHeld => ?_)
    · exact hldE4 hh hHeld hb1
    clear hK K
    try simp only [Act.put, List.setIfInBounds_toArray, List.set_cons_zero, List.set_cons_succ]
    refine wpAnyH_ready (rs := [5]) (by kernel_rfl) (by simp) ?_
    refine AllReadyH.cons rfl (fun K hK => ?_) AllReadyH.nil
    go_simp
    go_at_call 8
    (with_reducible refine (kB _ hHeld.2.2.2.2).mono ?_)
    rintro e w2 ⟨rfl, hb2⟩
    try dsimp only
    refine hK.out _ _ ?_ (fun hHeld => ?_)
    · exact hldE4 hh hHeld hb2
    clear hK K
    try simp only [Act.put, List.setIfInBounds_toArray, List.set_cons_zero, List.set_cons_succ]
    refine tk 6 ?_
    refine tk 7 ?_
    refine wpAnyH_done (by kernel_rfl) ?_ _
    go_wp2_with fail
    go_meet
    exact ⟨rfl, rfl, hHeld.2.2.2.2⟩
  case rest =>
    obtain ⟨rfl, rfl, hbc⟩ := hcut
    obtain ⟨j, l, hj, hl, ea, eb, er, eo⟩ := HE.out
    rw [← HZ.out.2.1] at hj ea er eo
    rw [← HZ.out.2.2] at hl eb er eo
    have hza : za = (j : Int) := HAB.out.1.trans ea
    have hzb : zb = (l : Int) := HAB.out.2.trans eb
    subst hza hzb
    obtain ⟨X, rfl⟩ : ∃ X, X = wc := ⟨_, rfl⟩
    have HX := Lib.hid (And.intro (H8.out.2.1.on hbc) (H8.out.2.2.on hbc))
    have HB := Lib.hid (below_on H8.out.1.1 (Nat.le_refl _) hbc)
    clear kA kB hP0 hh hbc H8 HE HAB ea eb
    obtain ⟨x1, x2, x3⟩ := HX.out.1.1.facts
    obtain ⟨y1, y2, y3⟩ := HX.out.2.1.facts
    have hlj := HX.out.1.2.lens
    have hll := HX.out.2.2.lens
    have hj' : j < n4 := by omega
    have hl' : l < n8 := by omega
    have hji : (j : Int) < (n4 : Int) := by omega
    have hli : (l : Int) < (n8 : Int) := by omega
    have hj0 : (0 : Int) ≤ (j : Int) := by omega
    have hl0 : (0 : Int) ≤ (l : Int) := by omega
    obtain ⟨a4, rfl⟩ := HX.out.1.2.parcs.some_ (show 0 < n4 by omega)
    obtain ⟨a8, rfl⟩ := HX.out.2.2.parcs.some_ (show 0 < n8 by omega)
    obtain ⟨hb4, -, ⟨Ar, nr, cr, p4, hr4, -, -⟩, -⟩ := HX.out.1.2.parcs.at_ hj'
    obtain ⟨hb8, -, ⟨As, ns, cs, p8, hr8, -, -⟩, -⟩ := HX.out.2.2.parcs.at_ hl'
    have ho3 := HX.out.1.2.outer
    have ho7 := HX.out.2.2.outer
    have hfr : nr ≤ 9223372036854775807 := by have := (HX.out.1.2.fits.pc hj).1; rw [hr4.lenPt] at this; omega
    have hfs : ns ≤ 9223372036854775807 := by have := (HX.out.2.2.fits.pc hl).1; rw [hr8.lenPt] at this; omega
    rw [er] at hr4
    rw [eo] at ho3
    have kR := fun V (hV : Below X.heap.size X V) => sameR_any _ _ Ar As nr ns cr cs V (hr4.on hV) (hr8.on hV) hfr hfs
    have kO := fun V (hV : Below X.heap.size X V) => sameR_any _ _ A3 A7 n3 n7 c3 c7 V (ho3.on hV) (ho7.on hV) (by omega) (by omega)
    simp only [decide_true] at kR kO
    have hP0 : X.drew.cell? ⟨B5, 0, none⟩ = some (.slice A3 n3 c3) ∧ X.drew.cell? ⟨B5, 1, none⟩ = some (.slice (some a4) n4 c4) ∧ X.drew.cell? ⟨B7, 0, none⟩ = some (.slice A7 n7 c7) ∧ X.drew.cell? ⟨B7, 1, none⟩ = some (.slice (some a8) n8 c8) ∧ X.drew.cell? ⟨(a4.add (j * 3)).block, (a4.add (j * 3)).off + 1, none⟩ = some (.slice Ar nr cr) ∧ X.drew.cell? ⟨(a8.add (l * 3)).block, (a8.add (l * 3)).off + 1, none⟩ = some (.slice As ns cs) ∧ Below X.heap.size X X.drew := ⟨x1, x2, y1, y2, p4, p8, (Below.refl _ _).drew⟩
    have hh : (⟨B5, 0, none⟩ : Addr).block < X.heap.size ∧ (⟨B5, 1, none⟩ : Addr).block < X.heap.size ∧ (⟨B7, 0, none⟩ : Addr).block < X.heap.size ∧ (⟨B7, 1, none⟩ : Addr).block < X.heap.size ∧ (⟨(a4.add (j * 3)).block, (a4.add (j * 3)).off + 1, none⟩ : Addr).block < X.heap.size ∧ (⟨(a8.add (l * 3)).block, (a8.add (l * 3)).off + 1, none⟩ : Addr).block < X.heap.size := ⟨x3, x3, y3, y3, by simp only [block_of_add]; exact hb4, by simp only [block_of_add]; exact hb8⟩
    clear x1 x2 x3 y1 y2 y3 p4 p8 hr4 hr8 ho3 ho7 hfr hfs er eo hj hl hlj hll hb4 hb8
    go_upto_region 8 with fail
    refine wp_region_held_drew (S := fun V => V.cell? ⟨B5, 0, none⟩ = some (.slice A3 n3 c3) ∧ V.cell? ⟨B5, 1, none⟩ = some (.slice (some a4) n4 c4) ∧ V.cell? ⟨B7, 0, none⟩ = some (.slice A7 n7 c7) ∧ V.cell? ⟨B7, 1, none⟩ = some (.slice (some a8) n8 c8) ∧ V.cell? ⟨(a4.add (j * 3)).block, (a4.add (j * 3)).off + 1, none⟩ = some (.slice Ar nr cr) ∧ V.cell? ⟨(a8.add (l * 3)).block, (a8.add (l * 3)).off + 1, none⟩ = some (.slice As ns cs) ∧ Below X.heap.size X V) (by kernel_rfl) ?_ (fun hHeld => ?_)
    · exact hP0
    refine tk 0 ?_
    refine tk 1 ?_
    refine tk 2 ?_
    refine tk 3 ?_
    refine tk 4 ?_
    refine tk 5 ?_
    refine tk 6 ?_
    refine tk 7 ?_
    refine tk 8 ?_
    refine tk 9 ?_
    refine tk 10 ?_
    refine tk 11 ?_
    refine tk 12 ?_
    refine tk 13 ?_
    refine tk 14 ?_
    refine tk 15 ?_
    refine tk 16 ?_
    refine tk 17 ?_
    refine tk 18 ?_
    refine wpAnyH_ready (rs := [19]) (by kernel_rfl) (by simp) ?_
    refine AllReadyH.cons rfl (fun K hK => ?_) AllReadyH.nil
    go_simp
    go_at_call 9
    (with_reducible refine (kR _ (Below.refl _ _).drew).mono ?_)
    rintro e w1 ⟨rfl, hb1⟩
    try dsimp only
    refine hK.out _ _ ?_ (fun hHeld => ?_)
    · exact hldE6 hh hHeld hb1
    clear hK K
    try simp only [Act.put, List.setIfInBounds_toArray, List.set_cons_zero, List.set_cons_succ]
    refine tk 20 ?_
    refine tk 21 ?_
    refine tk 22 ?_
    refine tk 23 ?_
    refine tk 24 ?_
    refine tk 25 ?_
    refine wpAnyH_ready (rs := [26]) (by kernel_rfl) (by simp) ?_
    refine AllReadyH.cons rfl (fun K hK => ?_) AllReadyH.nil
    go_simp
    go_at_call 9
    (with_reducible refine (kO _ hHeld.2.2.2.2.2.2).mono ?_)
    rintro e w2 ⟨rfl, hb2⟩
    try dsimp only
    refine hK.out _ _ ?_ (fun hHeld => ?_)
    · exact hldE6 hh hHeld hb2
    clear hK K
    try simp only [Act.put, List.setIfInBounds_toArray, List.set_cons_zero, List.set_cons_succ]
    refine tk 27 ?_
    refine tk 28 ?_
    refine wpAnyH_done (by kernel_rfl) ?_ _
    go_wp2_with fail
    go_ret
    exact ⟨rfl, below_on HB.out (Nat.le_refl _) hHeld.2.2.2.2.2.2⟩
end Go.Proofs.Ytgkcenhopmjmlaa

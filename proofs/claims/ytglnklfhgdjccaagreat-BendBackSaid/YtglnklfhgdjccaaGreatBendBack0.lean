/- merestonelaw08.BendBack: the walk. -/
import Derived.Deep.DeepCutAuto
import Derived.Test.YtglnklfhgdjccaaGreatMarkBack
import Derived.Test.YtglnklfhgdjccaaGreatBendMove
import Derived.Test.YtglnklfhgdjccaaGreatBendClear
import Derived.Test.YtglnklfhgdjccaaGreatSamePc
import Derived.Test.YtglnklfhgdjccaaGreatAns08
import Derived.Test.YtglnklfhgdjccaaGreatFindLaw
import Derived.Test.YtglnklfhgdjccaaGreatFew
namespace Go.Proofs.YtglnklfhgdjccaaGreat
open Go.RowKit Go.Lib
theorem hld6 {W V V' : World} {a0 a1 a2 a3 a4 a5 : Addr} {v0 v1 v2 v3 v4 v5 : Value} (hh : a0.block < W.heap.size ∧ a1.block < W.heap.size ∧ a2.block < W.heap.size ∧ a3.block < W.heap.size ∧ a4.block < W.heap.size ∧ a5.block < W.heap.size) (hs : V.cell? a0 = some v0 ∧ V.cell? a1 = some v1 ∧ V.cell? a2 = some v2 ∧ V.cell? a3 = some v3 ∧ V.cell? a4 = some v4 ∧ V.cell? a5 = some v5 ∧ Below W.heap.size W V) (hb : Below V.heap.size V V') :
    V'.cell? a0 = some v0 ∧ V'.cell? a1 = some v1 ∧ V'.cell? a2 = some v2 ∧ V'.cell? a3 = some v3 ∧ V'.cell? a4 = some v4 ∧ V'.cell? a5 = some v5 ∧ Below W.heap.size W V' := by
  obtain ⟨h0, h1, h2, h3, h4, h5⟩ := hh
  obtain ⟨c0, c1, c2, c3, c4, c5, cb⟩ := hs
  have := cb.size
  have k : ∀ {a : Addr} {v : Value}, a.block < W.heap.size → V.cell? a = some v → V'.cell? a = some v := fun {a v} ha hv => (hb.cell (p := a) (by omega)).trans hv
  exact ⟨k h0 c0, k h1 c1, k h2 c2, k h3 c3, k h4 c4, k h5 c5, below_on cb (Nat.le_refl _) hb⟩
theorem below_sz {W wo w6 : World} (h : Below W.drew.heap.size W.drew wo) (h' : Below wo.heap.size wo w6) : W.heap.size ≤ w6.heap.size := Nat.le_trans (by have := h.size; simpa using this) h'.size
theorem hl6T {W V : World} {a0 a1 a2 a3 a4 a5 : Addr} {v0 v1 v2 v3 v4 v5 : Value} {o o' : Obj} (hh : a0.block < W.heap.size ∧ a1.block < W.heap.size ∧ a2.block < W.heap.size ∧ a3.block < W.heap.size ∧ a4.block < W.heap.size ∧ a5.block < W.heap.size) (hz : W.heap.size ≤ V.heap.size) (hs : (V.alloc o).cell? a0 = some v0 ∧ (V.alloc o).cell? a1 = some v1 ∧ (V.alloc o).cell? a2 = some v2 ∧ (V.alloc o).cell? a3 = some v3 ∧ (V.alloc o).cell? a4 = some v4 ∧ (V.alloc o).cell? a5 = some v5 ∧ Below W.heap.size W (V.alloc o)) :
    (V.alloc o').cell? a0 = some v0 ∧ (V.alloc o').cell? a1 = some v1 ∧ (V.alloc o').cell? a2 = some v2 ∧ (V.alloc o').cell? a3 = some v3 ∧ (V.alloc o').cell? a4 = some v4 ∧ (V.alloc o').cell? a5 = some v5 ∧ Below W.heap.size W (V.alloc o') := by
  obtain ⟨k0, k1, k2, k3, k4, k5⟩ := hh
  obtain ⟨c0, c1, c2, c3, c4, c5, h6⟩ := hs
  have k : ∀ {a : Addr} {v : Value}, a.block < W.heap.size → (V.alloc o).cell? a = some v → (V.alloc o').cell? a = some v := fun {a v} ha hv => by
    rw [World.cell?_alloc_lt V o' a (by omega), ← World.cell?_alloc_lt V o a (by omega)]
    exact hv
  exact ⟨k k0 c0, k k1 c1, k k2 c2, k k3 c3, k k4 c4, k k5 c5, ⟨h6.os, h6.tape, h6.output, by rw [World.size_alloc]; omega, fun i hi => (Below.heap_alloc V o' i (by omega)).trans ((Below.heap_alloc V o i (by omega)).symm.trans (h6.block i hi))⟩⟩
theorem hl6C {W V : World} {a0 a1 a2 a3 a4 a5 p : Addr} {v0 v1 v2 v3 v4 v5 u : Value} (hh : a0.block < W.heap.size ∧ a1.block < W.heap.size ∧ a2.block < W.heap.size ∧ a3.block < W.heap.size ∧ a4.block < W.heap.size ∧ a5.block < W.heap.size) (hp : W.heap.size ≤ p.block) (hs : V.cell? a0 = some v0 ∧ V.cell? a1 = some v1 ∧ V.cell? a2 = some v2 ∧ V.cell? a3 = some v3 ∧ V.cell? a4 = some v4 ∧ V.cell? a5 = some v5 ∧ Below W.heap.size W V) :
    (V.setCell p u).cell? a0 = some v0 ∧ (V.setCell p u).cell? a1 = some v1 ∧ (V.setCell p u).cell? a2 = some v2 ∧ (V.setCell p u).cell? a3 = some v3 ∧ (V.setCell p u).cell? a4 = some v4 ∧ (V.setCell p u).cell? a5 = some v5 ∧ Below W.heap.size W (V.setCell p u) := by
  obtain ⟨k0, k1, k2, k3, k4, k5⟩ := hh
  obtain ⟨c0, c1, c2, c3, c4, c5, h6⟩ := hs
  have k : ∀ {a : Addr} {v : Value}, a.block < W.heap.size → V.cell? a = some v → (V.setCell p u).cell? a = some v := fun {a v} ha hv => by
    rw [World.cell?_setCell_other _ _ _ _ (fun e => by subst e; omega)]
    exact hv
  exact ⟨k k0 c0, k k1 c1, k k2 c2, k k3 c3, k k4 c4, k k5 c5, h6.setCell hp u⟩
def HB3 (p : Plan) (f t : Pt) (A : Option Addr) (n c : Nat) (A' : Option Addr) (n' c' : Nat) (w W : World) : Prop := Below w.heap.size w W ∧ PlK W w.heap.size A n c A' n' c' ∧ PtK W (w.heap.size + 1) f ∧ PtK W (w.heap.size + 1 + 1) t ∧ PlanAt W W.heap.size A n c A' n' c' p
theorem HB3.on {p : Plan} {f t : Pt} {A A' : Option Addr} {n c n' c' : Nat} {w W W' : World} (h : HB3 p f t A n c A' n' c' w W) (hb : Below W.heap.size W W') : HB3 p f t A n c A' n' c' w W' :=
  ⟨below_on h.1 (Nat.le_refl _) hb, h.2.1.on hb, Blk.below h.2.2.1 hb (Blk.lt h.2.2.1), Blk.below h.2.2.2.1 hb (Blk.lt h.2.2.2.1), h.2.2.2.2.on hb⟩
theorem hld4T {W V : World} {a0 a1 a2 a3 : Addr} {v0 v1 v2 v3 : Value} {o o' : Obj} (hh : a0.block < W.heap.size ∧ a1.block < W.heap.size ∧ a2.block < W.heap.size ∧ a3.block < W.heap.size) (hz : W.heap.size ≤ V.heap.size) (hs : (V.alloc o).cell? a0 = some v0 ∧ (V.alloc o).cell? a1 = some v1 ∧ (V.alloc o).cell? a2 = some v2 ∧ (V.alloc o).cell? a3 = some v3 ∧ Below W.heap.size W (V.alloc o)) :
    (V.alloc o').cell? a0 = some v0 ∧ (V.alloc o').cell? a1 = some v1 ∧ (V.alloc o').cell? a2 = some v2 ∧ (V.alloc o').cell? a3 = some v3 ∧ Below W.heap.size W (V.alloc o') := by
  obtain ⟨k0, k1, k2, k3⟩ := hh
  obtain ⟨c0, c1, c2, c3, h6⟩ := hs
  have k : ∀ {a : Addr} {v : Value}, a.block < W.heap.size → (V.alloc o).cell? a = some v → (V.alloc o').cell? a = some v := fun {a v} ha hv => by
    rw [World.cell?_alloc_lt V o' a (by omega), ← World.cell?_alloc_lt V o a (by omega)]
    exact hv
  exact ⟨k k0 c0, k k1 c1, k k2 c2, k k3 c3, ⟨h6.os, h6.tape, h6.output, by rw [World.size_alloc]; omega, fun i hi => (Below.heap_alloc V o' i (by omega)).trans ((Below.heap_alloc V o i (by omega)).symm.trans (h6.block i hi))⟩⟩
theorem hld4C {W V : World} {a0 a1 a2 a3 p : Addr} {v0 v1 v2 v3 u : Value} (hh : a0.block < W.heap.size ∧ a1.block < W.heap.size ∧ a2.block < W.heap.size ∧ a3.block < W.heap.size) (hp : W.heap.size ≤ p.block) (hs : V.cell? a0 = some v0 ∧ V.cell? a1 = some v1 ∧ V.cell? a2 = some v2 ∧ V.cell? a3 = some v3 ∧ Below W.heap.size W V) :
    (V.setCell p u).cell? a0 = some v0 ∧ (V.setCell p u).cell? a1 = some v1 ∧ (V.setCell p u).cell? a2 = some v2 ∧ (V.setCell p u).cell? a3 = some v3 ∧ Below W.heap.size W (V.setCell p u) := by
  obtain ⟨k0, k1, k2, k3⟩ := hh
  obtain ⟨c0, c1, c2, c3, h6⟩ := hs
  have k : ∀ {a : Addr} {v : Value}, a.block < W.heap.size → V.cell? a = some v → (V.setCell p u).cell? a = some v := fun {a v} ha hv => by
    rw [World.cell?_setCell_other _ _ _ _ (fun e => by subst e; omega)]
    exact hv
  exact ⟨k k0 c0, k k1 c1, k k2 c2, k k3 c3, h6.setCell hp u⟩
set_option maxRecDepth 100000 in
set_option maxHeartbeats 6400000 in
theorem bendBack_any (p : Plan) (f t : Pt) (A A' : Option Addr) (n c n' c' : Nat) (w : World) (h : PlanAt w w.heap.size A n c A' n' c' p) (hf : f.inI) (ht : t.inI) :
    Calls Tryz.prog 14 #[planV A n c A' n' c', .agg #[.int .i64 f.x, .int .i64 f.y], .agg #[.int .i64 t.x, .int .i64 t.y]] w fun e w' => e = .returned (.bool true) ∧ Below w.heap.size w w' := by
  obtain ⟨wa, hwa⟩ : ∃ wa : World, wa = ((w.alloc (.cells #[.slice A n c, .slice A' n' c'] 26)).alloc (.cells #[.int .i64 f.x, .int .i64 f.y] 43)).alloc (.cells #[.int .i64 t.x, .int .i64 t.y] 43) := ⟨_, rfl⟩
  have hF : HB3 p f t A n c A' n' c' w wa := by
    have hB0 : Below w.heap.size w wa := by rw [hwa]; exact (((Below.refl _ _).alloc (Nat.le_refl _) _).alloc (by simp) _).alloc (by simp; omega) _
    refine ⟨hB0, by rw [hwa]; exact Blk.alloc (Blk.alloc (PlK.new w A n c A' n' c') _) _, ?_, ?_, h.on hB0⟩
    · have := PtK.new (w.alloc (.cells #[.slice A n c, .slice A' n' c'] 26)) f
      rw [World.size_alloc] at this
      rw [hwa]
      exact Blk.alloc this _
    · have := PtK.new ((w.alloc (.cells #[.slice A n c, .slice A' n' c'] 26)).alloc (.cells #[.int .i64 f.x, .int .i64 f.y] 43)) t
      rw [World.size_alloc, World.size_alloc] at this
      rw [hwa]
      exact this
  have H0 := Lib.hid hF
  have HQ := Lib.hid (And.intro hf ht)
  clear hF h hf ht
  go_enter Tryz.func14, Tryz.ntmps14
  go_upto_region 1 with fail
  rw [← hwa]
  clear hwa
  go_wp2_with (go_at_call 30; (with_reducible refine (ans08_any _).mono ?_); rintro e w1 ⟨rfl, hb1⟩; have H1 := Lib.hid (H0.out.on hb1); obtain ⟨q1, q2, q3⟩ := H1.out.2.1.facts; clear hb1 H0)
  refine (few_any p A A' n c n' c' w1 H1.out.2.2.2.2).mono ?_
  rintro e w2 ⟨b, rfl, hsm, hb2⟩
  have H2 := Lib.hid (H1.out.on hb2)
  clear hb2 q1 q2 q3 H1
  rcases b with _ | _
  · clear hsm
    go_wp2_with fail
    refine (ans08_any _).mono ?_
    rintro e w3 ⟨rfl, hb3⟩
    have HB := Lib.hid (below_on H2.out.1 (Nat.le_refl _) hb3)
    clear hb3 H2
    go_wp2_with fail
    go_ret
    exact ⟨rfl, HB.out⟩
  have hn' : n' ≤ 1048576 := by have := (hsm rfl).1; omega
  have HN' := Lib.hid hn'
  clear hsm
  obtain ⟨W, hW⟩ : ∃ W, W = w2 := ⟨_, rfl⟩
  rw [← hW] at H2
  have kO := fun V (hV : Below W.heap.size W V) => ownPl_any p A A' n c n' c' V (H2.out.on hV).2.2.2.2 hn'
  have kM := fun A n c A' n' c' V hV => move_any p f t A A' n c n' c' V hV HQ.out.1 HQ.out.2
  obtain ⟨z, hz⟩ : ∃ z, z = moveE p f t := ⟨_, rfl⟩
  obtain ⟨R, hR⟩ : ∃ R, R = moveP p f t := ⟨_, rfl⟩
  rw [← hz, ← hR] at kM
  have HZ := Lib.hid (And.intro hz hR)
  clear hz hR
  obtain ⟨q1, q2, q3⟩ := H2.out.2.1.facts
  obtain ⟨r1, r2, -, -, -⟩ := PtK.facts H2.out.2.2.1
  obtain ⟨t1, t2, -, -, -⟩ := PtK.facts H2.out.2.2.2.1
  have hP0 : W.drew.cell? ⟨w.heap.size, 0, none⟩ = some (.slice A n c) ∧ W.drew.cell? ⟨w.heap.size, 1, none⟩ = some (.slice A' n' c') ∧ W.drew.cell? ⟨w.heap.size + 1, 0, none⟩ = some (.int .i64 f.x) ∧ W.drew.cell? ⟨w.heap.size + 1, 1, none⟩ = some (.int .i64 f.y) ∧ W.drew.cell? ⟨w.heap.size + 1 + 1, 0, none⟩ = some (.int .i64 t.x) ∧ W.drew.cell? ⟨w.heap.size + 1 + 1, 1, none⟩ = some (.int .i64 t.y) ∧ Below W.heap.size W W.drew := ⟨q1, q2, r1, r2, t1, t2, (Below.refl _ _).drew⟩
  have hh : (⟨w.heap.size, 0, none⟩ : Addr).block < W.heap.size ∧ (⟨w.heap.size, 1, none⟩ : Addr).block < W.heap.size ∧ (⟨w.heap.size + 1, 0, none⟩ : Addr).block < W.heap.size ∧ (⟨w.heap.size + 1, 1, none⟩ : Addr).block < W.heap.size ∧ (⟨w.heap.size + 1 + 1, 0, none⟩ : Addr).block < W.heap.size ∧ (⟨w.heap.size + 1 + 1, 1, none⟩ : Addr).block < W.heap.size := by have h1 := Blk.lt H2.out.2.2.1; have h2 := Blk.lt H2.out.2.2.2.1; exact ⟨q3, q3, h1, h1, h2, h2⟩
  have hfz : ∀ o, Below W.heap.size W (World.drew (W.alloc o)) := fun o => ((Below.refl _ _).alloc (Nat.le_refl _) o).drew
  clear q1 q2 q3 r1 r2 t1 t2 hn'
  go_upto_region 3 with fail
  rw [← hW]
  clear hW
  go_cut [7, 8] (fun s y wx => ∃ B5 : Nat, s = .pointer (some ⟨B5, 0, none⟩) ∧ y = .int .i64 z ∧ ∃ A5 n5 c5 A6 n6 c6, Below W.heap.size W wx ∧ PlK wx B5 A5 n5 c5 A6 n6 c6 ∧ PlanAt wx wx.heap.size A5 n5 c5 A6 n6 c6 R)
  case first =>
    refine wp_region_held_drew (S := fun V => V.cell? ⟨w.heap.size, 0, none⟩ = some (.slice A n c) ∧ V.cell? ⟨w.heap.size, 1, none⟩ = some (.slice A' n' c') ∧ V.cell? ⟨w.heap.size + 1, 0, none⟩ = some (.int .i64 f.x) ∧ V.cell? ⟨w.heap.size + 1, 1, none⟩ = some (.int .i64 f.y) ∧ V.cell? ⟨w.heap.size + 1 + 1, 0, none⟩ = some (.int .i64 t.x) ∧ V.cell? ⟨w.heap.size + 1 + 1, 1, none⟩ = some (.int .i64 t.y) ∧ Below W.heap.size W V) (by kernel_rfl) ?_ (fun hHeld => ?_)
    · exact hP0
    refine tk 0 ?_
    refine tk 2 ?_
    refine tk 3 ?_
    refine wpAnyH_ready (rs := [1, 8]) (by kernel_rfl) (by simp) ?_
    refine AllReadyH.cons rfl (fun K hK => ?_) (AllReadyH.cons rfl (fun K hK => ?_) AllReadyH.nil)
    · go_simp
      go_at_call 18
      (with_reducible refine (kO _ ((Below.refl _ _).drew)).mono ?_)
      rintro e wo ⟨A1, n1, c1, A2, n2, c2, rfl, hP1, hb'⟩
      try dsimp only
      refine hK.out _ _ ?_ (fun hHeld => ?_)
      · exact hld6 hh hP0 hb'
      clear hK K
      try simp only [Act.put, List.setIfInBounds_toArray, List.set_cons_zero, List.set_cons_succ]
      refine wpAnyH_ready (rs := [4, 8]) (by kernel_rfl) (by simp) ?_
      refine AllReadyH.cons rfl (fun K hK => ?_) (AllReadyH.cons rfl (fun K hK => ?_) AllReadyH.nil)
      · go_simp
        go_at_call 39
        (with_reducible refine (kM _ _ _ _ _ _ _ (hP1)).mono ?_)
        rintro e w6 ⟨A3, n3, c3, A4, n4, c4, hs, rfl, hpo, hb''⟩
        try dsimp only
        refine hK.out _ _ ?_ (fun hHeld => ?_)
        · exact hld6 hh hHeld hb''
        clear hK K
        try simp only [Act.put, List.setIfInBounds_toArray, List.set_cons_zero, List.set_cons_succ]
        refine tk 5 ?_
        refine tk 6 ?_
        refine tk 7 ?_
        refine wpAnyH_ready (rs := [8]) (by kernel_rfl) (by simp) ?_
        refine AllReadyH.cons rfl (fun K hK => ?_) AllReadyH.nil
        go_simp
        refine hK.out _ _ ?_ (fun hHeld => ?_)
        · exact hld6 hh hHeld ((Below.refl _ _).alloc (Nat.le_refl _) _)
        have hS1 := hHeld
        clear hK K
        try simp only [Act.put, List.setIfInBounds_toArray, List.set_cons_zero, List.set_cons_succ]
        refine wpAnyH_ready (rs := [9]) (by kernel_rfl) (by simp) ?_
        refine AllReadyH.cons rfl (fun K hK => ?_) AllReadyH.nil
        go_simp
        refine hK.out _ _ ?_ (fun hHeld => ?_)
        · exact hl6T hh (below_sz hb' hb'') hS1
        clear hK K
        try simp only [Act.put, List.setIfInBounds_toArray, List.set_cons_zero, List.set_cons_succ]
        refine tk 10 ?_
        refine wpAnyH_done (by kernel_rfl) ?_ _
        go_wp2_with fail
        go_meet
        exact ⟨_, rfl, rfl, A3, n3, c3, A4, n4, c4, hHeld.2.2.2.2.2.2, PlK.new w6 A3 n3 c3 A4 n4 c4, (hpo.below ((Below.refl _ _).alloc (Nat.le_refl _) _)).at_⟩
      · go_simp
        refine hK.out _ _ ?_ (fun hHeld => ?_)
        · exact hld6 hh hHeld ((Below.refl _ _).alloc (Nat.le_refl _) _)
        clear hK K
        try simp only [Act.put, List.setIfInBounds_toArray, List.set_cons_zero, List.set_cons_succ]
        refine wpAnyH_ready (rs := [4]) (by kernel_rfl) (by simp) ?_
        refine AllReadyH.cons rfl (fun K hK => ?_) AllReadyH.nil
        go_simp
        go_at_call 39
        (with_reducible refine (kM _ _ _ _ _ _ _ (hP1.on ((Below.refl _ _).alloc (Nat.le_refl _) _))).mono ?_)
        rintro e w6 ⟨A3, n3, c3, A4, n4, c4, hs, rfl, hpo, hb''⟩
        have hk6 := (PlK.new wo none 0 0 none 0 0).on hb''
        obtain ⟨g1, g2, f1, f2⟩ := plk_facts4 hk6
        try dsimp only
        refine hK.out _ _ ?_ (fun hHeld => ?_)
        · exact hld6 hh hHeld hb''
        have hS1 := hHeld
        clear hK K
        try simp only [Act.put, List.setIfInBounds_toArray, List.set_cons_zero, List.set_cons_succ]
        refine tk 5 ?_
        refine tk 6 ?_
        refine tk 7 ?_
        refine wpAnyH_ready (rs := [9]) (by kernel_rfl) (by simp) ?_
        refine AllReadyH.cons rfl (fun K hK => ?_) AllReadyH.nil
        go_simp
        refine hK.out _ _ ?_ (fun hHeld => ?_)
        · exact hl6C hh (by have := hb'.size; simpa using this) (hl6C hh (by have := hb'.size; simpa using this) hS1)
        clear hK K
        try simp only [Act.put, List.setIfInBounds_toArray, List.set_cons_zero, List.set_cons_succ]
        refine tk 10 ?_
        refine wpAnyH_done (by kernel_rfl) ?_ _
        go_wp2_with fail
        go_meet
        have hk8 := Blk.set_ (Blk.set_ hk6 0 (.slice A3 n3 c3)) 1 (.slice A4 n4 c4)
        exact ⟨_, rfl, rfl, A3, n3, c3, A4, n4, c4, hHeld.2.2.2.2.2.2, hk8, ((hpo.store hk6 (by decide) (by decide) 0 (.slice A3 n3 c3)).store (Blk.set_ hk6 0 (.slice A3 n3 c3)) (by decide) (by decide) 1 (.slice A4 n4 c4)).at_⟩
    · go_simp
      refine hK.out _ _ ?_ (fun hHeld => ?_)
      · exact hld6 hh hP0 (show Below W.drew.heap.size W.drew (World.drew (W.alloc _)) from (Below.refl W.drew.heap.size W.drew).alloc (Nat.le_refl _) _)
      clear hK K
      try simp only [Act.put, List.setIfInBounds_toArray, List.set_cons_zero, List.set_cons_succ]
      refine wpAnyH_ready (rs := [1]) (by kernel_rfl) (by simp) ?_
      refine AllReadyH.cons rfl (fun K hK => ?_) AllReadyH.nil
      go_simp
      go_at_call 18
      (with_reducible refine (kO _ (hfz _)).mono ?_)
      rintro e wo ⟨A1, n1, c1, A2, n2, c2, rfl, hP1, hb'⟩
      have hk5 : PlK wo W.heap.size none 0 0 none 0 0 := Blk.below (Blk.drew (PlK.new W none 0 0 none 0 0)) hb' (by simp)
      try dsimp only
      refine hK.out _ _ ?_ (fun hHeld => ?_)
      · exact hld6 hh hHeld hb'
      clear hK K
      try simp only [Act.put, List.setIfInBounds_toArray, List.set_cons_zero, List.set_cons_succ]
      refine wpAnyH_ready (rs := [4]) (by kernel_rfl) (by simp) ?_
      refine AllReadyH.cons rfl (fun K hK => ?_) AllReadyH.nil
      go_simp
      go_at_call 39
      (with_reducible refine (kM _ _ _ _ _ _ _ hP1).mono ?_)
      rintro e w6 ⟨A3, n3, c3, A4, n4, c4, hs, rfl, hpo, hb''⟩
      have hk6 := hk5.on hb''
      obtain ⟨g1, g2, f1, f2⟩ := plk_facts4 hk6
      try dsimp only
      refine hK.out _ _ ?_ (fun hHeld => ?_)
      · exact hld6 hh hHeld hb''
      have hS1 := hHeld
      clear hK K
      try simp only [Act.put, List.setIfInBounds_toArray, List.set_cons_zero, List.set_cons_succ]
      refine tk 5 ?_
      refine tk 6 ?_
      refine tk 7 ?_
      refine wpAnyH_ready (rs := [9]) (by kernel_rfl) (by simp) ?_
      refine AllReadyH.cons rfl (fun K hK => ?_) AllReadyH.nil
      go_simp
      refine hK.out _ _ ?_ (fun hHeld => ?_)
      · exact hl6C hh (Nat.le_refl _) (hl6C hh (Nat.le_refl _) hS1)
      clear hK K
      try simp only [Act.put, List.setIfInBounds_toArray, List.set_cons_zero, List.set_cons_succ]
      refine tk 10 ?_
      refine wpAnyH_done (by kernel_rfl) ?_ _
      go_wp2_with fail
      go_meet
      have hk8 := Blk.set_ (Blk.set_ hk6 0 (.slice A3 n3 c3)) 1 (.slice A4 n4 c4)
      exact ⟨_, rfl, rfl, A3, n3, c3, A4, n4, c4, hHeld.2.2.2.2.2.2, hk8, ((hpo.store hk6 (by decide) (by decide) 0 (.slice A3 n3 c3)).store (Blk.set_ hk6 0 (.slice A3 n3 c3)) (by decide) (by decide) 1 (.slice A4 n4 c4)).at_⟩
  case rest =>
    obtain ⟨B5, rfl, rfl, A5, n5, c5, A6, n6, c6, hbc, hK, hP⟩ := hcut
    have H5 := Lib.hid (And.intro (H2.out.on hbc) (And.intro hK hP))
    clear hbc hK hP kO kM hP0 hh hfz H2
    go_upto_if 32 with fail
    go_cut [] (fun wx => HB3 p f t A n c A' n' c' w wx)
    case first =>
      by_cases hz : z = 0
      · have hmb := move_back (by rw [← HZ.out.1]; exact hz : moveE p f t = 0)
        rw [← HZ.out.2] at hmb
        have kM2 := Lib.hid ((move_any R t f A5 A6 n5 c5 n6 c6 wc H5.out.2.2 HQ.out.2 HQ.out.1).mono (fun _ _ h => ResPostS.weak h))
        rw [hmb.1, hmb.2] at kM2
        subst hz
        obtain ⟨q1, q2, q3⟩ := H5.out.2.1.facts
        obtain ⟨r1, r2, -, -, -⟩ := PtK.facts H5.out.1.2.2.1
        obtain ⟨t1, t2, -, -, -⟩ := PtK.facts H5.out.1.2.2.2.1
        clear hmb
        go_wp2_with fail
        refine kM2.out.mono ?_
        rintro e w7 ⟨A7, n7, c7, A8, n8, c8, rfl, hP7, hb7⟩
        have hba : Below w7.heap.size w7 (w7.alloc (.cells #[.slice A7 n7 c7, .slice A8 n8 c8] 26)) := (Below.refl _ _).alloc (Nat.le_refl _) _
        have hK7 := PlK.new w7 A7 n7 c7 A8 n8 c8
        have H7 := Lib.hid (And.intro ((H5.out.1.on hb7).on hba) (And.intro hK7 (hP7.on hba)))
        obtain ⟨x1, x2, -⟩ := H7.out.1.2.1.facts
        obtain ⟨y1, y2, -⟩ := H7.out.2.1.facts
        have kS := samePl_any p p A7 A8 A A' n7 c7 n8 c8 n c n' c' _ H7.out.2.2 H7.out.1.2.2.2.2
        rw [plEq_self] at kS
        have KS := Lib.hid kS
        clear hba hK7 hP7 hb7 kS H5 kM2 q1 q2 q3 r1 r2 t1 t2
        go_wp2_with fail
        refine KS.out.mono ?_
        rintro e w8 ⟨rfl, hb8⟩
        have HB := Lib.hid (H7.out.1.on hb8)
        clear hb8 H7 KS x1 x2 y1 y2
        go_wp2_with fail
        go_meet
        exact HB.out
      · have hzb : (z == 0) = false := by simpa using hz
        have HB := Lib.hid H5.out.1
        clear H5
        go_wp2_with fail
        go_meet
        exact HB.out
    case rest =>
      obtain ⟨W, hW⟩ : ∃ W, W = wc := ⟨_, rfl⟩
      have H2 : Hid (HB3 p f t A n c A' n' c' w W) := by rw [hW]; exact hcut
      clear H5 hcut HZ
      have kO := fun V (hV : Below W.heap.size W V) => ownPl_any p A A' n c n' c' V (H2.out.on hV).2.2.2.2 HN'.out
      have kM := fun A n c A' n' c' V hV => mark_any p t A A' n c n' c' V hV HQ.out.2
      obtain ⟨z, hz⟩ : ∃ z, z = markE p t := ⟨_, rfl⟩
      obtain ⟨R, hR⟩ : ∃ R, R = markP p t := ⟨_, rfl⟩
      rw [← hz, ← hR] at kM
      have HZ := Lib.hid (And.intro hz hR)
      clear hz hR
      obtain ⟨q1, q2, q3⟩ := H2.out.2.1.facts
      obtain ⟨r1, r2, -, -, -⟩ := PtK.facts H2.out.2.2.2.1
      have hP0 : W.drew.cell? ⟨w.heap.size, 0, none⟩ = some (.slice A n c) ∧ W.drew.cell? ⟨w.heap.size, 1, none⟩ = some (.slice A' n' c') ∧ W.drew.cell? ⟨w.heap.size + 1 + 1, 0, none⟩ = some (.int .i64 t.x) ∧ W.drew.cell? ⟨w.heap.size + 1 + 1, 1, none⟩ = some (.int .i64 t.y) ∧ Below W.heap.size W W.drew := ⟨q1, q2, r1, r2, (Below.refl _ _).drew⟩
      have hh : (⟨w.heap.size, 0, none⟩ : Addr).block < W.heap.size ∧ (⟨w.heap.size, 1, none⟩ : Addr).block < W.heap.size ∧ (⟨w.heap.size + 1 + 1, 0, none⟩ : Addr).block < W.heap.size ∧ (⟨w.heap.size + 1 + 1, 1, none⟩ : Addr).block < W.heap.size := by have h1 := Blk.lt H2.out.2.2.2.1; exact ⟨q3, q3, h1, h1⟩
      have hfz : ∀ o, Below W.heap.size W (World.drew (W.alloc o)) := fun o => ((Below.refl _ _).alloc (Nat.le_refl _) o).drew
      clear q1 q2 q3 r1 r2
      go_upto_region 8 with fail
      rw [← hW]
      clear hW
      go_cut [11, 12] (fun s y wx => ∃ B5 : Nat, s = .pointer (some ⟨B5, 0, none⟩) ∧ y = .int .i64 z ∧ ∃ A5 n5 c5 A6 n6 c6, Below W.heap.size W wx ∧ PlK wx B5 A5 n5 c5 A6 n6 c6 ∧ PlanAt wx wx.heap.size A5 n5 c5 A6 n6 c6 R)
      case first =>
        refine wp_region_held_drew (S := fun V => V.cell? ⟨w.heap.size, 0, none⟩ = some (.slice A n c) ∧ V.cell? ⟨w.heap.size, 1, none⟩ = some (.slice A' n' c') ∧ V.cell? ⟨w.heap.size + 1 + 1, 0, none⟩ = some (.int .i64 t.x) ∧ V.cell? ⟨w.heap.size + 1 + 1, 1, none⟩ = some (.int .i64 t.y) ∧ Below W.heap.size W V) (by kernel_rfl) ?_ (fun hHeld => ?_)
        · exact hP0
        refine tk 0 ?_
        refine tk 2 ?_
        refine wpAnyH_ready (rs := [1, 7]) (by kernel_rfl) (by simp) ?_
        refine AllReadyH.cons rfl (fun K hK => ?_) (AllReadyH.cons rfl (fun K hK => ?_) AllReadyH.nil)
        · go_simp
          go_at_call 18
          (with_reducible refine (kO _ ((Below.refl _ _).drew)).mono ?_)
          rintro e wo ⟨A1, n1, c1, A2, n2, c2, rfl, hP1, hb'⟩
          try dsimp only
          refine hK.out _ _ ?_ (fun hHeld => ?_)
          · exact hld4 hh hP0 hb'
          clear hK K
          try simp only [Act.put, List.setIfInBounds_toArray, List.set_cons_zero, List.set_cons_succ]
          refine wpAnyH_ready (rs := [3, 7]) (by kernel_rfl) (by simp) ?_
          refine AllReadyH.cons rfl (fun K hK => ?_) (AllReadyH.cons rfl (fun K hK => ?_) AllReadyH.nil)
          · go_simp
            go_at_call 32
            (with_reducible refine (kM _ _ _ _ _ _ _ (hP1)).mono ?_)
            rintro e w6 ⟨A3, n3, c3, A4, n4, c4, hs, rfl, hpo, hb''⟩
            try dsimp only
            refine hK.out _ _ ?_ (fun hHeld => ?_)
            · exact hld4 hh hHeld hb''
            clear hK K
            try simp only [Act.put, List.setIfInBounds_toArray, List.set_cons_zero, List.set_cons_succ]
            refine tk 4 ?_
            refine tk 5 ?_
            refine tk 6 ?_
            refine wpAnyH_ready (rs := [7]) (by kernel_rfl) (by simp) ?_
            refine AllReadyH.cons rfl (fun K hK => ?_) AllReadyH.nil
            go_simp
            refine hK.out _ _ ?_ (fun hHeld => ?_)
            · exact hld4 hh hHeld ((Below.refl _ _).alloc (Nat.le_refl _) _)
            have hS1 := hHeld
            clear hK K
            try simp only [Act.put, List.setIfInBounds_toArray, List.set_cons_zero, List.set_cons_succ]
            refine wpAnyH_ready (rs := [8]) (by kernel_rfl) (by simp) ?_
            refine AllReadyH.cons rfl (fun K hK => ?_) AllReadyH.nil
            go_simp
            refine hK.out _ _ ?_ (fun hHeld => ?_)
            · exact hld4T hh (below_sz hb' hb'') hS1
            clear hK K
            try simp only [Act.put, List.setIfInBounds_toArray, List.set_cons_zero, List.set_cons_succ]
            refine tk 9 ?_
            refine wpAnyH_done (by kernel_rfl) ?_ _
            go_wp2_with fail
            go_meet
            exact ⟨_, rfl, rfl, A3, n3, c3, A4, n4, c4, hHeld.2.2.2.2, PlK.new w6 A3 n3 c3 A4 n4 c4, (hpo.below ((Below.refl _ _).alloc (Nat.le_refl _) _)).at_⟩
          · go_simp
            refine hK.out _ _ ?_ (fun hHeld => ?_)
            · exact hld4 hh hHeld ((Below.refl _ _).alloc (Nat.le_refl _) _)
            clear hK K
            try simp only [Act.put, List.setIfInBounds_toArray, List.set_cons_zero, List.set_cons_succ]
            refine wpAnyH_ready (rs := [3]) (by kernel_rfl) (by simp) ?_
            refine AllReadyH.cons rfl (fun K hK => ?_) AllReadyH.nil
            go_simp
            go_at_call 32
            (with_reducible refine (kM _ _ _ _ _ _ _ (hP1.on ((Below.refl _ _).alloc (Nat.le_refl _) _))).mono ?_)
            rintro e w6 ⟨A3, n3, c3, A4, n4, c4, hs, rfl, hpo, hb''⟩
            have hk6 := (PlK.new wo none 0 0 none 0 0).on hb''
            obtain ⟨g1, g2, f1, f2⟩ := plk_facts4 hk6
            try dsimp only
            refine hK.out _ _ ?_ (fun hHeld => ?_)
            · exact hld4 hh hHeld hb''
            have hS1 := hHeld
            clear hK K
            try simp only [Act.put, List.setIfInBounds_toArray, List.set_cons_zero, List.set_cons_succ]
            refine tk 4 ?_
            refine tk 5 ?_
            refine tk 6 ?_
            refine wpAnyH_ready (rs := [8]) (by kernel_rfl) (by simp) ?_
            refine AllReadyH.cons rfl (fun K hK => ?_) AllReadyH.nil
            go_simp
            refine hK.out _ _ ?_ (fun hHeld => ?_)
            · exact hld4C hh (by have := hb'.size; simpa using this) (hld4C hh (by have := hb'.size; simpa using this) hS1)
            clear hK K
            try simp only [Act.put, List.setIfInBounds_toArray, List.set_cons_zero, List.set_cons_succ]
            refine tk 9 ?_
            refine wpAnyH_done (by kernel_rfl) ?_ _
            go_wp2_with fail
            go_meet
            have hk8 := Blk.set_ (Blk.set_ hk6 0 (.slice A3 n3 c3)) 1 (.slice A4 n4 c4)
            exact ⟨_, rfl, rfl, A3, n3, c3, A4, n4, c4, hHeld.2.2.2.2, hk8, ((hpo.store hk6 (by decide) (by decide) 0 (.slice A3 n3 c3)).store (Blk.set_ hk6 0 (.slice A3 n3 c3)) (by decide) (by decide) 1 (.slice A4 n4 c4)).at_⟩
        · go_simp
          refine hK.out _ _ ?_ (fun hHeld => ?_)
          · exact hld4 hh hP0 (show Below W.drew.heap.size W.drew (World.drew (W.alloc _)) from (Below.refl W.drew.heap.size W.drew).alloc (Nat.le_refl _) _)
          clear hK K
          try simp only [Act.put, List.setIfInBounds_toArray, List.set_cons_zero, List.set_cons_succ]
          refine wpAnyH_ready (rs := [1]) (by kernel_rfl) (by simp) ?_
          refine AllReadyH.cons rfl (fun K hK => ?_) AllReadyH.nil
          go_simp
          go_at_call 18
          (with_reducible refine (kO _ (hfz _)).mono ?_)
          rintro e wo ⟨A1, n1, c1, A2, n2, c2, rfl, hP1, hb'⟩
          have hk5 : PlK wo W.heap.size none 0 0 none 0 0 := Blk.below (Blk.drew (PlK.new W none 0 0 none 0 0)) hb' (by simp)
          try dsimp only
          refine hK.out _ _ ?_ (fun hHeld => ?_)
          · exact hld4 hh hHeld hb'
          clear hK K
          try simp only [Act.put, List.setIfInBounds_toArray, List.set_cons_zero, List.set_cons_succ]
          refine wpAnyH_ready (rs := [3]) (by kernel_rfl) (by simp) ?_
          refine AllReadyH.cons rfl (fun K hK => ?_) AllReadyH.nil
          go_simp
          go_at_call 32
          (with_reducible refine (kM _ _ _ _ _ _ _ hP1).mono ?_)
          rintro e w6 ⟨A3, n3, c3, A4, n4, c4, hs, rfl, hpo, hb''⟩
          have hk6 := hk5.on hb''
          obtain ⟨g1, g2, f1, f2⟩ := plk_facts4 hk6
          try dsimp only
          refine hK.out _ _ ?_ (fun hHeld => ?_)
          · exact hld4 hh hHeld hb''
          have hS1 := hHeld
          clear hK K
          try simp only [Act.put, List.setIfInBounds_toArray, List.set_cons_zero, List.set_cons_succ]
          refine tk 4 ?_
          refine tk 5 ?_
          refine tk 6 ?_
          refine wpAnyH_ready (rs := [8]) (by kernel_rfl) (by simp) ?_
          refine AllReadyH.cons rfl (fun K hK => ?_) AllReadyH.nil
          go_simp
          refine hK.out _ _ ?_ (fun hHeld => ?_)
          · exact hld4C hh (Nat.le_refl _) (hld4C hh (Nat.le_refl _) hS1)
          clear hK K
          try simp only [Act.put, List.setIfInBounds_toArray, List.set_cons_zero, List.set_cons_succ]
          refine tk 9 ?_
          refine wpAnyH_done (by kernel_rfl) ?_ _
          go_wp2_with fail
          go_meet
          have hk8 := Blk.set_ (Blk.set_ hk6 0 (.slice A3 n3 c3)) 1 (.slice A4 n4 c4)
          exact ⟨_, rfl, rfl, A3, n3, c3, A4, n4, c4, hHeld.2.2.2.2, hk8, ((hpo.store hk6 (by decide) (by decide) 0 (.slice A3 n3 c3)).store (Blk.set_ hk6 0 (.slice A3 n3 c3)) (by decide) (by decide) 1 (.slice A4 n4 c4)).at_⟩
      case rest =>
        obtain ⟨B5, rfl, rfl, A5, n5, c5, A6, n6, c6, hbc, hK, hP⟩ := hcut
        have H5 := Lib.hid (And.intro (H2.out.on hbc) (And.intro hK hP))
        clear hbc hK hP kO kM hP0 hh hfz H2
        by_cases hz : z = 0
        case neg =>
          have hzb : (z == 0) = false := by simpa using hz
          have HB := Lib.hid H5.out.1.1
          clear H5
          go_wp2_with fail
          go_ret
          exact ⟨rfl, HB.out⟩
        case pos =>
          have hmb := mark_back (by rw [← HZ.out.1]; exact hz : markE p t = 0)
          rw [← HZ.out.2] at hmb
          have kC := Lib.hid ((clear_any R t A5 A6 n5 c5 n6 c6 wc H5.out.2.2 HQ.out.2).mono (fun _ _ h => ResPostS.weak h))
          rw [hmb.1, hmb.2] at kC
          subst hz
          obtain ⟨q1, q2, q3⟩ := H5.out.2.1.facts
          obtain ⟨t1, t2, -, -, -⟩ := PtK.facts H5.out.1.2.2.2.1
          clear hmb
          go_wp2_with fail
          refine kC.out.mono ?_
          rintro e w7 ⟨A7, n7, c7, A8, n8, c8, rfl, hP7, hb7⟩
          have hba : Below w7.heap.size w7 (w7.alloc (.cells #[.slice A7 n7 c7, .slice A8 n8 c8] 26)) := (Below.refl _ _).alloc (Nat.le_refl _) _
          have hK7 := PlK.new w7 A7 n7 c7 A8 n8 c8
          have H7 := Lib.hid (And.intro ((H5.out.1.on hb7).on hba) (And.intro hK7 (hP7.on hba)))
          obtain ⟨x1, x2, -⟩ := H7.out.1.2.1.facts
          obtain ⟨y1, y2, -⟩ := H7.out.2.1.facts
          have kS := samePl_any p p A7 A8 A A' n7 c7 n8 c8 n c n' c' _ H7.out.2.2 H7.out.1.2.2.2.2
          rw [plEq_self] at kS
          have KS := Lib.hid kS
          clear hba hK7 hP7 hb7 kS H5 kC q1 q2 q3 t1 t2
          go_wp2_with fail
          refine KS.out.mono ?_
          rintro e w8 ⟨rfl, hb8⟩
          have HB := Lib.hid (below_on H7.out.1.1 (Nat.le_refl _) hb8)
          clear hb8 H7 KS x1 x2 y1 y2
          go_wp2_with fail
          go_ret
          exact ⟨by first | rfl | simp, HB.out⟩
end Go.Proofs.YtglnklfhgdjccaaGreat

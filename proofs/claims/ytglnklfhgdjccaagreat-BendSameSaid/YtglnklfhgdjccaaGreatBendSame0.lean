/- merestonelaw08.BendSame: the walk. -/
import Derived.Deep.DeepCutAuto
import Derived.Test.YtglnklfhgdjccaaGreatSameLaw
import Derived.Test.YtglnklfhgdjccaaGreatSideRR
import Derived.Test.YtglnklfhgdjccaaGreatCheckPR
import Derived.Test.YtglnklfhgdjccaaGreatAns08
import Derived.Test.YtglnklfhgdjccaaGreatFew
namespace Go.Proofs.YtglnklfhgdjccaaGreat
open Go.RowKit Go.Lib
theorem below_sz {W wo w6 : World} (h : Below W.drew.heap.size W.drew wo) (h' : Below wo.heap.size wo w6) : W.heap.size ≤ w6.heap.size := Nat.le_trans (by have := h.size; simpa using this) h'.size
theorem hld4T {W V : World} {a0 a1 a2 a3 : Addr} {v0 v1 v2 v3 : Value} {o o' : Obj} (hh : a0.block < W.heap.size ∧ a1.block < W.heap.size ∧ a2.block < W.heap.size ∧ a3.block < W.heap.size) (hz : W.heap.size ≤ V.heap.size) (hs : (V.alloc o).cell? a0 = some v0 ∧ (V.alloc o).cell? a1 = some v1 ∧ (V.alloc o).cell? a2 = some v2 ∧ (V.alloc o).cell? a3 = some v3 ∧ Below W.heap.size W (V.alloc o)) :
    (V.alloc o').cell? a0 = some v0 ∧ (V.alloc o').cell? a1 = some v1 ∧ (V.alloc o').cell? a2 = some v2 ∧ (V.alloc o').cell? a3 = some v3 ∧ Below W.heap.size W (V.alloc o') := by
  obtain ⟨k0, k1, k2, k3⟩ := hh
  obtain ⟨c0, c1, c2, c3, h6⟩ := hs
  have k : ∀ {a : Addr} {v : Value}, a.block < W.heap.size → (V.alloc o).cell? a = some v → (V.alloc o').cell? a = some v := fun {a v} ha hv => by
    rw [World.cell?_alloc_lt V o' a (by omega), ← World.cell?_alloc_lt V o a (by omega)]
    exact hv
  exact ⟨k k0 c0, k k1 c1, k k2 c2, k k3 c3, ⟨h6.os, h6.tape, h6.output, by rw [World.size_alloc]; omega, fun i hi => (Below.heap_alloc V o' i (by omega)).trans ((Below.heap_alloc V o i (by omega)).symm.trans (h6.block i hi))⟩⟩
theorem hld4C {W V : World} {a0 a1 a2 a3 p : Addr} {v0 v1 v2 v3 u : Value} (hh : a0.block < W.heap.size ∧ a1.block < W.heap.size ∧ a2.block < W.heap.size ∧ a3.block < W.heap.size) (hp : W.heap.size ≤ p.block) (hs : V.cell? a0 = some v0 ∧ V.cell? a1 = some v1 ∧ V.cell? a2 = some v2 ∧ V.cell? a3 = some v3 ∧ Below W.heap.size W V) :
    (V.setCell p u).cell? a0 = some v0 ∧ (V.setCell p u).cell? a1 = some v1 ∧ (V.setCell p u).cell? a2 = some v2 ∧ (V.setCell p u).cell? a3 = some v3 ∧ Below W.heap.size W (V.setCell p u) := by
  obtain ⟨k0, k1, k2, k3⟩ := hh
  obtain ⟨c0, c1, c2, c3, h6⟩ := hs
  have k : ∀ {a : Addr} {v : Value}, a.block < W.heap.size → V.cell? a = some v → (V.setCell p u).cell? a = some v := fun {a v} ha hv => by
    rw [World.cell?_setCell_other _ _ _ _ (fun e => by subst e; omega)]
    exact hv
  exact ⟨k k0 c0, k k1 c1, k k2 c2, k k3 c3, h6.setCell hp u⟩
theorem hldS12 {W V V' : World} {a0 a1 a2 a3 a4 a5 a6 a7 a8 a9 a10 a11 : Addr} {v0 v1 v2 v3 v4 v5 v6 v7 v8 v9 v10 v11 : Value} (hh : a0.block < W.heap.size ∧ a1.block < W.heap.size ∧ a2.block < W.heap.size ∧ a3.block < W.heap.size ∧ a4.block < W.heap.size ∧ a5.block < W.heap.size ∧ a6.block < W.heap.size ∧ a7.block < W.heap.size ∧ a8.block < W.heap.size ∧ a9.block < W.heap.size ∧ a10.block < W.heap.size ∧ a11.block < W.heap.size) (hs : V.cell? a0 = some v0 ∧ V.cell? a1 = some v1 ∧ V.cell? a2 = some v2 ∧ V.cell? a3 = some v3 ∧ V.cell? a4 = some v4 ∧ V.cell? a5 = some v5 ∧ V.cell? a6 = some v6 ∧ V.cell? a7 = some v7 ∧ V.cell? a8 = some v8 ∧ V.cell? a9 = some v9 ∧ V.cell? a10 = some v10 ∧ V.cell? a11 = some v11 ∧ Below W.heap.size W V) (hb : Below V.heap.size V V') :
    V'.cell? a0 = some v0 ∧ V'.cell? a1 = some v1 ∧ V'.cell? a2 = some v2 ∧ V'.cell? a3 = some v3 ∧ V'.cell? a4 = some v4 ∧ V'.cell? a5 = some v5 ∧ V'.cell? a6 = some v6 ∧ V'.cell? a7 = some v7 ∧ V'.cell? a8 = some v8 ∧ V'.cell? a9 = some v9 ∧ V'.cell? a10 = some v10 ∧ V'.cell? a11 = some v11 ∧ Below W.heap.size W V' := by
  obtain ⟨h0, h1, h2, h3, h4, h5, h6, h7, h8, h9, h10, h11⟩ := hh
  obtain ⟨c0, c1, c2, c3, c4, c5, c6, c7, c8, c9, c10, c11, cb⟩ := hs
  have := cb.size
  have k : ∀ {a : Addr} {v : Value}, a.block < W.heap.size → V.cell? a = some v → V'.cell? a = some v := fun {a v} ha hv => (hb.cell (p := a) (by omega)).trans hv
  exact ⟨k h0 c0, k h1 c1, k h2 c2, k h3 c3, k h4 c4, k h5 c5, k h6 c6, k h7 c7, k h8 c8, k h9 c9, k h10 c10, k h11 c11, below_on cb (Nat.le_refl _) hb⟩

theorem neqI_runs (a b : Int) (w : World) : Sem.run Tryz.prog (binOp .neq 66 (.agg #[.int .i64 a, .int .u64 b]) (.agg #[.int .i64 a, .int .u64 b])) w = .ok (.bool false) w := by
  have u3 := Tryz.underlying2
  have a3 := Tryz.isAgg2
  have z3 := Tryz.sizeOf2
  have u4 := Tryz.underlying64
  have a4 := Tryz.isAgg64
  have z4 := Tryz.sizeOf64
  have hS : Tryz.prog.underlying 66 = some (.struct (Tryz.prog.fieldsOf 66)) := by kernel_rfl
  have hp : Tryz.prog.stoodInHeld 66 = false := by kernel_rfl
  rw [run_neq_struct, show (10000 : Nat) = 9999 + 1 from rfl, run_equalIn_agg w 9999 66 _ _ hS hp]
  simp only [Program.fieldsOf, Tryz.underlying66]
  go_simp
def HS3 (p : Plan) (q r : Pt) (A : Option Addr) (n c : Nat) (A' : Option Addr) (n' c' : Nat) (w W : World) : Prop := Below w.heap.size w W ∧ PlK W w.heap.size A n c A' n' c' ∧ PtK W (w.heap.size + 1) q ∧ PtK W (w.heap.size + 1 + 1) r ∧ PlanAt W w.heap.size A n c A' n' c' p
theorem HS3.on {p : Plan} {q r : Pt} {A A' : Option Addr} {n c n' c' : Nat} {w W W' : World} (h : HS3 p q r A n c A' n' c' w W) (hb : Below W.heap.size W W') : HS3 p q r A n c A' n' c' w W' :=
  ⟨below_on h.1 (Nat.le_refl _) hb, h.2.1.on hb, Blk.below h.2.2.1 hb (Blk.lt h.2.2.1), Blk.below h.2.2.2.1 hb (Blk.lt h.2.2.2.1), h.2.2.2.2.below (hb.mono h.1.size)⟩
theorem HS3.far {p : Plan} {q r : Pt} {A A' : Option Addr} {n c n' c' : Nat} {w W : World} (h : HS3 p q r A n c A' n' c' w W) {g : Addr} (hg : w.heap.size + 1 + 1 < g.block) (v : Value) : HS3 p q r A n c A' n' c' w (W.setCell g v) :=
  have hb := (Below.refl w.heap.size W).setCell (p := g) (by omega) v
  ⟨h.1.trans hb, Blk.far h.2.1 (by omega) _, Blk.far h.2.2.1 (by omega) _, Blk.far h.2.2.2.1 (by omega) _, h.2.2.2.2.below hb⟩
theorem keep4 {W V : World} {a0 a1 a2 a3 : Addr} {v0 v1 v2 v3 : Value} (hb : Below W.heap.size W V) (hh : a0.block < W.heap.size ∧ a1.block < W.heap.size ∧ a2.block < W.heap.size ∧ a3.block < W.heap.size) (hs : W.cell? a0 = some v0 ∧ W.cell? a1 = some v1 ∧ W.cell? a2 = some v2 ∧ W.cell? a3 = some v3) : V.cell? a0 = some v0 ∧ V.cell? a1 = some v1 ∧ V.cell? a2 = some v2 ∧ V.cell? a3 = some v3 :=
  ⟨(hb.cell hh.1).trans hs.1, (hb.cell hh.2.1).trans hs.2.1, (hb.cell hh.2.2.1).trans hs.2.2.1, (hb.cell hh.2.2.2).trans hs.2.2.2⟩
theorem lts4 {W V : World} {a0 a1 a2 a3 : Addr} (hb : Below W.heap.size W V) (hh : a0.block < W.heap.size ∧ a1.block < W.heap.size ∧ a2.block < W.heap.size ∧ a3.block < W.heap.size) : a0.block < V.heap.size ∧ a1.block < V.heap.size ∧ a2.block < V.heap.size ∧ a3.block < V.heap.size := by have := hb.size; omega
theorem far4 {W : World} {a0 a1 a2 a3 p : Addr} {v0 v1 v2 v3 u : Value} (hh : a0.block ≠ p.block ∧ a1.block ≠ p.block ∧ a2.block ≠ p.block ∧ a3.block ≠ p.block) (hs : W.cell? a0 = some v0 ∧ W.cell? a1 = some v1 ∧ W.cell? a2 = some v2 ∧ W.cell? a3 = some v3) : (W.setCell p u).cell? a0 = some v0 ∧ (W.setCell p u).cell? a1 = some v1 ∧ (W.setCell p u).cell? a2 = some v2 ∧ (W.setCell p u).cell? a3 = some v3 := by
  have k : ∀ {a : Addr} {v : Value}, a.block ≠ p.block → W.cell? a = some v → (W.setCell p u).cell? a = some v := fun {a v} ha hv => by
    rw [World.cell?_setCell_other _ _ _ _ (fun e => ha (by rw [e]))]
    exact hv
  exact ⟨k hh.1 hs.1, k hh.2.1 hs.2.1, k hh.2.2.1 hs.2.2.1, k hh.2.2.2 hs.2.2.2⟩
theorem markE_plan {p : Plan} {q : Pt} (h : markE p q = 0) : planB p = true := by
  unfold markE at h
  rcases h1 : planB p with _ | _
  · rw [h1] at h; cases h
  · rfl
theorem clearE_plan {p : Plan} {q : Pt} (h : clearE p q = 0) : planB p = true := by
  unfold clearE at h
  rcases h1 : planB p with _ | _
  · rw [h1] at h; cases h
  · rfl
set_option maxRecDepth 100000 in
set_option maxHeartbeats 6400000 in
theorem bendSame_any (p : Plan) (q r : Pt) (A A' : Option Addr) (n c n' c' : Nat) (w : World) (h : PlanAt w w.heap.size A n c A' n' c' p) (hq : q.inI) (hr : r.inI) :
    Calls Tryz.prog 13 #[planV A n c A' n' c', .agg #[.int .i64 q.x, .int .i64 q.y], .agg #[.int .i64 r.x, .int .i64 r.y]] w fun e w' => e = .returned (.bool true) ∧ Below w.heap.size w w' := by
  obtain ⟨wa, hwa⟩ : ∃ wa : World, wa = ((w.alloc (.cells #[.slice A n c, .slice A' n' c'] 26)).alloc (.cells #[.int .i64 q.x, .int .i64 q.y] 43)).alloc (.cells #[.int .i64 r.x, .int .i64 r.y] 43) := ⟨_, rfl⟩
  have hF : HS3 p q r A n c A' n' c' w wa := by
    have hB0 : Below w.heap.size w wa := by rw [hwa]; exact (((Below.refl _ _).alloc (Nat.le_refl _) _).alloc (by simp) _).alloc (by simp; omega) _
    refine ⟨hB0, by rw [hwa]; exact Blk.alloc (Blk.alloc (PlK.new w A n c A' n' c') _) _, ?_, ?_, h.below hB0⟩
    · have := PtK.new (w.alloc (.cells #[.slice A n c, .slice A' n' c'] 26)) q
      rw [World.size_alloc] at this
      rw [hwa]
      exact Blk.alloc this _
    · have := PtK.new ((w.alloc (.cells #[.slice A n c, .slice A' n' c'] 26)).alloc (.cells #[.int .i64 q.x, .int .i64 q.y] 43)) r
      rw [World.size_alloc, World.size_alloc] at this
      rw [hwa]
      exact this
  have H0 := Lib.hid hF
  have HQ := Lib.hid (And.intro hq hr)
  have HLN := Lib.hid h.lens
  have HFT := Lib.hid h.fits
  clear hF h hq hr
  go_enter Tryz.func13, Tryz.ntmps13
  go_upto_region 1 with fail
  rw [← hwa]
  clear hwa
  go_wp2_with (go_at_call 30; (with_reducible refine (ans08_any _).mono ?_); rintro e w1 ⟨rfl, hb1⟩; have H1 := Lib.hid (H0.out.on hb1); obtain ⟨q1, q2, q3⟩ := H1.out.2.1.facts; clear hb1 H0)
  refine (few_any p A A' n c n' c' w1 (H1.out.2.2.2.2.more H1.out.1.size)).mono ?_
  rintro e w2 ⟨b, rfl, hsm, hb2⟩
  have H2 := Lib.hid (H1.out.on hb2)
  clear hb2 q1 q2 q3 H1
  rcases b with _ | _
  · clear hsm
    go_wp2_with fail
    refine (ans08_any _).mono ?_
    rintro e w3 ⟨rfl, hb3⟩
    have HB := Lib.hid (below_on H2.out.1 (Nat.le_refl _) hb3)
    clear hb3 H2
    go_wp2_with fail
    go_ret
    exact ⟨rfl, HB.out⟩
  have hn' : n' ≤ 1048576 := by have := (hsm rfl).1; omega
  have HN' := Lib.hid hn'
  clear hsm hn'
  obtain ⟨r1, r2, -, -, -⟩ := PtK.facts H2.out.2.2.2.1
  have hba : Below w2.heap.size w2 (w2.alloc (.cells #[.int .i64 r.x, .int .i64 r.y] 43)) := (Below.refl _ _).alloc (Nat.le_refl _) _
  have KG := Lib.hid (goodR_any [r] (some ⟨w2.heap.size, 0, none⟩) 1 1 _ (Reads.made w2 #[.int .i64 r.x, .int .i64 r.y] 43 (0, 0) 2 1 (ptsV [r]) rfl rfl) (by omega) (fun r' hr => by rw [List.mem_singleton] at hr; rw [hr]; exact HQ.out.2))
  have H3 := Lib.hid (H2.out.on hba)
  clear hba H2
  go_wp2_with fail
  refine KG.out.mono ?_
  rintro e w3 ⟨rfl, hb3⟩
  have H2 := Lib.hid (H3.out.on hb3)
  clear hb3 H3 KG r1 r2
  rw [goodL_one']
  rcases hgr : good r with _ | _
  · go_wp2_with fail
    refine (ans08_any _).mono ?_
    rintro e w4 ⟨rfl, hb4⟩
    have HB := Lib.hid (below_on H2.out.1 (Nat.le_refl _) hb4)
    clear hb4 H2
    go_wp2_with fail
    go_ret
    exact ⟨rfl, HB.out⟩
  have HGR := Lib.hid hgr
  clear hgr
  obtain ⟨W, hW⟩ : ∃ W, W = w3 := ⟨_, rfl⟩
  rw [← hW] at H2
  have kO := fun V (hV : Below W.heap.size W V) => ownPl_any p A A' n c n' c' V ((H2.out.on hV).2.2.2.2.more (H2.out.on hV).1.size) HN'.out
  have kM := fun A n c A' n' c' V hV => mark_any p q A A' n c n' c' V hV HQ.out.1
  obtain ⟨z, hz⟩ : ∃ z, z = markE p q := ⟨_, rfl⟩
  obtain ⟨R, hR⟩ : ∃ R, R = markP p q := ⟨_, rfl⟩
  rw [← hz, ← hR] at kM
  have HZ := Lib.hid (And.intro hz hR)
  clear hz hR
  obtain ⟨q1, q2, q3⟩ := H2.out.2.1.facts
  obtain ⟨r1, r2, -, -, -⟩ := PtK.facts H2.out.2.2.1
  have hP0 : W.drew.cell? ⟨w.heap.size, 0, none⟩ = some (.slice A n c) ∧ W.drew.cell? ⟨w.heap.size, 1, none⟩ = some (.slice A' n' c') ∧ W.drew.cell? ⟨w.heap.size + 1, 0, none⟩ = some (.int .i64 q.x) ∧ W.drew.cell? ⟨w.heap.size + 1, 1, none⟩ = some (.int .i64 q.y) ∧ Below W.heap.size W W.drew := ⟨q1, q2, r1, r2, (Below.refl _ _).drew⟩
  have hh : (⟨w.heap.size, 0, none⟩ : Addr).block < W.heap.size ∧ (⟨w.heap.size, 1, none⟩ : Addr).block < W.heap.size ∧ (⟨w.heap.size + 1, 0, none⟩ : Addr).block < W.heap.size ∧ (⟨w.heap.size + 1, 1, none⟩ : Addr).block < W.heap.size := by have h1 := Blk.lt H2.out.2.2.1; exact ⟨q3, q3, h1, h1⟩
  have hfz : ∀ o, Below W.heap.size W (World.drew (W.alloc o)) := fun o => ((Below.refl _ _).alloc (Nat.le_refl _) o).drew
  clear q1 q2 q3 r1 r2
  go_upto_region 3 with fail
  rw [← hW]
  clear hW
  go_cut [7, 8] (fun s y wx => ∃ B5 : Nat, s = .pointer (some ⟨B5, 0, none⟩) ∧ y = .int .i64 z ∧ W.heap.size ≤ B5 ∧ ∃ A5 n5 c5 A6 n6 c6, Below W.heap.size W wx ∧ PlK wx B5 A5 n5 c5 A6 n6 c6 ∧ PlanAt wx wx.heap.size A5 n5 c5 A6 n6 c6 R)
  case first =>
    refine wp_region_held_drew (S := fun V => V.cell? ⟨w.heap.size, 0, none⟩ = some (.slice A n c) ∧ V.cell? ⟨w.heap.size, 1, none⟩ = some (.slice A' n' c') ∧ V.cell? ⟨w.heap.size + 1, 0, none⟩ = some (.int .i64 q.x) ∧ V.cell? ⟨w.heap.size + 1, 1, none⟩ = some (.int .i64 q.y) ∧ Below W.heap.size W V) (by kernel_rfl) ?_ (fun hHeld => ?_)
    · exact hP0
    refine tk 0 ?_
    refine tk 2 ?_
    refine wpAnyH_ready (rs := [1, 7]) (by kernel_rfl) (by simp) ?_
    refine AllReadyH.cons rfl (fun K hK => ?_) (AllReadyH.cons rfl (fun K hK => ?_) AllReadyH.nil)
    · go_simp
      go_at_call 18
      (with_reducible refine (kO _ ((Below.refl _ _).drew)).mono ?_)
      rintro e wo ⟨A1, n1, c1, A2, n2, c2, rfl, hP1, hb'⟩
      try dsimp only
      refine hK.out _ _ ?_ (fun hHeld => ?_)
      · exact hld4 hh hP0 hb'
      clear hK K
      try simp only [Act.put, List.setIfInBounds_toArray, List.set_cons_zero, List.set_cons_succ]
      refine wpAnyH_ready (rs := [3, 7]) (by kernel_rfl) (by simp) ?_
      refine AllReadyH.cons rfl (fun K hK => ?_) (AllReadyH.cons rfl (fun K hK => ?_) AllReadyH.nil)
      · go_simp
        go_at_call 32
        (with_reducible refine (kM _ _ _ _ _ _ _ (hP1)).mono ?_)
        rintro e w6 ⟨A3, n3, c3, A4, n4, c4, hs, rfl, hpo, hb''⟩
        try dsimp only
        refine hK.out _ _ ?_ (fun hHeld => ?_)
        · exact hld4 hh hHeld hb''
        clear hK K
        try simp only [Act.put, List.setIfInBounds_toArray, List.set_cons_zero, List.set_cons_succ]
        refine tk 4 ?_
        refine tk 5 ?_
        refine tk 6 ?_
        refine wpAnyH_ready (rs := [7]) (by kernel_rfl) (by simp) ?_
        refine AllReadyH.cons rfl (fun K hK => ?_) AllReadyH.nil
        go_simp
        refine hK.out _ _ ?_ (fun hHeld => ?_)
        · exact hld4 hh hHeld ((Below.refl _ _).alloc (Nat.le_refl _) _)
        have hS1 := hHeld
        clear hK K
        try simp only [Act.put, List.setIfInBounds_toArray, List.set_cons_zero, List.set_cons_succ]
        refine wpAnyH_ready (rs := [8]) (by kernel_rfl) (by simp) ?_
        refine AllReadyH.cons rfl (fun K hK => ?_) AllReadyH.nil
        go_simp
        refine hK.out _ _ ?_ (fun hHeld => ?_)
        · exact hld4T hh (below_sz hb' hb'') hS1
        clear hK K
        try simp only [Act.put, List.setIfInBounds_toArray, List.set_cons_zero, List.set_cons_succ]
        refine tk 9 ?_
        refine wpAnyH_done (by kernel_rfl) ?_ _
        go_wp2_with fail
        go_meet
        exact ⟨_, rfl, rfl, (by first | exact Nat.le_refl _ | (have h1 := hb'.size; have h2 := hb''.size; simp at h1 h2; omega)), A3, n3, c3, A4, n4, c4, hHeld.2.2.2.2, PlK.new w6 A3 n3 c3 A4 n4 c4, (hpo.below ((Below.refl _ _).alloc (Nat.le_refl _) _)).at_⟩
      · go_simp
        refine hK.out _ _ ?_ (fun hHeld => ?_)
        · exact hld4 hh hHeld ((Below.refl _ _).alloc (Nat.le_refl _) _)
        clear hK K
        try simp only [Act.put, List.setIfInBounds_toArray, List.set_cons_zero, List.set_cons_succ]
        refine wpAnyH_ready (rs := [3]) (by kernel_rfl) (by simp) ?_
        refine AllReadyH.cons rfl (fun K hK => ?_) AllReadyH.nil
        go_simp
        go_at_call 32
        (with_reducible refine (kM _ _ _ _ _ _ _ (hP1.on ((Below.refl _ _).alloc (Nat.le_refl _) _))).mono ?_)
        rintro e w6 ⟨A3, n3, c3, A4, n4, c4, hs, rfl, hpo, hb''⟩
        have hk6 := (PlK.new wo none 0 0 none 0 0).on hb''
        obtain ⟨g1, g2, f1, f2⟩ := plk_facts4 hk6
        try dsimp only
        refine hK.out _ _ ?_ (fun hHeld => ?_)
        · exact hld4 hh hHeld hb''
        have hS1 := hHeld
        clear hK K
        try simp only [Act.put, List.setIfInBounds_toArray, List.set_cons_zero, List.set_cons_succ]
        refine tk 4 ?_
        refine tk 5 ?_
        refine tk 6 ?_
        refine wpAnyH_ready (rs := [8]) (by kernel_rfl) (by simp) ?_
        refine AllReadyH.cons rfl (fun K hK => ?_) AllReadyH.nil
        go_simp
        refine hK.out _ _ ?_ (fun hHeld => ?_)
        · exact hld4C hh (by have := hb'.size; simpa using this) (hld4C hh (by have := hb'.size; simpa using this) hS1)
        clear hK K
        try simp only [Act.put, List.setIfInBounds_toArray, List.set_cons_zero, List.set_cons_succ]
        refine tk 9 ?_
        refine wpAnyH_done (by kernel_rfl) ?_ _
        go_wp2_with fail
        go_meet
        have hk8 := Blk.set_ (Blk.set_ hk6 0 (.slice A3 n3 c3)) 1 (.slice A4 n4 c4)
        exact ⟨_, rfl, rfl, (by first | exact Nat.le_refl _ | (have h1 := hb'.size; have h2 := hb''.size; simp at h1 h2; omega)), A3, n3, c3, A4, n4, c4, hHeld.2.2.2.2, hk8, ((hpo.store hk6 (by decide) (by decide) 0 (.slice A3 n3 c3)).store (Blk.set_ hk6 0 (.slice A3 n3 c3)) (by decide) (by decide) 1 (.slice A4 n4 c4)).at_⟩
    · go_simp
      refine hK.out _ _ ?_ (fun hHeld => ?_)
      · exact hld4 hh hP0 (show Below W.drew.heap.size W.drew (World.drew (W.alloc _)) from (Below.refl W.drew.heap.size W.drew).alloc (Nat.le_refl _) _)
      clear hK K
      try simp only [Act.put, List.setIfInBounds_toArray, List.set_cons_zero, List.set_cons_succ]
      refine wpAnyH_ready (rs := [1]) (by kernel_rfl) (by simp) ?_
      refine AllReadyH.cons rfl (fun K hK => ?_) AllReadyH.nil
      go_simp
      go_at_call 18
      (with_reducible refine (kO _ (hfz _)).mono ?_)
      rintro e wo ⟨A1, n1, c1, A2, n2, c2, rfl, hP1, hb'⟩
      have hk5 : PlK wo W.heap.size none 0 0 none 0 0 := Blk.below (Blk.drew (PlK.new W none 0 0 none 0 0)) hb' (by simp)
      try dsimp only
      refine hK.out _ _ ?_ (fun hHeld => ?_)
      · exact hld4 hh hHeld hb'
      clear hK K
      try simp only [Act.put, List.setIfInBounds_toArray, List.set_cons_zero, List.set_cons_succ]
      refine wpAnyH_ready (rs := [3]) (by kernel_rfl) (by simp) ?_
      refine AllReadyH.cons rfl (fun K hK => ?_) AllReadyH.nil
      go_simp
      go_at_call 32
      (with_reducible refine (kM _ _ _ _ _ _ _ hP1).mono ?_)
      rintro e w6 ⟨A3, n3, c3, A4, n4, c4, hs, rfl, hpo, hb''⟩
      have hk6 := hk5.on hb''
      obtain ⟨g1, g2, f1, f2⟩ := plk_facts4 hk6
      try dsimp only
      refine hK.out _ _ ?_ (fun hHeld => ?_)
      · exact hld4 hh hHeld hb''
      have hS1 := hHeld
      clear hK K
      try simp only [Act.put, List.setIfInBounds_toArray, List.set_cons_zero, List.set_cons_succ]
      refine tk 4 ?_
      refine tk 5 ?_
      refine tk 6 ?_
      refine wpAnyH_ready (rs := [8]) (by kernel_rfl) (by simp) ?_
      refine AllReadyH.cons rfl (fun K hK => ?_) AllReadyH.nil
      go_simp
      refine hK.out _ _ ?_ (fun hHeld => ?_)
      · exact hld4C hh (Nat.le_refl _) (hld4C hh (Nat.le_refl _) hS1)
      clear hK K
      try simp only [Act.put, List.setIfInBounds_toArray, List.set_cons_zero, List.set_cons_succ]
      refine tk 9 ?_
      refine wpAnyH_done (by kernel_rfl) ?_ _
      go_wp2_with fail
      go_meet
      have hk8 := Blk.set_ (Blk.set_ hk6 0 (.slice A3 n3 c3)) 1 (.slice A4 n4 c4)
      exact ⟨_, rfl, rfl, (by first | exact Nat.le_refl _ | (have h1 := hb'.size; have h2 := hb''.size; simp at h1 h2; omega)), A3, n3, c3, A4, n4, c4, hHeld.2.2.2.2, hk8, ((hpo.store hk6 (by decide) (by decide) 0 (.slice A3 n3 c3)).store (Blk.set_ hk6 0 (.slice A3 n3 c3)) (by decide) (by decide) 1 (.slice A4 n4 c4)).at_⟩
  case rest =>
    obtain ⟨B5, rfl, rfl, hB5, A5, n5, c5, A6, n6, c6, hbc, hK, hP⟩ := hcut
    have H5 := Lib.hid (And.intro (H2.out.on hbc) (And.intro hK hP))
    have hB5' : w.heap.size + 1 + 1 < B5 := by have := Blk.lt H2.out.2.2.2.1; omega
    have HB5 := Lib.hid hB5'
    clear hbc hK hP kO kM hP0 hh hfz H2 hB5 hB5'
    go_upto_if 36 with fail
    go_cut [8] (fun y wx => ∃ (z : Int) (R : Plan) (A5 : Option Addr) (n5 c5 : Nat) (A6 : Option Addr) (n6 c6 : Nat), y = .int .i64 z ∧ HS3 p q r A n c A' n' c' w wx ∧ PlK wx B5 A5 n5 c5 A6 n6 c6 ∧ PlanAt wx wx.heap.size A5 n5 c5 A6 n6 c6 R ∧ (z = 0 → planB p = true ∧ AlikePl p R))
    case first =>
      by_cases hz : z = 0
      · have hzb : (z != 0) = false := by simp [hz]
        have hme : markE p q = 0 := by rw [← HZ.out.1]; exact hz
        have HA := Lib.hid (And.intro (markE_plan hme) (mark_alike hme))
        have HZ0 := Lib.hid hz
        clear hme hz
        go_wp2_with fail
        go_meet
        exact ⟨z, R, A5, n5, c5, A6, n6, c6, rfl, H5.out.1, H5.out.2.1, H5.out.2.2, fun _ => ⟨HA.out.1, by rw [HZ.out.2]; exact HA.out.2⟩⟩
      · have hzb : (z != 0) = true := by simp [hz]
        clear hz
        have kO := fun V (hV : Below wc.heap.size wc V) => ownPl_any p A A' n c n' c' V ((H5.out.1.on hV).2.2.2.2.more (H5.out.1.on hV).1.size) HN'.out
        have kC := fun A n c A' n' c' V hV => clear_any p q A A' n c n' c' V hV HQ.out.1
        obtain ⟨z2, hz2⟩ : ∃ z2, z2 = clearE p q := ⟨_, rfl⟩
        obtain ⟨R2, hR2⟩ : ∃ R2, R2 = clearP p q := ⟨_, rfl⟩
        rw [← hz2, ← hR2] at kC
        have HZ2 := Lib.hid (And.intro hz2 hR2)
        obtain ⟨q1, q2, q3⟩ := H5.out.1.2.1.facts
        obtain ⟨r1, r2, -, -, -⟩ := PtK.facts H5.out.1.2.2.1
        have hP0 : wc.drew.cell? ⟨w.heap.size, 0, none⟩ = some (.slice A n c) ∧ wc.drew.cell? ⟨w.heap.size, 1, none⟩ = some (.slice A' n' c') ∧ wc.drew.cell? ⟨w.heap.size + 1, 0, none⟩ = some (.int .i64 q.x) ∧ wc.drew.cell? ⟨w.heap.size + 1, 1, none⟩ = some (.int .i64 q.y) := ⟨q1, q2, r1, r2⟩
        have hh : (⟨w.heap.size, 0, none⟩ : Addr).block < wc.heap.size ∧ (⟨w.heap.size, 1, none⟩ : Addr).block < wc.heap.size ∧ (⟨w.heap.size + 1, 0, none⟩ : Addr).block < wc.heap.size ∧ (⟨w.heap.size + 1, 1, none⟩ : Addr).block < wc.heap.size := by have h1 := Blk.lt H5.out.1.2.2.1; exact ⟨q3, q3, h1, h1⟩
        have hne4 : ∀ {o : Nat}, (⟨w.heap.size, 0, none⟩ : Addr).block ≠ (⟨B5, o, none⟩ : Addr).block ∧ (⟨w.heap.size, 1, none⟩ : Addr).block ≠ (⟨B5, o, none⟩ : Addr).block ∧ (⟨w.heap.size + 1, 0, none⟩ : Addr).block ≠ (⟨B5, o, none⟩ : Addr).block ∧ (⟨w.heap.size + 1, 1, none⟩ : Addr).block ≠ (⟨B5, o, none⟩ : Addr).block := by
          have := HB5.out
          intro o
          refine ⟨?_, ?_, ?_, ?_⟩ <;> simp only <;> omega
        have hkb := H5.out.2.1
        clear hz2 hR2 q1 q2 q3 r1 r2
        go_upto_region 5 with fail
        refine wp_region_held_drew (S := fun V => V.cell? ⟨w.heap.size, 0, none⟩ = some (.slice A n c) ∧ V.cell? ⟨w.heap.size, 1, none⟩ = some (.slice A' n' c') ∧ V.cell? ⟨w.heap.size + 1, 0, none⟩ = some (.int .i64 q.x) ∧ V.cell? ⟨w.heap.size + 1, 1, none⟩ = some (.int .i64 q.y)) (by kernel_rfl) ?_ (fun hHeld => ?_)
        · exact hP0
        refine tk 0 ?_
        refine tk 2 ?_
        refine wpAnyH_ready (rs := [1]) (by kernel_rfl) (by simp) ?_
        refine AllReadyH.cons rfl (fun K hK => ?_) AllReadyH.nil
        go_simp
        go_at_call 18
        (with_reducible refine (kO _ (Below.refl _ _).drew).mono ?_)
        rintro e wo ⟨A1, n1, c1, A2, n2, c2, rfl, hP1, hb'⟩
        try dsimp only
        refine hK.out _ _ ?_ (fun hHeld => ?_)
        · exact keep4 hb' hh hP0
        clear hK K
        try simp only [Act.put, List.setIfInBounds_toArray, List.set_cons_zero, List.set_cons_succ]
        refine wpAnyH_ready (rs := [3]) (by kernel_rfl) (by simp) ?_
        refine AllReadyH.cons rfl (fun K hK => ?_) AllReadyH.nil
        go_simp
        go_at_call 48
        (with_reducible refine (kC _ _ _ _ _ _ _ hP1).mono ?_)
        rintro e w6 ⟨A3, n3, c3, A4, n4, c4, hs, rfl, hpo, hb''⟩
        have hk6 := (hkb.on (show Below wc.heap.size wc wo from (Below.refl _ _).drew.trans hb')).on hb''
        obtain ⟨g1, g2, f1, f2⟩ := plk_facts4 hk6
        try dsimp only
        refine hK.out _ _ ?_ (fun hHeld => ?_)
        · exact keep4 hb'' (lts4 hb' hh) hHeld
        have hS1 := hHeld
        clear hK K
        try simp only [Act.put, List.setIfInBounds_toArray, List.set_cons_zero, List.set_cons_succ]
        refine tk 4 ?_
        refine tk 5 ?_
        refine tk 6 ?_
        refine wpAnyH_ready (rs := [7]) (by kernel_rfl) (by simp) ?_
        refine AllReadyH.cons rfl (fun K hK => ?_) AllReadyH.nil
        go_simp
        refine hK.out _ _ ?_ (fun hHeld => ?_)
        · exact far4 hne4 (far4 hne4 hS1)
        clear hK K
        try simp only [Act.put, List.setIfInBounds_toArray]
        refine tk 8 ?_
        refine wpAnyH_done (by kernel_rfl) ?_ _
        go_wp2_with fail
        go_meet
        have hbw : Below wc.heap.size wc w6 := ((Below.refl _ _).drew.trans hb').trans (hb''.mono hb'.size)
        refine ⟨z2, R2, A3, n3, c3, A4, n4, c4, rfl, ((H5.out.1.on hbw).far (by simp only; exact HB5.out) _).far (by simp only; exact HB5.out) _, Blk.set_ (Blk.set_ hk6 0 (.slice A3 n3 c3)) 1 (.slice A4 n4 c4), ((hpo.store hk6 (by decide) (by decide) 0 (.slice A3 n3 c3)).store (Blk.set_ hk6 0 (.slice A3 n3 c3)) (by decide) (by decide) 1 (.slice A4 n4 c4)).at_, fun h0 => ?_⟩
        have hce : clearE p q = 0 := by rw [← HZ2.out.1]; exact h0
        exact ⟨clearE_plan hce, by rw [HZ2.out.2]; exact clear_alike hce⟩
    case rest =>
      obtain ⟨z3, R3, A5, n5, c5, A6, n6, c6, rfl, hS, hK, hP, hal⟩ := hcut
      clear HZ H5
      by_cases hz : z3 = 0
      case neg =>
        have hzb : (z3 != 0) = true := by simp [hz]
        have HB := Lib.hid hS.1
        clear hS hK hP hal hz
        go_wp2_with fail
        go_ret
        exact ⟨rfl, HB.out⟩
      case pos =>
        obtain ⟨hpb, hal2⟩ := hal hz
        clear hal
        have hal := hal2
        clear hal2
        subst hz
        have hsp := planB_sound hpb
        have hn6 : n6 = n' := by have h1 := hP.lens.2.1; have h2 := HLN.out.2.1; have h3 := hal.2.1; omega
        subst hn6
        have H6 := Lib.hid (And.intro hS (And.intro hK hP))
        have HAL := Lib.hid (And.intro hsp hal)
        clear hS hK hP hpb hsp hal
        go_upto_region 8 with fail
        go_wp2_with fail
        go_loopw [9] (fun i wr => ∃ k : Nat, k ≤ n6 ∧ i = .int .i64 (k : Int) ∧ Hid (HS3 p q r A n c A' n6 c' w wr ∧ PlK wr B5 A5 n5 c5 A6 n6 c6 ∧ PlanAt wr wr.heap.size A5 n5 c5 A6 n6 c6 R3)) (fun i _ => n6 - (intOf i).toNat)
        case atStart => exact ⟨0, Nat.zero_le _, rfl, H6⟩
        case round =>
          clear H6
          obtain ⟨k, hk, rfl, HW⟩ := hrel
          obtain ⟨q1, q2, q3⟩ := HW.out.1.2.1.facts
          obtain ⟨t1, t2, t3⟩ := HW.out.2.1.facts
          by_cases hlt : k < n6
          · have hlt' : (k : Int) < (n6 : Int) := by omega
            have hng : ¬ (n6 : Int) ≤ (k : Int) := by omega
            have hw1 : IntKind.i64.wrap ((k : Int) + 1) = (k : Int) + 1 := by rw [IntKind.wrap_i64]; have := HN'.out; omega
            have hlk : k < p.parcels.length := by have := HLN.out.2.1; omega
            have hlk6 : k < R3.parcels.length := by rw [HAL.out.2.2.1]; exact hlk
            obtain ⟨ad, rfl⟩ := HW.out.1.2.2.2.2.parcs.some_ (by omega)
            obtain ⟨ad6, rfl⟩ := HW.out.2.2.parcs.some_ (by omega)
            obtain ⟨hadl, a1, ⟨Ax, nx, cx, a2, hrx, -, -⟩, -⟩ := HW.out.1.2.2.2.2.parcs.at_ hlt
            obtain ⟨hadl6, b1, ⟨Ay, ny, cy, b2, hry, -, -⟩, -⟩ := HW.out.2.2.parcs.at_ hlt
            obtain ⟨hid, hav, hsd⟩ := HAL.out.2.2.2 k hlk
            have hxr : ringOf p (pcAt p.parcels k).ring := .inr ⟨_, by rw [pcAt_lt hlk]; exact List.getElem_mem _, rfl⟩
            have hyr : ringOf R3 (pcAt R3.parcels k).ring := .inr ⟨_, by rw [pcAt_lt hlk6]; exact List.getElem_mem _, rfl⟩
            obtain ⟨gx, lx, -⟩ := sound_ring HAL.out.1 hxr
            obtain ⟨gy, ly, -⟩ := sound_ring (planB_sound HAL.out.2.1) hyr
            rw [hid] at b1
            obtain ⟨xid, hxid⟩ : ∃ i, i = (pcAt p.parcels k).id := ⟨_, rfl⟩
            obtain ⟨xs, hxs⟩ : ∃ xs, xs = (pcAt p.parcels k).ring := ⟨_, rfl⟩
            obtain ⟨ys, hys⟩ : ∃ ys, ys = (pcAt R3.parcels k).ring := ⟨_, rfl⟩
            rw [← hxid] at a1 b1
            rw [← hxs] at hrx gx lx hav hsd
            rw [← hys] at hry gy ly hav hsd
            have hnx : nx ≤ 128 := by have := hrx.lenPt; omega
            have hny : ny ≤ 128 := by have := hry.lenPt; omega
            have hsz := HW.out.1.1.size
            have kA1 := areaR_any xs Ax nx cx wr (hrx.more hsz) (by omega) (fun r hr => good_in2 (goodL_mem gx hr))
            have KX : Hid (∀ V, Below wr.heap.size wr V → Calls Tryz.prog 50 #[.slice Ax nx cx, .agg #[.int .i64 r.x, .int .i64 r.y]] V fun e w' => e = .returned (.int .i64 (sideI xs r)) ∧ Below V.heap.size V w') := fun V hV => sideR_any xs r Ax nx cx V ((hrx.more hsz).on hV) hnx gx HGR.out
            have KY : Hid (∀ V, Below wr.heap.size wr V → Calls Tryz.prog 50 #[.slice Ay ny cy, .agg #[.int .i64 r.x, .int .i64 r.y]] V fun e w' => e = .returned (.int .i64 (sideI xs r)) ∧ Below V.heap.size V w') := fun V hV => by rw [← hsd r HGR.out]; exact sideR_any ys r Ay ny cy V (hry.on hV) hny gy HGR.out
            have KA2 : Hid (∀ V, Below wr.heap.size wr V → Calls Tryz.prog 43 #[.slice Ay ny cy] V fun e w' => e = .returned (.tuple #[i128 (areaV xs), .int .i64 (areaE ys)]) ∧ Below V.heap.size V w') := fun V hV => by rw [← hav]; exact areaR_any ys Ay ny cy V (hry.on hV) (by omega) (fun r hr => good_in2 (goodL_mem gy hr))
            obtain ⟨s, hs⟩ : ∃ s, s = sideI xs r := ⟨_, rfl⟩
            obtain ⟨e1, he1⟩ : ∃ e, e = areaE xs := ⟨_, rfl⟩
            obtain ⟨e2, he2⟩ : ∃ e, e = areaE ys := ⟨_, rfl⟩
            rw [← hs] at KX KY
            rw [← he1] at kA1
            rw [← he2] at KA2
            unfold i128 at kA1 KA2
            obtain ⟨h0, hh0⟩ : ∃ z, z = areaV xs / 18446744073709551616 := ⟨_, rfl⟩
            obtain ⟨l0, hl0⟩ : ∃ z, z = areaV xs % 18446744073709551616 := ⟨_, rfl⟩
            rw [← hh0, ← hl0] at kA1 KA2
            have KA1 := Lib.hid kA1
            have hadw : ad.block < wr.heap.size := by omega
            have HA := Lib.hid (And.intro a1 (And.intro b1 (And.intro b2 (And.intro hadw hadl6))))
            clear hrx hry hav hsd hxr hyr gx gy lx ly hxid hxs hys hs he1 he2 hh0 hl0 kA1 hid hadl hadl6 hadw
            go_upto_region 13 with fail
            clear t1
            go_wp2_with fail
            refine KA1.out.mono ?_
            rintro e w10 ⟨rfl, hb10⟩
            obtain ⟨w11, hw11⟩ : ∃ w11 : World, w11 = w10.alloc (.cells #[.int .i64 h0, .int .u64 l0] 66) := ⟨_, rfl⟩
            have hb11 : Below w10.heap.size w10 w11 := by rw [hw11]; exact (Below.refl _ _).alloc (Nat.le_refl _) _
            have hBa : Blk w11 w10.heap.size 66 #[.int .i64 h0, .int .u64 l0] := by rw [hw11]; exact Blk.new _ _ _
            obtain ⟨Ba, hBae⟩ : ∃ Ba, Ba = w10.heap.size := ⟨_, rfl⟩
            rw [← hBae] at hBa
            have hwB := below_on hb10 (Nat.le_refl _) hb11
            have kA2 := Lib.hid (KA2.out w11 hwB)
            have x1 : w11.cell? ⟨B5, 1, none⟩ = some (.slice (some ad6) n6 c6) := (hwB.cell (p := ⟨B5, 1, none⟩) t3).trans t2
            have x2 : w11.cell? ⟨(ad6.add (k * 3)).block, (ad6.add (k * 3)).off + 1, none⟩ = some (.slice Ay ny cy) := (hwB.cell (p := ⟨(ad6.add (k * 3)).block, (ad6.add (k * 3)).off + 1, none⟩) (by simp only [block_of_add]; exact HA.out.2.2.2.2)).trans b2
            have H11 := Lib.hid (And.intro hwB (And.intro hBa (And.intro q2 (And.intro t2 (And.intro a2 (And.intro q3 t3))))))
            clear hb10 hb11 hBa hwB q1 q2 q3 t2 t3 a1 a2 b1 b2 KA1 KA2
            go_upto_region 14 with fail
            rw [← hw11, ← hBae]
            clear hw11 hBae
            go_wp2_with fail
            refine kA2.out.mono ?_
            rintro e w12 ⟨rfl, hb12⟩
            clear x1 x2
            obtain ⟨W9, hw13⟩ : ∃ w13 : World, w13 = w12.alloc (.cells #[.int .i64 h0, .int .u64 l0] 66) := ⟨_, rfl⟩
            have hb13 : Below w12.heap.size w12 W9 := by rw [hw13]; exact (Below.refl _ _).alloc (Nat.le_refl _) _
            have hBb : Blk W9 w12.heap.size 66 #[.int .i64 h0, .int .u64 l0] := by rw [hw13]; exact Blk.new _ _ _
            obtain ⟨Bb, hBbe⟩ : ∃ Bb, Bb = w12.heap.size := ⟨_, rfl⟩
            rw [← hBbe] at hBb
            obtain ⟨hwB, hBa, q2, t2, a2, q3, t3⟩ := H11.out
            obtain ⟨a1, b1, b2, hal1, hal2⟩ := HA.out
            have h1113 := below_on hb12 (Nat.le_refl _) hb13
            have hBa9 := Blk.below hBa h1113 (Blk.lt hBa)
            have hw9 := below_on hwB (Nat.le_refl _) h1113
            have hwr9 := hw9.size
            obtain ⟨r1, r2, -, -, -⟩ := PtK.facts HW.out.1.2.2.2.1
            have hrl := Blk.lt HW.out.1.2.2.2.1
            have kp : ∀ {a : Addr} {v : Value}, a.block < wr.heap.size → wr.cell? a = some v → W9.drew.cell? a = some v := fun {a v} ha hv => (hw9.cell ha).trans hv
            have hP0 : W9.drew.cell? ⟨Ba, 0, none⟩ = some (.int .i64 h0) ∧ W9.drew.cell? ⟨Ba, 1, none⟩ = some (.int .u64 l0) ∧ W9.drew.cell? ⟨Bb, 0, none⟩ = some (.int .i64 h0) ∧ W9.drew.cell? ⟨Bb, 1, none⟩ = some (.int .u64 l0) ∧ W9.drew.cell? ⟨w.heap.size, 1, none⟩ = some (.slice (some ad) n6 c') ∧ W9.drew.cell? (ad.add (k * 3)) = some (.int .i64 xid) ∧ W9.drew.cell? ⟨(ad.add (k * 3)).block, (ad.add (k * 3)).off + 1, none⟩ = some (.slice Ax nx cx) ∧ W9.drew.cell? ⟨B5, 1, none⟩ = some (.slice (some ad6) n6 c6) ∧ W9.drew.cell? (ad6.add (k * 3)) = some (.int .i64 xid) ∧ W9.drew.cell? ⟨(ad6.add (k * 3)).block, (ad6.add (k * 3)).off + 1, none⟩ = some (.slice Ay ny cy) ∧ W9.drew.cell? ⟨w.heap.size + 1 + 1, 0, none⟩ = some (.int .i64 r.x) ∧ W9.drew.cell? ⟨w.heap.size + 1 + 1, 1, none⟩ = some (.int .i64 r.y) ∧ Below W9.heap.size W9 W9.drew := ⟨Blk.cell hBa9 0, Blk.cell hBa9 1, Blk.cell hBb 0, Blk.cell hBb 1, kp q3 q2, kp (by rw [block_of_add]; exact hal1) a1, kp (by simp only [block_of_add]; exact hal1) a2, kp t3 t2, kp (by rw [block_of_add]; exact hal2) b1, kp (by simp only [block_of_add]; exact hal2) b2, kp hrl r1, kp hrl r2, (Below.refl _ _).drew⟩
            have hh : (⟨Ba, 0, none⟩ : Addr).block < W9.heap.size ∧ (⟨Ba, 1, none⟩ : Addr).block < W9.heap.size ∧ (⟨Bb, 0, none⟩ : Addr).block < W9.heap.size ∧ (⟨Bb, 1, none⟩ : Addr).block < W9.heap.size ∧ (⟨w.heap.size, 1, none⟩ : Addr).block < W9.heap.size ∧ (ad.add (k * 3)).block < W9.heap.size ∧ (⟨(ad.add (k * 3)).block, (ad.add (k * 3)).off + 1, none⟩ : Addr).block < W9.heap.size ∧ (⟨B5, 1, none⟩ : Addr).block < W9.heap.size ∧ (ad6.add (k * 3)).block < W9.heap.size ∧ (⟨(ad6.add (k * 3)).block, (ad6.add (k * 3)).off + 1, none⟩ : Addr).block < W9.heap.size ∧ (⟨w.heap.size + 1 + 1, 0, none⟩ : Addr).block < W9.heap.size ∧ (⟨w.heap.size + 1 + 1, 1, none⟩ : Addr).block < W9.heap.size := by
              have g1 := Blk.lt hBa9
              have g2 := Blk.lt hBb
              simp only [block_of_add]
              omega
            have kX := fun V (hV : Below W9.heap.size W9 V) => KX.out V (below_on hw9 (Nat.le_refl _) hV)
            have kY := fun V (hV : Below W9.heap.size W9 V) => KY.out V (below_on hw9 (Nat.le_refl _) hV)
            have hni := fun W => neqI_runs h0 l0 W
            have H9 := Lib.hid hw9
            clear hb12 hb13 hBa hBb q2 t2 a2 q3 t3 a1 b1 b2 hal1 hal2 h1113 hBa9 hw9 hwr9 r1 r2 hrl kp KX KY kA2 hwB H11 HA
            go_upto_region 15 with fail
            rw [← hw13, ← hBbe]
            clear hw13 hBbe
            go_cut [114] (fun s wx => s = .bool false ∧ Below W9.heap.size W9 wx)
            case first =>
              refine wp_region_held_drew (S := fun V => V.cell? ⟨Ba, 0, none⟩ = some (.int .i64 h0) ∧ V.cell? ⟨Ba, 1, none⟩ = some (.int .u64 l0) ∧ V.cell? ⟨Bb, 0, none⟩ = some (.int .i64 h0) ∧ V.cell? ⟨Bb, 1, none⟩ = some (.int .u64 l0) ∧ V.cell? ⟨w.heap.size, 1, none⟩ = some (.slice (some ad) n6 c') ∧ V.cell? (ad.add (k * 3)) = some (.int .i64 xid) ∧ V.cell? ⟨(ad.add (k * 3)).block, (ad.add (k * 3)).off + 1, none⟩ = some (.slice Ax nx cx) ∧ V.cell? ⟨B5, 1, none⟩ = some (.slice (some ad6) n6 c6) ∧ V.cell? (ad6.add (k * 3)) = some (.int .i64 xid) ∧ V.cell? ⟨(ad6.add (k * 3)).block, (ad6.add (k * 3)).off + 1, none⟩ = some (.slice Ay ny cy) ∧ V.cell? ⟨w.heap.size + 1 + 1, 0, none⟩ = some (.int .i64 r.x) ∧ V.cell? ⟨w.heap.size + 1 + 1, 1, none⟩ = some (.int .i64 r.y) ∧ Below W9.heap.size W9 V) (by kernel_rfl) ?_ (fun hHeld => ?_)
              · exact hP0
              refine tk 0 ?_
              refine tk 1 ?_
              refine tk 2 ?_
              refine tk 3 ?_
              refine tk 4 ?_
              refine tk 5 ?_
              refine tk 6 ?_
              refine tk 7 ?_
              refine tk 8 ?_
              refine tk 9 ?_
              refine tk 10 ?_
              refine tk 11 ?_
              refine tk 12 ?_
              refine tk 13 ?_
              refine tk 14 ?_
              refine tk 15 ?_
              refine tk 16 ?_
              refine tk 17 ?_
              refine tk 18 ?_
              refine tk 19 ?_
              refine tk 20 ?_
              refine tk 21 ?_
              refine tk 22 ?_
              refine tk 23 ?_
              refine tk 24 ?_
              refine tk 25 ?_
              refine tk 27 ?_
              refine tk 28 ?_
              refine tk 29 ?_
              refine tk 30 ?_
              refine tk 31 ?_
              refine tk 32 ?_
              refine tk 33 ?_
              refine wpAnyH_ready (rs := [26]) (by kernel_rfl) (by simp) ?_
              refine AllReadyH.cons rfl (fun K hK => ?_) AllReadyH.nil
              go_simp
              go_at_call 50
              (with_reducible refine (kX _ (Below.drew (Below.refl _ _))).mono ?_)
              rintro e w16 ⟨rfl, hb'⟩
              try dsimp only
              refine hK.out _ _ ?_ (fun hHeld => ?_)
              · exact hldS12 hh hP0 hb'
              clear hK K
              try simp only [Act.put, List.setIfInBounds_toArray, List.set_cons_zero, List.set_cons_succ]
              refine wpAnyH_ready (rs := [34]) (by kernel_rfl) (by simp) ?_
              refine AllReadyH.cons rfl (fun K hK => ?_) AllReadyH.nil
              go_simp
              go_at_call 50
              (with_reducible refine (kY _ (hHeld.2.2.2.2.2.2.2.2.2.2.2.2)).mono ?_)
              rintro e w17 ⟨rfl, hb'⟩
              try dsimp only
              refine hK.out _ _ ?_ (fun hHeld => ?_)
              · exact hldS12 hh hHeld hb'
              clear hK K
              try simp only [Act.put, List.setIfInBounds_toArray, List.set_cons_zero, List.set_cons_succ]
              refine tk 35 ?_
              refine tk 36 ?_
              refine wpAnyH_done (by kernel_rfl) ?_ _
              go_wp2_with fail
              go_meet
              exact ⟨by first | rfl | simp, hHeld.2.2.2.2.2.2.2.2.2.2.2.2⟩
            case rest =>
              obtain ⟨rfl, hbc⟩ := hcut
              have hB := below_on H9.out (Nat.le_refl _) hbc
              have H10 := Lib.hid (And.intro (HW.out.1.on hB) (And.intro (HW.out.2.1.on hB) (HW.out.2.2.on hB)))
              clear hbc hB hP0 hh kX kY hni H9 HW
              go_wp2_with fail
              go_roundw
              case rel => exact ⟨k + 1, by omega, by go_num, H10⟩
              case measure => simp [intOf]; omega
          · have hkn : k = n6 := by omega
            subst hkn
            have kC := Lib.hid (checkPR_any R3 A5 A6 n5 c5 k c6 wr HW.out.2.2)
            rw [HAL.out.2.1] at kC
            go_wp2_with fail
            refine kC.out.mono ?_
            rintro e w10 ⟨rfl, hb10⟩
            have H10 := Lib.hid (HW.out.1.on hb10)
            obtain ⟨x1, x2, -⟩ := H10.out.2.1.facts
            obtain ⟨y1, y2, -⟩ := (HW.out.2.1.on hb10).facts
            clear q1 q2 q3 t1 t2 t3 kC HW hb10
            go_wp2_with fail
            go_ret
            exact ⟨by first | rfl | simp, H10.out.1⟩
end Go.Proofs.YtglnklfhgdjccaaGreat

/- merestonelaw08.BendSums: the walk. -/
import Derived.Deep.DeepCutAuto
import Derived.Test.YtglnklfhgdjccaaGreatBendMoves0
import Derived.Test.YtglnklfhgdjccaaGreatSumsLaw
namespace Go.Proofs.YtglnklfhgdjccaaGreat
open Go.RowKit Go.Lib
theorem hldS4 {W V V' : World} {a0 a1 a2 a3 : Addr} {v0 v1 v2 v3 : Value} (hh : a0.block < W.heap.size ∧ a1.block < W.heap.size ∧ a2.block < W.heap.size ∧ a3.block < W.heap.size) (hs : V.cell? a0 = some v0 ∧ V.cell? a1 = some v1 ∧ V.cell? a2 = some v2 ∧ V.cell? a3 = some v3 ∧ Below W.heap.size W V) (hb : Below V.heap.size V V') :
    V'.cell? a0 = some v0 ∧ V'.cell? a1 = some v1 ∧ V'.cell? a2 = some v2 ∧ V'.cell? a3 = some v3 ∧ Below W.heap.size W V' := by
  obtain ⟨h0, h1, h2, h3⟩ := hh
  obtain ⟨c0, c1, c2, c3, cb⟩ := hs
  have := cb.size
  have k : ∀ {a : Addr} {v : Value}, a.block < W.heap.size → V.cell? a = some v → V'.cell? a = some v := fun {a v} ha hv => (hb.cell (p := a) (by omega)).trans hv
  exact ⟨k h0 c0, k h1 c1, k h2 c2, k h3 c3, below_on cb (Nat.le_refl _) hb⟩
theorem hldS8 {W V V' : World} {a0 a1 a2 a3 a4 a5 a6 a7 : Addr} {v0 v1 v2 v3 v4 v5 v6 v7 : Value} (hh : a0.block < W.heap.size ∧ a1.block < W.heap.size ∧ a2.block < W.heap.size ∧ a3.block < W.heap.size ∧ a4.block < W.heap.size ∧ a5.block < W.heap.size ∧ a6.block < W.heap.size ∧ a7.block < W.heap.size) (hs : V.cell? a0 = some v0 ∧ V.cell? a1 = some v1 ∧ V.cell? a2 = some v2 ∧ V.cell? a3 = some v3 ∧ V.cell? a4 = some v4 ∧ V.cell? a5 = some v5 ∧ V.cell? a6 = some v6 ∧ V.cell? a7 = some v7 ∧ Below W.heap.size W V) (hb : Below V.heap.size V V') :
    V'.cell? a0 = some v0 ∧ V'.cell? a1 = some v1 ∧ V'.cell? a2 = some v2 ∧ V'.cell? a3 = some v3 ∧ V'.cell? a4 = some v4 ∧ V'.cell? a5 = some v5 ∧ V'.cell? a6 = some v6 ∧ V'.cell? a7 = some v7 ∧ Below W.heap.size W V' := by
  obtain ⟨h0, h1, h2, h3, h4, h5, h6, h7⟩ := hh
  obtain ⟨c0, c1, c2, c3, c4, c5, c6, c7, cb⟩ := hs
  have := cb.size
  have k : ∀ {a : Addr} {v : Value}, a.block < W.heap.size → V.cell? a = some v → V'.cell? a = some v := fun {a v} ha hv => (hb.cell (p := a) (by omega)).trans hv
  exact ⟨k h0 c0, k h1 c1, k h2 c2, k h3 c3, k h4 c4, k h5 c5, k h6 c6, k h7 c7, below_on cb (Nat.le_refl _) hb⟩
def SB (A : Option Addr) (n c : Nat) (A' : Option Addr) (n' c' : Nat) (A5 : Option Addr) (n5 c5 : Nat) (A6 : Option Addr) (c6 B5 Ba : Nat) (f : Pt) (w wa : World) (va vb : Array Value) (W : World) : Prop := Below w.heap.size w W ∧ (PlK W w.heap.size A n c A' n' c' ∧ PtK W (w.heap.size + 1) f ∧ PlK W B5 A5 n5 c5 A6 n' c6) ∧ (Blk W Ba 66 va ∧ Blk W (Ba + 1) 66 vb) ∧ Below Ba wa W
theorem SB_ba {Ba : Nat} {wa V V' : World} (h : Below Ba wa V) (hB : Ba ≤ V.heap.size) (hb : Below V.heap.size V V') : Below Ba wa V' :=
  ⟨hb.os.trans h.os, hb.tape.trans h.tape, hb.output.trans h.output, Nat.le_trans h.size hb.size, fun i hi => (hb.block i (by omega)).trans (h.block i hi)⟩
section
variable {A A' A5 A6 : Option Addr} {n c n' c' n5 c5 c6 B5 Ba : Nat} {f : Pt} {w wa W W' : World} {va vb : Array Value}
theorem SB.on (h : SB A n c A' n' c' A5 n5 c5 A6 c6 B5 Ba f w wa va vb W) (hb : Below W.heap.size W W') : SB A n c A' n' c' A5 n5 c5 A6 c6 B5 Ba f w wa va vb W' :=
  ⟨below_on h.1 (Nat.le_refl _) hb, ⟨h.2.1.1.on hb, Blk.below h.2.1.2.1 hb (Blk.lt h.2.1.2.1), h.2.1.2.2.on hb⟩, ⟨Blk.below h.2.2.1.1 hb (Blk.lt h.2.2.1.1), Blk.below h.2.2.1.2 hb (Blk.lt h.2.2.1.2)⟩, SB_ba h.2.2.2 (Nat.le_of_lt (Blk.lt h.2.2.1.1)) hb⟩
theorem SB.setA {a b : Value} (h : SB A n c A' n' c' A5 n5 c5 A6 c6 B5 Ba f w wa #[a, b] vb W) (hl : w.heap.size + 1 < Ba ∧ B5 < Ba) (u v : Int) : SB A n c A' n' c' A5 n5 c5 A6 c6 B5 Ba f w wa #[.int .i64 u, .int .u64 v] vb ((W.setCell ⟨Ba, 0, none⟩ (.int .i64 u)).setCell ⟨Ba, 1, none⟩ (.int .u64 v)) := by
  obtain ⟨h1, ⟨h2, h3, h4⟩, ⟨h5, h6⟩, h7⟩ := h
  have hs5 := Blk.set_ (Blk.set_ h5 0 (.int .i64 u)) 1 (.int .u64 v)
  simp only [List.setIfInBounds_toArray, List.set_cons_zero, List.set_cons_succ] at hs5
  have far : ∀ {g : Nat} {t : TypeId} {cs : Array Value}, g ≠ Ba → Blk W g t cs → Blk ((W.setCell ⟨Ba, 0, none⟩ (.int .i64 u)).setCell ⟨Ba, 1, none⟩ (.int .u64 v)) g t cs := fun hg hb => Blk.far (Blk.far hb hg _) hg _
  exact ⟨(h1.setCell (p := ⟨Ba, 0, none⟩) (by simp only; omega) _).setCell (p := ⟨Ba, 1, none⟩) (by simp only; omega) _, ⟨far (by omega) h2, far (by omega) h3, far (by omega) h4⟩, ⟨hs5, far (by omega) h6⟩, (h7.setCell (p := ⟨Ba, 0, none⟩) (Nat.le_refl _) _).setCell (p := ⟨Ba, 1, none⟩) (Nat.le_refl _) _⟩
theorem SB.setB {a b : Value} (h : SB A n c A' n' c' A5 n5 c5 A6 c6 B5 Ba f w wa va #[a, b] W) (hl : w.heap.size + 1 < Ba ∧ B5 < Ba) (u v : Int) : SB A n c A' n' c' A5 n5 c5 A6 c6 B5 Ba f w wa va #[.int .i64 u, .int .u64 v] ((W.setCell ⟨Ba + 1, 0, none⟩ (.int .i64 u)).setCell ⟨Ba + 1, 1, none⟩ (.int .u64 v)) := by
  obtain ⟨h1, ⟨h2, h3, h4⟩, ⟨h5, h6⟩, h7⟩ := h
  have hs5 := Blk.set_ (Blk.set_ h6 0 (.int .i64 u)) 1 (.int .u64 v)
  simp only [List.setIfInBounds_toArray, List.set_cons_zero, List.set_cons_succ] at hs5
  have far : ∀ {g : Nat} {t : TypeId} {cs : Array Value}, g ≠ Ba + 1 → Blk W g t cs → Blk ((W.setCell ⟨Ba + 1, 0, none⟩ (.int .i64 u)).setCell ⟨Ba + 1, 1, none⟩ (.int .u64 v)) g t cs := fun hg hb => Blk.far (Blk.far hb hg _) hg _
  exact ⟨(h1.setCell (p := ⟨Ba + 1, 0, none⟩) (by simp only; omega) _).setCell (p := ⟨Ba + 1, 1, none⟩) (by simp only; omega) _, ⟨far (by omega) h2, far (by omega) h3, far (by omega) h4⟩, ⟨far (by omega) h5, hs5⟩, (h7.setCell (p := ⟨Ba + 1, 0, none⟩) (by simp only; omega) _).setCell (p := ⟨Ba + 1, 1, none⟩) (by simp only; omega) _⟩
end
set_option maxRecDepth 100000 in
set_option maxHeartbeats 6400000 in
theorem bendSums_any (p : Plan) (f t : Pt) (A A' : Option Addr) (n c n' c' : Nat) (w : World) (h : PlanAt w w.heap.size A n c A' n' c' p) (hf : f.inI) (ht : t.inI) :
    Calls Tryz.prog 9 #[planV A n c A' n' c', .agg #[.int .i64 f.x, .int .i64 f.y], .agg #[.int .i64 t.x, .int .i64 t.y]] w fun e w' => e = .returned (.bool true) ∧ Below w.heap.size w w' := by
  obtain ⟨wa, hwa⟩ : ∃ wa : World, wa = ((w.alloc (.cells #[.slice A n c, .slice A' n' c'] 26)).alloc (.cells #[.int .i64 f.x, .int .i64 f.y] 43)).alloc (.cells #[.int .i64 t.x, .int .i64 t.y] 43) := ⟨_, rfl⟩
  have hF : HB3 p f t A n c A' n' c' w wa := by
    have hB0 : Below w.heap.size w wa := by rw [hwa]; exact (((Below.refl _ _).alloc (Nat.le_refl _) _).alloc (by simp) _).alloc (by simp; omega) _
    refine ⟨hB0, by rw [hwa]; exact Blk.alloc (Blk.alloc (PlK.new w A n c A' n' c') _) _, ?_, ?_, h.on hB0⟩
    · have := PtK.new (w.alloc (.cells #[.slice A n c, .slice A' n' c'] 26)) f
      rw [World.size_alloc] at this
      rw [hwa]
      exact Blk.alloc this _
    · have := PtK.new ((w.alloc (.cells #[.slice A n c, .slice A' n' c'] 26)).alloc (.cells #[.int .i64 f.x, .int .i64 f.y] 43)) t
      rw [World.size_alloc, World.size_alloc] at this
      rw [hwa]
      exact this
  have H0 := Lib.hid hF
  have HQ := Lib.hid (And.intro hf ht)
  clear hF h hf ht
  go_enter Tryz.func9, Tryz.ntmps9
  go_upto_region 1 with fail
  rw [← hwa]
  clear hwa
  go_wp2_with (go_at_call 30; (with_reducible refine (ans08_any _).mono ?_); rintro e w1 ⟨rfl, hb1⟩; have H1 := Lib.hid (H0.out.on hb1); obtain ⟨q1, q2, q3⟩ := H1.out.2.1.facts; clear hb1 H0)
  refine (few_any p A A' n c n' c' w1 H1.out.2.2.2.2).mono ?_
  rintro e w2 ⟨b, rfl, hsm, hb2⟩
  have H2 := Lib.hid (H1.out.on hb2)
  clear hb2 q1 q2 q3 H1
  rcases b with _ | _
  · clear hsm
    go_wp2_with fail
    refine (ans08_any _).mono ?_
    rintro e w3 ⟨rfl, hb3⟩
    have HB := Lib.hid (below_on H2.out.1 (Nat.le_refl _) hb3)
    clear hb3 H2
    go_wp2_with fail
    go_ret
    exact ⟨rfl, HB.out⟩
  have hn' : n' ≤ 1048576 := by have := (hsm rfl).1; omega
  clear hsm
  obtain ⟨W, hW⟩ : ∃ W, W = w2 := ⟨_, rfl⟩
  rw [← hW] at H2
  have kO := fun V (hV : Below W.heap.size W V) => ownPl_any p A A' n c n' c' V (H2.out.on hV).2.2.2.2 hn'
  have kM := fun A n c A' n' c' V hV => move_any p f t A A' n c n' c' V hV HQ.out.1 HQ.out.2
  obtain ⟨z, hz⟩ : ∃ z, z = moveE p f t := ⟨_, rfl⟩
  obtain ⟨R, hR⟩ : ∃ R, R = moveP p f t := ⟨_, rfl⟩
  rw [← hz, ← hR] at kM
  have HZ := Lib.hid (And.intro hz hR)
  clear hz hR
  obtain ⟨q1, q2, q3⟩ := H2.out.2.1.facts
  obtain ⟨r1, r2, -, -, -⟩ := PtK.facts H2.out.2.2.1
  obtain ⟨t1, t2, -, -, -⟩ := PtK.facts H2.out.2.2.2.1
  have hP0 : W.drew.cell? ⟨w.heap.size, 0, none⟩ = some (.slice A n c) ∧ W.drew.cell? ⟨w.heap.size, 1, none⟩ = some (.slice A' n' c') ∧ W.drew.cell? ⟨w.heap.size + 1, 0, none⟩ = some (.int .i64 f.x) ∧ W.drew.cell? ⟨w.heap.size + 1, 1, none⟩ = some (.int .i64 f.y) ∧ W.drew.cell? ⟨w.heap.size + 1 + 1, 0, none⟩ = some (.int .i64 t.x) ∧ W.drew.cell? ⟨w.heap.size + 1 + 1, 1, none⟩ = some (.int .i64 t.y) ∧ Below W.heap.size W W.drew := ⟨q1, q2, r1, r2, t1, t2, (Below.refl _ _).drew⟩
  have hh : (⟨w.heap.size, 0, none⟩ : Addr).block < W.heap.size ∧ (⟨w.heap.size, 1, none⟩ : Addr).block < W.heap.size ∧ (⟨w.heap.size + 1, 0, none⟩ : Addr).block < W.heap.size ∧ (⟨w.heap.size + 1, 1, none⟩ : Addr).block < W.heap.size ∧ (⟨w.heap.size + 1 + 1, 0, none⟩ : Addr).block < W.heap.size ∧ (⟨w.heap.size + 1 + 1, 1, none⟩ : Addr).block < W.heap.size := by have h1 := Blk.lt H2.out.2.2.1; have h2 := Blk.lt H2.out.2.2.2.1; exact ⟨q3, q3, h1, h1, h2, h2⟩
  have hfz : ∀ o, Below W.heap.size W (World.drew (W.alloc o)) := fun o => ((Below.refl _ _).alloc (Nat.le_refl _) o).drew
  clear q1 q2 q3 r1 r2 t1 t2 hn'
  go_upto_region 3 with fail
  rw [← hW]
  clear hW
  go_cut [7, 8] (fun s y wx => ∃ B5 : Nat, s = .pointer (some ⟨B5, 0, none⟩) ∧ y = .int .i64 z ∧ ∃ A5 n5 c5 A6 n6 c6, Below W.heap.size W wx ∧ PlK wx B5 A5 n5 c5 A6 n6 c6 ∧ PlanAt wx wx.heap.size A5 n5 c5 A6 n6 c6 R)
  case first =>
    refine wp_region_held_drew (S := fun V => V.cell? ⟨w.heap.size, 0, none⟩ = some (.slice A n c) ∧ V.cell? ⟨w.heap.size, 1, none⟩ = some (.slice A' n' c') ∧ V.cell? ⟨w.heap.size + 1, 0, none⟩ = some (.int .i64 f.x) ∧ V.cell? ⟨w.heap.size + 1, 1, none⟩ = some (.int .i64 f.y) ∧ V.cell? ⟨w.heap.size + 1 + 1, 0, none⟩ = some (.int .i64 t.x) ∧ V.cell? ⟨w.heap.size + 1 + 1, 1, none⟩ = some (.int .i64 t.y) ∧ Below W.heap.size W V) (by kernel_rfl) ?_ (fun hHeld => ?_)
    · exact hP0
    refine wpAnyH_take (i := 0) (v := ?_) rfl (by kernel_rfl) (by kernel_rfl) (by kernel_rfl) (fun _ _ _ h => h) (Or.inl ⟨by rfl, ?_⟩) (by assumption) ?_
    rotate_left
    · intro w hSw; (try dsimp only at hSw); go_simp; try with_reducible rfl
    simp only [Act.put, List.setIfInBounds_toArray, List.set_cons_zero, List.set_cons_succ, List.getElem_toArray, List.getElem_cons_zero]
    refine wpAnyH_take (i := 2) (v := ?_) rfl (by kernel_rfl) (by kernel_rfl) (by kernel_rfl) (fun _ _ _ h => h) (Or.inl ⟨by rfl, ?_⟩) (by assumption) ?_
    rotate_left
    · intro w hSw; (try dsimp only at hSw); go_simp; try with_reducible rfl
    simp only [Act.put, List.setIfInBounds_toArray, List.set_cons_zero, List.set_cons_succ, List.getElem_toArray, List.getElem_cons_zero, List.getElem_cons_succ]
    refine wpAnyH_take (i := 3) (v := ?_) rfl (by kernel_rfl) (by kernel_rfl) (by kernel_rfl) (fun _ _ _ h => h) (Or.inl ⟨by rfl, ?_⟩) (by assumption) ?_
    rotate_left
    · intro w hSw; (try dsimp only at hSw); go_simp; try with_reducible rfl
    simp only [Act.put, List.setIfInBounds_toArray, List.set_cons_zero, List.set_cons_succ, List.getElem_toArray, List.getElem_cons_zero, List.getElem_cons_succ]
    refine wpAnyH_ready (rs := [1, 8]) (by kernel_rfl) (by simp) ?_
    refine AllReadyH.cons rfl (fun K hK => ?_) (AllReadyH.cons rfl (fun K hK => ?_) AllReadyH.nil)
    · go_simp
      go_at_call 18
      (with_reducible refine (kO _ ((Below.refl _ _).drew)).mono ?_)
      rintro e wo ⟨A1, n1, c1, A2, n2, c2, rfl, hP1, hb'⟩
      try dsimp only
      refine hK.out _ _ ?_ (fun hHeld => ?_)
      · exact hld6 hh hP0 hb'
      clear hK K
      try simp only [Act.put, List.setIfInBounds_toArray, List.set_cons_zero, List.set_cons_succ]
      refine wpAnyH_ready (rs := [4, 8]) (by kernel_rfl) (by simp) ?_
      refine AllReadyH.cons rfl (fun K hK => ?_) (AllReadyH.cons rfl (fun K hK => ?_) AllReadyH.nil)
      · go_simp
        go_at_call 39
        (with_reducible refine (kM _ _ _ _ _ _ _ (hP1)).mono ?_)
        rintro e w6 ⟨A3, n3, c3, A4, n4, c4, hs, rfl, hpo, hb''⟩
        try dsimp only
        refine hK.out _ _ ?_ (fun hHeld => ?_)
        · exact hld6 hh hHeld hb''
        clear hK K
        try simp only [Act.put, List.setIfInBounds_toArray, List.set_cons_zero, List.set_cons_succ]
        refine wpAnyH_take (i := 5) (v := ?_) rfl (by kernel_rfl) (by kernel_rfl) (by kernel_rfl) (fun _ _ _ h => h) (Or.inl ⟨by rfl, ?_⟩) (by assumption) ?_
        rotate_left
        · intro w hSw; (try dsimp only at hSw); go_simp; try with_reducible rfl
        simp only [Act.put, List.setIfInBounds_toArray, List.set_cons_zero, List.set_cons_succ, List.getElem_toArray, List.getElem_cons_zero, List.getElem_cons_succ]
        refine wpAnyH_take (i := 6) (v := ?_) rfl (by kernel_rfl) (by kernel_rfl) (by kernel_rfl) (fun _ _ _ h => h) (Or.inl ⟨by rfl, ?_⟩) (by assumption) ?_
        rotate_left
        · intro w hSw; (try dsimp only at hSw); go_simp; try with_reducible rfl
        simp only [Act.put, List.setIfInBounds_toArray, List.set_cons_zero, List.set_cons_succ, List.getElem_toArray, List.getElem_cons_zero, List.getElem_cons_succ]
        refine wpAnyH_take (i := 7) (v := ?_) rfl (by kernel_rfl) (by kernel_rfl) (by kernel_rfl) (fun _ _ _ h => h) (Or.inl ⟨by rfl, ?_⟩) (by assumption) ?_
        rotate_left
        · intro w hSw; (try dsimp only at hSw); go_simp; try with_reducible rfl
        simp only [Act.put, List.setIfInBounds_toArray, List.set_cons_zero, List.set_cons_succ, List.getElem_toArray, List.getElem_cons_zero, List.getElem_cons_succ]
        refine wpAnyH_ready (rs := [8]) (by kernel_rfl) (by simp) ?_
        refine AllReadyH.cons rfl (fun K hK => ?_) AllReadyH.nil
        go_simp
        refine hK.out _ _ ?_ (fun hHeld => ?_)
        · exact hld6 hh hHeld ((Below.refl _ _).alloc (Nat.le_refl _) _)
        have hS1 := hHeld
        clear hK K
        try simp only [Act.put, List.setIfInBounds_toArray, List.set_cons_zero, List.set_cons_succ]
        refine wpAnyH_ready (rs := [9]) (by kernel_rfl) (by simp) ?_
        refine AllReadyH.cons rfl (fun K hK => ?_) AllReadyH.nil
        go_simp
        refine hK.out _ _ ?_ (fun hHeld => ?_)
        · exact hl6T hh (below_sz hb' hb'') hS1
        clear hK K
        try simp only [Act.put, List.setIfInBounds_toArray, List.set_cons_zero, List.set_cons_succ]
        refine wpAnyH_take (i := 10) (v := ?_) rfl (by kernel_rfl) (by kernel_rfl) (by kernel_rfl) (fun _ _ _ h => h) (Or.inl ⟨by rfl, ?_⟩) (by assumption) ?_
        rotate_left
        · intro w hSw; (try dsimp only at hSw); go_simp; try with_reducible rfl
        simp only [Act.put, List.setIfInBounds_toArray, List.set_cons_zero, List.set_cons_succ, List.getElem_toArray, List.getElem_cons_zero, List.getElem_cons_succ]
        refine wpAnyH_done (by kernel_rfl) ?_ _
        go_wp2_with fail
        go_meet
        exact ⟨_, rfl, rfl, A3, n3, c3, A4, n4, c4, hHeld.2.2.2.2.2.2, PlK.new w6 A3 n3 c3 A4 n4 c4, (hpo.below ((Below.refl _ _).alloc (Nat.le_refl _) _)).at_⟩
      · go_simp
        refine hK.out _ _ ?_ (fun hHeld => ?_)
        · exact hld6 hh hHeld ((Below.refl _ _).alloc (Nat.le_refl _) _)
        clear hK K
        try simp only [Act.put, List.setIfInBounds_toArray, List.set_cons_zero, List.set_cons_succ]
        refine wpAnyH_ready (rs := [4]) (by kernel_rfl) (by simp) ?_
        refine AllReadyH.cons rfl (fun K hK => ?_) AllReadyH.nil
        go_simp
        go_at_call 39
        (with_reducible refine (kM _ _ _ _ _ _ _ (hP1.on ((Below.refl _ _).alloc (Nat.le_refl _) _))).mono ?_)
        rintro e w6 ⟨A3, n3, c3, A4, n4, c4, hs, rfl, hpo, hb''⟩
        have hk6 := (PlK.new wo none 0 0 none 0 0).on hb''
        obtain ⟨g1, g2, f1, f2⟩ := plk_facts4 hk6
        try dsimp only
        refine hK.out _ _ ?_ (fun hHeld => ?_)
        · exact hld6 hh hHeld hb''
        have hS1 := hHeld
        clear hK K
        try simp only [Act.put, List.setIfInBounds_toArray, List.set_cons_zero, List.set_cons_succ]
        refine wpAnyH_take (i := 5) (v := ?_) rfl (by kernel_rfl) (by kernel_rfl) (by kernel_rfl) (fun _ _ _ h => h) (Or.inl ⟨by rfl, ?_⟩) (by assumption) ?_
        rotate_left
        · intro w hSw; (try dsimp only at hSw); go_simp; try with_reducible rfl
        simp only [Act.put, List.setIfInBounds_toArray, List.set_cons_zero, List.set_cons_succ, List.getElem_toArray, List.getElem_cons_zero, List.getElem_cons_succ]
        refine wpAnyH_take (i := 6) (v := ?_) rfl (by kernel_rfl) (by kernel_rfl) (by kernel_rfl) (fun _ _ _ h => h) (Or.inl ⟨by rfl, ?_⟩) (by assumption) ?_
        rotate_left
        · intro w hSw; (try dsimp only at hSw); go_simp; try with_reducible rfl
        simp only [Act.put, List.setIfInBounds_toArray, List.set_cons_zero, List.set_cons_succ, List.getElem_toArray, List.getElem_cons_zero, List.getElem_cons_succ]
        refine wpAnyH_take (i := 7) (v := ?_) rfl (by kernel_rfl) (by kernel_rfl) (by kernel_rfl) (fun _ _ _ h => h) (Or.inl ⟨by rfl, ?_⟩) (by assumption) ?_
        rotate_left
        · intro w hSw; (try dsimp only at hSw); go_simp; try with_reducible rfl
        simp only [Act.put, List.setIfInBounds_toArray, List.set_cons_zero, List.set_cons_succ, List.getElem_toArray, List.getElem_cons_zero, List.getElem_cons_succ]
        refine wpAnyH_ready (rs := [9]) (by kernel_rfl) (by simp) ?_
        refine AllReadyH.cons rfl (fun K hK => ?_) AllReadyH.nil
        go_simp
        refine hK.out _ _ ?_ (fun hHeld => ?_)
        · exact hl6C hh (by have := hb'.size; simpa using this) (hl6C hh (by have := hb'.size; simpa using this) hS1)
        clear hK K
        try simp only [Act.put, List.setIfInBounds_toArray, List.set_cons_zero, List.set_cons_succ]
        refine wpAnyH_take (i := 10) (v := ?_) rfl (by kernel_rfl) (by kernel_rfl) (by kernel_rfl) (fun _ _ _ h => h) (Or.inl ⟨by rfl, ?_⟩) (by assumption) ?_
        rotate_left
        · intro w hSw; (try dsimp only at hSw); go_simp; try with_reducible rfl
        simp only [Act.put, List.setIfInBounds_toArray, List.set_cons_zero, List.set_cons_succ, List.getElem_toArray, List.getElem_cons_zero, List.getElem_cons_succ]
        refine wpAnyH_done (by kernel_rfl) ?_ _
        go_wp2_with fail
        go_meet
        have hk8 := Blk.set_ (Blk.set_ hk6 0 (.slice A3 n3 c3)) 1 (.slice A4 n4 c4)
        exact ⟨_, rfl, rfl, A3, n3, c3, A4, n4, c4, hHeld.2.2.2.2.2.2, hk8, ((hpo.store hk6 (by decide) (by decide) 0 (.slice A3 n3 c3)).store (Blk.set_ hk6 0 (.slice A3 n3 c3)) (by decide) (by decide) 1 (.slice A4 n4 c4)).at_⟩
    · go_simp
      refine hK.out _ _ ?_ (fun hHeld => ?_)
      · exact hld6 hh hP0 (show Below W.drew.heap.size W.drew (World.drew (W.alloc _)) from (Below.refl W.drew.heap.size W.drew).alloc (Nat.le_refl _) _)
      clear hK K
      try simp only [Act.put, List.setIfInBounds_toArray, List.set_cons_zero, List.set_cons_succ]
      refine wpAnyH_ready (rs := [1]) (by kernel_rfl) (by simp) ?_
      refine AllReadyH.cons rfl (fun K hK => ?_) AllReadyH.nil
      go_simp
      go_at_call 18
      (with_reducible refine (kO _ (hfz _)).mono ?_)
      rintro e wo ⟨A1, n1, c1, A2, n2, c2, rfl, hP1, hb'⟩
      have hk5 : PlK wo W.heap.size none 0 0 none 0 0 := Blk.below (Blk.drew (PlK.new W none 0 0 none 0 0)) hb' (by simp)
      try dsimp only
      refine hK.out _ _ ?_ (fun hHeld => ?_)
      · exact hld6 hh hHeld hb'
      clear hK K
      try simp only [Act.put, List.setIfInBounds_toArray, List.set_cons_zero, List.set_cons_succ]
      refine wpAnyH_ready (rs := [4]) (by kernel_rfl) (by simp) ?_
      refine AllReadyH.cons rfl (fun K hK => ?_) AllReadyH.nil
      go_simp
      go_at_call 39
      (with_reducible refine (kM _ _ _ _ _ _ _ hP1).mono ?_)
      rintro e w6 ⟨A3, n3, c3, A4, n4, c4, hs, rfl, hpo, hb''⟩
      have hk6 := hk5.on hb''
      obtain ⟨g1, g2, f1, f2⟩ := plk_facts4 hk6
      try dsimp only
      refine hK.out _ _ ?_ (fun hHeld => ?_)
      · exact hld6 hh hHeld hb''
      have hS1 := hHeld
      clear hK K
      try simp only [Act.put, List.setIfInBounds_toArray, List.set_cons_zero, List.set_cons_succ]
      refine wpAnyH_take (i := 5) (v := ?_) rfl (by kernel_rfl) (by kernel_rfl) (by kernel_rfl) (fun _ _ _ h => h) (Or.inl ⟨by rfl, ?_⟩) (by assumption) ?_
      rotate_left
      · intro w hSw; (try dsimp only at hSw); go_simp; try with_reducible rfl
      simp only [Act.put, List.setIfInBounds_toArray, List.set_cons_zero, List.set_cons_succ, List.getElem_toArray, List.getElem_cons_zero, List.getElem_cons_succ]
      refine wpAnyH_take (i := 6) (v := ?_) rfl (by kernel_rfl) (by kernel_rfl) (by kernel_rfl) (fun _ _ _ h => h) (Or.inl ⟨by rfl, ?_⟩) (by assumption) ?_
      rotate_left
      · intro w hSw; (try dsimp only at hSw); go_simp; try with_reducible rfl
      simp only [Act.put, List.setIfInBounds_toArray, List.set_cons_zero, List.set_cons_succ, List.getElem_toArray, List.getElem_cons_zero, List.getElem_cons_succ]
      refine wpAnyH_take (i := 7) (v := ?_) rfl (by kernel_rfl) (by kernel_rfl) (by kernel_rfl) (fun _ _ _ h => h) (Or.inl ⟨by rfl, ?_⟩) (by assumption) ?_
      rotate_left
      · intro w hSw; (try dsimp only at hSw); go_simp; try with_reducible rfl
      simp only [Act.put, List.setIfInBounds_toArray, List.set_cons_zero, List.set_cons_succ, List.getElem_toArray, List.getElem_cons_zero, List.getElem_cons_succ]
      refine wpAnyH_ready (rs := [9]) (by kernel_rfl) (by simp) ?_
      refine AllReadyH.cons rfl (fun K hK => ?_) AllReadyH.nil
      go_simp
      refine hK.out _ _ ?_ (fun hHeld => ?_)
      · exact hl6C hh (Nat.le_refl _) (hl6C hh (Nat.le_refl _) hS1)
      clear hK K
      try simp only [Act.put, List.setIfInBounds_toArray, List.set_cons_zero, List.set_cons_succ]
      refine wpAnyH_take (i := 10) (v := ?_) rfl (by kernel_rfl) (by kernel_rfl) (by kernel_rfl) (fun _ _ _ h => h) (Or.inl ⟨by rfl, ?_⟩) (by assumption) ?_
      rotate_left
      · intro w hSw; (try dsimp only at hSw); go_simp; try with_reducible rfl
      simp only [Act.put, List.setIfInBounds_toArray, List.set_cons_zero, List.set_cons_succ, List.getElem_toArray, List.getElem_cons_zero, List.getElem_cons_succ]
      refine wpAnyH_done (by kernel_rfl) ?_ _
      go_wp2_with fail
      go_meet
      have hk8 := Blk.set_ (Blk.set_ hk6 0 (.slice A3 n3 c3)) 1 (.slice A4 n4 c4)
      exact ⟨_, rfl, rfl, A3, n3, c3, A4, n4, c4, hHeld.2.2.2.2.2.2, hk8, ((hpo.store hk6 (by decide) (by decide) 0 (.slice A3 n3 c3)).store (Blk.set_ hk6 0 (.slice A3 n3 c3)) (by decide) (by decide) 1 (.slice A4 n4 c4)).at_⟩
  case rest =>
    obtain ⟨B5, rfl, rfl, A5, n5, c5, A6, n6, c6, hbc, hK, hP⟩ := hcut
    have hH := H2.out.on hbc
    have H5 := Lib.hid (And.intro hH (And.intro hK hP))
    obtain ⟨q1, q2, q3⟩ := hH.2.1.facts
    obtain ⟨y1, y2, y3⟩ := hK.facts
    obtain ⟨t1, t2, -, -, -⟩ := PtK.facts hH.2.2.1
    clear hbc hK hP kO kM hP0 hh hfz H2 hH
    by_cases hz0 : ¬ z = 0
    · have hR0 : R = ⟨[], []⟩ := by rw [HZ.out.2]; exact moveP_no HZ.out.1.symm hz0
      have kS := samePl_any R ⟨[], []⟩ A5 A6 none none n5 c5 n6 c6 0 0 0 0 wc H5.out.2.2 (planAt_nil wc)
      rw [← hR0, plEq_self] at kS
      have KS := Lib.hid kS
      clear hR0 kS
      go_wp2_with fail
      refine KS.out.mono ?_
      rintro e w8 ⟨rfl, hb8⟩
      have HB := Lib.hid (below_on H5.out.1.1 (Nat.le_refl _) hb8)
      clear hb8 H5 KS
      go_wp2_with fail
      go_ret
      exact ⟨by first | rfl | simp, HB.out⟩
    have hz0 : z = 0 := Classical.not_not.1 hz0
    subst hz0
    have HS := Lib.hid (sums_law HZ.out.1.symm HZ.out.2)
    clear HZ
    have hPR := H5.out.2.2
    have hPP := H5.out.1.2.2.2.2
    obtain ⟨hl1, hl2, hl3, hl4⟩ := hPP.lens
    obtain ⟨hr1, hr2, hr3, hr4⟩ := hPR.lens
    have hnn : n6 = n' := by have := HS.out.2.2.2.1; omega
    subst hnn
    have HL := Lib.hid (And.intro hl2 (And.intro hr2 (And.intro hl3 hr3)))
    have h64 : n6 ≤ 64 := by have := (listed_bd HS.out.1.1).2.1; omega
    have kC := Lib.hid (fun V (hV : Below wc.heap.size wc V) => checkPR_any R A5 A6 n5 c5 n6 c6 V (hPR.on hV))
    clear hl1 hl2 hl3 hl4 hr1 hr2 hr3 hr4 hPR hPP
    go_upto_region 7 with fail
    obtain ⟨wa, hwa⟩ : ∃ wa : World, wa = (wc.alloc (.cells #[.int .i64 0, .int .u64 0] 66)).alloc (.cells #[.int .i64 0, .int .u64 0] 66) := ⟨_, rfl⟩
    rw [← hwa]
    have hba : Below wc.heap.size wc wa := by rw [hwa]; exact ((Below.refl _ _).alloc (Nat.le_refl _) _).alloc (by simp) _
    have hSa : Blk wa wc.heap.size 66 #[.int .i64 0, .int .u64 0] := by rw [hwa]; exact Blk.alloc (Blk.new wc _ _) _
    have hSb : Blk wa (wc.heap.size + 1) 66 #[.int .i64 0, .int .u64 0] := by
      have := Blk.new (wc.alloc (.cells #[.int .i64 0, .int .u64 0] 66)) 66 #[.int .i64 0, .int .u64 0]
      rw [World.size_alloc] at this
      rw [hwa]
      exact this
    clear hwa
    obtain ⟨Ba, hBa⟩ : ∃ Ba, Ba = wc.heap.size := ⟨_, rfl⟩
    have HBA : Hid (w.heap.size + 1 < Ba ∧ B5 < Ba ∧ Below wc.heap.size wc wa) := ⟨by rw [hBa]; exact Blk.lt H5.out.1.2.2.1, by rw [hBa]; exact y3, hba⟩
    have HX0 := And.intro (H5.out.1.2.2.2.2.below hba) (H5.out.2.2.below hba)
    rw [← hBa] at HX0
    have HX := Lib.hid HX0
    clear HX0
    have HSA : Hid ((w.heap.size < wa.heap.size ∧ w.heap.size + 1 < wa.heap.size ∧ B5 < wa.heap.size) ∧ Ba ≤ wa.heap.size) := ⟨⟨by have := hba.size; omega, by have := hba.size; have := Blk.lt H5.out.1.2.2.1; omega, by have := hba.size; omega⟩, by rw [hBa]; exact hba.size⟩
    rw [← hBa] at hSa hSb
    try rw [← hBa]
    have H6 := Lib.hid (And.intro (below_on H5.out.1.1 (Nat.le_refl _) hba) (And.intro (And.intro (H5.out.1.2.1.on hba) (And.intro (Blk.below H5.out.1.2.2.1 hba (Blk.lt H5.out.1.2.2.1)) (H5.out.2.1.on hba))) (And.intro hSa hSb)))
    have kC2 := Lib.hid (kC.out wa hba)
    clear hba hSa hSb q1 q2 q3 y1 y2 y3 t1 t2 kC H5 hBa
    obtain ⟨q1, q2, -⟩ := H6.out.2.1.1.facts
    obtain ⟨y1, y2, -⟩ := H6.out.2.1.2.2.facts
    have hpb : planB R = true := planB_of HS.out.2.1
    rw [hpb] at kC2
    clear hpb
    go_wp2_with fail
    refine kC2.out.mono ?_
    rintro e w3 ⟨rfl, hb3⟩
    have hkq := H6.out.2.1.1.on hb3
    have hky := H6.out.2.1.2.2.on hb3
    have H7 : Hid (Below w.heap.size w w3 ∧ (PlK w3 w.heap.size A n c A' n6 c' ∧ PtK w3 (w.heap.size + 1) f ∧ PlK w3 B5 A5 n5 c5 A6 n6 c6) ∧ (Blk w3 Ba 66 #[.int .i64 0, .int .u64 0] ∧ Blk w3 (Ba + 1) 66 #[.int .i64 0, .int .u64 0]) ∧ Below wa.heap.size wa w3) := ⟨below_on H6.out.1 (Nat.le_refl _) hb3, ⟨hkq, Blk.below H6.out.2.1.2.1 hb3 (Blk.lt H6.out.2.1.2.1), hky⟩, ⟨Blk.below H6.out.2.2.1 hb3 (Blk.lt H6.out.2.2.1), Blk.below H6.out.2.2.2 hb3 (Blk.lt H6.out.2.2.2)⟩, hb3⟩
    have kE := sameR_any p.outer R.outer A A5 n n5 c c5 w3 ((HX.out.1.more HSA.out.2).on hb3).outer ((HX.out.2.more HSA.out.2).on hb3).outer (by have := HL.out.2.2.1; omega) (by have := HL.out.2.2.2; omega)
    rw [HS.out.2.2.1, decide_eq_true rfl] at kE
    have KE := Lib.hid kE
    clear hb3 kC2 H6 q1 q2 y1 y2 kE
    obtain ⟨q1, q2, -⟩ := hkq.facts
    obtain ⟨y1, y2, -⟩ := hky.facts
    clear hkq hky
    go_wp2_with fail
    refine KE.out.mono ?_
    rintro e w4 ⟨rfl, hb4⟩
    have H8 : Hid (Below w.heap.size w w4 ∧ (PlK w4 w.heap.size A n c A' n6 c' ∧ PtK w4 (w.heap.size + 1) f ∧ PlK w4 B5 A5 n5 c5 A6 n6 c6) ∧ (Blk w4 Ba 66 #[.int .i64 0, .int .u64 0] ∧ Blk w4 (Ba + 1) 66 #[.int .i64 0, .int .u64 0]) ∧ Below Ba wa w4) := ⟨below_on H7.out.1 (Nat.le_refl _) hb4, ⟨H7.out.2.1.1.on hb4, Blk.below H7.out.2.1.2.1 hb4 (Blk.lt H7.out.2.1.2.1), H7.out.2.1.2.2.on hb4⟩, ⟨Blk.below H7.out.2.2.1.1 hb4 (Blk.lt H7.out.2.2.1.1), Blk.below H7.out.2.2.1.2 hb4 (Blk.lt H7.out.2.2.1.2)⟩, (below_on H7.out.2.2.2 (Nat.le_refl _) hb4).mono HSA.out.2⟩
    clear hb4 KE H7 q1 q2 y1 y2
    go_wp2_with fail
    have HSM := Lib.hid (And.intro HBA.out.1 HBA.out.2.1)
    clear HBA
    go_loopw [11] (fun i wr => ∃ k : Nat, k ≤ n6 ∧ i = .int .i64 (k : Int) ∧ Hid (Below w.heap.size w wr ∧ (PlK wr w.heap.size A n c A' n6 c' ∧ PtK wr (w.heap.size + 1) f ∧ PlK wr B5 A5 n5 c5 A6 n6 c6) ∧ (Blk wr Ba 66 #[.int .i64 (tS f p p k / 18446744073709551616), .int .u64 (tS f p p k % 18446744073709551616)] ∧ Blk wr (Ba + 1) 66 #[.int .i64 (tS f p R k / 18446744073709551616), .int .u64 (tS f p R k % 18446744073709551616)]) ∧ Below Ba wa wr)) (fun i _ => n6 - (intOf i).toNat)
    case atStart => exact ⟨0, Nat.zero_le _, rfl, H8⟩
    case round =>
      clear H8
      obtain ⟨k, hk, rfl, HW⟩ := hrel
      obtain ⟨q1, q2, q3⟩ := HW.out.2.1.1.facts
      obtain ⟨t1, t2, -, -, -⟩ := PtK.facts HW.out.2.1.2.1
      obtain ⟨y1, y2, y3⟩ := HW.out.2.1.2.2.facts
      by_cases hlt : k < n6
      · have hlt' : (k : Int) < (n6 : Int) := by omega
        have hw1 : IntKind.i64.wrap ((k : Int) + 1) = (k : Int) + 1 := by rw [IntKind.wrap_i64]; omega
        obtain ⟨ad, rfl⟩ := HX.out.1.parcs.some_ (by omega)
        obtain ⟨bd, rfl⟩ := HX.out.2.parcs.some_ (by omega)
        have hBr : Ba ≤ wr.heap.size := Nat.le_of_lt (Blk.lt HW.out.2.2.1.1)
        obtain ⟨hb1, p1, ⟨Ak, nk, ck, p2, hrk, hk1, hk2⟩, p3⟩ := (HX.out.1.below HW.out.2.2.2).parcs.at_ hlt
        obtain ⟨hb2, p4, ⟨Bk, mk, dk, p5, hsk, hk3, hk4⟩, p6⟩ := (HX.out.2.below HW.out.2.2.2).parcs.at_ hlt
        have hlk : k < p.parcels.length := by have := HL.out.1; omega
        have hlr : k < R.parcels.length := by have := HL.out.2.1; omega
        have hxm : pcAt p.parcels k ∈ p.parcels := by rw [pcAt_lt hlk]; exact List.getElem_mem _
        have hym : pcAt R.parcels k ∈ R.parcels := by rw [pcAt_lt hlr]; exact List.getElem_mem _
        have hfx := HX.out.1.fits.2.2 _ hxm
        have hfy := HX.out.2.fits.2.2 _ hym
        have hA0 := norm_area (HS.out.1.2.2.1 _ hxm)
        have hA1 := norm_area (HS.out.2.1.2.2.1 _ hym)
        have hnk : nk ≤ 8796093022208 := by have := hrk.lenPt; have := hfx.1; omega
        have hmk : mk ≤ 8796093022208 := by have := hsk.lenPt; have := hfy.1; omega
        have hh : (⟨w.heap.size, 1, none⟩ : Addr).block < wr.heap.size ∧ (⟨(ad.add (k * 3)).block, (ad.add (k * 3)).off + 1, none⟩ : Addr).block < wr.heap.size ∧ (⟨w.heap.size + 1, 0, none⟩ : Addr).block < wr.heap.size ∧ (⟨w.heap.size + 1, 1, none⟩ : Addr).block < wr.heap.size := by
          have := Blk.lt HW.out.2.1.2.1
          refine ⟨q3, ?_, this, this⟩
          simp only [block_of_add]
          omega
        have kI := inR_any (pcAt p.parcels k).ring f Ak nk ck wr.drew ((hrk.more hBr).drewN _) hnk
        obtain ⟨i0, hi0⟩ : ∃ i0, i0 = idxPt (pcAt p.parcels k).ring f := ⟨_, rfl⟩
        rw [← hi0] at kI
        have HI : Hid (0 ≤ i0 ↔ f ∈ (pcAt p.parcels k).ring) := by show _ ↔ _; rw [hi0]; exact idx_nonneg
        clear hi0
        have hP0 : wr.drew.cell? ⟨w.heap.size, 1, none⟩ = some (.slice (some ad) n6 c') ∧ wr.drew.cell? ⟨(ad.add (k * 3)).block, (ad.add (k * 3)).off + 1, none⟩ = some (.slice Ak nk ck) ∧ wr.drew.cell? ⟨w.heap.size + 1, 0, none⟩ = some (.int .i64 f.x) ∧ wr.drew.cell? ⟨w.heap.size + 1, 1, none⟩ = some (.int .i64 f.y) ∧ Below wr.heap.size wr wr.drew := ⟨q2, p2, t1, t2, (Below.refl _ _).drew⟩
        have HF := Lib.hid (And.intro (And.intro p1 (And.intro p2 p3)) (And.intro (And.intro p4 (And.intro p5 p6)) (And.intro (And.intro hrk hsk) (And.intro hb1 hb2))))
        have HG := Lib.hid (And.intro (And.intro hfx hfy) (And.intro (And.intro hA0 hA1) (And.intro hlk (And.intro hnk hmk))))
        have HY := Lib.hid (And.intro q2 (And.intro y2 (And.intro q3 y3)))
        clear p1 p2 p3 p4 p5 p6 hrk hsk hb1 hb2 hfx hfy hA0 hA1 hxm hym hk1 hk2 hk3 hk4 hlr hlk hnk hmk q1 y1 q3 y3
        go_upto_region 12 with fail
        clear q2 t1 t2 y2
        refine wp_region_held_drew (S := fun V => V.cell? ⟨w.heap.size, 1, none⟩ = some (.slice (some ad) n6 c') ∧ V.cell? ⟨(ad.add (k * 3)).block, (ad.add (k * 3)).off + 1, none⟩ = some (.slice Ak nk ck) ∧ V.cell? ⟨w.heap.size + 1, 0, none⟩ = some (.int .i64 f.x) ∧ V.cell? ⟨w.heap.size + 1, 1, none⟩ = some (.int .i64 f.y) ∧ Below wr.heap.size wr V) (by kernel_rfl) ?_ (fun hHeld => ?_)
        · exact hP0
        refine wpAnyH_take (i := 0) (v := ?_) rfl (by kernel_rfl) (by kernel_rfl) (by kernel_rfl) (fun _ _ _ h => h) (Or.inl ⟨by rfl, ?_⟩) (by assumption) ?_
        rotate_left
        · intro w hSw; (try dsimp only at hSw); go_simp; try with_reducible rfl
        simp only [Act.put, List.setIfInBounds_toArray, List.set_cons_zero, List.set_cons_succ, List.getElem_toArray, List.getElem_cons_zero]
        refine wpAnyH_take (i := 1) (v := ?_) rfl (by kernel_rfl) (by kernel_rfl) (by kernel_rfl) (fun _ _ _ h => h) (Or.inl ⟨by rfl, ?_⟩) (by assumption) ?_
        rotate_left
        · intro w hSw; (try dsimp only at hSw); go_simp; try with_reducible rfl
        simp only [Act.put, List.setIfInBounds_toArray, List.set_cons_zero, List.set_cons_succ, List.getElem_toArray, List.getElem_cons_zero, List.getElem_cons_succ]
        refine wpAnyH_take (i := 2) (v := ?_) rfl (by kernel_rfl) (by kernel_rfl) (by kernel_rfl) (fun _ _ _ h => h) (Or.inl ⟨by rfl, ?_⟩) (by assumption) ?_
        rotate_left
        · intro w hSw; (try dsimp only at hSw); go_simp; try with_reducible rfl
        simp only [Act.put, List.setIfInBounds_toArray, List.set_cons_zero, List.set_cons_succ, List.getElem_toArray, List.getElem_cons_zero, List.getElem_cons_succ]
        refine wpAnyH_take (i := 3) (v := ?_) rfl (by kernel_rfl) (by kernel_rfl) (by kernel_rfl) (fun _ _ _ h => h) (Or.inl ⟨by rfl, ?_⟩) (by assumption) ?_
        rotate_left
        · intro w hSw; (try dsimp only at hSw); go_simp; try with_reducible rfl
        simp only [Act.put, List.setIfInBounds_toArray, List.set_cons_zero, List.set_cons_succ, List.getElem_toArray, List.getElem_cons_zero, List.getElem_cons_succ]
        refine wpAnyH_take (i := 4) (v := ?_) rfl (by kernel_rfl) (by kernel_rfl) (by kernel_rfl) (fun _ _ _ h => h) (Or.inl ⟨by rfl, ?_⟩) (by assumption) ?_
        rotate_left
        · intro w hSw; (try dsimp only at hSw); go_simp; try with_reducible rfl
        simp only [Act.put, List.setIfInBounds_toArray, List.set_cons_zero, List.set_cons_succ, List.getElem_toArray, List.getElem_cons_zero, List.getElem_cons_succ]
        refine wpAnyH_take (i := 5) (v := ?_) rfl (by kernel_rfl) (by kernel_rfl) (by kernel_rfl) (fun _ _ _ h => h) (Or.inl ⟨by rfl, ?_⟩) (by assumption) ?_
        rotate_left
        · intro w hSw; (try dsimp only at hSw); go_simp; try with_reducible rfl
        simp only [Act.put, List.setIfInBounds_toArray, List.set_cons_zero, List.set_cons_succ, List.getElem_toArray, List.getElem_cons_zero, List.getElem_cons_succ]
        refine wpAnyH_take (i := 6) (v := ?_) rfl (by kernel_rfl) (by kernel_rfl) (by kernel_rfl) (fun _ _ _ h => h) (Or.inl ⟨by rfl, ?_⟩) (by assumption) ?_
        rotate_left
        · intro w hSw; (try dsimp only at hSw); go_simp; try with_reducible rfl
        simp only [Act.put, List.setIfInBounds_toArray, List.set_cons_zero, List.set_cons_succ, List.getElem_toArray, List.getElem_cons_zero, List.getElem_cons_succ]
        refine wpAnyH_ready (rs := [7]) (by kernel_rfl) (by simp) ?_
        refine AllReadyH.cons rfl (fun K hK => ?_) AllReadyH.nil
        go_simp
        go_at_call 42
        (with_reducible refine (kI).mono ?_)
        rintro e w1 ⟨rfl, hb'⟩
        try dsimp only
        refine hK.out _ _ ?_ (fun hHeld => ?_)
        · exact hldS4 hh hHeld hb'
        have hS1 := hHeld
        clear hK K
        try simp only [Act.put, List.setIfInBounds_toArray, List.set_cons_zero, List.set_cons_succ]
        refine wpAnyH_take (i := 8) (v := ?_) rfl (by kernel_rfl) (by kernel_rfl) (by kernel_rfl) (fun _ _ _ h => h) (Or.inl ⟨by rfl, ?_⟩) (by assumption) ?_
        rotate_left
        · intro w hSw; (try dsimp only at hSw); go_simp; try with_reducible rfl
        simp only [Act.put, List.setIfInBounds_toArray, List.set_cons_zero, List.set_cons_succ, List.getElem_toArray, List.getElem_cons_zero, List.getElem_cons_succ]
        refine wpAnyH_done (by kernel_rfl) ?_ _
        obtain ⟨-, -, -, -, hb1⟩ := hHeld
        clear hS1 kI hh hb'
        by_cases hi : i0 < 0
        · have hout : f ∉ (pcAt p.parcels k).ring := fun h => by have := HI.out.2 h; omega
          have hyx := HS.out.2.2.2.2 k HG.out.2.2.1 hout
          have ht1 : tS f p p (k + 1) = tS f p p k := tS_out hout
          have ht2 : tS f p R (k + 1) = tS f p R k := tS_out hout
          have HT := Lib.hid (And.intro ht1 ht2)
          clear ht1 ht2 hout HI
          have hf1 := HF.out.1
          have hf2 := HF.out.2.1
          have hf3 := HF.out.2.2.1
          rw [hyx] at hf2 hf3
          have hnm : mk = nk := hf3.2.lenPt.symm.trans hf3.1.lenPt
          subst hnm
          have hw1b : Below wr.heap.size wr w1 := hb1
          have hbk := HF.out.2.2.2
          have hh1 : (⟨w.heap.size, 1, none⟩ : Addr).block < w1.heap.size ∧ (⟨B5, 1, none⟩ : Addr).block < w1.heap.size ∧ (ad.add (k * 3)).block < w1.heap.size ∧ (⟨(ad.add (k * 3)).block, (ad.add (k * 3)).off + 1, none⟩ : Addr).block < w1.heap.size ∧ (⟨(ad.add (k * 3)).block, (ad.add (k * 3)).off + 2, none⟩ : Addr).block < w1.heap.size ∧ (bd.add (k * 3)).block < w1.heap.size ∧ (⟨(bd.add (k * 3)).block, (bd.add (k * 3)).off + 1, none⟩ : Addr).block < w1.heap.size ∧ (⟨(bd.add (k * 3)).block, (bd.add (k * 3)).off + 2, none⟩ : Addr).block < w1.heap.size := by
            have h1 := HY.out.2.2.1
            have h2 := HY.out.2.2.2
            have h3 := hb1.size
            simp only [block_of_add]
            refine ⟨?_, ?_, ?_, ?_, ?_, ?_, ?_, ?_⟩ <;> omega
          have kF := samePc_any (pcAt p.parcels k) (pcAt p.parcels k) Ak Bk mk mk ck dk w1.drew (((hf3.1.more hBr).on hb1).drewN _) (((hf3.2.more hBr).on hb1).drewN _) (by have := HG.out.2.2.2.1; omega) (by have := HG.out.2.2.2.1; omega)
          rw [pcEq_self] at kF
          have up : ∀ a v, a.block < wr.heap.size → wr.cell? a = some v → w1.drew.cell? a = some v := fun a v ha hv => (hb1.cell ha).trans hv
          generalize pcAt p.parcels k = x at *
          have hP1 : w1.drew.cell? ⟨w.heap.size, 1, none⟩ = some (.slice (some ad) n6 c') ∧ w1.drew.cell? ⟨B5, 1, none⟩ = some (.slice (some bd) n6 c6) ∧ w1.drew.cell? (ad.add (k * 3)) = some (.int .i64 x.id) ∧ w1.drew.cell? ⟨(ad.add (k * 3)).block, (ad.add (k * 3)).off + 1, none⟩ = some (.slice Ak mk ck) ∧ w1.drew.cell? ⟨(ad.add (k * 3)).block, (ad.add (k * 3)).off + 2, none⟩ = some (.string x.owner) ∧ w1.drew.cell? (bd.add (k * 3)) = some (.int .i64 x.id) ∧ w1.drew.cell? ⟨(bd.add (k * 3)).block, (bd.add (k * 3)).off + 1, none⟩ = some (.slice Bk mk dk) ∧ w1.drew.cell? ⟨(bd.add (k * 3)).block, (bd.add (k * 3)).off + 2, none⟩ = some (.string x.owner) ∧ Below w1.heap.size w1 w1.drew := ⟨up _ _ HY.out.2.2.1 HY.out.1, up _ _ HY.out.2.2.2 HY.out.2.1, up _ _ (by simp only [block_of_add]; omega) hf1.1, up _ _ (by simp only [block_of_add]; omega) hf1.2.1, up _ _ (by simp only [block_of_add]; omega) hf1.2.2, up _ _ (by simp only [block_of_add]; omega) hf2.1, up _ _ (by simp only [block_of_add]; omega) hf2.2.1, up _ _ (by simp only [block_of_add]; omega) hf2.2.2, (Below.refl _ _).drew⟩
          clear up hbk hf1 hf2 hf3 hyx
          go_upto_region 13 with fail
          refine wp_region_held_drew (S := fun V => V.cell? ⟨w.heap.size, 1, none⟩ = some (.slice (some ad) n6 c') ∧ V.cell? ⟨B5, 1, none⟩ = some (.slice (some bd) n6 c6) ∧ V.cell? (ad.add (k * 3)) = some (.int .i64 x.id) ∧ V.cell? ⟨(ad.add (k * 3)).block, (ad.add (k * 3)).off + 1, none⟩ = some (.slice Ak mk ck) ∧ V.cell? ⟨(ad.add (k * 3)).block, (ad.add (k * 3)).off + 2, none⟩ = some (.string x.owner) ∧ V.cell? (bd.add (k * 3)) = some (.int .i64 x.id) ∧ V.cell? ⟨(bd.add (k * 3)).block, (bd.add (k * 3)).off + 1, none⟩ = some (.slice Bk mk dk) ∧ V.cell? ⟨(bd.add (k * 3)).block, (bd.add (k * 3)).off + 2, none⟩ = some (.string x.owner) ∧ Below w1.heap.size w1 V) (by kernel_rfl) ?_ (fun hHeld => ?_)
          · exact hP1
          refine wpAnyH_take (i := 0) (v := ?_) rfl (by kernel_rfl) (by kernel_rfl) (by kernel_rfl) (fun _ _ _ h => h) (Or.inl ⟨by rfl, ?_⟩) (by assumption) ?_
          rotate_left
          · intro w hSw; (try dsimp only at hSw); go_simp; try with_reducible rfl
          simp only [Act.put, List.setIfInBounds_toArray, List.set_cons_zero, List.set_cons_succ, List.getElem_toArray, List.getElem_cons_zero]
          refine wpAnyH_take (i := 1) (v := ?_) rfl (by kernel_rfl) (by kernel_rfl) (by kernel_rfl) (fun _ _ _ h => h) (Or.inl ⟨by rfl, ?_⟩) (by assumption) ?_
          rotate_left
          · intro w hSw; (try dsimp only at hSw); go_simp; try with_reducible rfl
          simp only [Act.put, List.setIfInBounds_toArray, List.set_cons_zero, List.set_cons_succ, List.getElem_toArray, List.getElem_cons_zero, List.getElem_cons_succ]
          refine wpAnyH_take (i := 2) (v := ?_) rfl (by kernel_rfl) (by kernel_rfl) (by kernel_rfl) (fun _ _ _ h => h) (Or.inl ⟨by rfl, ?_⟩) (by assumption) ?_
          rotate_left
          · intro w hSw; (try dsimp only at hSw); go_simp; try with_reducible rfl
          simp only [Act.put, List.setIfInBounds_toArray, List.set_cons_zero, List.set_cons_succ, List.getElem_toArray, List.getElem_cons_zero, List.getElem_cons_succ]
          refine wpAnyH_take (i := 3) (v := ?_) rfl (by kernel_rfl) (by kernel_rfl) (by kernel_rfl) (fun _ _ _ h => h) (Or.inl ⟨by rfl, ?_⟩) (by assumption) ?_
          rotate_left
          · intro w hSw; (try dsimp only at hSw); go_simp; try with_reducible rfl
          simp only [Act.put, List.setIfInBounds_toArray, List.set_cons_zero, List.set_cons_succ, List.getElem_toArray, List.getElem_cons_zero, List.getElem_cons_succ]
          refine wpAnyH_take (i := 4) (v := ?_) rfl (by kernel_rfl) (by kernel_rfl) (by kernel_rfl) (fun _ _ _ h => h) (Or.inl ⟨by rfl, ?_⟩) (by assumption) ?_
          rotate_left
          · intro w hSw; (try dsimp only at hSw); go_simp; try with_reducible rfl
          simp only [Act.put, List.setIfInBounds_toArray, List.set_cons_zero, List.set_cons_succ, List.getElem_toArray, List.getElem_cons_zero, List.getElem_cons_succ]
          refine wpAnyH_take (i := 5) (v := ?_) rfl (by kernel_rfl) (by kernel_rfl) (by kernel_rfl) (fun _ _ _ h => h) (Or.inl ⟨by rfl, ?_⟩) (by assumption) ?_
          rotate_left
          · intro w hSw; (try dsimp only at hSw); go_simp; try with_reducible rfl
          simp only [Act.put, List.setIfInBounds_toArray, List.set_cons_zero, List.set_cons_succ, List.getElem_toArray, List.getElem_cons_zero, List.getElem_cons_succ]
          refine wpAnyH_take (i := 6) (v := ?_) rfl (by kernel_rfl) (by kernel_rfl) (by kernel_rfl) (fun _ _ _ h => h) (Or.inl ⟨by rfl, ?_⟩) (by assumption) ?_
          rotate_left
          · intro w hSw; (try dsimp only at hSw); go_simp; try with_reducible rfl
          simp only [Act.put, List.setIfInBounds_toArray, List.set_cons_zero, List.set_cons_succ, List.getElem_toArray, List.getElem_cons_zero, List.getElem_cons_succ]
          refine wpAnyH_take (i := 7) (v := ?_) rfl (by kernel_rfl) (by kernel_rfl) (by kernel_rfl) (fun _ _ _ h => h) (Or.inl ⟨by rfl, ?_⟩) (by assumption) ?_
          rotate_left
          · intro w hSw; (try dsimp only at hSw); go_simp; try with_reducible rfl
          simp only [Act.put, List.setIfInBounds_toArray, List.set_cons_zero, List.set_cons_succ, List.getElem_toArray, List.getElem_cons_zero, List.getElem_cons_succ]
          refine wpAnyH_take (i := 8) (v := ?_) rfl (by kernel_rfl) (by kernel_rfl) (by kernel_rfl) (fun _ _ _ h => h) (Or.inl ⟨by rfl, ?_⟩) (by assumption) ?_
          rotate_left
          · intro w hSw; (try dsimp only at hSw); go_simp; try with_reducible rfl
          simp only [Act.put, List.setIfInBounds_toArray, List.set_cons_zero, List.set_cons_succ, List.getElem_toArray, List.getElem_cons_zero, List.getElem_cons_succ]
          refine wpAnyH_take (i := 9) (v := ?_) rfl (by kernel_rfl) (by kernel_rfl) (by kernel_rfl) (fun _ _ _ h => h) (Or.inl ⟨by rfl, ?_⟩) (by assumption) ?_
          rotate_left
          · intro w hSw; (try dsimp only at hSw); go_simp; try with_reducible rfl
          simp only [Act.put, List.setIfInBounds_toArray, List.set_cons_zero, List.set_cons_succ, List.getElem_toArray, List.getElem_cons_zero, List.getElem_cons_succ]
          refine wpAnyH_ready (rs := [10]) (by kernel_rfl) (by simp) ?_
          refine AllReadyH.cons rfl (fun K hK => ?_) AllReadyH.nil
          go_simp
          go_at_call 35
          (with_reducible refine (kF).mono ?_)
          rintro e w2 ⟨rfl, hb'⟩
          try dsimp only
          refine hK.out _ _ ?_ (fun hHeld => ?_)
          · exact hldS8 hh1 hHeld hb'
          have hS1 := hHeld
          clear hK K
          try simp only [Act.put, List.setIfInBounds_toArray, List.set_cons_zero, List.set_cons_succ]
          refine wpAnyH_take (i := 11) (v := ?_) rfl (by kernel_rfl) (by kernel_rfl) (by kernel_rfl) (fun _ _ _ h => h) (Or.inl ⟨by rfl, ?_⟩) (by assumption) ?_
          rotate_left
          · intro w hSw; (try dsimp only at hSw); go_simp; try with_reducible rfl
          simp only [Act.put, List.setIfInBounds_toArray, List.set_cons_zero, List.set_cons_succ, List.getElem_toArray, List.getElem_cons_zero, List.getElem_cons_succ]
          refine wpAnyH_done (by kernel_rfl) ?_ _
          obtain ⟨-, -, -, -, -, -, -, -, hb2⟩ := hHeld
          have hbb := below_on hw1b (Nat.le_refl _) hb2
          have HV : Hid (Below w.heap.size w w2 ∧ (PlK w2 w.heap.size A n c (some ad) n6 c' ∧ PtK w2 (w.heap.size + 1) f ∧ PlK w2 B5 A5 n5 c5 (some bd) n6 c6) ∧ (Blk w2 Ba 66 #[.int .i64 (tS f p p (k + 1) / 18446744073709551616), .int .u64 (tS f p p (k + 1) % 18446744073709551616)] ∧ Blk w2 (Ba + 1) 66 #[.int .i64 (tS f p R (k + 1) / 18446744073709551616), .int .u64 (tS f p R (k + 1) % 18446744073709551616)]) ∧ Below Ba wa w2) := by
            refine ⟨below_on HW.out.1 (Nat.le_refl _) hbb, ⟨HW.out.2.1.1.on hbb, Blk.below HW.out.2.1.2.1 hbb (Blk.lt HW.out.2.1.2.1), HW.out.2.1.2.2.on hbb⟩, ?_, SB_ba HW.out.2.2.2 hBr hbb⟩
            rw [HT.out.1, HT.out.2]
            exact ⟨Blk.below HW.out.2.2.1.1 hbb (Blk.lt HW.out.2.2.1.1), Blk.below HW.out.2.2.1.2 hbb (Blk.lt HW.out.2.2.1.2)⟩
          clear hbb hb2 hb1 hw1b HW hS1 hh1 kF hb'
          go_wp2_with fail
          go_roundw
          case rel => exact ⟨k + 1, by omega, by go_num, HV⟩
          case measure => simp [intOf]; omega
        · have hin := HI.out.1 (by omega)
          have ht1 : tS f p p (k + 1) = tS f p p k + areaZ (pcAt p.parcels k).ring := tS_in hin
          have ht2 : tS f p R (k + 1) = tS f p R k + areaZ (pcAt R.parcels k).ring := tS_in hin
          have hlk := HG.out.2.2.1
          have h64 := h64
          have hH1 := SB.on (va := #[.int .i64 (tS f p p k / 18446744073709551616), .int .u64 (tS f p p k % 18446744073709551616)]) (vb := #[.int .i64 (tS f p R k / 18446744073709551616), .int .u64 (tS f p R k % 18446744073709551616)]) HW.out hb1
          have hz1 := areaZ_bd HG.out.2.1.1
          have hz2 := areaZ_bd HG.out.2.1.2
          have hs1 := tS_bd (f := f) (p := p) (r := p) (k := k) (fun j hj => norm_area (HS.out.1.2.2.1 _ (by rw [pcAt_lt (by omega)]; exact List.getElem_mem _)))
          have hs2 := tS_bd (f := f) (p := p) (r := R) (k := k) (fun j hj => norm_area (HS.out.2.1.2.2.1 _ (by rw [pcAt_lt (by have := HS.out.2.2.2.1; omega)]; exact List.getElem_mem _)))
          have kP1 := fun V => addR_any (tS f p p k) (areaZ (pcAt p.parcels k).ring) V (by unfold small; omega) (by unfold small; omega) (by unfold small; omega)
          have kP2 := fun V => addR_any (tS f p R k) (areaZ (pcAt R.parcels k).ring) V (by unfold small; omega) (by unfold small; omega) (by unfold small; omega)
          rw [← ht1] at kP1
          rw [← ht2] at kP2
          have kA := areaR_any (pcAt p.parcels k).ring Ak nk ck w1 ((HF.out.2.2.1.1.more hBr).on hb1) (by have := HG.out.2.2.2.1; omega) HG.out.1.1.2.1
          rw [areaV_ok HG.out.2.1.1, HG.out.2.1.1] at kA
          have kB := fun V (hV : Below w1.heap.size w1 V) => areaR_any (pcAt R.parcels k).ring Bk mk dk V (((HF.out.2.2.1.2.more hBr).on hb1).on hV) (by have := HG.out.2.2.2.2; omega) HG.out.1.2.2.1
          rw [areaV_ok HG.out.2.1.2, HG.out.2.1.2] at kB
          have p2 : w1.cell? ⟨(ad.add (k * 3)).block, (ad.add (k * 3)).off + 1, none⟩ = some (.slice Ak nk ck) := (hb1.cell (by have := HF.out.2.2.2.1; simp only [block_of_add]; omega)).trans HF.out.1.2.1
          have p5 : w1.cell? ⟨(bd.add (k * 3)).block, (bd.add (k * 3)).off + 1, none⟩ = some (.slice Bk mk dk) := (hb1.cell (by have := HF.out.2.2.2.2; simp only [block_of_add]; omega)).trans HF.out.2.1.2.1
          have hbb : ad.block < w1.heap.size ∧ bd.block < w1.heap.size := by have := HF.out.2.2.2; have := hb1.size; omega
          have hsz : Ba ≤ w1.heap.size := by have := hb1.size; omega
          clear HI hin hz1 hz2 hs1 hs2 hlk HW hb1 HG HF HY ht1 ht2
          generalize areaZ (pcAt p.parcels k).ring = z1 at *
          generalize areaZ (pcAt R.parcels k).ring = z2 at *
          generalize tS f p p k = s1 at *
          generalize tS f p R k = s2 at *
          unfold i128 at kP1 kP2 kA kB
          obtain ⟨r1h, hr1h⟩ : ∃ x, x = tS f p p (k + 1) / 18446744073709551616 := ⟨_, rfl⟩
          obtain ⟨r1l, hr1l⟩ : ∃ x, x = tS f p p (k + 1) % 18446744073709551616 := ⟨_, rfl⟩
          obtain ⟨r2h, hr2h⟩ : ∃ x, x = tS f p R (k + 1) / 18446744073709551616 := ⟨_, rfl⟩
          obtain ⟨r2l, hr2l⟩ : ∃ x, x = tS f p R (k + 1) % 18446744073709551616 := ⟨_, rfl⟩
          rw [← hr1h, ← hr1l] at kP1
          rw [← hr2h, ← hr2l] at kP2
          have HT := Lib.hid (And.intro (And.intro hr1h hr1l) (And.intro hr2h hr2l))
          clear hr1h hr1l hr2h hr2l
          generalize z1 / 18446744073709551616 = z1h at *
          generalize z1 % 18446744073709551616 = z1l at *
          generalize z2 / 18446744073709551616 = z2h at *
          generalize z2 % 18446744073709551616 = z2l at *
          generalize s1 / 18446744073709551616 = s1h at *
          generalize s1 % 18446744073709551616 = s1l at *
          generalize s2 / 18446744073709551616 = s2h at *
          generalize s2 % 18446744073709551616 = s2l at *
          have H1 := Lib.hid (And.intro hH1 (And.intro (And.intro p2 p5) hbb))
          have KA := Lib.hid kA
          have KB := Lib.hid kB
          have KP := Lib.hid (And.intro kP1 kP2)
          clear kA kB kP1 kP2 p5 hbb hH1 hBr
          obtain ⟨q1, q2, -⟩ := H1.out.1.2.1.1.facts
          go_wp2_with fail
          refine KA.out.mono ?_
          rintro e w5 ⟨rfl, hb5⟩
          clear q1 q2 p2 hi
          go_upto_region 16 with fail
          have hba : Below w5.heap.size w5 (w5.alloc (.cells #[.int .i64 z1h, .int .u64 z1l] 66)) := (Below.refl _ _).alloc (Nat.le_refl _) _
          have hb6 := below_on hb5 (Nat.le_refl _) hba
          have hc6 : Blk (w5.alloc (.cells #[.int .i64 z1h, .int .u64 z1l] 66)) w5.heap.size 66 #[.int .i64 z1h, .int .u64 z1l] := Blk.new _ _ _
          have hsz6 := Nat.le_trans hsz hb5.size
          have hp5 := (hb6.cell (p := ⟨(bd.add (k * 3)).block, (bd.add (k * 3)).off + 1, none⟩) (by have := H1.out.2.2.2; simp only [block_of_add]; omega)).trans H1.out.2.1.2
          have hS6 := H1.out.1.on hb6
          have kB := KB.out _ hb6
          have H6 := Lib.hid (And.intro hS6 (And.intro hc6 hsz6))
          obtain ⟨y1, y2, -⟩ := hS6.2.1.2.2.facts
          have KB6 := Lib.hid kB
          clear hba hb6 hc6 hsz6 hb5 hS6 kB KA KB H1 hsz
          obtain ⟨Bc, hBc⟩ : ∃ Bc, Bc = w5.heap.size := ⟨_, rfl⟩
          rw [← hBc] at H6
          try rw [← hBc]
          clear hBc
          generalize w5.alloc (.cells #[.int .i64 z1h, .int .u64 z1l] 66) = w6 at *
          go_wp2_with fail
          refine KB6.out.mono ?_
          rintro e w7 ⟨rfl, hb7⟩
          clear y1 y2 hp5
          go_upto_region 17 with fail
          have hba : Below w7.heap.size w7 (w7.alloc (.cells #[.int .i64 z2h, .int .u64 z2l] 66)) := (Below.refl _ _).alloc (Nat.le_refl _) _
          have hb8 := below_on hb7 (Nat.le_refl _) hba
          have hS8 := H6.out.1.on hb8
          have hc8 := Blk.below H6.out.2.1 hb8 (Blk.lt H6.out.2.1)
          have hd8 : Blk (w7.alloc (.cells #[.int .i64 z2h, .int .u64 z2l] 66)) w7.heap.size 66 #[.int .i64 z2h, .int .u64 z2l] := Blk.new _ _ _
          obtain ⟨Bd, hBd⟩ : ∃ Bd, Bd = w7.heap.size := ⟨_, rfl⟩
          rw [← hBd] at hd8
          try rw [← hBd]
          have hne : Ba + 1 < Bd := by rw [hBd]; have h1 := Blk.lt H6.out.1.2.2.1.2; have := hb7.size; omega
          have H8 := Lib.hid (And.intro hS8 (And.intro hc8 (And.intro hd8 hne)))
          obtain ⟨a1, a2, -, -⟩ := blk_two hS8.2.2.1.1
          obtain ⟨c1, c2, -, -⟩ := blk_two hc8
          clear hBd hba hb8 hS8 hc8 hd8 hne hb7 H6 KB6
          generalize w7.alloc (.cells #[.int .i64 z2h, .int .u64 z2l] 66) = w8 at *
          go_wp2_with fail
          refine (KP.out.1 _).mono ?_
          rintro e w9 ⟨rfl, hb9⟩
          have hS9 := H8.out.1.on hb9
          have hd9 := Blk.below H8.out.2.2.1 hb9 (Blk.lt H8.out.2.2.1)
          have hSA := hS9.setA HSM.out r1h r1l
          have hdA : Blk ((w9.setCell ⟨Ba, 0, none⟩ (.int .i64 r1h)).setCell ⟨Ba, 1, none⟩ (.int .u64 r1l)) Bd 66 #[.int .i64 z2h, .int .u64 z2l] := Blk.far (Blk.far hd9 (by have := H8.out.2.2.2; simp only [ne_eq]; omega) _) (by have := H8.out.2.2.2; simp only [ne_eq]; omega) _
          obtain ⟨a3, a4, f3, f4⟩ := blk_two hS9.2.2.1.1
          obtain ⟨V, hV⟩ : ∃ V, V = (w9.setCell ⟨Ba, 0, none⟩ (.int .i64 r1h)).setCell ⟨Ba, 1, none⟩ (.int .u64 r1l) := ⟨_, rfl⟩
          rw [← hV] at hSA hdA
          have HA := Lib.hid (And.intro hSA hdA)
          obtain ⟨b1, b2, -, -⟩ := blk_two hSA.2.2.1.2
          obtain ⟨d1, d2, -, -⟩ := blk_two hdA
          clear a1 a2 c1 c2 H8 hb9 hS9 hd9 hSA hdA
          go_upto_region 18 with fail
          try rw [← hV]
          clear hV a3 a4 f3 f4
          go_wp2_with fail
          refine (KP.out.2 _).mono ?_
          rintro e w10 ⟨rfl, hb10⟩
          have hS10 := HA.out.1.on hb10
          have hSB := hS10.setB HSM.out r2h r2l
          obtain ⟨a3, a4, f3, f4⟩ := blk_two hS10.2.2.1.2
          have HV := Lib.hid hSB
          clear b1 b2 d1 d2 HA hb10 hS10 hSB
          go_wp2_with fail
          go_roundw
          case rel => exact ⟨k + 1, by omega, by go_num, by rw [← HT.out.1.1, ← HT.out.1.2, ← HT.out.2.1, ← HT.out.2.2]; exact HV⟩
          case measure => simp [intOf]; omega
      · have hkn : k = n6 := by omega
        subst hkn
        have he := tS_eq (f := f) HS.out.1 HS.out.2.1 HS.out.2.2.1 HS.out.2.2.2.1 HS.out.2.2.2.2
        rw [HL.out.1] at he
        obtain ⟨a1, a2, -, -⟩ := blk_two HW.out.2.2.1.1
        obtain ⟨b1, b2, -, -⟩ := blk_two HW.out.2.2.1.2
        rw [← he] at b1 b2
        clear he
        generalize tS f p p k = s1 at *
        generalize s1 / 18446744073709551616 = s1h at *
        generalize s1 % 18446744073709551616 = s1l at *
        go_wp2_with fail
        go_ret
        exact ⟨by first | rfl | simp, HW.out.1⟩
end Go.Proofs.YtglnklfhgdjccaaGreat

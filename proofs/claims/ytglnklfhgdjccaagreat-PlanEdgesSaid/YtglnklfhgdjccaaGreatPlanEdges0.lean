/- merestonelaw05.PlanEdges: the walk. -/
import Derived.Deep.DeepCutAuto
import Derived.Test.YtglnklfhgdjccaaGreatFindLaw
import Derived.Test.YtglnklfhgdjccaaGreatCheckPR
namespace Go.Proofs.YtglnklfhgdjccaaGreat
open Go.RowKit
def GB (p : Plan) (A : Option Addr) (n c : Nat) (A' : Option Addr) (n' c' : Nat) (w W : World) : Prop := Below w.heap.size w W ∧ PlK W w.heap.size A n c A' n' c' ∧ PlanAt W W.heap.size A n c A' n' c' p
theorem GB.on {p : Plan} {A A' : Option Addr} {n c n' c' : Nat} {w W W' : World} (h : GB p A n c A' n' c' w W) (hb : Below W.heap.size W W') : GB p A n c A' n' c' w W' := ⟨below_on h.1 (Nat.le_refl _) hb, h.2.1.on hb, h.2.2.on hb⟩
theorem GB.plan {p : Plan} {A A' : Option Addr} {n c n' c' : Nat} {w W : World} (h : GB p A n c A' n' c' w W) : W.cell? ⟨w.heap.size, 0, none⟩ = some (.slice A n c) ∧ W.cell? ⟨w.heap.size, 1, none⟩ = some (.slice A' n' c') ∧ w.heap.size < W.heap.size := ⟨h.2.1.facts.1, h.2.1.facts.2.1, Blk.lt h.2.1⟩
theorem hld1 {W V V' : World} {a0 : Addr} {v0 : Value} (hh : a0.block < W.heap.size) (hs : V.cell? a0 = some v0 ∧ Below W.heap.size W V) (hb : Below V.heap.size V V') :
    V'.cell? a0 = some v0 ∧ Below W.heap.size W V' := by
  have h0 := hh
  obtain ⟨c0, cb⟩ := hs
  have := cb.size
  have k : ∀ {a : Addr} {v : Value}, a.block < W.heap.size → V.cell? a = some v → V'.cell? a = some v := fun {a v} ha hv => (hb.cell (p := a) (by omega)).trans hv
  exact ⟨k h0 c0, below_on cb (Nat.le_refl _) hb⟩
theorem hldT1 {W V : World} {a0 : Addr} {v0 : Value} {o o' : Obj} (hh : a0.block < W.heap.size) (hz : W.heap.size ≤ V.heap.size) (hs : (V.alloc o).cell? a0 = some v0 ∧ Below W.heap.size W (V.alloc o)) : (V.alloc o').cell? a0 = some v0 ∧ Below W.heap.size W (V.alloc o') := by
  obtain ⟨h1, h6⟩ := hs
  refine ⟨?_, ?_⟩
  · rw [World.cell?_alloc_lt V o' a0 (by omega), ← World.cell?_alloc_lt V o a0 (by omega)]
    exact h1
  · exact ⟨h6.os, h6.tape, h6.output, by rw [World.size_alloc]; omega, fun k hk => (Below.heap_alloc V o' k (by omega)).trans ((Below.heap_alloc V o k (by omega)).symm.trans (h6.block k hk))⟩
theorem hldC1 {W V : World} {a0 p : Addr} {v0 u : Value} (hh : a0.block < W.heap.size) (hp : W.heap.size ≤ p.block) (hs : V.cell? a0 = some v0 ∧ Below W.heap.size W V) : (V.setCell p u).cell? a0 = some v0 ∧ Below W.heap.size W (V.setCell p u) :=
  ⟨by rw [World.cell?_setCell_other _ _ _ _ (fun e => by subst e; omega)]; exact hs.1, hs.2.setCell hp u⟩
theorem blk_four {W : World} {g : Nat} {t : TypeId} {a b c d : Value} (h : Blk W g t #[a, b, c, d]) : (W.cell? ⟨g, 0, none⟩ = some a ∧ W.cell? ⟨g, 1, none⟩ = some b ∧ W.cell? ⟨g, 2, none⟩ = some c ∧ W.cell? ⟨g, 3, none⟩ = some d) ∧ W.frozen? ⟨g, 0, none⟩ = false ∧ W.frozen? ⟨g, 1, none⟩ = false ∧ W.frozen? ⟨g, 2, none⟩ = false ∧ W.frozen? ⟨g, 3, none⟩ = false :=
  ⟨⟨Blk.cell h 0, Blk.cell h 1, Blk.cell h 2, Blk.cell h 3⟩, Blk.frozen h 0, Blk.frozen h 1, Blk.frozen h 2, Blk.frozen h 3⟩
set_option maxRecDepth 100000 in
set_option maxHeartbeats 6400000 in
theorem planEdgesL_any (p : Plan) (ka kb : Nat) (hka : ka ≤ 255) (hkb : kb ≤ 255) (A A' : Option Addr) (n c n' c' : Nat) (w : World) (h : PlanAt w w.heap.size A n c A' n' c' p) :
    Calls Tryz.prog 5 #[planV A n c A' n' c', .int .u8 (ka : Int), .int .u8 (kb : Int)] w fun e w' => e = .returned (.bool true) ∧ Below w.heap.size w w' := by
  obtain ⟨wa, hwa⟩ : ∃ wa : World, wa = w.alloc (.cells #[.slice A n c, .slice A' n' c'] 26) := ⟨_, rfl⟩
  have hF : GB p A n c A' n' c' w wa := by
    have hB0 : Below w.heap.size w wa := by rw [hwa]; exact (Below.refl _ _).alloc (Nat.le_refl _) _
    exact ⟨hB0, by rw [hwa]; exact PlK.new w A n c A' n' c', h.on hB0⟩
  have H0 := Lib.hid hF
  clear hF h
  go_enter Tryz.func5, Tryz.ntmps5
  go_upto_region 1 with fail
  rw [← hwa]
  clear hwa
  go_wp2_with (go_at_call 15; (with_reducible refine (ans05_any _).mono ?_); rintro e w1 ⟨rfl, hb1⟩; have H1 := Lib.hid (H0.out.on hb1); obtain ⟨q1, q2, -⟩ := H1.out.plan; clear hb1 H0)
  refine (small_any p A A' n c n' c' w1 H1.out.2.2).mono ?_
  rintro e w2 ⟨b, rfl, hsm, hb2⟩
  have H2 := Lib.hid (H1.out.on hb2)
  clear hb2 q1 q2 H1
  rcases b with _ | _
  · clear hsm
    go_wp2_with fail
    refine (ans05_any _).mono ?_
    rintro e w3 ⟨rfl, hb3⟩
    have HB := Lib.hid (below_on H2.out.1 (Nat.le_refl _) hb3)
    clear hb3 H2
    go_wp2_with fail
    go_ret
    exact ⟨rfl, HB.out⟩
  have hn' : n' ≤ 1048576 := by have := (hsm rfl).1; omega
  clear hsm
  have HN := Lib.hid hn'
  have KR := Lib.hid (checkPR_any p A A' n c n' c' w2 H2.out.2.2)
  obtain ⟨q1, q2, -⟩ := H2.out.plan
  clear hn'
  go_wp2_with fail
  refine KR.out.mono ?_
  rintro e w3 ⟨rfl, hb3⟩
  have H3 := Lib.hid (H2.out.on hb3)
  clear hb3 H2 KR q1 q2
  rcases hb : planB p with _ | _
  · clear hb
    go_wp2_with fail
    refine (ans05_any _).mono ?_
    rintro e w4 ⟨rfl, hb4⟩
    have HB := Lib.hid (below_on H3.out.1 (Nat.le_refl _) hb4)
    clear hb4 H3
    go_wp2_with fail
    go_ret
    exact ⟨rfl, HB.out⟩
  have hs := planB_sound hb
  have hl := H3.out.2.2.lens
  have hn1 : 1 ≤ n' := by have := (listed_bd hs.1).1; omega
  have hn0 : ¬ n' = 0 := by omega
  have hn2 : ¬ (n' : Int) = 0 := by omega
  have hrl : ka % n' < n' := Nat.mod_lt _ (by omega)
  have htm : (ka : Int).tmod (n' : Int) = ((ka % n' : Nat) : Int) := rfl
  have hwk : IntKind.i64.wrap (ka : Int) = (ka : Int) := IntWalk.i64_in _ (by omega)
  have hwb : IntKind.i64.wrap (kb : Int) = (kb : Int) := IntWalk.i64_in _ (by omega)
  obtain ⟨r, hr⟩ : ∃ r, r = ka % n' := ⟨_, rfl⟩
  rw [← hr] at htm hrl
  have hrl' : (r : Int) < (n' : Int) := by omega
  have hwr : IntKind.i64.wrap (r : Int) = (r : Int) := IntWalk.i64_in _ (by have := hl.2.2.2; omega)
  obtain ⟨ad, rfl⟩ := H3.out.2.2.parcs.some_ (by omega)
  obtain ⟨hbl, p1, ⟨Ax, nx, cx, p2, hrx, hx1, hx2⟩, p3⟩ := H3.out.2.2.parcs.at_ hrl
  obtain ⟨x, hx⟩ : ∃ x, x = pcAt p.parcels r := ⟨_, rfl⟩
  rw [← hx] at p1 p3 hrx
  have hxm : x ∈ p.parcels := by rw [hx, pcAt_lt (by omega)]; exact List.getElem_mem _
  have HS := Lib.hid (And.intro hs hxm)
  have HR := Lib.hid hrx
  clear hr hb hl hx1 hx2 hx hrx hxm hs
  obtain ⟨W, hW⟩ : ∃ W, W = w3 := ⟨_, rfl⟩
  rw [← hW] at H3 HR hbl p1 p2 p3
  rw [← hW]
  clear hW
  obtain ⟨-, q2, q3⟩ := H3.out.plan
  have hP0 : W.drew.cell? ⟨w.heap.size, 1, none⟩ = some (.slice (some ad) n' c') ∧ W.drew.cell? (ad.add (r * 3)) = some (.int .i64 x.id) ∧ W.drew.cell? ⟨(ad.add (r * 3)).block, (ad.add (r * 3)).off + 1, none⟩ = some (.slice Ax nx cx) ∧ W.drew.cell? ⟨(ad.add (r * 3)).block, (ad.add (r * 3)).off + 2, none⟩ = some (.string x.owner) ∧ Below W.heap.size W W.drew := ⟨q2, p1, p2, p3, (Below.refl _ _).drew⟩
  have hh : (⟨w.heap.size, 1, none⟩ : Addr).block < W.heap.size ∧ (ad.add (r * 3)).block < W.heap.size ∧ (⟨(ad.add (r * 3)).block, (ad.add (r * 3)).off + 1, none⟩ : Addr).block < W.heap.size ∧ (⟨(ad.add (r * 3)).block, (ad.add (r * 3)).off + 2, none⟩ : Addr).block < W.heap.size := by
    simp only [block_of_add]
    exact ⟨q3, hbl, hbl, hbl⟩
  clear q2 q3 p1 p2 p3
  go_upto_region 3 with fail
  go_region_held3 (fun V => V.cell? ⟨w.heap.size, 1, none⟩ = some (.slice (some ad) n' c') ∧ V.cell? (ad.add (r * 3)) = some (.int .i64 x.id) ∧ V.cell? ⟨(ad.add (r * 3)).block, (ad.add (r * 3)).off + 1, none⟩ = some (.slice Ax nx cx) ∧ V.cell? ⟨(ad.add (r * 3)).block, (ad.add (r * 3)).off + 2, none⟩ = some (.string x.owner) ∧ Below W.heap.size W V)
    (first | with_reducible exact hP0 | with_reducible exact hld4 hh (by assumption) (by assumption) | exact hld4 hh hP0 (show Below W.drew.heap.size W.drew (World.drew (W.alloc _)) from (Below.refl W.drew.heap.size W.drew).alloc (Nat.le_refl _) _))
    (fail)
  have hba : Below W.heap.size W (World.drew (W.alloc (.cells #[.int .i64 x.id, .slice Ax nx cx, .string x.owner] 40))) := ((Below.refl _ _).alloc (Nat.le_refl _) _).drew
  have hG : PcK (World.drew (W.alloc (.cells #[.int .i64 x.id, .slice Ax nx cx, .string x.owner] 40))) W.heap.size x Ax nx cx := (PcK.new W x Ax nx cx).drew
  obtain ⟨W4, hW4⟩ : ∃ W4, W4 = World.drew (W.alloc (.cells #[.int .i64 x.id, .slice Ax nx cx, .string x.owner] 40)) := ⟨_, rfl⟩
  rw [← hW4] at hba hG
  have H4 := Lib.hid (And.intro (H3.out.on hba) (And.intro hG (HR.out.on hba)))
  obtain ⟨Bx, hBx⟩ : ∃ Bx, Bx = W.heap.size := ⟨_, rfl⟩
  rw [← hBx] at H4
  rw [← hW4, ← hBx]
  clear hP0 hh hba hG H3 HR hW4 hBx hbl htm hwr hrl hrl' hwk hn0 hn1 hn2
  have hl := H4.out.2.2.lenPt
  have h128 := ring_le HS.out.1 HS.out.2
  have h3 := (checkI_zero (HS.out.1.2.2.1 x HS.out.2).1).2.2.1
  have hn0 : ¬ nx = 0 := by omega
  have hn2 : ¬ (nx : Int) = 0 := by omega
  have hrl : kb % nx < nx := Nat.mod_lt _ (by omega)
  have htm : (kb : Int).tmod (nx : Int) = ((kb % nx : Nat) : Int) := rfl
  obtain ⟨r, hr⟩ : ∃ r, r = kb % nx := ⟨_, rfl⟩
  rw [← hr] at htm hrl
  have hrl' : (r : Int) < (nx : Int) := by omega
  have hwr : IntKind.i64.wrap (r : Int) = (r : Int) := IntWalk.i64_in _ (by omega)
  obtain ⟨e, he⟩ : ∃ e, e = edAt (edgesOf x.ring) r := ⟨_, rfl⟩
  have hem : e ∈ edgesOf x.ring := by rw [he, edAt_lt (by rw [edgesOf_len]; omega)]; exact List.getElem_mem _
  have HE := Lib.hid (edges_law HS.out.1 HS.out.2 hem)
  have HEM := Lib.hid hem
  have kE := fun V (hV : Below W4.heap.size W4 V) => edgesR_any x.ring Ax nx cx V ((H4.out.2.2.below hV).more hV.size) (by omega)
  obtain ⟨-, q2, -, q4⟩ := H4.out.2.1.facts
  have hP0 : W4.drew.cell? ⟨Bx, 1, none⟩ = some (.slice Ax nx cx) ∧ Below W4.heap.size W4 W4.drew := ⟨q2, (Below.refl _ _).drew⟩
  have hh : (⟨Bx, 1, none⟩ : Addr).block < W4.heap.size := q4
  have hfz : ∀ o, Below W4.heap.size W4 (World.drew (W4.alloc o)) := fun o => ((Below.refl _ _).alloc (Nat.le_refl _) o).drew
  have HR := Lib.hid (And.intro hr he)
  clear q2 q4 hr he hem hl h128 h3
  go_upto_region 4 with fail
  go_cut [8] (fun s wx => ∃ Be : Nat, s = .pointer (some ⟨Be, 0, none⟩) ∧ Below W4.heap.size W4 wx ∧ Blk wx Be 45 #[.int .i64 e.a.x, .int .i64 e.a.y, .int .i64 e.b.x, .int .i64 e.b.y])
  case first =>
    refine wp_region_held_drew (S := fun V => V.cell? ⟨Bx, 1, none⟩ = some (.slice Ax nx cx) ∧ Below W4.heap.size W4 V) (by kernel_rfl) ?_ (fun hHeld => ?_)
    · exact hP0
    refine wpAnyH_take (i := 0) (v := ?_) rfl (by kernel_rfl) (by kernel_rfl) (by kernel_rfl) (fun _ _ _ h => h) (Or.inl ⟨by rfl, ?_⟩) (by assumption) ?_
    rotate_left
    · intro w hSw; (try dsimp only at hSw); go_simp; try with_reducible rfl
    simp only [Act.put, List.setIfInBounds_toArray, List.set_cons_zero, List.set_cons_succ, List.getElem_toArray, List.getElem_cons_zero]
    refine wpAnyH_take (i := 1) (v := ?_) rfl (by kernel_rfl) (by kernel_rfl) (by kernel_rfl) (fun _ _ _ h => h) (Or.inl ⟨by rfl, ?_⟩) (by assumption) ?_
    rotate_left
    · intro w hSw; (try dsimp only at hSw); go_simp; try with_reducible rfl
    simp only [Act.put, List.setIfInBounds_toArray, List.set_cons_zero, List.set_cons_succ, List.getElem_toArray, List.getElem_cons_zero, List.getElem_cons_succ]
    refine wpAnyH_take (i := 3) (v := ?_) rfl (by kernel_rfl) (by kernel_rfl) (by kernel_rfl) (fun _ _ _ h => h) (Or.inl ⟨by rfl, ?_⟩) (by assumption) ?_
    rotate_left
    · intro w hSw; (try dsimp only at hSw); go_simp; try with_reducible rfl
    simp only [Act.put, List.setIfInBounds_toArray, List.set_cons_zero, List.set_cons_succ, List.getElem_toArray, List.getElem_cons_zero, List.getElem_cons_succ]
    refine wpAnyH_take (i := 4) (v := ?_) rfl (by kernel_rfl) (by kernel_rfl) (by kernel_rfl) (fun _ _ _ h => h) (Or.inl ⟨by rfl, ?_⟩) (by assumption) ?_
    rotate_left
    · intro w hSw; (try dsimp only at hSw); go_simp; try with_reducible rfl
    simp only [Act.put, List.setIfInBounds_toArray, List.set_cons_zero, List.set_cons_succ, List.getElem_toArray, List.getElem_cons_zero, List.getElem_cons_succ]
    refine wpAnyH_take (i := 5) (v := ?_) rfl (by kernel_rfl) (by kernel_rfl) (by kernel_rfl) (fun _ _ _ h => h) (Or.inl ⟨by rfl, ?_⟩) (by assumption) ?_
    rotate_left
    · intro w hSw; (try dsimp only at hSw); go_simp; try with_reducible rfl
    simp only [Act.put, List.setIfInBounds_toArray, List.set_cons_zero, List.set_cons_succ, List.getElem_toArray, List.getElem_cons_zero, List.getElem_cons_succ]
    refine wpAnyH_take (i := 6) (v := ?_) rfl (by kernel_rfl) (by kernel_rfl) (by kernel_rfl) (fun _ _ _ h => h) (Or.inl ⟨by rfl, ?_⟩) (by assumption) ?_
    rotate_left
    · intro w hSw; (try dsimp only at hSw); go_simp; try with_reducible rfl
    simp only [Act.put, List.setIfInBounds_toArray, List.set_cons_zero, List.set_cons_succ, List.getElem_toArray, List.getElem_cons_zero, List.getElem_cons_succ]
    refine wpAnyH_take (i := 7) (v := ?_) rfl (by kernel_rfl) (by kernel_rfl) (by kernel_rfl) (fun _ _ _ h => h) (Or.inl ⟨by rfl, ?_⟩) (by assumption) ?_
    rotate_left
    · intro w hSw; (try dsimp only at hSw); go_simp; try with_reducible rfl
    simp only [Act.put, List.setIfInBounds_toArray, List.set_cons_zero, List.set_cons_succ, List.getElem_toArray, List.getElem_cons_zero, List.getElem_cons_succ]
    refine wpAnyH_take (i := 8) (v := ?_) rfl (by kernel_rfl) (by kernel_rfl) (by kernel_rfl) (fun _ _ _ h => h) (Or.inl ⟨by rfl, ?_⟩) (by assumption) ?_
    rotate_left
    · intro w hSw; (try dsimp only at hSw); go_simp; try with_reducible rfl
    simp only [Act.put, List.setIfInBounds_toArray, List.set_cons_zero, List.set_cons_succ, List.getElem_toArray, List.getElem_cons_zero, List.getElem_cons_succ]
    refine wpAnyH_ready (rs := [2, 11]) (by kernel_rfl) (by simp) ?_
    refine AllReadyH.cons rfl (fun K hK => ?_) (AllReadyH.cons rfl (fun K hK => ?_) AllReadyH.nil)
    · go_simp
      go_at_call 26
      (with_reducible refine (kE _ (Below.refl _ _).drew).mono ?_)
      rintro e w' ⟨A4, c4, rfl, ho4, hb'⟩
      (obtain ⟨bd, rfl, hbd, e1, e2, e3, e4⟩ := (Reads.of_own ho4).edA hrl; rw [← HR.out.2] at e1 e2 e3 e4; have hbl : (bd.add (r * 4)).block < w'.heap.size := (by rw [block_of_add]; exact hbd); have a1 := fun o => (World.cell?_alloc_lt w' o (bd.add (r * 4)) hbl).trans e1; have a2 := fun o => (World.cell?_alloc_lt w' o ⟨(bd.add (r * 4)).block, (bd.add (r * 4)).off + 1, none⟩ hbl).trans e2; have a3 := fun o => (World.cell?_alloc_lt w' o ⟨(bd.add (r * 4)).block, (bd.add (r * 4)).off + 2, none⟩ hbl).trans e3; have a4 := fun o => (World.cell?_alloc_lt w' o ⟨(bd.add (r * 4)).block, (bd.add (r * 4)).off + 3, none⟩ hbl).trans e4)
      try dsimp only
      refine hK.out _ _ ?_ (fun hHeld => ?_)
      · exact hld1 hh hP0 hb'
      have hS1 := hHeld
      clear hK K
      try simp only [Act.put, List.setIfInBounds_toArray, List.set_cons_zero, List.set_cons_succ]
      refine wpAnyH_take (i := 9) (v := ?_) rfl (by kernel_rfl) (by kernel_rfl) (by kernel_rfl) (fun _ _ _ h => h) (Or.inl ⟨by rfl, ?_⟩) (by assumption) ?_
      rotate_left
      · intro w hSw; (try dsimp only at hSw); go_simp; try with_reducible rfl
      simp only [Act.put, List.setIfInBounds_toArray, List.set_cons_zero, List.set_cons_succ, List.getElem_toArray, List.getElem_cons_zero, List.getElem_cons_succ]
      refine wpAnyH_ready (rs := [10, 11]) (by kernel_rfl) (by simp) ?_
      refine AllReadyH.cons rfl (fun K hK => ?_) (AllReadyH.cons rfl (fun K hK => ?_) AllReadyH.nil)
      · go_simp
        refine hK.out _ _ ?_ (fun hHeld => ?_)
        · exact hHeld
        clear hK K
        try simp only [Act.put, List.setIfInBounds_toArray, List.set_cons_zero, List.set_cons_succ]
        refine wpAnyH_ready (rs := [11]) (by kernel_rfl) (by simp) ?_
        refine AllReadyH.cons rfl (fun K hK => ?_) AllReadyH.nil
        go_simp
        refine hK.out _ _ ?_ (fun hHeld => ?_)
        · exact hld1 hh hS1 ((Below.refl _ _).alloc (Nat.le_refl _) _)
        clear hK K
        try simp only [Act.put, List.setIfInBounds_toArray, List.set_cons_zero, List.set_cons_succ]
        refine wpAnyH_ready (rs := [12]) (by kernel_rfl) (by simp) ?_
        refine AllReadyH.cons rfl (fun K hK => ?_) AllReadyH.nil
        go_simp
        refine hK.out _ _ ?_ (fun hHeld => ?_)
        · exact hld1 hh hS1 ((Below.refl _ _).alloc (Nat.le_refl _) _)
        clear hK K
        try simp only [Act.put, List.setIfInBounds_toArray, List.set_cons_zero, List.set_cons_succ]
        refine wpAnyH_done (by kernel_rfl) ?_ _
        go_wp2_with fail
        go_meet
        exact ⟨_, rfl, hHeld.2, Blk.new w' 45 #[.int .i64 e.a.x, .int .i64 e.a.y, .int .i64 e.b.x, .int .i64 e.b.y]⟩
      · go_simp
        refine hK.out _ _ ?_ (fun hHeld => ?_)
        · exact hld1 hh hS1 ((Below.refl _ _).alloc (Nat.le_refl _) _)
        clear hK K
        try simp only [Act.put, List.setIfInBounds_toArray, List.set_cons_zero, List.set_cons_succ]
        refine wpAnyH_ready (rs := [10]) (by kernel_rfl) (by simp) ?_
        refine AllReadyH.cons rfl (fun K hK => ?_) AllReadyH.nil
        go_simp
        refine hK.out _ _ ?_ (fun hHeld => ?_)
        · exact hHeld
        clear hK K
        try simp only [Act.put, List.setIfInBounds_toArray, List.set_cons_zero, List.set_cons_succ]
        refine wpAnyH_ready (rs := [12]) (by kernel_rfl) (by simp) ?_
        refine AllReadyH.cons rfl (fun K hK => ?_) AllReadyH.nil
        go_simp
        refine hK.out _ _ ?_ (fun hHeld => ?_)
        · exact hld1 hh hS1 ((Below.refl _ _).alloc (Nat.le_refl _) _)
        clear hK K
        try simp only [Act.put, List.setIfInBounds_toArray, List.set_cons_zero, List.set_cons_succ]
        refine wpAnyH_done (by kernel_rfl) ?_ _
        go_wp2_with fail
        go_meet
        exact ⟨_, rfl, hHeld.2, Blk.new w' 45 #[.int .i64 e.a.x, .int .i64 e.a.y, .int .i64 e.b.x, .int .i64 e.b.y]⟩
    · go_simp
      refine hK.out _ _ ?_ (fun hHeld => ?_)
      · exact hld1 hh hP0 (show Below W4.drew.heap.size W4.drew (World.drew (W4.alloc _)) from (Below.refl W4.drew.heap.size W4.drew).alloc (Nat.le_refl _) _)
      clear hK K
      try simp only [Act.put, List.setIfInBounds_toArray, List.set_cons_zero, List.set_cons_succ]
      refine wpAnyH_ready (rs := [2]) (by kernel_rfl) (by simp) ?_
      refine AllReadyH.cons rfl (fun K hK => ?_) AllReadyH.nil
      go_simp
      go_at_call 26
      (with_reducible refine (kE _ (hfz _)).mono ?_)
      rintro e w' ⟨A4, c4, rfl, ho4, hb'⟩
      (obtain ⟨bd, rfl, hbd, e1, e2, e3, e4⟩ := (Reads.of_own ho4).edA hrl; rw [← HR.out.2] at e1 e2 e3 e4; have hbl : (bd.add (r * 4)).block < w'.heap.size := (by rw [block_of_add]; exact hbd); have a1 := fun o => (World.cell?_alloc_lt w' o (bd.add (r * 4)) hbl).trans e1; have a2 := fun o => (World.cell?_alloc_lt w' o ⟨(bd.add (r * 4)).block, (bd.add (r * 4)).off + 1, none⟩ hbl).trans e2; have a3 := fun o => (World.cell?_alloc_lt w' o ⟨(bd.add (r * 4)).block, (bd.add (r * 4)).off + 2, none⟩ hbl).trans e3; have a4 := fun o => (World.cell?_alloc_lt w' o ⟨(bd.add (r * 4)).block, (bd.add (r * 4)).off + 3, none⟩ hbl).trans e4)
      have HNB := (Blk.new W4 45 #[.int .i64 0, .int .i64 0, .int .i64 0, .int .i64 0]).drew.below hb' (by simp)
      obtain ⟨⟨z1, z2, z3, z4⟩, f1, f2, f3, f4⟩ := blk_four HNB
      try dsimp only
      refine hK.out _ _ ?_ (fun hHeld => ?_)
      · exact hld1 hh hHeld hb'
      have hS1 := hHeld
      clear hK K
      try simp only [Act.put, List.setIfInBounds_toArray, List.set_cons_zero, List.set_cons_succ]
      refine wpAnyH_take (i := 9) (v := ?_) rfl (by kernel_rfl) (by kernel_rfl) (by kernel_rfl) (fun _ _ _ h => h) (Or.inl ⟨by rfl, ?_⟩) (by assumption) ?_
      rotate_left
      · intro w hSw; (try dsimp only at hSw); go_simp; try with_reducible rfl
      simp only [Act.put, List.setIfInBounds_toArray, List.set_cons_zero, List.set_cons_succ, List.getElem_toArray, List.getElem_cons_zero, List.getElem_cons_succ]
      refine wpAnyH_ready (rs := [10]) (by kernel_rfl) (by simp) ?_
      refine AllReadyH.cons rfl (fun K hK => ?_) AllReadyH.nil
      go_simp
      refine hK.out _ _ ?_ (fun hHeld => ?_)
      · exact hHeld
      clear hK K
      try simp only [Act.put, List.setIfInBounds_toArray, List.set_cons_zero, List.set_cons_succ]
      refine wpAnyH_ready (rs := [12]) (by kernel_rfl) (by simp) ?_
      refine AllReadyH.cons rfl (fun K hK => ?_) AllReadyH.nil
      go_simp
      refine hK.out _ _ ?_ (fun hHeld => ?_)
      · exact hldC1 hh (Nat.le_refl _) (hldC1 hh (Nat.le_refl _) (hldC1 hh (Nat.le_refl _) (hldC1 hh (Nat.le_refl _) hS1)))
      clear hK K
      try simp only [Act.put, List.setIfInBounds_toArray, List.set_cons_zero, List.set_cons_succ]
      refine wpAnyH_done (by kernel_rfl) ?_ _
      go_wp2_with fail
      go_meet
      have hK := Blk.set_ (Blk.set_ (Blk.set_ (Blk.set_ HNB 0 (.int .i64 e.a.x)) 1 (.int .i64 e.a.y)) 2 (.int .i64 e.b.x)) 3 (.int .i64 e.b.y)
      simp only [List.setIfInBounds_toArray, List.set_cons_zero, List.set_cons_succ] at hK
      exact ⟨_, rfl, hHeld.2, hK⟩
  case rest =>
    obtain ⟨Be, rfl, hbc, hE⟩ := hcut
    have HG := Lib.hid (And.intro (H4.out.1.on hbc) (And.intro (H4.out.2.1.on hbc) hE))
    clear hbc hE hP0 hh hfz kE H4
    obtain ⟨q1, q2, q3⟩ := HG.out.1.plan
    obtain ⟨⟨y1, y2, y3, y4⟩, -⟩ := blk_four HG.out.2.2
    have y0 := Blk.lt HG.out.2.2
    have kC : ∀ A n c A' n' c' V, PlanAt V V.heap.size A n c A' n' c' p → Calls Tryz.prog 27 #[planV A n c A' n' c', .agg #[.int .i64 e.a.x, .int .i64 e.a.y, .int .i64 e.b.x, .int .i64 e.b.y]] V fun r w' => r = .returned (.tuple #[.int .i64 x.id, .int .i64 0]) ∧ Below V.heap.size V w' := fun A n c A' n' c' V hV => by rw [← HE.out.1.2.1, ← HE.out.1.1]; exact left_any p e A A' n c n' c' V hV
    have kO := ownPl_any p A (some ad) n c n' c' wc.drew (HG.out.1.on (Below.refl _ _).drew).2.2 HN.out
    have hP0 : wc.drew.cell? ⟨w.heap.size, 0, none⟩ = some (.slice A n c) ∧ wc.drew.cell? ⟨w.heap.size, 1, none⟩ = some (.slice (some ad) n' c') ∧ wc.drew.cell? ⟨Be, 0, none⟩ = some (.int .i64 e.a.x) ∧ wc.drew.cell? ⟨Be, 1, none⟩ = some (.int .i64 e.a.y) ∧ wc.drew.cell? ⟨Be, 2, none⟩ = some (.int .i64 e.b.x) ∧ wc.drew.cell? ⟨Be, 3, none⟩ = some (.int .i64 e.b.y) ∧ Below wc.heap.size wc wc.drew := ⟨q1, q2, y1, y2, y3, y4, (Below.refl _ _).drew⟩
    have hh : (⟨w.heap.size, 0, none⟩ : Addr).block < wc.heap.size ∧ (⟨w.heap.size, 1, none⟩ : Addr).block < wc.heap.size ∧ (⟨Be, 0, none⟩ : Addr).block < wc.heap.size ∧ (⟨Be, 1, none⟩ : Addr).block < wc.heap.size ∧ (⟨Be, 2, none⟩ : Addr).block < wc.heap.size ∧ (⟨Be, 3, none⟩ : Addr).block < wc.heap.size := ⟨q3, q3, y0, y0, y0, y0⟩
    clear q1 q2 q3 y0 y1 y2 y3 y4
    go_upto_region 5 with fail
    refine wp_region_held_drew (S := fun V => V.cell? ⟨w.heap.size, 0, none⟩ = some (.slice A n c) ∧ V.cell? ⟨w.heap.size, 1, none⟩ = some (.slice (some ad) n' c') ∧ V.cell? ⟨Be, 0, none⟩ = some (.int .i64 e.a.x) ∧ V.cell? ⟨Be, 1, none⟩ = some (.int .i64 e.a.y) ∧ V.cell? ⟨Be, 2, none⟩ = some (.int .i64 e.b.x) ∧ V.cell? ⟨Be, 3, none⟩ = some (.int .i64 e.b.y) ∧ Below wc.heap.size wc V) (by kernel_rfl) ?_ (fun hHeld => ?_)
    · exact hP0
    refine wpAnyH_take (i := 0) (v := ?_) rfl (by kernel_rfl) (by kernel_rfl) (by kernel_rfl) (fun _ _ _ h => h) (Or.inl ⟨by rfl, ?_⟩) (by assumption) ?_
    rotate_left
    · intro w hSw; (try dsimp only at hSw); go_simp; try with_reducible rfl
    simp only [Act.put, List.setIfInBounds_toArray, List.set_cons_zero, List.set_cons_succ, List.getElem_toArray, List.getElem_cons_zero]
    refine wpAnyH_take (i := 2) (v := ?_) rfl (by kernel_rfl) (by kernel_rfl) (by kernel_rfl) (fun _ _ _ h => h) (Or.inl ⟨by rfl, ?_⟩) (by assumption) ?_
    rotate_left
    · intro w hSw; (try dsimp only at hSw); go_simp; try with_reducible rfl
    simp only [Act.put, List.setIfInBounds_toArray, List.set_cons_zero, List.set_cons_succ, List.getElem_toArray, List.getElem_cons_zero, List.getElem_cons_succ]
    refine wpAnyH_ready (rs := [1]) (by kernel_rfl) (by simp) ?_
    refine AllReadyH.cons rfl (fun K hK => ?_) AllReadyH.nil
    go_simp
    go_at_call 18
    (with_reducible refine (kO).mono ?_)
    rintro e wo ⟨A1, n1, c1, A2, n2, c2, rfl, hP1, hb'⟩
    try dsimp only
    refine hK.out _ _ ?_ (fun hHeld => ?_)
    · exact hld6 hh hP0 hb'
    clear hK K
    try simp only [Act.put, List.setIfInBounds_toArray, List.set_cons_zero, List.set_cons_succ]
    refine wpAnyH_ready (rs := [3]) (by kernel_rfl) (by simp) ?_
    refine AllReadyH.cons rfl (fun K hK => ?_) AllReadyH.nil
    go_simp
    go_at_call 27
    (with_reducible refine (kC _ _ _ _ _ _ _ hP1).mono ?_)
    rintro e w5 ⟨rfl, hb''⟩
    try dsimp only
    refine hK.out _ _ ?_ (fun hHeld => ?_)
    · exact hld6 hh hHeld hb''
    clear hK K
    try simp only [Act.put, List.setIfInBounds_toArray, List.set_cons_zero, List.set_cons_succ]
    refine wpAnyH_take (i := 4) (v := ?_) rfl (by kernel_rfl) (by kernel_rfl) (by kernel_rfl) (fun _ _ _ h => h) (Or.inl ⟨by rfl, ?_⟩) (by assumption) ?_
    rotate_left
    · intro w hSw; (try dsimp only at hSw); go_simp; try with_reducible rfl
    simp only [Act.put, List.setIfInBounds_toArray, List.set_cons_zero, List.set_cons_succ, List.getElem_toArray, List.getElem_cons_zero, List.getElem_cons_succ]
    refine wpAnyH_take (i := 5) (v := ?_) rfl (by kernel_rfl) (by kernel_rfl) (by kernel_rfl) (fun _ _ _ h => h) (Or.inl ⟨by rfl, ?_⟩) (by assumption) ?_
    rotate_left
    · intro w hSw; (try dsimp only at hSw); go_simp; try with_reducible rfl
    simp only [Act.put, List.setIfInBounds_toArray, List.set_cons_zero, List.set_cons_succ, List.getElem_toArray, List.getElem_cons_zero, List.getElem_cons_succ]
    refine wpAnyH_take (i := 6) (v := ?_) rfl (by kernel_rfl) (by kernel_rfl) (by kernel_rfl) (fun _ _ _ h => h) (Or.inl ⟨by rfl, ?_⟩) (by assumption) ?_
    rotate_left
    · intro w hSw; (try dsimp only at hSw); go_simp; try with_reducible rfl
    simp only [Act.put, List.setIfInBounds_toArray, List.set_cons_zero, List.set_cons_succ, List.getElem_toArray, List.getElem_cons_zero, List.getElem_cons_succ]
    refine wpAnyH_take (i := 7) (v := ?_) rfl (by kernel_rfl) (by kernel_rfl) (by kernel_rfl) (fun _ _ _ h => h) (Or.inl ⟨by rfl, ?_⟩) (by assumption) ?_
    rotate_left
    · intro w hSw; (try dsimp only at hSw); go_simp; try with_reducible rfl
    simp only [Act.put, List.setIfInBounds_toArray, List.set_cons_zero, List.set_cons_succ, List.getElem_toArray, List.getElem_cons_zero, List.getElem_cons_succ]
    refine wpAnyH_take (i := 8) (v := ?_) rfl (by kernel_rfl) (by kernel_rfl) (by kernel_rfl) (fun _ _ _ h => h) (Or.inl ⟨by rfl, ?_⟩) (by assumption) ?_
    rotate_left
    · intro w hSw; (try dsimp only at hSw); go_simp; try with_reducible rfl
    simp only [Act.put, List.setIfInBounds_toArray, List.set_cons_zero, List.set_cons_succ, List.getElem_toArray, List.getElem_cons_zero, List.getElem_cons_succ]
    refine wpAnyH_done (by kernel_rfl) ?_ _
    have hbV := hHeld.2.2.2.2.2.2
    clear hP0 hh kO kC hP1 hHeld
    have HG5 := Lib.hid (And.intro (HG.out.1.on hbV) (And.intro (HG.out.2.1.on hbV) (Blk.below HG.out.2.2 hbV (Blk.lt HG.out.2.2))))
    clear hbV HG hb'
    obtain ⟨⟨y1, y2, y3, y4⟩, -⟩ := blk_four HG5.out.2.2
    obtain ⟨w6, hw6⟩ : ∃ w6, w6 = w5.alloc (.cells #[.int .i64 e.b.x, .int .i64 e.b.y, .int .i64 e.a.x, .int .i64 e.a.y] 45) := ⟨_, rfl⟩
    have hba : Below w5.heap.size w5 w6 := by rw [hw6]; exact (Below.refl _ _).alloc (Nat.le_refl _) _
    have hN : Blk w6 w5.heap.size 45 #[.int .i64 e.b.x, .int .i64 e.b.y, .int .i64 e.a.x, .int .i64 e.a.y] := by rw [hw6]; exact Blk.new w5 _ _
    obtain ⟨Bb, hBb⟩ : ∃ Bb, Bb = w5.heap.size := ⟨_, rfl⟩
    rw [← hBb] at hN
    have HG := Lib.hid (And.intro (HG5.out.1.on hba) (And.intro (HG5.out.2.1.on hba) (And.intro (Blk.below HG5.out.2.2 hba (Blk.lt HG5.out.2.2)) hN)))
    clear hba hN HG5
    go_upto_region 7 with fail
    rw [← hw6, ← hBb]
    clear hw6 hBb y1 y2 y3 y4
    obtain ⟨l2, hl2⟩ : ∃ l2, l2 = leftI p e.back := ⟨_, rfl⟩
    obtain ⟨g2, hg2⟩ : ∃ g2, g2 = leftE p e.back := ⟨_, rfl⟩
    have kC : ∀ A n c A' n' c' V, PlanAt V V.heap.size A n c A' n' c' p → Calls Tryz.prog 27 #[planV A n c A' n' c', .agg #[.int .i64 e.b.x, .int .i64 e.b.y, .int .i64 e.a.x, .int .i64 e.a.y]] V fun r w' => r = .returned (.tuple #[.int .i64 l2, .int .i64 g2]) ∧ Below V.heap.size V w' := fun A n c A' n' c' V hV => by rw [hl2, hg2]; exact left_any p e.back A A' n c n' c' V hV
    have HE2 := HE.out.2
    rw [← hl2, ← hg2] at HE2
    have HEE := Lib.hid (And.intro HE.out.1 HE2)
    clear HE2 hl2 hg2
    obtain ⟨q1, q2, q3⟩ := HG.out.1.plan
    obtain ⟨⟨y1, y2, y3, y4⟩, -⟩ := blk_four HG.out.2.2.2
    have y0 := Blk.lt HG.out.2.2.2
    have kO := ownPl_any p A (some ad) n c n' c' w6.drew (HG.out.1.on (Below.refl _ _).drew).2.2 HN.out
    have hP0 : w6.drew.cell? ⟨w.heap.size, 0, none⟩ = some (.slice A n c) ∧ w6.drew.cell? ⟨w.heap.size, 1, none⟩ = some (.slice (some ad) n' c') ∧ w6.drew.cell? ⟨Bb, 0, none⟩ = some (.int .i64 e.b.x) ∧ w6.drew.cell? ⟨Bb, 1, none⟩ = some (.int .i64 e.b.y) ∧ w6.drew.cell? ⟨Bb, 2, none⟩ = some (.int .i64 e.a.x) ∧ w6.drew.cell? ⟨Bb, 3, none⟩ = some (.int .i64 e.a.y) ∧ Below w6.heap.size w6 w6.drew := ⟨q1, q2, y1, y2, y3, y4, (Below.refl _ _).drew⟩
    have hh : (⟨w.heap.size, 0, none⟩ : Addr).block < w6.heap.size ∧ (⟨w.heap.size, 1, none⟩ : Addr).block < w6.heap.size ∧ (⟨Bb, 0, none⟩ : Addr).block < w6.heap.size ∧ (⟨Bb, 1, none⟩ : Addr).block < w6.heap.size ∧ (⟨Bb, 2, none⟩ : Addr).block < w6.heap.size ∧ (⟨Bb, 3, none⟩ : Addr).block < w6.heap.size := ⟨q3, q3, y0, y0, y0, y0⟩
    clear q1 q2 q3 y0 y1 y2 y3 y4
    go_upto_region 7 with fail
    refine wp_region_held_drew (S := fun V => V.cell? ⟨w.heap.size, 0, none⟩ = some (.slice A n c) ∧ V.cell? ⟨w.heap.size, 1, none⟩ = some (.slice (some ad) n' c') ∧ V.cell? ⟨Bb, 0, none⟩ = some (.int .i64 e.b.x) ∧ V.cell? ⟨Bb, 1, none⟩ = some (.int .i64 e.b.y) ∧ V.cell? ⟨Bb, 2, none⟩ = some (.int .i64 e.a.x) ∧ V.cell? ⟨Bb, 3, none⟩ = some (.int .i64 e.a.y) ∧ Below w6.heap.size w6 V) (by kernel_rfl) ?_ (fun hHeld => ?_)
    · exact hP0
    refine wpAnyH_take (i := 0) (v := ?_) rfl (by kernel_rfl) (by kernel_rfl) (by kernel_rfl) (fun _ _ _ h => h) (Or.inl ⟨by rfl, ?_⟩) (by assumption) ?_
    rotate_left
    · intro w hSw; (try dsimp only at hSw); go_simp; try with_reducible rfl
    simp only [Act.put, List.setIfInBounds_toArray, List.set_cons_zero, List.set_cons_succ, List.getElem_toArray, List.getElem_cons_zero]
    refine wpAnyH_take (i := 2) (v := ?_) rfl (by kernel_rfl) (by kernel_rfl) (by kernel_rfl) (fun _ _ _ h => h) (Or.inl ⟨by rfl, ?_⟩) (by assumption) ?_
    rotate_left
    · intro w hSw; (try dsimp only at hSw); go_simp; try with_reducible rfl
    simp only [Act.put, List.setIfInBounds_toArray, List.set_cons_zero, List.set_cons_succ, List.getElem_toArray, List.getElem_cons_zero, List.getElem_cons_succ]
    refine wpAnyH_ready (rs := [1]) (by kernel_rfl) (by simp) ?_
    refine AllReadyH.cons rfl (fun K hK => ?_) AllReadyH.nil
    go_simp
    go_at_call 18
    (with_reducible refine (kO).mono ?_)
    rintro e wo ⟨A1, n1, c1, A2, n2, c2, rfl, hP1, hb'⟩
    try dsimp only
    refine hK.out _ _ ?_ (fun hHeld => ?_)
    · exact hld6 hh hP0 hb'
    clear hK K
    try simp only [Act.put, List.setIfInBounds_toArray, List.set_cons_zero, List.set_cons_succ]
    refine wpAnyH_ready (rs := [3]) (by kernel_rfl) (by simp) ?_
    refine AllReadyH.cons rfl (fun K hK => ?_) AllReadyH.nil
    go_simp
    go_at_call 27
    (with_reducible refine (kC _ _ _ _ _ _ _ hP1).mono ?_)
    rintro e w7 ⟨rfl, hb''⟩
    try dsimp only
    refine hK.out _ _ ?_ (fun hHeld => ?_)
    · exact hld6 hh hHeld hb''
    clear hK K
    try simp only [Act.put, List.setIfInBounds_toArray, List.set_cons_zero, List.set_cons_succ]
    refine wpAnyH_take (i := 4) (v := ?_) rfl (by kernel_rfl) (by kernel_rfl) (by kernel_rfl) (fun _ _ _ h => h) (Or.inl ⟨by rfl, ?_⟩) (by assumption) ?_
    rotate_left
    · intro w hSw; (try dsimp only at hSw); go_simp; try with_reducible rfl
    simp only [Act.put, List.setIfInBounds_toArray, List.set_cons_zero, List.set_cons_succ, List.getElem_toArray, List.getElem_cons_zero, List.getElem_cons_succ]
    refine wpAnyH_take (i := 5) (v := ?_) rfl (by kernel_rfl) (by kernel_rfl) (by kernel_rfl) (fun _ _ _ h => h) (Or.inl ⟨by rfl, ?_⟩) (by assumption) ?_
    rotate_left
    · intro w hSw; (try dsimp only at hSw); go_simp; try with_reducible rfl
    simp only [Act.put, List.setIfInBounds_toArray, List.set_cons_zero, List.set_cons_succ, List.getElem_toArray, List.getElem_cons_zero, List.getElem_cons_succ]
    refine wpAnyH_take (i := 6) (v := ?_) rfl (by kernel_rfl) (by kernel_rfl) (by kernel_rfl) (fun _ _ _ h => h) (Or.inl ⟨by rfl, ?_⟩) (by assumption) ?_
    rotate_left
    · intro w hSw; (try dsimp only at hSw); go_simp; try with_reducible rfl
    simp only [Act.put, List.setIfInBounds_toArray, List.set_cons_zero, List.set_cons_succ, List.getElem_toArray, List.getElem_cons_zero, List.getElem_cons_succ]
    refine wpAnyH_take (i := 7) (v := ?_) rfl (by kernel_rfl) (by kernel_rfl) (by kernel_rfl) (fun _ _ _ h => h) (Or.inl ⟨by rfl, ?_⟩) (by assumption) ?_
    rotate_left
    · intro w hSw; (try dsimp only at hSw); go_simp; try with_reducible rfl
    simp only [Act.put, List.setIfInBounds_toArray, List.set_cons_zero, List.set_cons_succ, List.getElem_toArray, List.getElem_cons_zero, List.getElem_cons_succ]
    refine wpAnyH_take (i := 8) (v := ?_) rfl (by kernel_rfl) (by kernel_rfl) (by kernel_rfl) (fun _ _ _ h => h) (Or.inl ⟨by rfl, ?_⟩) (by assumption) ?_
    rotate_left
    · intro w hSw; (try dsimp only at hSw); go_simp; try with_reducible rfl
    simp only [Act.put, List.setIfInBounds_toArray, List.set_cons_zero, List.set_cons_succ, List.getElem_toArray, List.getElem_cons_zero, List.getElem_cons_succ]
    refine wpAnyH_done (by kernel_rfl) ?_ _
    have hbV := hHeld.2.2.2.2.2.2
    clear hP0 hh kO kC hP1 hHeld
    have HG7 := Lib.hid (And.intro (HG.out.1.on hbV) (And.intro (HG.out.2.1.on hbV) (Blk.below HG.out.2.2.1 hbV (Blk.lt HG.out.2.2.1))))
    clear hbV HG hb'
    have HG := HG7
    clear HG7
    have hgood := (edges_ok (HS.out.1.2.2.1 x HS.out.2).1 e HEM.out).2.1
    have hin : e.a.inI := by unfold good at hgood; unfold Pt.inI; simp at hgood; omega
    have kC : ∀ A n c A' n' c' V, PlanAt V V.heap.size A n c A' n' c' p → Calls Tryz.prog 28 #[planV A n c A' n' c', .agg #[.int .i64 e.a.x, .int .i64 e.a.y]] V fun r w' => r = .returned (.tuple #[.bool true, .int .i64 0]) ∧ Below V.heap.size V w' := fun A n c A' n' c' V hV => by rw [← HEE.out.1.2.2.2, ← HEE.out.1.2.2.1]; exact corner_any p e.a A A' n c n' c' V hV hin
    obtain ⟨q1, q2, q3⟩ := HG.out.1.plan
    obtain ⟨⟨y1, y2, y3, y4⟩, -⟩ := blk_four HG.out.2.2
    have y0 := Blk.lt HG.out.2.2
    clear y3 y4 hgood
    have kO := ownPl_any p A (some ad) n c n' c' w7.drew (HG.out.1.on (Below.refl _ _).drew).2.2 HN.out
    have hP0 : w7.drew.cell? ⟨w.heap.size, 0, none⟩ = some (.slice A n c) ∧ w7.drew.cell? ⟨w.heap.size, 1, none⟩ = some (.slice (some ad) n' c') ∧ w7.drew.cell? ⟨Be, 0, none⟩ = some (.int .i64 e.a.x) ∧ w7.drew.cell? ⟨Be, 1, none⟩ = some (.int .i64 e.a.y) ∧ Below w7.heap.size w7 w7.drew := ⟨q1, q2, y1, y2, (Below.refl _ _).drew⟩
    have hh : (⟨w.heap.size, 0, none⟩ : Addr).block < w7.heap.size ∧ (⟨w.heap.size, 1, none⟩ : Addr).block < w7.heap.size ∧ (⟨Be, 0, none⟩ : Addr).block < w7.heap.size ∧ (⟨Be, 1, none⟩ : Addr).block < w7.heap.size := ⟨q3, q3, y0, y0⟩
    clear q1 q2 q3 y0 y1 y2
    go_upto_region 8 with fail
    refine wp_region_held_drew (S := fun V => V.cell? ⟨w.heap.size, 0, none⟩ = some (.slice A n c) ∧ V.cell? ⟨w.heap.size, 1, none⟩ = some (.slice (some ad) n' c') ∧ V.cell? ⟨Be, 0, none⟩ = some (.int .i64 e.a.x) ∧ V.cell? ⟨Be, 1, none⟩ = some (.int .i64 e.a.y) ∧ Below w7.heap.size w7 V) (by kernel_rfl) ?_ (fun hHeld => ?_)
    · exact hP0
    refine wpAnyH_take (i := 0) (v := ?_) rfl (by kernel_rfl) (by kernel_rfl) (by kernel_rfl) (fun _ _ _ h => h) (Or.inl ⟨by rfl, ?_⟩) (by assumption) ?_
    rotate_left
    · intro w hSw; (try dsimp only at hSw); go_simp; try with_reducible rfl
    simp only [Act.put, List.setIfInBounds_toArray, List.set_cons_zero, List.set_cons_succ, List.getElem_toArray, List.getElem_cons_zero]
    refine wpAnyH_take (i := 2) (v := ?_) rfl (by kernel_rfl) (by kernel_rfl) (by kernel_rfl) (fun _ _ _ h => h) (Or.inl ⟨by rfl, ?_⟩) (by assumption) ?_
    rotate_left
    · intro w hSw; (try dsimp only at hSw); go_simp; try with_reducible rfl
    simp only [Act.put, List.setIfInBounds_toArray, List.set_cons_zero, List.set_cons_succ, List.getElem_toArray, List.getElem_cons_zero, List.getElem_cons_succ]
    refine wpAnyH_take (i := 3) (v := ?_) rfl (by kernel_rfl) (by kernel_rfl) (by kernel_rfl) (fun _ _ _ h => h) (Or.inl ⟨by rfl, ?_⟩) (by assumption) ?_
    rotate_left
    · intro w hSw; (try dsimp only at hSw); go_simp; try with_reducible rfl
    simp only [Act.put, List.setIfInBounds_toArray, List.set_cons_zero, List.set_cons_succ, List.getElem_toArray, List.getElem_cons_zero, List.getElem_cons_succ]
    refine wpAnyH_ready (rs := [1]) (by kernel_rfl) (by simp) ?_
    refine AllReadyH.cons rfl (fun K hK => ?_) AllReadyH.nil
    go_simp
    go_at_call 18
    (with_reducible refine (kO).mono ?_)
    rintro e wo ⟨A1, n1, c1, A2, n2, c2, rfl, hP1, hb'⟩
    try dsimp only
    refine hK.out _ _ ?_ (fun hHeld => ?_)
    · exact hld4 hh hP0 hb'
    clear hK K
    try simp only [Act.put, List.setIfInBounds_toArray, List.set_cons_zero, List.set_cons_succ]
    refine wpAnyH_ready (rs := [4]) (by kernel_rfl) (by simp) ?_
    refine AllReadyH.cons rfl (fun K hK => ?_) AllReadyH.nil
    go_simp
    go_at_call 28
    (with_reducible refine (kC _ _ _ _ _ _ _ hP1).mono ?_)
    rintro e w8 ⟨rfl, hb''⟩
    try dsimp only
    refine hK.out _ _ ?_ (fun hHeld => ?_)
    · exact hld4 hh hHeld hb''
    clear hK K
    try simp only [Act.put, List.setIfInBounds_toArray, List.set_cons_zero, List.set_cons_succ]
    refine wpAnyH_take (i := 5) (v := ?_) rfl (by kernel_rfl) (by kernel_rfl) (by kernel_rfl) (fun _ _ _ h => h) (Or.inl ⟨by rfl, ?_⟩) (by assumption) ?_
    rotate_left
    · intro w hSw; (try dsimp only at hSw); go_simp; try with_reducible rfl
    simp only [Act.put, List.setIfInBounds_toArray, List.set_cons_zero, List.set_cons_succ, List.getElem_toArray, List.getElem_cons_zero, List.getElem_cons_succ]
    refine wpAnyH_take (i := 6) (v := ?_) rfl (by kernel_rfl) (by kernel_rfl) (by kernel_rfl) (fun _ _ _ h => h) (Or.inl ⟨by rfl, ?_⟩) (by assumption) ?_
    rotate_left
    · intro w hSw; (try dsimp only at hSw); go_simp; try with_reducible rfl
    simp only [Act.put, List.setIfInBounds_toArray, List.set_cons_zero, List.set_cons_succ, List.getElem_toArray, List.getElem_cons_zero, List.getElem_cons_succ]
    refine wpAnyH_take (i := 7) (v := ?_) rfl (by kernel_rfl) (by kernel_rfl) (by kernel_rfl) (fun _ _ _ h => h) (Or.inl ⟨by rfl, ?_⟩) (by assumption) ?_
    rotate_left
    · intro w hSw; (try dsimp only at hSw); go_simp; try with_reducible rfl
    simp only [Act.put, List.setIfInBounds_toArray, List.set_cons_zero, List.set_cons_succ, List.getElem_toArray, List.getElem_cons_zero, List.getElem_cons_succ]
    refine wpAnyH_take (i := 8) (v := ?_) rfl (by kernel_rfl) (by kernel_rfl) (by kernel_rfl) (fun _ _ _ h => h) (Or.inl ⟨by rfl, ?_⟩) (by assumption) ?_
    rotate_left
    · intro w hSw; (try dsimp only at hSw); go_simp; try with_reducible rfl
    simp only [Act.put, List.setIfInBounds_toArray, List.set_cons_zero, List.set_cons_succ, List.getElem_toArray, List.getElem_cons_zero, List.getElem_cons_succ]
    refine wpAnyH_take (i := 9) (v := ?_) rfl (by kernel_rfl) (by kernel_rfl) (by kernel_rfl) (fun _ _ _ h => h) (Or.inl ⟨by rfl, ?_⟩) (by assumption) ?_
    rotate_left
    · intro w hSw; (try dsimp only at hSw); go_simp; try with_reducible rfl
    simp only [Act.put, List.setIfInBounds_toArray, List.set_cons_zero, List.set_cons_succ, List.getElem_toArray, List.getElem_cons_zero, List.getElem_cons_succ]
    refine wpAnyH_done (by kernel_rfl) ?_ _
    have hbV := hHeld.2.2.2.2
    clear hP0 hh kO kC hP1 hHeld
    have HG8 := Lib.hid (And.intro (HG.out.1.on hbV) (And.intro (HG.out.2.1.on hbV) (Blk.below HG.out.2.2 hbV (Blk.lt HG.out.2.2))))
    clear hbV HG hb'
    have HG := HG8
    clear HG8
    obtain ⟨q1, -, q3⟩ := HG.out.1.plan
    obtain ⟨⟨y1, y2, y3, y4⟩, -⟩ := blk_four HG.out.2.2
    have y0 := Blk.lt HG.out.2.2
    have hno : n ≤ 1048576 := by have := (listed_bd HS.out.1.1).2.2; have := HG.out.1.2.2.lens.1; omega
    have kE := edgesR_any p.outer A n c w8.drew (HG.out.1.2.2.outer.on (Below.refl _ _).drew) hno
    have kP := fun A c V (hV : Reads V V.heap.size 4 A n (edsV (edgesOf p.outer))) => place2 (edgesOf p.outer) e A n c V hV (by omega)
    have hP0 : w8.drew.cell? ⟨w.heap.size, 0, none⟩ = some (.slice A n c) ∧ w8.drew.cell? ⟨Be, 0, none⟩ = some (.int .i64 e.a.x) ∧ w8.drew.cell? ⟨Be, 1, none⟩ = some (.int .i64 e.a.y) ∧ w8.drew.cell? ⟨Be, 2, none⟩ = some (.int .i64 e.b.x) ∧ w8.drew.cell? ⟨Be, 3, none⟩ = some (.int .i64 e.b.y) ∧ Below w8.heap.size w8 w8.drew := ⟨q1, y1, y2, y3, y4, (Below.refl _ _).drew⟩
    have hh : (⟨w.heap.size, 0, none⟩ : Addr).block < w8.heap.size ∧ (⟨Be, 0, none⟩ : Addr).block < w8.heap.size ∧ (⟨Be, 1, none⟩ : Addr).block < w8.heap.size ∧ (⟨Be, 2, none⟩ : Addr).block < w8.heap.size ∧ (⟨Be, 3, none⟩ : Addr).block < w8.heap.size := ⟨q3, y0, y0, y0, y0⟩
    clear q1 q3 y0 y1 y2 y3 y4 hno
    go_upto_region 9 with fail
    refine wp_region_held_drew (S := fun V => V.cell? ⟨w.heap.size, 0, none⟩ = some (.slice A n c) ∧ V.cell? ⟨Be, 0, none⟩ = some (.int .i64 e.a.x) ∧ V.cell? ⟨Be, 1, none⟩ = some (.int .i64 e.a.y) ∧ V.cell? ⟨Be, 2, none⟩ = some (.int .i64 e.b.x) ∧ V.cell? ⟨Be, 3, none⟩ = some (.int .i64 e.b.y) ∧ Below w8.heap.size w8 V) (by kernel_rfl) ?_ (fun hHeld => ?_)
    · exact hP0
    refine wpAnyH_take (i := 0) (v := ?_) rfl (by kernel_rfl) (by kernel_rfl) (by kernel_rfl) (fun _ _ _ h => h) (Or.inl ⟨by rfl, ?_⟩) (by assumption) ?_
    rotate_left
    · intro w hSw; (try dsimp only at hSw); go_simp; try with_reducible rfl
    simp only [Act.put, List.setIfInBounds_toArray, List.set_cons_zero, List.set_cons_succ, List.getElem_toArray, List.getElem_cons_zero]
    refine wpAnyH_take (i := 1) (v := ?_) rfl (by kernel_rfl) (by kernel_rfl) (by kernel_rfl) (fun _ _ _ h => h) (Or.inl ⟨by rfl, ?_⟩) (by assumption) ?_
    rotate_left
    · intro w hSw; (try dsimp only at hSw); go_simp; try with_reducible rfl
    simp only [Act.put, List.setIfInBounds_toArray, List.set_cons_zero, List.set_cons_succ, List.getElem_toArray, List.getElem_cons_zero, List.getElem_cons_succ]
    refine wpAnyH_take (i := 3) (v := ?_) rfl (by kernel_rfl) (by kernel_rfl) (by kernel_rfl) (fun _ _ _ h => h) (Or.inl ⟨by rfl, ?_⟩) (by assumption) ?_
    rotate_left
    · intro w hSw; (try dsimp only at hSw); go_simp; try with_reducible rfl
    simp only [Act.put, List.setIfInBounds_toArray, List.set_cons_zero, List.set_cons_succ, List.getElem_toArray, List.getElem_cons_zero, List.getElem_cons_succ]
    refine wpAnyH_ready (rs := [2]) (by kernel_rfl) (by simp) ?_
    refine AllReadyH.cons rfl (fun K hK => ?_) AllReadyH.nil
    go_simp
    go_at_call 26
    (with_reducible refine (kE).mono ?_)
    rintro e w9x ⟨A7, c7, rfl, ho7, hb'⟩
    try dsimp only
    refine hK.out _ _ ?_ (fun hHeld => ?_)
    · exact hld5 hh hP0 hb'
    clear hK K
    try simp only [Act.put, List.setIfInBounds_toArray, List.set_cons_zero, List.set_cons_succ]
    refine wpAnyH_ready (rs := [4]) (by kernel_rfl) (by simp) ?_
    refine AllReadyH.cons rfl (fun K hK => ?_) AllReadyH.nil
    go_simp
    go_at_call 29
    (with_reducible refine (kP _ _ _ (Reads.of_own ho7)).mono ?_)
    rintro e w9 ⟨i, rfl, ⟨hi, -⟩, hb''⟩
    have HI := Lib.hid hi
    clear hi
    try dsimp only
    refine hK.out _ _ ?_ (fun hHeld => ?_)
    · exact hld5 hh hHeld hb''
    clear hK K
    try simp only [Act.put, List.setIfInBounds_toArray, List.set_cons_zero, List.set_cons_succ]
    refine wpAnyH_take (i := 5) (v := ?_) rfl (by kernel_rfl) (by kernel_rfl) (by kernel_rfl) (fun _ _ _ h => h) (Or.inl ⟨by rfl, ?_⟩) (by assumption) ?_
    rotate_left
    · intro w hSw; (try dsimp only at hSw); go_simp; try with_reducible rfl
    simp only [Act.put, List.setIfInBounds_toArray, List.set_cons_zero, List.set_cons_succ, List.getElem_toArray, List.getElem_cons_zero, List.getElem_cons_succ]
    refine wpAnyH_take (i := 6) (v := ?_) rfl (by kernel_rfl) (by kernel_rfl) (by kernel_rfl) (fun _ _ _ h => h) (Or.inl ⟨by rfl, ?_⟩) (by assumption) ?_
    rotate_left
    · intro w hSw; (try dsimp only at hSw); go_simp; try with_reducible rfl
    simp only [Act.put, List.setIfInBounds_toArray, List.set_cons_zero, List.set_cons_succ, List.getElem_toArray, List.getElem_cons_zero, List.getElem_cons_succ]
    refine wpAnyH_done (by kernel_rfl) ?_ _
    have hbV := hHeld.2.2.2.2.2
    have HB := Lib.hid (below_on HG.out.1.1 (Nat.le_refl _) hbV)
    obtain ⟨x1, -⟩ := (HG.out.2.1.on hbV).facts
    clear hP0 hh kE kP hHeld hbV HG hb' hb'' ho7
    rcases HEE.out.2 with ⟨ho, rfl, rfl, hne⟩ | ⟨ho, rfl, hz, hne⟩
    · have hge : 0 ≤ i := HI.out.2 ho
      have hne' : (0 : Int) ≠ x.id := hne
      clear ho HI hne
      go_wp2_with fail
      go_ret
      exact ⟨by first | rfl | simp [hne'], HB.out⟩
    · have hge : ¬ 0 ≤ i := fun h => ho (HI.out.1 h)
      clear ho HI
      go_wp2_with fail
      go_ret
      exact ⟨by first | rfl | simp [hz, hne], HB.out⟩
theorem planEdgesI_any (p : Plan) (a b : Int) (ha : 0 ≤ a ∧ a ≤ 255) (hb : 0 ≤ b ∧ b ≤ 255) (A A' : Option Addr) (n c n' c' : Nat) (w : World) (h : PlanAt w w.heap.size A n c A' n' c' p) :
    Calls Tryz.prog 5 #[planV A n c A' n' c', .int .u8 a, .int .u8 b] w fun e w' => e = .returned (.bool true) ∧ Below w.heap.size w w' := by
  obtain ⟨ka, rfl⟩ := Int.eq_ofNat_of_zero_le ha.1
  obtain ⟨kb, rfl⟩ := Int.eq_ofNat_of_zero_le hb.1
  exact planEdgesL_any p ka kb (by omega) (by omega) A A' n c n' c' w h
end Go.Proofs.YtglnklfhgdjccaaGreat

/- merestonelaw07.JoinAlone: the walk. -/
import Derived.Deep.DeepCutAuto
import Derived.Test.YtgkcenhopmjmlaaGreatAns07
import Derived.Test.YtgkcenhopmjmlaaGreatCheckPR
namespace Go.Proofs.YtgkcenhopmjmlaaGreat
open Go.RowKit Go.Lib
def JlF (p : Plan) (A : Option Addr) (n c : Nat) (A' : Option Addr) (n' c' : Nat) (w W : World) : Prop := Below w.heap.size w W ∧ PlK W w.heap.size A n c A' n' c' ∧ PlanAt W W.heap.size A n c A' n' c' p
theorem JlF.on {p : Plan} {A A' : Option Addr} {n c n' c' : Nat} {w W W' : World} (h : JlF p A n c A' n' c' w W) (hb : Below W.heap.size W W') : JlF p A n c A' n' c' w W' := ⟨below_on h.1 (Nat.le_refl _) hb, h.2.1.on hb, h.2.2.on hb⟩
theorem atP_own {ps : List Parc} {k : Nat} (hk : k < ps.length) : ∃ j : Nat, atP ps (pcAt ps k).id = (j : Int) := by
  rcases atP_cases ps (pcAt ps k).id with ⟨-, h1⟩ | ⟨j, -, h1, -⟩
  · exact absurd rfl (h1 k hk)
  · exact ⟨j, h1⟩
theorem alone_same {p : Plan} (hs : planB p = true) {k : Nat} (hk : k < p.parcels.length) : joinE p (pcAt p.parcels k).id (pcAt p.parcels k).id = 1 := by
  obtain ⟨j, hj⟩ := atP_own hk
  unfold joinE
  rw [if_pos hs, hj, if_neg (by omega), if_pos rfl]
theorem alone_none {p : Plan} (hs : planB p = true) {k : Nat} {id : Int} (h : atP p.parcels id < 0) : joinE p (pcAt p.parcels k).id id = 5 := by
  unfold joinE
  rw [if_pos hs, if_pos (.inr h)]
theorem hldJ4 {W V V' : World} {a0 a1 a2 a3 : Addr} {v0 v1 v2 v3 : Value} (hh : a0.block < W.heap.size ∧ a1.block < W.heap.size ∧ a2.block < W.heap.size ∧ a3.block < W.heap.size) (hs : V.cell? a0 = some v0 ∧ V.cell? a1 = some v1 ∧ V.cell? a2 = some v2 ∧ V.cell? a3 = some v3 ∧ Below W.heap.size W V) (hb : Below V.heap.size V V') :
    V'.cell? a0 = some v0 ∧ V'.cell? a1 = some v1 ∧ V'.cell? a2 = some v2 ∧ V'.cell? a3 = some v3 ∧ Below W.heap.size W V' := by
  obtain ⟨h0, h1, h2, h3⟩ := hh
  obtain ⟨c0, c1, c2, c3, cb⟩ := hs
  have := cb.size
  have k : ∀ {a : Addr} {v : Value}, a.block < W.heap.size → V.cell? a = some v → V'.cell? a = some v := fun {a v} ha hv => (hb.cell (p := a) (by omega)).trans hv
  exact ⟨k h0 c0, k h1 c1, k h2 c2, k h3 c3, below_on cb (Nat.le_refl _) hb⟩
theorem below_szJ {W wo w6 : World} (h : Below W.drew.heap.size W.drew wo) (h' : Below wo.heap.size wo w6) : W.heap.size ≤ w6.heap.size := Nat.le_trans (by have := h.size; simpa using this) h'.size
theorem hldJT {W V : World} {a0 a1 a2 a3 : Addr} {v0 v1 v2 v3 : Value} {o o' : Obj} (hh : a0.block < W.heap.size ∧ a1.block < W.heap.size ∧ a2.block < W.heap.size ∧ a3.block < W.heap.size) (hz : W.heap.size ≤ V.heap.size) (hs : (V.alloc o).cell? a0 = some v0 ∧ (V.alloc o).cell? a1 = some v1 ∧ (V.alloc o).cell? a2 = some v2 ∧ (V.alloc o).cell? a3 = some v3 ∧ Below W.heap.size W (V.alloc o)) :
    (V.alloc o').cell? a0 = some v0 ∧ (V.alloc o').cell? a1 = some v1 ∧ (V.alloc o').cell? a2 = some v2 ∧ (V.alloc o').cell? a3 = some v3 ∧ Below W.heap.size W (V.alloc o') := by
  obtain ⟨k0, k1, k2, k3⟩ := hh
  obtain ⟨c0, c1, c2, c3, h6⟩ := hs
  have k : ∀ {a : Addr} {v : Value}, a.block < W.heap.size → (V.alloc o).cell? a = some v → (V.alloc o').cell? a = some v := fun {a v} ha hv => by
    rw [World.cell?_alloc_lt V o' a (by omega), ← World.cell?_alloc_lt V o a (by omega)]
    exact hv
  exact ⟨k k0 c0, k k1 c1, k k2 c2, k k3 c3, ⟨h6.os, h6.tape, h6.output, by rw [World.size_alloc]; omega, fun i hi => (Below.heap_alloc V o' i (by omega)).trans ((Below.heap_alloc V o i (by omega)).symm.trans (h6.block i hi))⟩⟩
theorem hldJC {W V : World} {a0 a1 a2 a3 p : Addr} {v0 v1 v2 v3 u : Value} (hh : a0.block < W.heap.size ∧ a1.block < W.heap.size ∧ a2.block < W.heap.size ∧ a3.block < W.heap.size) (hp : W.heap.size ≤ p.block) (hs : V.cell? a0 = some v0 ∧ V.cell? a1 = some v1 ∧ V.cell? a2 = some v2 ∧ V.cell? a3 = some v3 ∧ Below W.heap.size W V) :
    (V.setCell p u).cell? a0 = some v0 ∧ (V.setCell p u).cell? a1 = some v1 ∧ (V.setCell p u).cell? a2 = some v2 ∧ (V.setCell p u).cell? a3 = some v3 ∧ Below W.heap.size W (V.setCell p u) := by
  obtain ⟨k0, k1, k2, k3⟩ := hh
  obtain ⟨c0, c1, c2, c3, h6⟩ := hs
  have k : ∀ {a : Addr} {v : Value}, a.block < W.heap.size → V.cell? a = some v → (V.setCell p u).cell? a = some v := fun {a v} ha hv => by
    rw [World.cell?_setCell_other _ _ _ _ (fun e => by subst e; omega)]
    exact hv
  exact ⟨k k0 c0, k k1 c1, k k2 c2, k k3 c3, h6.setCell hp u⟩
set_option maxRecDepth 100000 in
set_option maxHeartbeats 3200000 in
theorem joinAlone_any (p : Plan) (id : Int) (A A' : Option Addr) (n c n' c' : Nat) (w : World) (h : PlanAt w w.heap.size A n c A' n' c' p) :
    Calls Tryz.prog 5 #[planV A n c A' n' c', .int .i64 id] w fun e w' => e = .returned (.bool true) ∧ Below w.heap.size w w' := by
  obtain ⟨wa, hwa⟩ : ∃ wa : World, wa = w.alloc (.cells #[.slice A n c, .slice A' n' c'] 26) := ⟨_, rfl⟩
  have hF : JlF p A n c A' n' c' w wa := by
    have hB0 : Below w.heap.size w wa := by rw [hwa]; exact (Below.refl _ _).alloc (Nat.le_refl _) _
    exact ⟨hB0, by rw [hwa]; exact PlK.new w A n c A' n' c', h.on hB0⟩
  have H0 := Lib.hid hF
  clear hF h
  go_enter Tryz.func5, Tryz.ntmps5
  go_upto_region 1 with fail
  rw [← hwa]
  clear hwa
  go_wp2_with (go_at_call 14; (with_reducible refine (ans07_any _).mono ?_); rintro e w1 ⟨rfl, hb1⟩; have H1 := Lib.hid (H0.out.on hb1); obtain ⟨q1, q2, q3⟩ := H1.out.2.1.facts; clear hb1 H0)
  refine (few7_any p A A' n c n' c' w1 H1.out.2.2).mono ?_
  rintro e w2 ⟨fb, rfl, hsm, hb2⟩
  have H2 := Lib.hid (H1.out.on hb2)
  clear hb2 q1 q2 q3 H1
  rcases fb with _ | _
  · clear hsm
    go_wp2_with fail
    refine (ans07_any _).mono ?_
    rintro e w3 ⟨rfl, hb3⟩
    have HB := Lib.hid (below_on H2.out.1 (Nat.le_refl _) hb3)
    clear hb3 H2
    go_wp2_with fail
    go_ret
    exact ⟨rfl, HB.out⟩
  have hn' : n' ≤ 80 := (hsm rfl).1
  clear hsm
  have KC := Lib.hid (checkPR_any p A A' n c n' c' w2 H2.out.2.2)
  obtain ⟨q1, q2, q3⟩ := H2.out.2.1.facts
  go_wp2_with fail
  refine KC.out.mono ?_
  rintro e w3 ⟨rfl, hb3⟩
  have H3 := Lib.hid (H2.out.on hb3)
  clear hb3 q1 q2 q3 H2 KC
  rcases hpb : planB p with _ | _
  · clear hpb
    go_wp2_with fail
    refine (ans07_any _).mono ?_
    rintro e w4 ⟨rfl, hb4⟩
    have HB := Lib.hid (below_on H3.out.1 (Nat.le_refl _) hb4)
    clear hb4 H3
    go_wp2_with fail
    go_ret
    exact ⟨rfl, HB.out⟩
  have HS := Lib.hid hpb
  have HL := Lib.hid H3.out.2.2.lens.2.1
  clear hpb
  obtain ⟨wo, hwo⟩ : ∃ wo, wo = w3 := ⟨_, rfl⟩
  rw [← hwo] at H3
  go_wp2_with fail
  rw [← hwo]
  clear hwo w3
  go_loopw [5] (fun i wr => ∃ k : Nat, k ≤ n' ∧ i = .int .i64 (k : Int) ∧ JlF p A n c A' n' c' w wr) (fun i _ => n' - (intOf i).toNat)
  case atStart => exact ⟨0, Nat.zero_le _, rfl, H3.out⟩
  case round =>
    obtain ⟨k, hk, rfl, hF⟩ := hrel
    obtain ⟨W, rfl⟩ : ∃ W, W = wr := ⟨_, rfl⟩
    by_cases hlt : k < n'
    · have hlt' : (k : Int) < (n' : Int) := by omega
      have hw1 : IntKind.i64.wrap ((k : Int) + 1) = (k : Int) + 1 := by rw [IntKind.wrap_i64]; omega
      obtain ⟨ad, rfl⟩ := hF.2.2.parcs.some_ (by omega)
      obtain ⟨had, p1, -, -⟩ := hF.2.2.parcs.at_ hlt
      have hj1 := alone_same HS.out (k := k) (by rw [HL.out]; exact hlt)
      have hj2 := alone_none HS.out (k := k) (id := id)
      obtain ⟨x, hx⟩ : ∃ x, x = (pcAt p.parcels k).id := ⟨_, rfl⟩
      rw [← hx] at p1 hj1 hj2
      have kO := fun V (hV : Below W.heap.size W V) => ownPl_any p A (some ad) n c n' c' V (hF.2.2.on hV) (by omega)
      have HJ := Lib.hid hj2
      have HXX := Lib.hid hx
      have HF := Lib.hid hF
      have kM := fun A1 n1 c1 A2 n2 c2 V (hV : PlanAt V V.heap.size A1 n1 c1 A2 n2 c2 p) => mergeP_any p x x A1 A2 n1 c1 n2 c2 V hV
      rw [hj1] at kM
      obtain ⟨q1, q2, q3⟩ := hF.2.1.facts
      have hP0 : W.drew.cell? ⟨w.heap.size, 0, none⟩ = some (.slice A n c) ∧ W.drew.cell? ⟨w.heap.size, 1, none⟩ = some (.slice (some ad) n' c') ∧ W.drew.cell? (ad.add (k * 3)) = some (.int .i64 x) ∧ W.drew.cell? ⟨w.heap.size, 1, none⟩ = some (.slice (some ad) n' c') ∧ Below W.heap.size W W.drew := ⟨q1, q2, p1, q2, (Below.refl _ _).drew⟩
      have hh : (⟨w.heap.size, 0, none⟩ : Addr).block < W.heap.size ∧ (⟨w.heap.size, 1, none⟩ : Addr).block < W.heap.size ∧ (ad.add (k * 3)).block < W.heap.size ∧ (⟨w.heap.size, 1, none⟩ : Addr).block < W.heap.size := ⟨q3, q3, by rw [block_of_add]; exact had, q3⟩
      clear hF hj1 hj2 hx had
      go_upto_region 6 with fail
      clear q1 q2 q3
      have hfz : ∀ o, Below W.heap.size W (World.drew (W.alloc o)) := fun o => ((Below.refl _ _).alloc (Nat.le_refl _) o).drew
      go_cut [7] (fun y wx => y = .int .i64 1 ∧ Below W.heap.size W wx)
      case first =>
        refine wp_region_held_drew (S := fun V => V.cell? ⟨w.heap.size, 0, none⟩ = some (.slice A n c) ∧ V.cell? ⟨w.heap.size, 1, none⟩ = some (.slice (some ad) n' c') ∧ V.cell? (ad.add (k * 3)) = some (.int .i64 x) ∧ V.cell? ⟨w.heap.size, 1, none⟩ = some (.slice (some ad) n' c') ∧ Below W.heap.size W V) (by kernel_rfl) ?_ (fun hHeld => ?_)
        · exact hP0
        refine tk 0 ?_
        refine tk 2 ?_
        refine tk 3 ?_
        refine tk 4 ?_
        refine tk 5 ?_
        refine tk 6 ?_
        refine tk 7 ?_
        refine tk 8 ?_
        refine tk 9 ?_
        refine tk 10 ?_
        refine tk 11 ?_
        refine tk 12 ?_
        refine tk 13 ?_
        refine wpAnyH_ready (rs := [1, 18]) (by kernel_rfl) (by simp) ?_
        refine AllReadyH.cons rfl (fun K hK => ?_) (AllReadyH.cons rfl (fun K hK => ?_) AllReadyH.nil)
        · go_simp
          go_at_call 17
          (with_reducible refine (kO _ ((Below.refl _ _).drew)).mono ?_)
          rintro e wo ⟨A1, n1, c1, A2, n2, c2, rfl, hP1, hb'⟩
          try dsimp only
          refine hK.out _ _ ?_ (fun hHeld => ?_)
          · exact hldJ4 hh hP0 hb'
          clear hK K
          try simp only [Act.put, List.setIfInBounds_toArray, List.set_cons_zero, List.set_cons_succ]
          refine wpAnyH_ready (rs := [14, 18]) (by kernel_rfl) (by simp) ?_
          refine AllReadyH.cons rfl (fun K hK => ?_) (AllReadyH.cons rfl (fun K hK => ?_) AllReadyH.nil)
          · go_simp
            go_at_call 16
            (with_reducible refine (kM _ _ _ _ _ _ _ (hP1)).mono ?_)
            rintro e w6 ⟨A3, n3, c3, A4, n4, c4, hs, rfl, hpo, hb''⟩
            try dsimp only
            refine hK.out _ _ ?_ (fun hHeld => ?_)
            · exact hldJ4 hh hHeld hb''
            clear hK K
            try simp only [Act.put, List.setIfInBounds_toArray, List.set_cons_zero, List.set_cons_succ]
            refine tk 15 ?_
            refine tk 16 ?_
            refine tk 17 ?_
            refine wpAnyH_ready (rs := [18]) (by kernel_rfl) (by simp) ?_
            refine AllReadyH.cons rfl (fun K hK => ?_) AllReadyH.nil
            go_simp
            refine hK.out _ _ ?_ (fun hHeld => ?_)
            · exact hldJ4 hh hHeld ((Below.refl _ _).alloc (Nat.le_refl _) _)
            have hS1 := hHeld
            clear hK K
            try simp only [Act.put, List.setIfInBounds_toArray, List.set_cons_zero, List.set_cons_succ]
            refine wpAnyH_ready (rs := [19]) (by kernel_rfl) (by simp) ?_
            refine AllReadyH.cons rfl (fun K hK => ?_) AllReadyH.nil
            go_simp
            refine hK.out _ _ ?_ (fun hHeld => ?_)
            · exact hldJT hh (below_szJ hb' hb'') hS1
            clear hK K
            try simp only [Act.put, List.setIfInBounds_toArray, List.set_cons_zero, List.set_cons_succ]
            refine tk 20 ?_
            refine wpAnyH_done (by kernel_rfl) ?_ _
            go_wp2_with fail
            go_meet
            exact ⟨rfl, hHeld.2.2.2.2⟩
          · go_simp
            refine hK.out _ _ ?_ (fun hHeld => ?_)
            · exact hldJ4 hh hHeld ((Below.refl _ _).alloc (Nat.le_refl _) _)
            clear hK K
            try simp only [Act.put, List.setIfInBounds_toArray, List.set_cons_zero, List.set_cons_succ]
            refine wpAnyH_ready (rs := [14]) (by kernel_rfl) (by simp) ?_
            refine AllReadyH.cons rfl (fun K hK => ?_) AllReadyH.nil
            go_simp
            go_at_call 16
            (with_reducible refine (kM _ _ _ _ _ _ _ (hP1.on ((Below.refl _ _).alloc (Nat.le_refl _) _))).mono ?_)
            rintro e w6 ⟨A3, n3, c3, A4, n4, c4, hs, rfl, hpo, hb''⟩
            have hk6 := (PlK.new wo none 0 0 none 0 0).on hb''
            obtain ⟨g1, g2, f1, f2⟩ := plk_facts4 hk6
            try dsimp only
            refine hK.out _ _ ?_ (fun hHeld => ?_)
            · exact hldJ4 hh hHeld hb''
            have hS1 := hHeld
            clear hK K
            try simp only [Act.put, List.setIfInBounds_toArray, List.set_cons_zero, List.set_cons_succ]
            refine tk 15 ?_
            refine tk 16 ?_
            refine tk 17 ?_
            refine wpAnyH_ready (rs := [19]) (by kernel_rfl) (by simp) ?_
            refine AllReadyH.cons rfl (fun K hK => ?_) AllReadyH.nil
            go_simp
            refine hK.out _ _ ?_ (fun hHeld => ?_)
            · exact hldJC hh (by have := hb'.size; simpa using this) (hldJC hh (by have := hb'.size; simpa using this) hS1)
            clear hK K
            try simp only [Act.put, List.setIfInBounds_toArray, List.set_cons_zero, List.set_cons_succ]
            refine tk 20 ?_
            refine wpAnyH_done (by kernel_rfl) ?_ _
            go_wp2_with fail
            go_meet
            exact ⟨rfl, hHeld.2.2.2.2⟩
        · go_simp
          refine hK.out _ _ ?_ (fun hHeld => ?_)
          · exact hldJ4 hh hP0 (show Below W.drew.heap.size W.drew (World.drew (W.alloc _)) from (Below.refl W.drew.heap.size W.drew).alloc (Nat.le_refl _) _)
          clear hK K
          try simp only [Act.put, List.setIfInBounds_toArray, List.set_cons_zero, List.set_cons_succ]
          refine wpAnyH_ready (rs := [1]) (by kernel_rfl) (by simp) ?_
          refine AllReadyH.cons rfl (fun K hK => ?_) AllReadyH.nil
          go_simp
          go_at_call 17
          (with_reducible refine (kO _ (hfz _)).mono ?_)
          rintro e wo ⟨A1, n1, c1, A2, n2, c2, rfl, hP1, hb'⟩
          have hk5 : PlK wo W.heap.size none 0 0 none 0 0 := Blk.below (Blk.drew (PlK.new W none 0 0 none 0 0)) hb' (by simp)
          try dsimp only
          refine hK.out _ _ ?_ (fun hHeld => ?_)
          · exact hldJ4 hh hHeld hb'
          clear hK K
          try simp only [Act.put, List.setIfInBounds_toArray, List.set_cons_zero, List.set_cons_succ]
          refine wpAnyH_ready (rs := [14]) (by kernel_rfl) (by simp) ?_
          refine AllReadyH.cons rfl (fun K hK => ?_) AllReadyH.nil
          go_simp
          go_at_call 16
          (with_reducible refine (kM _ _ _ _ _ _ _ (hP1)).mono ?_)
          rintro e w6 ⟨A3, n3, c3, A4, n4, c4, hs, rfl, hpo, hb''⟩
          have hk6 := hk5.on hb''
          obtain ⟨g1, g2, f1, f2⟩ := plk_facts4 hk6
          try dsimp only
          refine hK.out _ _ ?_ (fun hHeld => ?_)
          · exact hldJ4 hh hHeld hb''
          have hS1 := hHeld
          clear hK K
          try simp only [Act.put, List.setIfInBounds_toArray, List.set_cons_zero, List.set_cons_succ]
          refine tk 15 ?_
          refine tk 16 ?_
          refine tk 17 ?_
          refine wpAnyH_ready (rs := [19]) (by kernel_rfl) (by simp) ?_
          refine AllReadyH.cons rfl (fun K hK => ?_) AllReadyH.nil
          go_simp
          refine hK.out _ _ ?_ (fun hHeld => ?_)
          · exact hldJC hh (Nat.le_refl _) (hldJC hh (Nat.le_refl _) hS1)
          clear hK K
          try simp only [Act.put, List.setIfInBounds_toArray, List.set_cons_zero, List.set_cons_succ]
          refine tk 20 ?_
          refine wpAnyH_done (by kernel_rfl) ?_ _
          go_wp2_with fail
          go_meet
          exact ⟨rfl, hHeld.2.2.2.2⟩
      case rest =>
        obtain ⟨rfl, hbc⟩ := hcut
        have HG := Lib.hid (HF.out.on hbc)
        have hbc' := Lib.hid hbc
        clear kM kO hP0 hh hfz hbc p1
        obtain ⟨W, rfl⟩ : ∃ W, W = wc := ⟨_, rfl⟩
        have hx2 : (pcAt p.parcels k).id = (pcAt p.parcels k).id := rfl
        obtain ⟨had, p1, -, -⟩ := HG.out.2.2.parcs.at_ hlt
        rw [← HXX.out] at p1
        have kO := fun V (hV : Below W.heap.size W V) => ownPl_any p A (some ad) n c n' c' V (HG.out.2.2.on hV) (by omega)
        obtain ⟨z, hz⟩ : ∃ z, z = joinE p x id := ⟨_, rfl⟩
        have kM := fun A1 n1 c1 A2 n2 c2 V (hV : PlanAt V V.heap.size A1 n1 c1 A2 n2 c2 p) => mergeP_any p x id A1 A2 n1 c1 n2 c2 V hV
        rw [← hz] at kM
        have HZ := Lib.hid hz
        obtain ⟨q1, q2, q3⟩ := HG.out.2.1.facts
        have hP0 : W.drew.cell? ⟨w.heap.size, 0, none⟩ = some (.slice A n c) ∧ W.drew.cell? ⟨w.heap.size, 1, none⟩ = some (.slice (some ad) n' c') ∧ W.drew.cell? (ad.add (k * 3)) = some (.int .i64 x) ∧ W.drew.cell? ⟨w.heap.size, 1, none⟩ = some (.slice (some ad) n' c') ∧ Below W.heap.size W W.drew := ⟨q1, q2, p1, q2, (Below.refl _ _).drew⟩
        have hh : (⟨w.heap.size, 0, none⟩ : Addr).block < W.heap.size ∧ (⟨w.heap.size, 1, none⟩ : Addr).block < W.heap.size ∧ (ad.add (k * 3)).block < W.heap.size ∧ (⟨w.heap.size, 1, none⟩ : Addr).block < W.heap.size := ⟨q3, q3, by rw [block_of_add]; exact had, q3⟩
        have hfz : ∀ o, Below W.heap.size W (World.drew (W.alloc o)) := fun o => ((Below.refl _ _).alloc (Nat.le_refl _) o).drew
        clear had hz hx2
        go_upto_region 9 with fail
        clear q1 q2 q3
        go_cut [9] (fun y wx => y = .int .i64 z ∧ Below W.heap.size W wx)
        case first =>
          refine wp_region_held_drew (S := fun V => V.cell? ⟨w.heap.size, 0, none⟩ = some (.slice A n c) ∧ V.cell? ⟨w.heap.size, 1, none⟩ = some (.slice (some ad) n' c') ∧ V.cell? (ad.add (k * 3)) = some (.int .i64 x) ∧ V.cell? ⟨w.heap.size, 1, none⟩ = some (.slice (some ad) n' c') ∧ Below W.heap.size W V) (by kernel_rfl) ?_ (fun hHeld => ?_)
          · exact hP0
          refine tk 0 ?_
          refine tk 2 ?_
          refine tk 3 ?_
          refine tk 4 ?_
          refine tk 5 ?_
          refine tk 6 ?_
          refine tk 7 ?_
          refine tk 8 ?_
          refine wpAnyH_ready (rs := [1, 13]) (by kernel_rfl) (by simp) ?_
          refine AllReadyH.cons rfl (fun K hK => ?_) (AllReadyH.cons rfl (fun K hK => ?_) AllReadyH.nil)
          · go_simp
            go_at_call 17
            (with_reducible refine (kO _ ((Below.refl _ _).drew)).mono ?_)
            rintro e wo ⟨A1, n1, c1, A2, n2, c2, rfl, hP1, hb'⟩
            try dsimp only
            refine hK.out _ _ ?_ (fun hHeld => ?_)
            · exact hldJ4 hh hP0 hb'
            clear hK K
            try simp only [Act.put, List.setIfInBounds_toArray, List.set_cons_zero, List.set_cons_succ]
            refine wpAnyH_ready (rs := [9, 13]) (by kernel_rfl) (by simp) ?_
            refine AllReadyH.cons rfl (fun K hK => ?_) (AllReadyH.cons rfl (fun K hK => ?_) AllReadyH.nil)
            · go_simp
              go_at_call 16
              (with_reducible refine (kM _ _ _ _ _ _ _ (hP1)).mono ?_)
              rintro e w6 ⟨A3, n3, c3, A4, n4, c4, hs, rfl, hpo, hb''⟩
              try dsimp only
              refine hK.out _ _ ?_ (fun hHeld => ?_)
              · exact hldJ4 hh hHeld hb''
              clear hK K
              try simp only [Act.put, List.setIfInBounds_toArray, List.set_cons_zero, List.set_cons_succ]
              refine tk 10 ?_
              refine tk 11 ?_
              refine tk 12 ?_
              refine wpAnyH_ready (rs := [13]) (by kernel_rfl) (by simp) ?_
              refine AllReadyH.cons rfl (fun K hK => ?_) AllReadyH.nil
              go_simp
              refine hK.out _ _ ?_ (fun hHeld => ?_)
              · exact hldJ4 hh hHeld ((Below.refl _ _).alloc (Nat.le_refl _) _)
              have hS1 := hHeld
              clear hK K
              try simp only [Act.put, List.setIfInBounds_toArray, List.set_cons_zero, List.set_cons_succ]
              refine wpAnyH_ready (rs := [14]) (by kernel_rfl) (by simp) ?_
              refine AllReadyH.cons rfl (fun K hK => ?_) AllReadyH.nil
              go_simp
              refine hK.out _ _ ?_ (fun hHeld => ?_)
              · exact hldJT hh (below_szJ hb' hb'') hS1
              clear hK K
              try simp only [Act.put, List.setIfInBounds_toArray, List.set_cons_zero, List.set_cons_succ]
              refine tk 15 ?_
              refine wpAnyH_done (by kernel_rfl) ?_ _
              go_wp2_with fail
              go_meet
              exact ⟨rfl, hHeld.2.2.2.2⟩
            · go_simp
              refine hK.out _ _ ?_ (fun hHeld => ?_)
              · exact hldJ4 hh hHeld ((Below.refl _ _).alloc (Nat.le_refl _) _)
              clear hK K
              try simp only [Act.put, List.setIfInBounds_toArray, List.set_cons_zero, List.set_cons_succ]
              refine wpAnyH_ready (rs := [9]) (by kernel_rfl) (by simp) ?_
              refine AllReadyH.cons rfl (fun K hK => ?_) AllReadyH.nil
              go_simp
              go_at_call 16
              (with_reducible refine (kM _ _ _ _ _ _ _ (hP1.on ((Below.refl _ _).alloc (Nat.le_refl _) _))).mono ?_)
              rintro e w6 ⟨A3, n3, c3, A4, n4, c4, hs, rfl, hpo, hb''⟩
              have hk6 := (PlK.new wo none 0 0 none 0 0).on hb''
              obtain ⟨g1, g2, f1, f2⟩ := plk_facts4 hk6
              try dsimp only
              refine hK.out _ _ ?_ (fun hHeld => ?_)
              · exact hldJ4 hh hHeld hb''
              have hS1 := hHeld
              clear hK K
              try simp only [Act.put, List.setIfInBounds_toArray, List.set_cons_zero, List.set_cons_succ]
              refine tk 10 ?_
              refine tk 11 ?_
              refine tk 12 ?_
              refine wpAnyH_ready (rs := [14]) (by kernel_rfl) (by simp) ?_
              refine AllReadyH.cons rfl (fun K hK => ?_) AllReadyH.nil
              go_simp
              refine hK.out _ _ ?_ (fun hHeld => ?_)
              · exact hldJC hh (by have := hb'.size; simpa using this) (hldJC hh (by have := hb'.size; simpa using this) hS1)
              clear hK K
              try simp only [Act.put, List.setIfInBounds_toArray, List.set_cons_zero, List.set_cons_succ]
              refine tk 15 ?_
              refine wpAnyH_done (by kernel_rfl) ?_ _
              go_wp2_with fail
              go_meet
              exact ⟨rfl, hHeld.2.2.2.2⟩
          · go_simp
            refine hK.out _ _ ?_ (fun hHeld => ?_)
            · exact hldJ4 hh hP0 (show Below W.drew.heap.size W.drew (World.drew (W.alloc _)) from (Below.refl W.drew.heap.size W.drew).alloc (Nat.le_refl _) _)
            clear hK K
            try simp only [Act.put, List.setIfInBounds_toArray, List.set_cons_zero, List.set_cons_succ]
            refine wpAnyH_ready (rs := [1]) (by kernel_rfl) (by simp) ?_
            refine AllReadyH.cons rfl (fun K hK => ?_) AllReadyH.nil
            go_simp
            go_at_call 17
            (with_reducible refine (kO _ (hfz _)).mono ?_)
            rintro e wo ⟨A1, n1, c1, A2, n2, c2, rfl, hP1, hb'⟩
            have hk5 : PlK wo W.heap.size none 0 0 none 0 0 := Blk.below (Blk.drew (PlK.new W none 0 0 none 0 0)) hb' (by simp)
            try dsimp only
            refine hK.out _ _ ?_ (fun hHeld => ?_)
            · exact hldJ4 hh hHeld hb'
            clear hK K
            try simp only [Act.put, List.setIfInBounds_toArray, List.set_cons_zero, List.set_cons_succ]
            refine wpAnyH_ready (rs := [9]) (by kernel_rfl) (by simp) ?_
            refine AllReadyH.cons rfl (fun K hK => ?_) AllReadyH.nil
            go_simp
            go_at_call 16
            (with_reducible refine (kM _ _ _ _ _ _ _ (hP1)).mono ?_)
            rintro e w6 ⟨A3, n3, c3, A4, n4, c4, hs, rfl, hpo, hb''⟩
            have hk6 := hk5.on hb''
            obtain ⟨g1, g2, f1, f2⟩ := plk_facts4 hk6
            try dsimp only
            refine hK.out _ _ ?_ (fun hHeld => ?_)
            · exact hldJ4 hh hHeld hb''
            have hS1 := hHeld
            clear hK K
            try simp only [Act.put, List.setIfInBounds_toArray, List.set_cons_zero, List.set_cons_succ]
            refine tk 10 ?_
            refine tk 11 ?_
            refine tk 12 ?_
            refine wpAnyH_ready (rs := [14]) (by kernel_rfl) (by simp) ?_
            refine AllReadyH.cons rfl (fun K hK => ?_) AllReadyH.nil
            go_simp
            refine hK.out _ _ ?_ (fun hHeld => ?_)
            · exact hldJC hh (Nat.le_refl _) (hldJC hh (Nat.le_refl _) hS1)
            clear hK K
            try simp only [Act.put, List.setIfInBounds_toArray, List.set_cons_zero, List.set_cons_succ]
            refine tk 15 ?_
            refine wpAnyH_done (by kernel_rfl) ?_ _
            go_wp2_with fail
            go_meet
            exact ⟨rfl, hHeld.2.2.2.2⟩
        case rest =>
          obtain ⟨rfl, hbc⟩ := hcut
          have HK := Lib.hid (HG.out.on hbc)
          have KA := Lib.hid (atR_any p id A (some ad) n c n' c' wc HK.out.2.2)
          clear kM kO hP0 hh hfz hbc p1
          obtain ⟨q1, q2, q3⟩ := HK.out.2.1.facts
          go_wp2_with fail
          refine KA.out.mono ?_
          rintro e w9 ⟨rfl, hb9⟩
          have HL9 := Lib.hid (HK.out.on hb9)
          obtain ⟨y, hy⟩ : ∃ y, y = atP p.parcels id := ⟨_, rfl⟩
          have hzy : y < 0 → z = 5 := fun h => by rw [HZ.out]; exact HJ.out (by rw [← hy]; exact h)
          rw [← hy]
          clear hb9 KA q1 q2 q3 hy
          by_cases hyn : y < 0
          · have hz5 := hzy hyn
            subst hz5
            clear hzy
            go_wp2_with fail
            go_roundw
            case rel => exact ⟨k + 1, by omega, by go_num, HL9.out⟩
            case measure => simp [intOf]; omega
          · clear hzy
            go_wp2_with fail
            go_roundw
            case rel => exact ⟨k + 1, by omega, by go_num, HL9.out⟩
            case measure => simp [intOf]; omega
    · have hkn : k = n' := by omega
      subst hkn
      have HB := Lib.hid hF.1
      obtain ⟨q1, q2, q3⟩ := hF.2.1.facts
      clear hF
      go_wp2_with fail
      go_ret
      exact ⟨rfl, HB.out⟩
end Go.Proofs.YtgkcenhopmjmlaaGreat

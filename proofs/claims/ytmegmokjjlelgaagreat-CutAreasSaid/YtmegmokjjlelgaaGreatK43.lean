/- merestonelaw06.CutAreas: the walk. -/
import Derived.Deep.CutBlock
import Derived.Deep.DeepCutAuto
import Derived.Test.YtmegmokjjlelgaaGreatK02
import Derived.Test.YtmegmokjjlelgaaGreatK23
import Derived.Test.YtmegmokjjlelgaaGreatK29
import Derived.Test.YtmegmokjjlelgaaGreatK41
import Derived.Test.YtmegmokjjlelgaaGreatK42
namespace Go.Proofs.YtmegmokjjlelgaaGreat
open Go.RowKit Go.Lib
def CtF (p : Plan) (path : List Pt) (A : Option Addr) (n c : Nat) (A' : Option Addr) (n' c' : Nat) (B : Option Addr) (m : Nat) (w W : World) : Prop := Below w.heap.size w W ∧ PlK W w.heap.size A n c A' n' c' ∧ PlanAt W W.heap.size A n c A' n' c' p ∧ Reads W W.heap.size 2 B m (ptsV path)
theorem CtF.on {p : Plan} {path : List Pt} {A A' B : Option Addr} {n c n' c' m : Nat} {w W W' : World} (h : CtF p path A n c A' n' c' B m w W) (hb : Below W.heap.size W W') : CtF p path A n c A' n' c' B m w W' :=
  ⟨below_on h.1 (Nat.le_refl _) hb, h.2.1.on hb, h.2.2.1.on hb, h.2.2.2.on hb⟩
def BW (W : World) (g : Nat) (h l : Int) : Prop := Blk W g 36 #[.int .i64 h, .int .u64 l]
theorem BW.on {W W' : World} {g : Nat} {h l : Int} (k : BW W g h l) (hb : Below W.heap.size W W') : BW W' g h l := Blk.below k hb (Blk.lt k)
theorem BW.facts {W : World} {g : Nat} {h l : Int} (k : BW W g h l) : W.cell? ⟨g, 0, none⟩ = some (.int .i64 h) ∧ W.cell? ⟨g, 1, none⟩ = some (.int .u64 l) := ⟨Blk.cell k 0, Blk.cell k 1⟩
theorem BW.new (W : World) (h l : Int) : BW (W.alloc (.cells #[.int .i64 h, .int .u64 l] 36)) W.heap.size h l := Blk.new W _ _
theorem area_facts {p : Plan} {W : World} {A A' : Option Addr} {n c n' c' i : Nat} (h : PlanAt W W.heap.size A n c A' n' c' p) (hs : SoundP p) (hi : i < p.parcels.length) :
    (∀ Ar nr cr (V : World), Reads V V.heap.size 2 Ar nr (ptsV (pcAt p.parcels i).ring) → Calls Tryz.prog 20 #[.slice Ar nr cr] V fun e w' => e = .returned (.tuple #[i128 (areaZ (pcAt p.parcels i).ring), .int .i64 0]) ∧ Below V.heap.size V w') ∧ (-1180591620717411303424 ≤ areaZ (pcAt p.parcels i).ring ∧ areaZ (pcAt p.parcels i).ring ≤ 1180591620717411303424) ∧ (pcAt p.parcels i) ∈ p.parcels := by
  have hm : pcAt p.parcels i ∈ p.parcels := by rw [pcAt_lt hi]; exact List.getElem_mem hi
  have hA := norm_area (hs.2.2.1 _ hm)
  have hf := h.fits.2.2 _ hm
  refine ⟨fun Ar nr cr V hr => ?_, areaZ_bd hA, hm⟩
  have k := areaR_any _ Ar nr cr V hr (by have := hr.lenPt; have := hf.1; omega) hf.2.1
  rwa [areaV_ok hA, hA] at k
theorem hldY3 {V V' : World} {N : Nat} {a0 a1 a2 : Addr} {v0 v1 v2 : Value} (hh : a0.block < N ∧ a1.block < N ∧ a2.block < N) (hs : V.cell? a0 = some v0 ∧ V.cell? a1 = some v1 ∧ V.cell? a2 = some v2 ∧ N ≤ V.heap.size) (hb : Below V.heap.size V V') : V'.cell? a0 = some v0 ∧ V'.cell? a1 = some v1 ∧ V'.cell? a2 = some v2 ∧ N ≤ V'.heap.size := by
  obtain ⟨h0, h1, h2⟩ := hh
  obtain ⟨c0, c1, c2, cz⟩ := hs
  have hz := hb.size
  have k : ∀ {a : Addr} {v : Value}, a.block < N → V.cell? a = some v → V'.cell? a = some v := fun {a v} ha hv => (hb.cell (p := a) (by omega)).trans hv
  exact ⟨k h0 c0, k h1 c1, k h2 c2, by omega⟩
theorem hldY3c {V : World} {N : Nat} {p : Addr} {u : Value} {a0 a1 a2 : Addr} {v0 v1 v2 : Value} (hh : a0 ≠ p ∧ a1 ≠ p ∧ a2 ≠ p) (hs : V.cell? a0 = some v0 ∧ V.cell? a1 = some v1 ∧ V.cell? a2 = some v2 ∧ N ≤ V.heap.size) : (V.setCell p u).cell? a0 = some v0 ∧ (V.setCell p u).cell? a1 = some v1 ∧ (V.setCell p u).cell? a2 = some v2 ∧ N ≤ (V.setCell p u).heap.size := by
  obtain ⟨h0, h1, h2⟩ := hh
  obtain ⟨c0, c1, c2, cz⟩ := hs
  have k : ∀ {a : Addr} {v : Value}, a ≠ p → V.cell? a = some v → (V.setCell p u).cell? a = some v := fun {a v} ha hv => (World.cell?_setCell_other _ _ _ _ (Ne.symm ha)).trans hv
  exact ⟨k h0 c0, k h1 c1, k h2 c2, by rw [World.size_setCell]; exact cz⟩
def IBox (W V : World) (h l : Int) (x : Value) : Prop := ∃ g, x = .pointer (some ⟨g, 0, none⟩) ∧ BW V g h l ∧ Below W.heap.size W V
theorem ibox_1 {h l : Int} {W V : World} (hb : Below W.heap.size W V) : IBox W (V.alloc (.cells #[.int .i64 h, .int .u64 l] 36)) h l (.pointer (some ⟨V.heap.size, 0, none⟩)) :=
  ⟨_, rfl, BW.new V h l, below_on hb (Nat.le_refl _) ((Below.refl _ _).alloc (Nat.le_refl _) _)⟩
theorem ibox_2 {h l h0 l0 : Int} {g : Nat} {W V : World} (hb : Below W.heap.size W V) (hg : W.heap.size ≤ g) (hk : BW V g h0 l0) : IBox W ((V.setCell ⟨g, 0, none⟩ (.int .i64 h)).setCell ⟨g, 1, none⟩ (.int .u64 l)) h l (.pointer (some ⟨g, 0, none⟩)) := by
  have hk2 := Blk.set_ (Blk.set_ hk 0 (.int .i64 h)) 1 (.int .u64 l)
  simp only [List.setIfInBounds_toArray, List.set_cons_zero, List.set_cons_succ] at hk2
  exact ⟨g, rfl, hk2, (hb.setCell (p := ⟨g, 0, none⟩) hg _).setCell (p := ⟨g, 1, none⟩) hg _⟩
theorem BW.facts4 {W : World} {g : Nat} {h l : Int} (k : BW W g h l) : W.cell? ⟨g, 0, none⟩ = some (.int .i64 h) ∧ W.cell? ⟨g, 1, none⟩ = some (.int .u64 l) ∧ W.frozen? ⟨g, 0, none⟩ = false ∧ W.frozen? ⟨g, 1, none⟩ = false := ⟨Blk.cell k 0, Blk.cell k 1, Blk.frozen k 0, Blk.frozen k 1⟩
def CaF (p : Plan) (path : List Pt) (A : Option Addr) (n c : Nat) (A' : Option Addr) (n' c' : Nat) (B : Option Addr) (m : Nat) (w : World) (Q : Plan) (Bq : Nat) (A1 : Option Addr) (n1 c1 : Nat) (A2 : Option Addr) (n2 c2 : Nat) (Ga : Nat) (ua va : Int) (W : World) : Prop :=
  CtF p path A n c A' n' c' B m w W ∧ (PlK W Bq A1 n1 c1 A2 n2 c2 ∧ PlanAt W W.heap.size A1 n1 c1 A2 n2 c2 Q) ∧ BW W Ga ua va
theorem CaF.on {p Q : Plan} {path : List Pt} {A A' B A1 A2 : Option Addr} {n c n' c' m Bq n1 c1 n2 c2 Ga : Nat} {ua va : Int} {w W W' : World} (h : CaF p path A n c A' n' c' B m w Q Bq A1 n1 c1 A2 n2 c2 Ga ua va W) (hb : Below W.heap.size W W') : CaF p path A n c A' n' c' B m w Q Bq A1 n1 c1 A2 n2 c2 Ga ua va W' :=
  ⟨h.1.on hb, ⟨h.2.1.1.on hb, h.2.1.2.on hb⟩, h.2.2.on hb⟩
theorem area_outer {p : Plan} {W : World} {A A' : Option Addr} {n c n' c' : Nat} (h : PlanAt W W.heap.size A n c A' n' c' p) (hs : SoundP p) :
    (∀ (V : World), Reads V V.heap.size 2 A n (ptsV p.outer) → Calls Tryz.prog 20 #[.slice A n c] V fun e w' => e = .returned (.tuple #[i128 (areaZ p.outer), .int .i64 0]) ∧ Below V.heap.size V w') ∧ True := by
  have hA := norm_area hs.2.1
  refine ⟨fun V hr => ?_, trivial⟩
  have k := areaR_any _ A n c V hr (by have := h.lens; omega) h.fits.1.2
  rwa [areaV_ok hA, hA] at k
set_option maxRecDepth 100000 in
set_option maxHeartbeats 6400000 in
theorem cutAreas_any (p : Plan) (id fresh : Int) (path : List Pt) (A A' B : Option Addr) (n c n' c' m cb : Nat) (w : World) (h : PlanAt w w.heap.size A n c A' n' c' p) (hr : Reads w w.heap.size 2 B m (ptsV path)) (hx : ∀ q ∈ path, q.inI) :
    Calls Tryz.prog 4 #[planV A n c A' n' c', .int .i64 id, .slice B m cb, .int .i64 fresh] w fun e w' => e = .returned (.bool true) ∧ Below w.heap.size w w' := by
  obtain ⟨wa, hwa⟩ : ∃ wa : World, wa = w.alloc (.cells #[.slice A n c, .slice A' n' c'] 26) := ⟨_, rfl⟩
  have hF : CtF p path A n c A' n' c' B m w wa := by
    have hB0 : Below w.heap.size w wa := by rw [hwa]; exact (Below.refl _ _).alloc (Nat.le_refl _) _
    exact ⟨hB0, by rw [hwa]; exact PlK.new w A n c A' n' c', h.on hB0, hr.on hB0⟩
  have H0 := Lib.hid hF
  have HX := Lib.hid hx
  clear hF h hr hx
  go_enter Tryz.func4, Tryz.ntmps4
  go_upto_region 1 with fail
  rw [← hwa]
  clear hwa
  go_wp2_with (go_at_call 15; (with_reducible refine (ans06_any _).mono ?_); rintro e w1 ⟨rfl, hb1⟩; have H1 := Lib.hid (H0.out.on hb1); obtain ⟨q1, q2, q3⟩ := H1.out.2.1.facts; clear hb1 H0)
  refine (few6_any p A A' n c n' c' w1 H1.out.2.2.1).mono ?_
  rintro e w2 ⟨fb, rfl, hsm, hb2⟩
  have H2 := Lib.hid (H1.out.on hb2)
  clear hb2 q1 q2 q3 H1
  rcases fb with _ | _
  · clear hsm
    go_wp2_with fail
    refine (ans06_any _).mono ?_
    rintro e w3 ⟨rfl, hb3⟩
    have HB := Lib.hid (below_on H2.out.1 (Nat.le_refl _) hb3)
    clear hb3 H2
    go_wp2_with fail
    go_ret
    exact ⟨rfl, HB.out⟩
  have hn' : n' ≤ 80 := (hsm rfl).1
  clear hsm
  by_cases hm : 150 < m
  · have hm' : (150 : Int) < (m : Int) := by omega
    go_wp2_with fail
    refine (ans06_any _).mono ?_
    rintro e w3 ⟨rfl, hb3⟩
    have HB := Lib.hid (below_on H2.out.1 (Nat.le_refl _) hb3)
    clear hb3 H2 hm hm'
    go_wp2_with fail
    go_ret
    exact ⟨rfl, HB.out⟩
  have hm' : ¬ (150 : Int) < (m : Int) := by omega
  have KS := Lib.hid (split6_any p id fresh path A A' B n c n' c' m cb w2 H2.out.2.2.1 H2.out.2.2.2 HX.out (by omega) (by omega))
  obtain ⟨z, hz⟩ : ∃ z, z = spE p id path fresh := ⟨_, rfl⟩
  obtain ⟨Q, hQ⟩ : ∃ Q, Q = spP p id path fresh := ⟨_, rfl⟩
  rw [← hz, ← hQ] at KS
  have HZ := Lib.hid (And.intro hz hQ)
  have HM := Lib.hid hm
  obtain ⟨q1, q2, q3⟩ := H2.out.2.1.facts
  clear hz hQ hm
  go_upto_region 3 with fail
  clear hm'
  go_wp2_with fail
  refine KS.out.mono ?_
  rintro e w3 ⟨A1, n1, c1, A2, n2, c2, hs, rfl, hpo, hb3⟩
  obtain ⟨W, hW⟩ : ∃ W, W = w3.alloc (.cells #[.slice A1 n1 c1, .slice A2 n2 c2] 26) := ⟨_, rfl⟩
  have hba : Below w3.heap.size w3 W := by rw [hW]; exact (Below.refl _ _).alloc (Nat.le_refl _) _
  have hK : PlK W w3.heap.size A1 n1 c1 A2 n2 c2 := by rw [hW]; exact PlK.new w3 A1 n1 c1 A2 n2 c2
  obtain ⟨Bq, hBq⟩ : ∃ Bq, Bq = w3.heap.size := ⟨_, rfl⟩
  rw [← hBq] at hK
  have hb3' := below_on hb3 (Nat.le_refl _) hba
  have H3 := Lib.hid (And.intro (H2.out.on hb3') (And.intro hK (hpo.at_.on hba)))
  clear hb3 hb3' hba hK hpo H2 KS q1 q2 q3
  go_upto_region 4 with fail
  rw [← hW, ← hBq]
  clear hW hBq
  by_cases hz0 : z = 0
  case neg =>
    have hne : (z != 0) = true := by simpa using hz0
    have hR0 : Q = ⟨[], []⟩ := by rw [HZ.out.2]; exact spP_no HZ.out.1.symm hz0
    have kS := samePl_any Q ⟨[], []⟩ A1 A2 none none n1 c1 n2 c2 0 0 0 0 W H3.out.2.2 (planAt_nil W)
    rw [← hR0, plEq_self] at kS
    have KS := Lib.hid kS
    obtain ⟨x1, x2, x3⟩ := H3.out.2.1.facts
    clear hR0 kS
    go_wp2_with fail
    refine KS.out.mono ?_
    rintro e w8 ⟨rfl, hb8⟩
    have HB := Lib.hid (below_on H3.out.1.1 (Nat.le_refl _) hb8)
    clear hb8 H3 KS x1 x2 x3
    go_wp2_with fail
    go_ret
    exact ⟨by first | rfl | simp, HB.out⟩
  subst hz0
  obtain ⟨k, hs, hq, hk, hat, hlen, hout, hsum, hoth, hbds⟩ := areas_cut HZ.out.1.symm
  rw [← HZ.out.2] at hq hlen hout hsum hoth hbds
  have HQ := Lib.hid (And.intro hs (And.intro hq (And.intro hk (And.intro hlen (And.intro hout (And.intro hsum (And.intro hoth hbds)))))))
  have hl1 := H3.out.1.2.2.1.lens
  have hl2 := H3.out.2.2.lens
  have hk' : k < n' := by omega
  have hki : (k : Int) < (n' : Int) := by omega
  have hn2 : n2 = n' + 1 := by omega
  have h64 : n2 ≤ 64 := by have := (listed_bd hq.1).2.1; omega
  have HN := Lib.hid (And.intro hk' (And.intro hn2 h64))
  obtain ⟨ad, rfl⟩ := H3.out.1.2.2.1.parcs.some_ (show 0 < n' by omega)
  obtain ⟨had, -, ⟨Ak, nk, ck, pk, rk, -, -⟩, -⟩ := H3.out.1.2.2.1.parcs.at_ hk'
  obtain ⟨a1, a2, -⟩ := area_facts H3.out.1.2.2.1 hs hk
  obtain ⟨za, hza⟩ : ∃ z, z = areaZ (pcAt p.parcels k).ring := ⟨_, rfl⟩
  rw [← hza] at a1 a2
  have HA := Lib.hid (And.intro hza a2)
  unfold i128 at a1
  have kR := fun V (hV : Below W.heap.size W V) => a1 Ak nk ck V (rk.on hV)
  have kA := fun V (hV : Below W.heap.size W V) => atR_any p id A (some ad) n c n' c' V (H3.out.1.on hV).2.2.1
  rw [hat] at kA
  obtain ⟨ua, hua⟩ : ∃ u, u = za / 18446744073709551616 := ⟨_, rfl⟩
  obtain ⟨va, hva⟩ : ∃ u, u = za % 18446744073709551616 := ⟨_, rfl⟩
  rw [← hua, ← hva] at kR
  have HUA := Lib.hid (And.intro hua hva)
  obtain ⟨q1, q2, q3⟩ := H3.out.1.2.1.facts
  have hP0 : W.drew.cell? ⟨w.heap.size, 0, none⟩ = some (.slice A n c) ∧ W.drew.cell? ⟨w.heap.size, 1, none⟩ = some (.slice (some ad) n' c') ∧ W.drew.cell? ⟨(ad.add (k * 3)).block, (ad.add (k * 3)).off + 1, none⟩ = some (.slice Ak nk ck) ∧ W.heap.size ≤ W.drew.heap.size := ⟨q1, q2, pk, Nat.le_refl _⟩
  have hh : (⟨w.heap.size, 0, none⟩ : Addr).block < W.heap.size ∧ (⟨w.heap.size, 1, none⟩ : Addr).block < W.heap.size ∧ (⟨(ad.add (k * 3)).block, (ad.add (k * 3)).off + 1, none⟩ : Addr).block < W.heap.size := by simp only [block_of_add]; exact ⟨q3, q3, had⟩
  have hbd : Below W.heap.size W W.drew := (Below.refl _ _).drew
  have hbz : Below W.heap.size W (World.drew (W.alloc (.cells #[.int .i64 0, .int .u64 0] 36))) := ((Below.refl _ _).alloc (Nat.le_refl _) _).drew
  clear hs hq hk hat hlen hout hsum hoth hbds hl1 hl2 hn2 h64 a1 a2 hza hua hva rk pk had q1 q2
  go_upto_region 6 with fail
  go_cut [11] (fun x wx => IBox W wx ua va x)
  case first =>
    refine wp_region_held_drew (S := fun V => V.cell? ⟨w.heap.size, 0, none⟩ = some (.slice A n c) ∧ V.cell? ⟨w.heap.size, 1, none⟩ = some (.slice (some ad) n' c') ∧ V.cell? ⟨(ad.add (k * 3)).block, (ad.add (k * 3)).off + 1, none⟩ = some (.slice Ak nk ck) ∧ W.heap.size ≤ V.heap.size) (by kernel_rfl) ?_ (fun hHeld => ?_)
    · exact hP0
    refine tk 0 ?_
    refine tk 1 ?_
    refine tk 2 ?_
    refine tk 3 ?_
    refine wpAnyH_ready (rs := [4, 12]) (by kernel_rfl) (by simp) ?_
    refine AllReadyH.cons rfl (fun K hK => ?_) (AllReadyH.cons rfl (fun K hK => ?_) AllReadyH.nil)
    · go_simp
      go_at_call 21
      (with_reducible refine (kA _ hbd).mono ?_)
      rintro e w5 ⟨rfl, hb5⟩
      have hbU := hbd.trans hb5
      try dsimp only
      refine hK.out _ _ ?_ (fun hHeld => ?_)
      · exact hldY3 hh hP0 hb5
      clear hK K
      try simp only [Act.put, List.setIfInBounds_toArray, List.set_cons_zero, List.set_cons_succ]
      refine tk 5 ?_
      refine tk 6 ?_
      refine tk 7 ?_
      refine wpAnyH_ready (rs := [8, 12]) (by kernel_rfl) (by simp) ?_
      refine AllReadyH.cons rfl (fun K hK => ?_) (AllReadyH.cons rfl (fun K hK => ?_) AllReadyH.nil)
      · go_simp
        go_at_call 20
        (with_reducible refine (kR _ hbU).mono ?_)
        rintro e w6 ⟨rfl, hb6⟩
        have hbV := below_on hbU (Nat.le_refl _) hb6
        try dsimp only
        refine hK.out _ _ ?_ (fun hHeld => ?_)
        · exact hldY3 hh hHeld hb6
        clear hK K
        try simp only [Act.put, List.setIfInBounds_toArray, List.set_cons_zero, List.set_cons_succ]
        refine tk 9 ?_
        refine tk 10 ?_
        refine tk 11 ?_
        have hH6 := hHeld
        refine wpAnyH_ready (rs := [12]) (by kernel_rfl) (by simp) ?_
        refine AllReadyH.cons rfl (fun K hK => ?_) AllReadyH.nil
        go_simp
        refine hK.out _ _ ?_ (fun hHeld => ?_)
        · exact hldY3 hh hHeld ((Below.refl _ _).alloc (Nat.le_refl _) _)
        clear hK K
        try simp only [Act.put, List.setIfInBounds_toArray, List.set_cons_zero, List.set_cons_succ]
        refine wpAnyH_ready (rs := [13]) (by kernel_rfl) (by simp) ?_
        refine AllReadyH.cons rfl (fun K hK => ?_) AllReadyH.nil
        go_simp
        refine hK.out _ _ ?_ (fun hHeld => ?_)
        · exact hldY3 hh hH6 ((Below.refl _ _).alloc (Nat.le_refl _) _)
        clear hK K
        try simp only [Act.put, List.setIfInBounds_toArray, List.set_cons_zero, List.set_cons_succ]
        refine tk 14 ?_
        refine wpAnyH_done (by kernel_rfl) ?_ _
        go_wp2_with fail
        go_meet
        exact ibox_1 hbV
      · go_simp
        refine hK.out _ _ ?_ (fun hHeld => ?_)
        · exact hldY3 hh hHeld ((Below.refl _ _).alloc (Nat.le_refl _) _)
        clear hK K
        try simp only [Act.put, List.setIfInBounds_toArray, List.set_cons_zero, List.set_cons_succ]
        refine wpAnyH_ready (rs := [8]) (by kernel_rfl) (by simp) ?_
        refine AllReadyH.cons rfl (fun K hK => ?_) AllReadyH.nil
        go_simp
        go_at_call 20
        (with_reducible refine (kR _ (hbU.alloc hbU.size _)).mono ?_)
        rintro e w6 ⟨rfl, hb6⟩
        have hk6 := (BW.new w5 0 0).on hb6
        obtain ⟨y1, y2, f1, f2⟩ := hk6.facts4
        have hbV := below_on (hbU.alloc hbU.size _) (Nat.le_refl _) hb6
        have hsz := hbU.size
        try dsimp only
        refine hK.out _ _ ?_ (fun hHeld => ?_)
        · exact hldY3 hh hHeld hb6
        clear hK K
        try simp only [Act.put, List.setIfInBounds_toArray, List.set_cons_zero, List.set_cons_succ]
        refine tk 9 ?_
        refine tk 10 ?_
        refine tk 11 ?_
        refine wpAnyH_ready (rs := [13]) (by kernel_rfl) (by simp) ?_
        refine AllReadyH.cons rfl (fun K hK => ?_) AllReadyH.nil
        have hs7 := hHeld
        have hq3 := q3
        go_simp
        refine hK.out _ _ ?_ (fun hHeld => ?_)
        · exact hldY3c ⟨fun e => by have := congrArg Addr.block e; simp only at this; omega, fun e => by have := congrArg Addr.block e; simp only at this; omega, fun e => by have := congrArg Addr.block e; simp only at this; have h3 : (ad.add (k * 3)).block < W.heap.size := hh.2.2; omega⟩ (hldY3c ⟨fun e => by have := congrArg Addr.block e; simp only at this; omega, fun e => by have := congrArg Addr.block e; simp only at this; omega, fun e => by have := congrArg Addr.block e; simp only at this; have h3 : (ad.add (k * 3)).block < W.heap.size := hh.2.2; omega⟩ hs7)
        clear hK K
        try simp only [Act.put, List.setIfInBounds_toArray, List.set_cons_zero, List.set_cons_succ]
        refine tk 14 ?_
        refine wpAnyH_done (by kernel_rfl) ?_ _
        go_wp2_with fail
        go_meet
        exact ibox_2 hbV hbU.size hk6
    · go_simp
      refine hK.out _ _ ?_ (fun hHeld => ?_)
      · exact hldY3 hh hP0 (show Below W.drew.heap.size W.drew (World.drew _) from (Below.refl W.drew.heap.size W.drew).alloc (Nat.le_refl _) _)
      clear hK K
      try simp only [Act.put, List.setIfInBounds_toArray, List.set_cons_zero, List.set_cons_succ]
      refine wpAnyH_ready (rs := [4]) (by kernel_rfl) (by simp) ?_
      refine AllReadyH.cons rfl (fun K hK => ?_) AllReadyH.nil
      go_simp
      go_at_call 21
      (with_reducible refine (kA _ hbz).mono ?_)
      rintro e w5 ⟨rfl, hb5⟩
      have hk5 : BW w5 W.heap.size 0 0 := Blk.below (Blk.drew (BW.new W 0 0)) hb5 (by simp)
      have hbU := below_on hbz (Nat.le_refl _) hb5
      try dsimp only
      refine hK.out _ _ ?_ (fun hHeld => ?_)
      · exact hldY3 hh hHeld hb5
      clear hK K
      try simp only [Act.put, List.setIfInBounds_toArray, List.set_cons_zero, List.set_cons_succ]
      refine tk 5 ?_
      refine tk 6 ?_
      refine tk 7 ?_
      refine wpAnyH_ready (rs := [8]) (by kernel_rfl) (by simp) ?_
      refine AllReadyH.cons rfl (fun K hK => ?_) AllReadyH.nil
      go_simp
      go_at_call 20
      (with_reducible refine (kR _ hbU).mono ?_)
      rintro e w6 ⟨rfl, hb6⟩
      have hk6 := hk5.on hb6
      obtain ⟨y1, y2, f1, f2⟩ := hk6.facts4
      have hbV := below_on hbU (Nat.le_refl _) hb6
      try dsimp only
      refine hK.out _ _ ?_ (fun hHeld => ?_)
      · exact hldY3 hh hHeld hb6
      clear hK K
      try simp only [Act.put, List.setIfInBounds_toArray, List.set_cons_zero, List.set_cons_succ]
      refine tk 9 ?_
      refine tk 10 ?_
      refine tk 11 ?_
      refine wpAnyH_ready (rs := [13]) (by kernel_rfl) (by simp) ?_
      refine AllReadyH.cons rfl (fun K hK => ?_) AllReadyH.nil
      have hs7 := hHeld
      have hq3 := q3
      go_simp
      refine hK.out _ _ ?_ (fun hHeld => ?_)
      · exact hldY3c ⟨fun e => by have := congrArg Addr.block e; simp only at this; omega, fun e => by have := congrArg Addr.block e; simp only at this; omega, fun e => by have := congrArg Addr.block e; simp only at this; have h3 : (ad.add (k * 3)).block < W.heap.size := hh.2.2; omega⟩ (hldY3c ⟨fun e => by have := congrArg Addr.block e; simp only at this; omega, fun e => by have := congrArg Addr.block e; simp only at this; omega, fun e => by have := congrArg Addr.block e; simp only at this; have h3 : (ad.add (k * 3)).block < W.heap.size := hh.2.2; omega⟩ hs7)
      clear hK K
      try simp only [Act.put, List.setIfInBounds_toArray, List.set_cons_zero, List.set_cons_succ]
      refine tk 14 ?_
      refine wpAnyH_done (by kernel_rfl) ?_ _
      go_wp2_with fail
      go_meet
      exact ibox_2 hbV (Nat.le_refl _) hk6
  case rest =>
    obtain ⟨Ga, rfl, hGa, hbc⟩ := hcut
    obtain ⟨X, rfl⟩ : ∃ X, X = wc := ⟨_, rfl⟩
    have H4 := Lib.hid (And.intro (H3.out.1.on hbc) (And.intro (And.intro (H3.out.2.1.on hbc) (H3.out.2.2.on hbc)) hGa))
    have HADB : Hid (∀ V : World, PlanAt V V.heap.size A n c (some ad) n' c' p → ∀ {k}, k < n' → ad.block < V.heap.size) := fun V h k hk => (h.parcs.at_ hk).1
    have HF0 := Lib.hid (show CaF p path A n c (some ad) n' c' B m w Q Bq A1 n1 c1 A2 n2 c2 Ga ua va X from H4.out)
    clear hbc hGa H3 hP0 hh hbd hbz kA kR q3 hki H4
    obtain ⟨Y, hY⟩ : ∃ Y, Y = X.alloc (.cells #[.int .i64 0, .int .u64 0] 36) := ⟨_, rfl⟩
    have hba : Below X.heap.size X Y := by rw [hY]; exact (Below.refl _ _).alloc (Nat.le_refl _) _
    have hS0 : BW Y X.heap.size 0 0 := by rw [hY]; exact BW.new X 0 0
    obtain ⟨Gs, hGs⟩ : ∃ g, g = X.heap.size := ⟨_, rfl⟩
    rw [← hGs] at hS0
    have H1 := Lib.hid (And.intro hba hS0)
    have HGS : Hid (X.heap.size ≤ Gs) := Nat.le_of_eq hGs.symm
    clear hba hS0
    go_upto_region 8 with fail
    rw [← hY, ← hGs]
    clear hY hGs
    go_wp2_with fail
    go_loopw [14] (fun i wr => ∃ j : Nat, j ≤ n2 ∧ i = .int .i64 (j : Int) ∧ Hid (Below X.heap.size X wr ∧ BW wr Gs (sumI id fresh (Q.parcels.take j) / 18446744073709551616) (sumI id fresh (Q.parcels.take j) % 18446744073709551616))) (fun i _ => n2 - (intOf i).toNat)
    case atStart => exact ⟨0, Nat.zero_le _, rfl, H1.out⟩
    case round =>
      clear H1
      obtain ⟨j, hj, rfl, HW⟩ := hrel
      obtain ⟨W, rfl⟩ : ∃ W, W = wr := ⟨_, rfl⟩
      have HF := Lib.hid (HF0.out.on HW.out.1)
      obtain ⟨q1, q2, q3⟩ := HF.out.1.2.1.facts
      obtain ⟨x1, x2, x3⟩ := HF.out.2.1.1.facts
      by_cases hlt : j < n2
      · have hji : (j : Int) < (n2 : Int) := by omega
        have hw1 : IntKind.i64.wrap ((j : Int) + 1) = (j : Int) + 1 := by rw [IntKind.wrap_i64]; have := HN.out.2.2; omega
        have hjl : j < Q.parcels.length := by have := HF.out.2.1.2.lens.2.1; omega
        obtain ⟨a4, hA2⟩ := HF.out.2.1.2.parcs.some_ (by omega)
        subst hA2
        obtain ⟨ha4, s1, ⟨Aj, nj, cj, s2, rj, -, -⟩, s3⟩ := HF.out.2.1.2.parcs.at_ hlt
        obtain ⟨b1, b2, -⟩ := area_facts HF.out.2.1.2 HQ.out.2.1 hjl
        obtain ⟨x, hx⟩ : ∃ x, x = pcAt Q.parcels j := ⟨_, rfl⟩
        obtain ⟨zb, hzb⟩ : ∃ z, z = areaZ (pcAt Q.parcels j).ring := ⟨_, rfl⟩
        rw [← hzb] at b1 b2
        rw [← hx] at s1 s3
        unfold i128 at b1
        obtain ⟨ub, hub⟩ : ∃ u, u = zb / 18446744073709551616 := ⟨_, rfl⟩
        obtain ⟨vb, hvb⟩ : ∃ u, u = zb % 18446744073709551616 := ⟨_, rfl⟩
        rw [← hub, ← hvb] at b1
        have hbS := HQ.out.2.2.2.2.2.2.2 j (by omega)
        have hsn : sumI id fresh (Q.parcels.take (j + 1)) = sumI id fresh (Q.parcels.take j) + (if x.id = id ∨ x.id = fresh then zb else 0) := by
          rw [List.take_succ_eq_append_getElem hjl, sumI_snoc, hx, hzb, pcAt_lt hjl]
        obtain ⟨S, hS⟩ : ∃ S, S = sumI id fresh (Q.parcels.take j) := ⟨_, rfl⟩
        rw [← hS] at hsn hbS
        have hbw := HW.out.2
        rw [← hS] at hbw
        obtain ⟨uS, huS⟩ : ∃ u, u = S / 18446744073709551616 := ⟨_, rfl⟩
        obtain ⟨vS, hvS⟩ : ∃ u, u = S % 18446744073709551616 := ⟨_, rfl⟩
        rw [← huS, ← hvS] at hbw
        have HB := Lib.hid (And.intro hub (And.intro hvb (And.intro huS (And.intro hvS (And.intro hsn (And.intro hbS b2))))))
        have HXJ := Lib.hid (And.intro hx (And.intro hzb hjl))
        have kB := fun V (hV : Below W.heap.size W V) => b1 Aj nj cj V (rj.on hV)
        obtain ⟨V1, hV1⟩ : ∃ V, V = W.alloc (.cells #[.int .i64 x.id, .slice Aj nj cj, .string x.owner] 40) := ⟨_, rfl⟩
        have hba : Below W.heap.size W V1 := by rw [hV1]; exact (Below.refl _ _).alloc (Nat.le_refl _) _
        have hk : PcK V1 W.heap.size x Aj nj cj := by rw [hV1]; exact PcK.new W x Aj nj cj
        obtain ⟨Go, hGo⟩ : ∃ g, g = W.heap.size := ⟨_, rfl⟩
        rw [← hGo] at hk
        have KB := Lib.hid (kB V1 hba)
        have H2 := Lib.hid (And.intro (HF.out.on hba) (And.intro (below_on HW.out.1 (Nat.le_refl _) hba) (And.intro (hbw.on hba) hk)))
        clear hub hvb huS hvS hsn hbS b2 hx hzb kB b1 hba hk hbw hS rj ha4 HF HW
        go_upto_region 12 with fail
        rw [← hV1, ← hGo]
        clear hV1 hGo q1 q2 q3 x1 x2 x3 s1 s2 s3
        obtain ⟨y0, y1, y2, y3⟩ := H2.out.2.2.2.facts
        go_wp2_with fail
        refine KB.out.mono ?_
        rintro e w8 ⟨rfl, hb8⟩
        obtain ⟨V2, hV2⟩ : ∃ V, V = w8.alloc (.cells #[.int .i64 ub, .int .u64 vb] 36) := ⟨_, rfl⟩
        have hba : Below w8.heap.size w8 V2 := by rw [hV2]; exact (Below.refl _ _).alloc (Nat.le_refl _) _
        have hkb : BW V2 w8.heap.size ub vb := by rw [hV2]; exact BW.new w8 ub vb
        obtain ⟨Gb, hGb⟩ : ∃ g, g = w8.heap.size := ⟨_, rfl⟩
        rw [← hGb] at hkb
        have hb8' := below_on hb8 (Nat.le_refl _) hba
        have H3 := Lib.hid (And.intro (H2.out.1.on hb8') (And.intro (below_on H2.out.2.1 (Nat.le_refl _) hb8') (And.intro (H2.out.2.2.1.on hb8') (And.intro (H2.out.2.2.2.on hb8') hkb))))
        clear hb8 hba hb8' hkb KB H2 y0 y1 y2 y3
        go_upto_region 13 with fail
        rw [← hV2, ← hGb]
        clear hV2 hGb
        obtain ⟨y0, y1, y2, y3⟩ := H3.out.2.2.2.1.facts
        by_cases hxi : x.id = id
        · have hsn := HB.out.2.2.2.2.1
          rw [if_pos (.inl hxi)] at hsn
          obtain ⟨S1, hS1⟩ : ∃ S, S = sumI id fresh (Q.parcels.take (j + 1)) := ⟨_, rfl⟩
          rw [← hS1] at hsn
          have kP := addR_any S zb V2 (by have := HB.out.2.2.2.2.2.1; have := HA.out; unfold small; omega) (by have := HB.out.2.2.2.2.2.2; unfold small; omega) (by have := HB.out.2.2.2.2.2; have := HA.out; unfold small; omega)
          unfold i128 at kP
          rw [← HB.out.1, ← HB.out.2.1, ← HB.out.2.2.1, ← HB.out.2.2.2.1, ← hsn] at kP
          obtain ⟨u1, hu1⟩ : ∃ u, u = S1 / 18446744073709551616 := ⟨_, rfl⟩
          obtain ⟨v1, hv1⟩ : ∃ u, u = S1 % 18446744073709551616 := ⟨_, rfl⟩
          rw [← hu1, ← hv1] at kP
          have KP := Lib.hid kP
          have HSN := Lib.hid (And.intro hS1 (And.intro hu1 hv1))
          clear kP hsn hS1 hu1 hv1
          obtain ⟨g1, g2⟩ := H3.out.2.2.1.facts
          obtain ⟨g3, g4⟩ := H3.out.2.2.2.2.facts
          go_wp2_with fail
          refine KP.out.mono ?_
          rintro e w9 ⟨rfl, hb9⟩
          clear g1 g2 g3 g4 y0 y1 y2 y3
          have hS9 := H3.out.2.2.1.on hb9
          obtain ⟨c1, c2, f1, f2⟩ := hS9.facts4
          have hB9 := below_on H3.out.2.1 (Nat.le_refl _) hb9
          have hk2 := Blk.set_ (Blk.set_ hS9 0 (.int .i64 u1)) 1 (.int .u64 v1)
          simp only [List.setIfInBounds_toArray, List.set_cons_zero, List.set_cons_succ] at hk2
          have hB10 := (hB9.setCell (p := ⟨Gs, 0, none⟩) HGS.out (.int .i64 u1)).setCell (p := ⟨Gs, 1, none⟩) HGS.out (.int .u64 v1)
          have HZZ := Lib.hid (And.intro hB10 hk2)
          clear hB10 hk2 hB9 hS9 hb9 KP H3
          go_wp2_with fail
          go_roundw
          case rel => exact ⟨j + 1, by omega, by go_num, HZZ.out.1, by rw [← HSN.out.1, ← HSN.out.2.1, ← HSN.out.2.2]; exact HZZ.out.2⟩
          case measure => simp [intOf]; omega
        by_cases hxf : x.id = fresh
        · have hsn := HB.out.2.2.2.2.1
          rw [if_pos (.inr hxf)] at hsn
          obtain ⟨S1, hS1⟩ : ∃ S, S = sumI id fresh (Q.parcels.take (j + 1)) := ⟨_, rfl⟩
          rw [← hS1] at hsn
          have kP := addR_any S zb V2 (by have := HB.out.2.2.2.2.2.1; have := HA.out; unfold small; omega) (by have := HB.out.2.2.2.2.2.2; unfold small; omega) (by have := HB.out.2.2.2.2.2; have := HA.out; unfold small; omega)
          unfold i128 at kP
          rw [← HB.out.1, ← HB.out.2.1, ← HB.out.2.2.1, ← HB.out.2.2.2.1, ← hsn] at kP
          obtain ⟨u1, hu1⟩ : ∃ u, u = S1 / 18446744073709551616 := ⟨_, rfl⟩
          obtain ⟨v1, hv1⟩ : ∃ u, u = S1 % 18446744073709551616 := ⟨_, rfl⟩
          rw [← hu1, ← hv1] at kP
          have KP := Lib.hid kP
          have HSN := Lib.hid (And.intro hS1 (And.intro hu1 hv1))
          clear kP hsn hS1 hu1 hv1
          obtain ⟨g1, g2⟩ := H3.out.2.2.1.facts
          obtain ⟨g3, g4⟩ := H3.out.2.2.2.2.facts
          go_wp2_with fail
          refine KP.out.mono ?_
          rintro e w9 ⟨rfl, hb9⟩
          clear g1 g2 g3 g4 y0 y1 y2 y3
          have hS9 := H3.out.2.2.1.on hb9
          obtain ⟨c1, c2, f1, f2⟩ := hS9.facts4
          have hB9 := below_on H3.out.2.1 (Nat.le_refl _) hb9
          have hk2 := Blk.set_ (Blk.set_ hS9 0 (.int .i64 u1)) 1 (.int .u64 v1)
          simp only [List.setIfInBounds_toArray, List.set_cons_zero, List.set_cons_succ] at hk2
          have hB10 := (hB9.setCell (p := ⟨Gs, 0, none⟩) HGS.out (.int .i64 u1)).setCell (p := ⟨Gs, 1, none⟩) HGS.out (.int .u64 v1)
          have HZZ := Lib.hid (And.intro hB10 hk2)
          clear hB10 hk2 hB9 hS9 hb9 KP H3
          go_wp2_with fail
          go_roundw
          case rel => exact ⟨j + 1, by omega, by go_num, HZZ.out.1, by rw [← HSN.out.1, ← HSN.out.2.1, ← HSN.out.2.2]; exact HZZ.out.2⟩
          case measure => simp [intOf]; omega
        · have hcd : ¬ ((x.id == id) = true ∨ (x.id == fresh) = true) := by simp [hxi, hxf]
          have hsn := HB.out.2.2.2.2.1
          rw [if_neg (fun h => h.elim hxi hxf), Int.add_zero] at hsn
          have HSN := Lib.hid hsn
          obtain ⟨j2, hj2, haj, how, har⟩ := HQ.out.2.2.2.2.2.2.1 x (by rw [HXJ.out.1, pcAt_lt HXJ.out.2.2]; exact List.getElem_mem _) hxi hxf
          have kA := atR_any p x.id A (some ad) n c n' c' V2 H3.out.1.1.2.2.1
          rw [haj] at kA
          have KA := Lib.hid kA
          have hj2n : j2 < n' := by have := H3.out.1.1.2.2.1.lens.2.1; omega
          have hj2i : (j2 : Int) < (n' : Int) := by omega
          have harz : areaZ (pcAt p.parcels j2).ring = zb := by rw [har, HXJ.out.1, HXJ.out.2.1]
          have HJ2 := Lib.hid (And.intro hj2 (And.intro how harz))
          have HXN := Lib.hid (And.intro hxi hxf)
          clear hsn hj2 haj how har harz kA hxi hxf
          obtain ⟨q1, q2, q3⟩ := H3.out.1.1.2.1.facts
          go_wp2_with fail
          all_goals try exact absurd (show x.id = id by assumption) HXN.out.1
          all_goals try exact absurd (show x.id = fresh by assumption) HXN.out.2
          refine KA.out.mono ?_
          rintro e w9 ⟨rfl, hb9⟩
          have H4 := Lib.hid (And.intro (H3.out.1.on hb9) (And.intro (below_on H3.out.2.1 (Nat.le_refl _) hb9) (And.intro (H3.out.2.2.1.on hb9) (And.intro (H3.out.2.2.2.1.on hb9) (H3.out.2.2.2.2.on hb9)))))
          clear hb9 KA H3 q1 q2 q3 y0 y1 y2 y3
          obtain ⟨Z, hZ⟩ : ∃ Z, Z = w9 := ⟨_, rfl⟩
          rw [← hZ] at H4
          go_upto_region 16 with fail
          rw [← hZ]
          clear hZ w9
          obtain ⟨q1, q2, q3⟩ := H4.out.1.1.2.1.facts
          obtain ⟨y0, y1, y2, y3⟩ := H4.out.2.2.2.1.facts
          obtain ⟨-, -, ⟨Ap, np, cp, s2, rp, -, -⟩, s3⟩ := H4.out.1.1.2.2.1.parcs.at_ hj2n
          rw [HJ2.out.2.1] at s3
          obtain ⟨b1, -, -⟩ := area_facts H4.out.1.1.2.2.1 HQ.out.1 HJ2.out.1
          rw [HJ2.out.2.2] at b1
          unfold i128 at b1
          rw [← HB.out.1, ← HB.out.2.1] at b1
          have KB := Lib.hid (fun V (hV : Below Z.heap.size Z V) => b1 Ap np cp V (rp.on hV))
          have hj20 : ¬ (j2 : Int) < 0 := by omega
          obtain ⟨ow, how⟩ : ∃ o, o = x.owner := ⟨_, rfl⟩
          rw [← how] at s3 y2
          clear b1 rp how
          go_quiet (fail)
          have hbq : Below Z.heap.size Z (Z.drewN nq) := below_drewN (Below.refl _ _) _
          obtain ⟨Z1, hZ1⟩ : ∃ V, V = Z.drewN nq := ⟨_, rfl⟩
          rw [← hZ1] at hbq
          have KB1 := Lib.hid (KB.out Z1 hbq)
          have H5 := Lib.hid (And.intro (H4.out.1.on hbq) (And.intro (below_on H4.out.2.1 (Nat.le_refl _) hbq) (And.intro (H4.out.2.2.1.on hbq) (H4.out.2.2.2.2.on hbq))))
          replace s2 := (hbq.cell (p := ⟨(ad.add (j2 * 3)).block, (ad.add (j2 * 3)).off + 1, none⟩) (by simp only [block_of_add]; exact HADB.out _ H4.out.1.1.2.2.1 hj2n)).trans s2
          rw [← hZ1]
          clear hZ1 hbq KB H4 q1 q2 q3 y0 y1 y2 y3 s3
          obtain ⟨q1, q2, q3⟩ := H5.out.1.1.2.1.facts
          go_wp2_with fail
          refine KB1.out.mono ?_
          rintro e w10 ⟨rfl, hb10⟩
          obtain ⟨V3, hV3⟩ : ∃ V, V = w10.alloc (.cells #[.int .i64 ub, .int .u64 vb] 36) := ⟨_, rfl⟩
          have hba : Below w10.heap.size w10 V3 := by rw [hV3]; exact (Below.refl _ _).alloc (Nat.le_refl _) _
          have hkb : BW V3 w10.heap.size ub vb := by rw [hV3]; exact BW.new w10 ub vb
          obtain ⟨Gd, hGd⟩ : ∃ g, g = w10.heap.size := ⟨_, rfl⟩
          rw [← hGd] at hkb
          have hb11 := below_on hb10 (Nat.le_refl _) hba
          obtain ⟨g1, g2⟩ := (H5.out.2.2.2.on hb11).facts
          obtain ⟨g3, g4⟩ := hkb.facts
          have HZZ := Lib.hid (And.intro (below_on H5.out.2.1 (Nat.le_refl _) hb11) (H5.out.2.2.1.on hb11))
          clear hb10 hba hb11 hkb KB1 H5 q1 q2 q3 s2
          go_upto_region 19 with fail
          rw [← hV3, ← hGd]
          clear hV3 hGd
          go_wp2_with fail
          go_roundw
          case rel => exact ⟨j + 1, by omega, by go_num, HZZ.out.1, by rw [HSN.out, ← HB.out.2.2.1, ← HB.out.2.2.2.1]; exact HZZ.out.2⟩
          case measure => simp [intOf]; omega
      · obtain rfl : j = n2 := by omega
        have hjj : ¬ (j : Int) < (j : Int) := by omega
        have hbw := HW.out.2
        have hlq := HF.out.2.1.2.lens.2.1
        rw [List.take_of_length_le (by omega), HQ.out.2.2.2.2.2.1, ← HA.out.1, ← HUA.out.1, ← HUA.out.2] at hbw
        have H2 := Lib.hid (And.intro HF.out (And.intro (HF.out.1.1) hbw))
        obtain ⟨o1, o2⟩ := area_outer HF.out.1.2.2.1 HQ.out.1
        obtain ⟨o3, o4⟩ := area_outer HF.out.2.1.2 HQ.out.2.1
        obtain ⟨zo, hzo⟩ : ∃ z, z = areaZ p.outer := ⟨_, rfl⟩
        rw [HQ.out.2.2.2.2.1, ← hzo] at o3
        rw [← hzo] at o1
        unfold i128 at o1 o3
        obtain ⟨uo, huo⟩ : ∃ u, u = zo / 18446744073709551616 := ⟨_, rfl⟩
        obtain ⟨vo, hvo⟩ : ∃ u, u = zo % 18446744073709551616 := ⟨_, rfl⟩
        rw [← huo, ← hvo] at o1 o3
        have KO1 := Lib.hid (o1 W (H2.out.1.1.2.2.1.outer))
        have KO3 := Lib.hid o3
        clear hbw hlq o1 o2 o3 o4 hzo huo hvo HF HW
        go_wp2_with fail
        refine KO1.out.mono ?_
        rintro e w8 ⟨rfl, hb8⟩
        obtain ⟨V2, hV2⟩ : ∃ V, V = w8.alloc (.cells #[.int .i64 uo, .int .u64 vo] 36) := ⟨_, rfl⟩
        have hba : Below w8.heap.size w8 V2 := by rw [hV2]; exact (Below.refl _ _).alloc (Nat.le_refl _) _
        have hkb : BW V2 w8.heap.size uo vo := by rw [hV2]; exact BW.new w8 uo vo
        obtain ⟨Gc, hGc⟩ : ∃ g, g = w8.heap.size := ⟨_, rfl⟩
        rw [← hGc] at hkb
        have hb8' := below_on hb8 (Nat.le_refl _) hba
        have H3 := Lib.hid (And.intro (H2.out.1.on hb8') (And.intro (H2.out.2.2.on hb8') hkb))
        have KO2 := Lib.hid (KO3.out V2 H3.out.1.2.1.2.outer)
        clear hb8 hba hb8' hkb KO1 KO3 H2 q1 q2 q3 x1 x2 x3
        go_upto_region 22 with fail
        rw [← hV2, ← hGc]
        clear hV2 hGc
        obtain ⟨x1, x2, x3⟩ := H3.out.1.2.1.1.facts
        go_wp2_with fail
        refine KO2.out.mono ?_
        rintro e w9 ⟨rfl, hb9⟩
        obtain ⟨V3, hV3⟩ : ∃ V, V = w9.alloc (.cells #[.int .i64 uo, .int .u64 vo] 36) := ⟨_, rfl⟩
        have hba : Below w9.heap.size w9 V3 := by rw [hV3]; exact (Below.refl _ _).alloc (Nat.le_refl _) _
        have hkb : BW V3 w9.heap.size uo vo := by rw [hV3]; exact BW.new w9 uo vo
        obtain ⟨Gd, hGd⟩ : ∃ g, g = w9.heap.size := ⟨_, rfl⟩
        rw [← hGd] at hkb
        have hb9' := below_on hb9 (Nat.le_refl _) hba
        have H4 := Lib.hid (And.intro (H3.out.1.on hb9') (And.intro (H3.out.2.1.on hb9') (And.intro (H3.out.2.2.on hb9') hkb)))
        have kC := checkPR_any Q A1 A2 n1 c1 j c2 V3 H4.out.1.2.1.2
        rw [planB_yes HQ.out.2.1] at kC
        have KC := Lib.hid kC
        clear hb9 hba hb9' hkb kC KO2 H3 x1 x2 x3
        go_upto_region 23 with fail
        rw [← hV3, ← hGd]
        clear hV3 hGd
        obtain ⟨x1, x2, x3⟩ := H4.out.1.2.1.1.facts
        go_wp2_with fail
        refine KC.out.mono ?_
        rintro e w10 ⟨rfl, hb10⟩
        have hF := H4.out.1.on hb10
        obtain ⟨q1, q2, -⟩ := hF.1.2.1.facts
        clear x1 x2 x3
        obtain ⟨x1, x2, -⟩ := hF.2.1.1.facts
        obtain ⟨g1, g2⟩ := hF.2.2.facts
        obtain ⟨g3, g4⟩ := (H4.out.2.1.on hb10).facts
        obtain ⟨g5, g6⟩ := (H4.out.2.2.1.on hb10).facts
        obtain ⟨g7, g8⟩ := (H4.out.2.2.2.on hb10).facts
        have HBB := Lib.hid hF.1.1
        have hwn : IntKind.i64.wrap ((n' : Int) + 1) = (j : Int) := by rw [IntKind.wrap_i64]; have := HN.out.2; omega
        clear hF hb10 KC H4
        go_wp2_with fail
        go_ret
        exact ⟨by first | rfl | simp, HBB.out⟩
end Go.Proofs.YtmegmokjjlelgaaGreat

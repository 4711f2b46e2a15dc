/- ref05.with, ref05.Insert at any fine rings: the walks; A path that is walked the other way: corners put in in either order, the same parts: plain law; A plan of the call's own whose parcels lie in a new row, in another order. -/
import Derived.Test.YtnpjggcgnbgkjaaGreatK20
import Derived.Test.YtnpjggcgnbgkjaaGreatK30
import Derived.Test.YtnpjggcgnbgkjaaGreatK31
import Derived.Test.YtnpjggcgnbgkjaaGreatK32
import Derived.Test.YtnpjggcgnbgkjaaGreatK33
namespace Go.Proofs.YtnpjggcgnbgkjaaGreat
open Go.RowKit Go.Lib
set_option maxRecDepth 100000 in
set_option maxHeartbeats 1600000 in
theorem withO_any (xs : List Pt) (q : Pt) (A : Option Addr) (n cap B : Nat) (w : World) (hown : w.ownsRow B 35 2 (.slice A n cap) n (ptsV xs)) (hB : B ≤ w.heap.size) (hn : n ≤ 1024) (hg : goodL xs = true) (hq : good q = true) (hc : q ∈ xs → insG q xs = xs) :
    Calls Tryz.prog 136 #[.slice A n cap, .agg #[.int .i64 q.x, .int .i64 q.y]] w fun e w' => ∃ A' c', e = .returned (.slice A' (insG q xs).length c') ∧ w'.ownsRow B 35 2 (.slice A' (insG q xs).length c') (insG q xs).length (ptsV (insG q xs)) ∧ Below w.heap.size w w' := by
  have hr := Reads.of_own hown
  by_cases hqx : q ∈ xs
  case neg =>
    refine (with_any xs q A n cap w hr hn hg hq hqx).mono ?_
    rintro e w' ⟨A', c', he, ho, hb⟩
    exact ⟨A', c', he, own_mono ho hB, hb⟩
  rw [hc hqx, hr.lenPt]
  obtain ⟨wa, hwa⟩ : ∃ wa : World, wa = w.alloc (.cells #[.int .i64 q.x, .int .i64 q.y] 35) := ⟨_, rfl⟩
  have hB0 : Below w.heap.size w wa := by rw [hwa]; exact (Below.refl _ _).alloc (Nat.le_refl _) _
  have hP0 : PtK wa w.heap.size q := by rw [hwa]; exact PtK.new w q
  obtain ⟨k, hk, hidx, -, -⟩ := idx_lt hqx
  have kI := inR_any xs q A n cap wa (hr.on hB0) (by omega)
  rw [hidx] at kI
  have KI := Lib.hid kI
  have H0 := Lib.hid (And.intro hB0 hown)
  have hk0 : (0 : Int) ≤ (k : Int) := by omega
  obtain ⟨q1, q2, -, -, -⟩ := hP0.facts
  clear hr hB0 hP0 hown kI hk hidx hqx
  go_enter Tryz.func136, Tryz.ntmps136
  go_upto_region 1 with fail
  rw [← hwa]
  clear hwa
  go_wp2_with fail
  refine KI.out.mono ?_
  rintro e w1 ⟨rfl, hb1⟩
  have HF := Lib.hid (below_on H0.out.1 (Nat.le_refl _) hb1)
  clear hb1 KI q1 q2
  go_wp2_with fail
  go_ret
  exact ⟨A, cap, rfl, own_below H0.out.2 HF.out, HF.out⟩
set_option maxRecDepth 100000 in
set_option maxHeartbeats 3200000 in
theorem refInsertW_any (q : Pt) (p : Plan) (A A' : Option Addr) (n c n' c' : Nat) (w : World) (h : PlanAt w w.heap.size A n c A' n' c' p) (hs0 : ∀ xs, ringOf p xs → goodL xs = true ∧ xs.length ≤ 512 ∧ (q ∈ xs → insG q xs = xs)) (hn : n' ≤ 1048576) (hq : good q = true) :
    Calls Tryz.prog 54 #[planV A n c A' n' c', .agg #[.int .i64 q.x, .int .i64 q.y]] w (OwnPostS (eachP (insG q) p) w) := by
  obtain ⟨wa, hwa⟩ : ∃ wa : World, wa = ((w.alloc (.cells #[.slice A n c, .slice A' n' c'] 26)).alloc (.cells #[.int .i64 q.x, .int .i64 q.y] 35)).alloc (.cells #[.slice none 0 0, .slice none 0 0] 26) := ⟨_, rfl⟩
  have hB0 : Below w.heap.size w wa := by rw [hwa]; exact (((Below.refl _ _).alloc (Nat.le_refl _) _).alloc (by simp) _).alloc (by simp; omega) _
  have hX : PlK wa w.heap.size A n c A' n' c' := by rw [hwa]; exact Blk.alloc (Blk.alloc (PlK.new w A n c A' n' c') _) _
  have hY : PtK wa (w.heap.size + 1) q := by
    have := PtK.new (w.alloc (.cells #[.slice A n c, .slice A' n' c'] 26)) q
    rw [World.size_alloc] at this
    rw [hwa]
    exact Blk.alloc this _
  have hZ : PlK wa (w.heap.size + 1 + 1) none 0 0 none 0 0 := by
    have := PlK.new ((w.alloc (.cells #[.slice A n c, .slice A' n' c'] 26)).alloc (.cells #[.int .i64 q.x, .int .i64 q.y] 35)) none 0 0 none 0 0
    rw [World.size_alloc, World.size_alloc] at this
    rw [hwa]
    exact this
  have HNP := Lib.hid hn
  have KO := Lib.hid (ownPlS_any p A A' n c n' c' wa (h.on hB0) hn)
  have HGF : Hid (∀ xs, ringOf p xs → goodL xs = true ∧ xs.length ≤ 512) := fun xs hx => ⟨(hs0 xs hx).1, (hs0 xs hx).2.1⟩
  have HLF : Hid (∀ k, k ≤ p.parcels.length → (mapTo (insG q) p k).fits) := fun k hk => mapTo_fits h.fits (fun xs hx => ⟨by have := insG_len q xs; have := (hs0 xs hx).2.1; omega, fun r hr => by
    rcases insG_mem hr with h1 | rfl
    · exact good_in2 (goodL_mem (hs0 xs hx).1 h1)
    · exact good_in2 hq⟩) hk
  have HQ := Lib.hid (And.intro hq hs0)
  have H0 := Lib.hid (And.intro hB0 (And.intro hZ hY))
  have HLN := Lib.hid h.lens
  obtain ⟨q1, q2, q3⟩ := hX.facts
  clear hB0 hX hY hZ h hn hs0 hq
  go_enter Tryz.func54, Tryz.ntmps54
  go_upto_region 1 with fail
  rw [← hwa]
  clear hwa
  go_wp2_with fail
  refine KO.out.mono ?_
  rintro e w1 ⟨A1, n1, c1, A2, n2, c2, hs, rfl, hpo, hb1⟩
  have hn2 : p.parcels.length = n2 := hpo.lenp
  have hn1 : p.outer.length = n1 := (Reads.of_own hpo.out).lenPt
  obtain ⟨w2, hw2⟩ : ∃ w2, w2 = w1.alloc (.cells #[.slice A1 n1 c1, .slice A2 n2 c2] 26) := ⟨_, rfl⟩
  have hba : Below w1.heap.size w1 w2 := by rw [hw2]; exact (Below.refl _ _).alloc (Nat.le_refl _) _
  have hQ : PlK w2 w1.heap.size A1 n1 c1 A2 n2 c2 := by rw [hw2]; exact PlK.new w1 A1 n1 c1 A2 n2 c2
  obtain ⟨Bq, hBq⟩ : ∃ Bq, Bq = w1.heap.size := ⟨_, rfl⟩
  rw [← hBq] at hQ
  have hb2 := below_on hb1 (Nat.le_refl _) hba
  have hB2 := below_on H0.out.1 (Nat.le_refl _) hb2
  have hBQ : (w.heap.size + 1 + 1) < Bq := by have := Blk.lt H0.out.2.1; have := hb1.size; omega
  have H2 := Lib.hid (And.intro hB2 (And.intro (H0.out.2.1.on hb2) (And.intro hQ (And.intro ((hpo.below hba).mono H0.out.1.size) (And.intro hBQ (show PtK w2 (w.heap.size + 1) q from Blk.below H0.out.2.2 hb2 (Blk.lt H0.out.2.2)))))))
  have HN := Lib.hid (And.intro hn1 hn2)
  clear hpo hn1 hn2 hba hQ hb1 hb2 hB2 hBQ H0 KO q1 q2 q3
  go_upto_region 2 with fail
  rw [← hw2, ← hBq]
  clear hw2 hBq
  obtain ⟨q1, q2, q3⟩ := H2.out.2.2.1.facts
  obtain ⟨r1, r2, -, -, -⟩ := PtK.facts H2.out.2.2.2.2.2
  have KL := Lib.hid (withO_any p.outer q A1 n1 c1 w.heap.size w2 H2.out.2.2.2.1.out H2.out.1.size (by have := (HGF.out _ (.inl rfl)).2; have := HN.out.1; omega) (HGF.out _ (.inl rfl)).1 HQ.out.1 (HQ.out.2 _ (.inl rfl)).2.2)
  obtain ⟨m, hm⟩ : ∃ m, m = (insG q p.outer).length := ⟨_, rfl⟩
  rw [← hm] at KL
  have HM := Lib.hid hm
  clear hm
  go_wp2_with fail
  refine KL.out.mono ?_
  rintro e w3 ⟨A3, c3, rfl, ho3, hb3⟩
  have hQ3 := H2.out.2.2.1.on hb3
  obtain ⟨s1, s2, f1, f2⟩ := plk_facts4 hQ3
  have hQ4 := Blk.set_ hQ3 0 (.slice A3 m c3)
  simp only [List.setIfInBounds_toArray, List.set_cons_zero] at hQ4
  have hpo4 : PlanOwn w.heap.size (w3.setCell ⟨Bq, 0, none⟩ (.slice A3 m c3)) A3 m c3 A2 n2 c2 (mapTo (insG q) p 0) hs := by
    rw [mapTo_zero]
    refine PlanOwn.store (PlanOwn.outR (H2.out.2.2.2.1.below hb3) ho3 ?_) hQ3 (by decide) (by decide) 0 _
    have := HLF.out 0 (Nat.zero_le _)
    rwa [mapTo_zero] at this
  have hB4 := (below_on H2.out.1 (Nat.le_refl _) hb3).setCell (p := ⟨Bq, 0, none⟩) (by have := H2.out.2.2.2.2.1; simp only; omega) (.slice A3 m c3)
  have hZ4 := Blk.far (p := ⟨Bq, 0, none⟩) (H2.out.2.1.on hb3) (by have := H2.out.2.2.2.2.1; simp only; omega) (.slice A3 m c3)
  have hY4 : PtK (w3.setCell ⟨Bq, 0, none⟩ (.slice A3 m c3)) (w.heap.size + 1) q := Blk.far (p := ⟨Bq, 0, none⟩) (show PtK w3 (w.heap.size + 1) q from Blk.below H2.out.2.2.2.2.2 hb3 (Blk.lt H2.out.2.2.2.2.2)) (by have := H2.out.2.2.2.2.1; simp only; omega) (.slice A3 m c3)
  obtain ⟨w4, hw4⟩ : ∃ w4, w4 = w3.setCell ⟨Bq, 0, none⟩ (.slice A3 m c3) := ⟨_, rfl⟩
  rw [← hw4] at hQ4 hpo4 hB4 hZ4 hY4
  have H4 := Lib.hid (And.intro hB4 (And.intro hZ4 (And.intro hQ4 (And.intro hpo4 hY4))))
  have HBQ := Lib.hid H2.out.2.2.2.2.1
  clear hQ3 hQ4 hpo4 hB4 hZ4 hY4 ho3 hb3 H2 KL q1 q2 q3 r1 r2
  go_upto_region 3 with fail
  rw [← hw4]
  clear hw4 s1 s2 f1 f2
  go_wp2_with fail
  go_loopw [6] (fun i wr => ∃ (k : Nat) (hs : List Hd), k ≤ n2 ∧ i = .int .i64 (k : Int) ∧ Hid (Below w.heap.size w wr ∧ PlK wr (w.heap.size + 1 + 1) none 0 0 none 0 0 ∧ PlK wr Bq A3 m c3 A2 n2 c2 ∧ PlanOwn w.heap.size wr A3 m c3 A2 n2 c2 (mapTo (insG q) p k) hs ∧ PtK wr (w.heap.size + 1) q)) (fun i _ => n2 - (intOf i).toNat)
  case atStart => exact ⟨0, hs, Nat.zero_le _, rfl, H4⟩
  case round =>
    clear H4
    obtain ⟨k, hs, hk, rfl, HW⟩ := hrel
    obtain ⟨q1, q2, q3⟩ := HW.out.2.2.1.facts
    by_cases hlt : k < n2
    · have hlt' : (k : Int) < (n2 : Int) := by omega
      have hw1 : IntKind.i64.wrap ((k : Int) + 1) = (k : Int) + 1 := by rw [IntKind.wrap_i64]; have := HLN.out.2.2.2; have := HLN.out.2.1; have := HN.out.2; omega
      obtain ⟨ad, rfl⟩ := HW.out.2.2.2.1.at_.parcs.some_ (by omega)
      obtain ⟨hbd, -, -, -⟩ := HW.out.2.2.2.1.at_.parcs.at_ hlt
      have p2 := HW.out.2.2.2.1.hdC hlt
      have hrk := HW.out.2.2.2.1.rings k hlt
      obtain ⟨⟨Ak, nk, ck⟩, hhd⟩ : ∃ h, h = hdAt hs k := ⟨_, rfl⟩
      rw [← hhd] at p2 hrk
      simp only at p2 hrk
      have hlk : k < p.parcels.length := by have := HN.out.2; omega
      rw [mapTo_at hlk] at hrk
      obtain ⟨x, hx⟩ : ∃ x, x = pcAt p.parcels k := ⟨_, rfl⟩
      rw [← hx] at hrk
      have hxr : ringOf p x.ring := .inr ⟨x, by rw [hx, pcAt_lt hlk]; exact List.getElem_mem _, rfl⟩
      have hlx : x.ring.length = nk := (Reads.of_own hrk).lenPt
      have HMN := Lib.hid (show setR (mapTo (insG q) p k) k ((insG q) x.ring) = mapTo (insG q) p (k + 1) by rw [hx]; exact mapTo_next hlk)
      have kF := withO_any x.ring q Ak nk ck w.heap.size wr.drew (own_below hrk (Below.refl _ _).drew) HW.out.1.size (by have := (HGF.out _ hxr).2; omega) (HGF.out _ hxr).1 HQ.out.1 (HQ.out.2 _ hxr).2.2
      obtain ⟨mk, hmk⟩ : ∃ mk, mk = (insG q x.ring).length := ⟨_, rfl⟩
      rw [← hmk] at kF
      clear hmk
      obtain ⟨r1, r2, -, -, -⟩ := PtK.facts HW.out.2.2.2.2
      have HXX := Lib.hid (And.intro hx hlk)
      clear hrk hlk hx hxr hlx hhd
      go_upto_region 6 with fail
      have hP0 : wr.drew.cell? ⟨Bq, 1, none⟩ = some (.slice (some ad) n2 c2) ∧ wr.drew.cell? ⟨w.heap.size + 1, 0, none⟩ = some (.int .i64 q.x) ∧ wr.drew.cell? ⟨w.heap.size + 1, 1, none⟩ = some (.int .i64 q.y) := ⟨q2, r1, r2⟩
      have hfz := fun V (hV : Below wr.heap.size wr V) => PlanOwn.frz (HW.out.2.2.2.1.below hV) hlt
      have hcl := fun V (hV : Below wr.heap.size wr V) => (hV.cell (p := ⟨(ad.add (k * 3)).block, (ad.add (k * 3)).off + 1, none⟩) (by simp only [block_of_add]; exact hbd)).trans p2
      obtain ⟨hne, hnz, hbb, hny⟩ : ad.block ≠ Bq ∧ ad.block ≠ (w.heap.size + 1 + 1) ∧ w.heap.size ≤ ad.block ∧ ad.block ≠ w.heap.size + 1 := by
        have h1 := own_blk_ne HW.out.2.2.2.1.row HW.out.2.2.1 (by decide)
        have h2 := own_blk_ne HW.out.2.2.2.1.row HW.out.2.1 (by decide)
        have h3 := (HW.out.2.2.2.1.row.lt ad.block rfl).1
        have h4 := own_blk_ne HW.out.2.2.2.1.row (show Blk wr (w.heap.size + 1) 35 _ from HW.out.2.2.2.2) (by decide)
        exact ⟨fun e => h1 (by rw [← e]; rfl), fun e => h2 (by rw [← e]; rfl), h3, fun e => h4 (by rw [← e]; rfl)⟩
      have hbl : Bq < wr.heap.size := q3
      have hyl : w.heap.size + 1 < wr.heap.size := Blk.lt HW.out.2.2.2.2
      refine wp_region_held_drew (S := fun V => V.cell? ⟨Bq, 1, none⟩ = some (.slice (some ad) n2 c2) ∧ V.cell? ⟨w.heap.size + 1, 0, none⟩ = some (.int .i64 q.x) ∧ V.cell? ⟨w.heap.size + 1, 1, none⟩ = some (.int .i64 q.y)) (by kernel_rfl) ?_ (fun hHeld => ?_)
      · exact hP0
      refine tk 0 ?_
      refine tk 1 ?_
      refine tk 2 ?_
      refine tk 3 ?_
      refine tk 4 ?_
      refine tk 5 ?_
      refine tk 6 ?_
      refine tk 7 ?_
      refine tk 9 ?_
      refine wpAnyH_ready (rs := [8]) (by kernel_rfl) (by simp) ?_
      refine AllReadyH.cons rfl (fun K hK => ?_) AllReadyH.nil
      go_simp
      refine hK.out _ _ ?_ (fun hHeld => ?_)
      · exact hHeld
      clear hK K
      try simp only [Act.put, List.setIfInBounds_toArray, List.set_cons_zero, List.set_cons_succ]
      refine wpAnyH_ready (rs := [10]) (by kernel_rfl) (by simp) ?_
      refine AllReadyH.cons rfl (fun K hK => ?_) AllReadyH.nil
      go_simp
      go_at_call 136
      (with_reducible refine (kF).mono ?_)
      rintro e w7 ⟨A7, c7, rfl, ho7, hb'⟩
      have hf7 := hfz w7 ((Below.refl wr.heap.size wr).drew.trans hb')
      have hc7 := hcl w7 ((Below.refl wr.heap.size wr).drew.trans hb')
      try dsimp only
      refine hK.out _ _ ?_ (fun hHeld => ?_)
      · exact ⟨(hb'.cell (p := ⟨Bq, 1, none⟩) hbl).trans hP0.1, (hb'.cell (p := ⟨w.heap.size + 1, 0, none⟩) hyl).trans hP0.2.1, (hb'.cell (p := ⟨w.heap.size + 1, 1, none⟩) hyl).trans hP0.2.2⟩
      have hS1 := hHeld
      clear hK K
      try simp only [Act.put, List.setIfInBounds_toArray, List.set_cons_zero, List.set_cons_succ]
      refine tk 11 ?_
      refine tk 12 ?_
      refine wpAnyH_ready (rs := [13]) (by kernel_rfl) (by simp) ?_
      refine AllReadyH.cons rfl (fun K hK => ?_) AllReadyH.nil
      go_simp
      refine hK.out _ _ ?_ (fun hHeld => ?_)
      · exact ⟨(World.cell?_setCell_other _ _ _ _ (fun e => hne (by have := congrArg Addr.block e; simpa [block_of_add] using this))).trans hS1.1, (World.cell?_setCell_other _ _ _ _ (fun e => hny (by have := congrArg Addr.block e; simpa [block_of_add] using this))).trans hS1.2.1, (World.cell?_setCell_other _ _ _ _ (fun e => hny (by have := congrArg Addr.block e; simpa [block_of_add] using this))).trans hS1.2.2⟩
      clear hK K
      try simp only [Act.put, List.setIfInBounds_toArray, List.set_cons_zero, List.set_cons_succ]
      refine wpAnyH_done (by kernel_rfl) ?_ _
      have hb7 : Below wr.heap.size wr w7 := (Below.refl wr.heap.size wr).drew.trans hb'
      have hpo7 := HW.out.2.2.2.1.below hb7
      obtain ⟨hpo8, -, -⟩ := PlanOwn.setRing hpo7 hlt ho7 (by rw [HMN.out]; exact HLF.out _ (by have := HXX.out.2; omega))
      rw [HMN.out] at hpo8
      have hB8 := (below_on HW.out.1 (Nat.le_refl _) hb7).setCell (p := ⟨(ad.add (k * 3)).block, (ad.add (k * 3)).off + 1, none⟩) (by simp only [block_of_add]; exact hbb) (.slice A7 mk c7)
      have hZ8 := Blk.far (p := ⟨(ad.add (k * 3)).block, (ad.add (k * 3)).off + 1, none⟩) (HW.out.2.1.on hb7) (by simp only [block_of_add]; exact fun e => hnz e.symm) (.slice A7 mk c7)
      have hQ8 := Blk.far (p := ⟨(ad.add (k * 3)).block, (ad.add (k * 3)).off + 1, none⟩) (HW.out.2.2.1.on hb7) (by simp only [block_of_add]; exact fun e => hne e.symm) (.slice A7 mk c7)
      have hY8 : PtK (w7.setCell ⟨(ad.add (k * 3)).block, (ad.add (k * 3)).off + 1, none⟩ (.slice A7 mk c7)) (w.heap.size + 1) q := Blk.far (p := ⟨(ad.add (k * 3)).block, (ad.add (k * 3)).off + 1, none⟩) (show PtK w7 (w.heap.size + 1) q from Blk.below HW.out.2.2.2.2 hb7 (Blk.lt HW.out.2.2.2.2)) (by simp only [block_of_add]; exact fun e => hny e.symm) (.slice A7 mk c7)
      have H8 := Lib.hid (And.intro hB8 (And.intro hZ8 (And.intro hQ8 (And.intro hpo8 hY8))))
      clear hP0 hHeld hS1 hfz hcl hf7 hc7 hb7 hpo7 hpo8 hB8 hZ8 hQ8 hY8 ho7 hb' p2 hbd q1 q2 q3 r1 r2
      go_wp2_with fail
      go_roundw
      case rel => exact ⟨k + 1, hs.set k (A7, mk, c7), by omega, by go_num, H8⟩
      case measure => simp [intOf]; omega
    · have hkn : k = n2 := by omega
      subst hkn
      have hpo := HW.out.2.2.2.1
      have hall : mapTo (insG q) p k = mapG (insG q) p := by rw [← HN.out.2]; exact mapTo_all
      rw [hall] at hpo
      obtain ⟨w9, hw9⟩ : ∃ w9, w9 = wr := ⟨_, rfl⟩
      have kM := refLeast_any (mapG (insG q) p) A3 A2 m c3 k c2 wr hpo.at_ (by have := (HLF.out 0 (Nat.zero_le _)); have := HLN.out; have := HN.out.2; have := HNP.out; omega) (fun xs hx => by
        rcases hx with rfl | ⟨y, hy, rfl⟩
        · have := insG_len q p.outer; have := (HGF.out _ (.inl rfl)).2; show (insG q p.outer).length ≤ _; omega
        · obtain ⟨z, hz, rfl⟩ := List.mem_map.1 hy
          have := insG_len q z.ring; have := (HGF.out _ (.inr ⟨z, hz, rfl⟩)).2; show (insG q z.ring).length ≤ _; omega)
      rw [each_map] at kM
      have KM := Lib.hid kM
      have HZ := Lib.hid (And.intro HW.out.1 HW.out.2.1)
      clear hpo hall kM hw9
      go_wp2_with fail
      refine KM.out.mono ?_
      rintro e w10 ⟨A8, n8, c8, A9, n9, c9, hs9, rfl, hpo, hb10⟩
      have hZ9 := HZ.out.2.on hb10
      have hB9 := below_on HZ.out.1 (Nat.le_refl _) hb10
      have hpo := hpo.mono HZ.out.1.size
      clear q1 q2 q3 KM HW hb10
      obtain ⟨s1, s2, f1, f2⟩ := plk_facts4 hZ9
      obtain ⟨V, hV, r1, r2, hbV⟩ := res_store (g := (w.heap.size + 1 + 1)) hB9 (by omega) hZ9 (.slice A8 n8 c8) (.slice A9 n9 c9)
      have hpo := (hpo.store hZ9 (by decide) (by decide) 0 (.slice A8 n8 c8)).store (Blk.set_ hZ9 0 (.slice A8 n8 c8)) (by decide) (by decide) 1 (.slice A9 n9 c9)
      rw [← hV] at hpo
      have HV := Lib.hid hV
      have HR := Lib.hid (And.intro r1 (And.intro r2 (And.intro hbV hpo)))
      clear hV r1 r2 hbV hpo hZ9 hB9
      go_wp2_with fail
      rw [← HV.out]
      obtain ⟨r1, r2, hbV, hpo⟩ := HR.out
      refine bodyPost_ret (v := planV A8 n8 c8 A9 n9 c9) ?_ rfl ⟨A8, n8, c8, A9, n9, c9, hs9, rfl, hpo, hbV⟩
      simp [results, Tryz.results54, go_sem, r1, r2]
end Go.Proofs.YtnpjggcgnbgkjaaGreat
namespace Go.Proofs.YtnpjggcgnbgkjaaGreat
theorem inS_key {a b q : Pt} (ha : good a = true) (hb : good b = true) (hq : good q = true) : inS a b q ↔ cr a b q = 0 ∧ ((key a < key q ∧ key q < key b) ∨ (key b < key q ∧ key q < key a)) := by
  unfold inS
  rw [on_key ha hb hq]
  have h1 := key_inj hq ha
  have h2 := key_inj hq hb
  constructor
  · rintro ⟨⟨hc, hk⟩, n1, n2⟩
    have e1 : key q ≠ key a := fun e => n1 (h1.2 e)
    have e2 : key q ≠ key b := fun e => n2 (h2.2 e)
    exact ⟨hc, by omega⟩
  · rintro ⟨hc, hk⟩
    exact ⟨⟨hc, by omega⟩, fun e => by have := h1.1 e; omega, fun e => by have := h2.1 e; omega⟩
theorem cr_sub {x y a b : Pt} (hne : x ≠ y) (h1 : cr x y a = 0) (h2 : cr x y b = 0) : cr x a b = 0 ∧ cr a y b = 0 := by
  have hn := pt_sub_ne (fun e => hne e.symm : y ≠ x)
  have := par (w1 := y.x - x.x) (w2 := y.y - x.y) (p1 := a.x - x.x) (p2 := a.y - x.y) (q1 := b.x - x.x) (q2 := b.y - x.y) hn h1 h2
  unfold cr at h1 h2 ⊢
  exact ⟨this, by grind⟩
theorem cr_sup {x y a b : Pt} (hne : x ≠ a) (h1 : cr x y a = 0) (h2 : cr x a b = 0) : cr x y b = 0 := by
  have hn := pt_sub_ne (fun e => hne e.symm : a ≠ x)
  have := par (w1 := a.x - x.x) (w2 := a.y - x.y) (p1 := y.x - x.x) (p2 := y.y - x.y) (q1 := b.x - x.x) (q2 := b.y - x.y) hn (by unfold cr at h1; grind) h2
  unfold cr
  exact this
theorem cr_sup2 {x y a b : Pt} (hne : a ≠ y) (h1 : cr x y a = 0) (h2 : cr a y b = 0) : cr x y b = 0 := by
  have e1 : cr y x a = 0 := by unfold cr at h1 ⊢; grind
  have e2 : cr y a b = 0 := by unfold cr at h2 ⊢; grind
  have := cr_sup (x := y) (y := x) (a := a) (b := b) (fun e => hne e.symm) e1 e2
  unfold cr at this ⊢
  grind
/-- What a point within a stretch makes of another. -/
theorem inS_parts {x y a b : Pt} (hx : good x = true) (hy : good y = true) (ha : good a = true) (hb : good b = true) (hab : a ≠ b) (h : inS x y a) : (inS x y b ↔ inS x a b ∨ inS a y b) ∧ ¬ (inS x a b ∧ inS a y b) := by
  have hxy := inS_ne h
  have n1 : x ≠ a := fun e => h.2.1 e.symm
  have n2 : a ≠ y := h.2.2
  have kab : key b ≠ key a := fun e => hab ((key_inj hb ha).2 e).symm
  rw [inS_key hx hy ha] at h
  rw [inS_key hx hy hb, inS_key hx ha hb, inS_key ha hy hb]
  obtain ⟨hc, hk⟩ := h
  refine ⟨⟨fun ⟨h1, h2⟩ => ?_, fun h1 => ?_⟩, fun ⟨⟨_, h1⟩, _, h2⟩ => by omega⟩
  · obtain ⟨c1, c2⟩ := cr_sub hxy hc h1
    rcases Int.lt_or_gt_of_ne kab with h3 | h3 <;> rcases hk with hk | hk
    · exact .inl ⟨c1, by omega⟩
    · exact .inr ⟨c2, by omega⟩
    · exact .inr ⟨c2, by omega⟩
    · exact .inl ⟨c1, by omega⟩
  · rcases h1 with ⟨c1, k1⟩ | ⟨c1, k1⟩
    · exact ⟨cr_sup n1 hc c1, by omega⟩
    · exact ⟨cr_sup2 n2 hc c1, by omega⟩
theorem inS_both {x y a b : Pt} (hx : good x = true) (hy : good y = true) (ha : good a = true) (hb : good b = true) (hab : a ≠ b) (h : inS x y a) (h' : inS x y b) : (inS x a b ↔ inS b y a) ∧ (inS a y b ↔ inS x b a) := by
  have hxy := inS_ne h
  have kab : key b ≠ key a := fun e => hab ((key_inj hb ha).2 e).symm
  rw [inS_key hx hy ha] at h
  rw [inS_key hx hy hb] at h'
  obtain ⟨c1, c2⟩ := cr_sub hxy h.1 h'.1
  obtain ⟨c3, c4⟩ := cr_sub hxy h'.1 h.1
  rw [inS_key hx ha hb, inS_key hb hy ha, inS_key ha hy hb, inS_key hx hb ha]
  have := h.2
  have := h'.2
  exact ⟨⟨fun ⟨_, k⟩ => ⟨c4, by omega⟩, fun ⟨_, k⟩ => ⟨c1, by omega⟩⟩, ⟨fun ⟨_, k⟩ => ⟨c3, by omega⟩, fun ⟨_, k⟩ => ⟨c2, by omega⟩⟩⟩
def inSB (x y q : Pt) : Bool := onB x y q && (!decide (q = x) && !decide (q = y))
theorem inSB_iff {x y q : Pt} : inSB x y q = true ↔ inS x y q := by
  unfold inSB inS
  simp
def nxt (l : List Pt) (z : Pt) : Pt := l.head?.getD z
/-- A corner more, along an open chain. -/
def insC (q : Pt) : List Pt → Pt → List Pt
  | [], _ => []
  | x :: r, z => x :: ((if inSB x (nxt r z) q = true then [q] else []) ++ insC q r z)
theorem insC_cons (q x : Pt) (r : List Pt) (z : Pt) : insC q (x :: r) z = x :: ((if inSB x (nxt r z) q = true then [q] else []) ++ insC q r z) := rfl
theorem nxt_insC (q : Pt) (r : List Pt) (z : Pt) : nxt (insC q r z) z = nxt r z := by cases r <;> rfl
theorem insC_app (q : Pt) (u v : List Pt) (z : Pt) : insC q (u ++ v) z = insC q u (nxt v z) ++ insC q v z := by
  induction u with
  | nil => rfl
  | cons x u ih =>
    rw [List.cons_append, insC_cons, insC_cons, ih]
    have e : nxt (u ++ v) z = nxt u (nxt v z) := by cases u <;> rfl
    rw [e]
    simp
theorem insG_C (q : Pt) (xs : List Pt) : insG q xs = insC q xs (ptAt xs 0) := by
  have h : ∀ m k, k + m = xs.length → insL xs q (List.range' k m) = insC q (xs.drop k) (ptAt xs 0) := fun m => by
    induction m with
    | zero => intro k hk; rw [List.drop_of_length_le (by omega)]; rfl
    | succ m ih =>
      intro k hk
      have hk1 : k < xs.length := by omega
      rw [List.range'_succ, List.drop_eq_getElem_cons hk1, insC_cons, ← ih (k + 1) (by omega)]
      have e : nxt (xs.drop (k + 1)) (ptAt xs 0) = ptAt xs ((k + 1) % xs.length) := by
        unfold nxt
        rw [List.head?_drop]
        rcases Nat.lt_or_ge (k + 1) xs.length with h1 | h1
        · rw [Nat.mod_eq_of_lt h1, List.getElem?_eq_getElem h1, ptAt_lt h1]; rfl
        · obtain h2 : k + 1 = xs.length := by omega
          rw [List.getElem?_eq_none (by omega), h2, Nat.mod_self]; rfl
      rw [e]
      show insK xs q k ++ insL xs q (List.range' (k + 1) m) = _
      unfold insK
      rw [ptAt_lt hk1]
      rfl
  have := h xs.length 0 (by omega)
  rw [List.drop_zero, ← List.range_eq_range'] at this
  exact this
theorem insG_nxt (q : Pt) (xs : List Pt) (z : Pt) : insG q xs = insC q xs (nxt xs z) := by
  rw [insG_C]
  cases xs <;> rfl
/-- Where a ring begins does not matter. -/
theorem insG_rot (q : Pt) (j : Nat) (xs : List Pt) : ∃ i, i ≤ (insG q xs).length ∧ insG q (rot j xs) = rot i (insG q xs) := by
  have hx := List.take_append_drop j xs
  unfold rot
  generalize xs.take j = u at hx
  generalize xs.drop j = v at hx
  subst hx
  cases u with
  | nil => exact ⟨0, Nat.zero_le _, by simp⟩
  | cons x u =>
    cases v with
    | nil => exact ⟨0, Nat.zero_le _, by simp⟩
    | cons y v =>
      have e1 : insG q ((x :: u) ++ (y :: v)) = insC q (x :: u) y ++ insC q (y :: v) x := by
        rw [insG_nxt q _ x, insC_app]
        rfl
      have e2 : insG q ((y :: v) ++ (x :: u)) = insC q (y :: v) x ++ insC q (x :: u) y := by
        rw [insG_nxt q _ y, insC_app]
        rfl
      refine ⟨(insC q (x :: u) y).length, ?_, ?_⟩
      · rw [e1, List.length_append]; omega
      · rw [e1, e2, List.drop_left, List.take_left]
theorem inSB_no {x y q : Pt} : inSB x y q = false ↔ ¬ inS x y q := by rw [← inSB_iff]; simp
/-- Put in in either order. -/
theorem insC_comm {a b : Pt} (ha : good a = true) (hb : good b = true) (hab : a ≠ b) (z : Pt) (hz : good z = true) : ∀ xs : List Pt, (∀ p ∈ xs, good p = true) → insC b (insC a xs z) z = insC a (insC b xs z) z := fun xs => by
  induction xs with
  | nil => intro _; rfl
  | cons x r ih =>
    intro hg
    have hx := hg x (by simp)
    have ih' := ih fun p hp => hg p (by simp [hp])
    have hy : good (nxt r z) = true := by
      cases r with
      | nil => exact hz
      | cons y r => exact hg y (by simp)
    rw [insC_cons a x r z, insC_cons b x r z]
    obtain ⟨y, hy0⟩ : ∃ y, y = nxt r z := ⟨_, rfl⟩
    have hna : nxt (insC a r z) z = y := by rw [nxt_insC, hy0]
    have hnb : nxt (insC b r z) z = y := by rw [nxt_insC, hy0]
    rw [← hy0] at hy ⊢
    by_cases h1 : inS x y a
    · obtain ⟨p1, p2⟩ := inS_parts hx hy ha hb hab h1
      rw [if_pos (inSB_iff.2 h1)]
      simp only [List.singleton_append]
      rw [insC_cons b x, insC_cons b a, hna]
      show x :: ((if inSB x a b = true then [b] else []) ++ a :: ((if inSB a y b = true then [b] else []) ++ insC b (insC a r z) z)) = _
      by_cases h2 : inS x y b
      · obtain ⟨k1, k2⟩ := inS_both hx hy ha hb hab h1 h2
        rw [if_pos (inSB_iff.2 h2)]
        simp only [List.singleton_append]
        rw [insC_cons a x, insC_cons a b, hnb]
        show _ = x :: ((if inSB x b a = true then [a] else []) ++ b :: ((if inSB b y a = true then [a] else []) ++ insC a (insC b r z) z))
        rw [ih']
        rcases p1.1 h2 with h3 | h3
        · have h4 : ¬ inS a y b := fun h => p2 ⟨h3, h⟩
          rw [if_pos (inSB_iff.2 h3), if_neg (by rw [inSB_no.2 h4]; simp), if_neg (by rw [inSB_no.2 (fun h => h4 (k2.2 h))]; simp), if_pos (inSB_iff.2 (k1.1 h3))]
          rfl
        · have h4 : ¬ inS x a b := fun h => p2 ⟨h, h3⟩
          rw [if_neg (by rw [inSB_no.2 h4]; simp), if_pos (inSB_iff.2 h3), if_pos (inSB_iff.2 (k2.1 h3)), if_neg (by rw [inSB_no.2 (fun h => h4 (k1.2 h))]; simp)]
          rfl
      · have h3 : ¬ inS x a b := fun h => h2 (p1.2 (.inl h))
        have h4 : ¬ inS a y b := fun h => h2 (p1.2 (.inr h))
        rw [if_neg (by rw [inSB_no.2 h3]; simp), if_neg (by rw [inSB_no.2 h4]; simp), if_neg (by rw [inSB_no.2 h2]; simp)]
        simp only [List.nil_append]
        rw [insC_cons a x, hnb, if_pos (inSB_iff.2 h1), ih']
        rfl
    · rw [if_neg (by rw [inSB_no.2 h1]; simp)]
      simp only [List.nil_append]
      rw [insC_cons b x, hna]
      by_cases h2 : inS x y b
      · obtain ⟨p1, p2⟩ := inS_parts hx hy hb ha (Ne.symm hab) h2
        have h3 : ¬ inS x b a := fun h => h1 (p1.2 (.inl h))
        have h4 : ¬ inS b y a := fun h => h1 (p1.2 (.inr h))
        rw [if_pos (inSB_iff.2 h2)]
        simp only [List.singleton_append]
        rw [insC_cons a x, insC_cons a b, hnb]
        show _ = x :: ((if inSB x b a = true then [a] else []) ++ b :: ((if inSB b y a = true then [a] else []) ++ insC a (insC b r z) z))
        rw [if_neg (by rw [inSB_no.2 h3]; simp), if_neg (by rw [inSB_no.2 h4]; simp), ih']
        rfl
      · rw [if_neg (by rw [inSB_no.2 h2]; simp)]
        simp only [List.nil_append]
        rw [insC_cons a x, hnb, if_neg (by rw [inSB_no.2 h1]; simp), ih']
        rfl
/-- How often a corner is put in. -/
def insM (q : Pt) : List Pt → Pt → Nat
  | [], _ => 0
  | x :: r, z => (if inSB x (nxt r z) q = true then 1 else 0) + insM q r z
theorem insC_perm (q : Pt) (xs : List Pt) (z : Pt) : (insC q xs z).Perm (xs ++ List.replicate (insM q xs z) q) := by
  induction xs with
  | nil => exact .refl _
  | cons x r ih =>
    rw [insC_cons]
    show List.Perm _ (x :: (r ++ List.replicate ((if inSB x (nxt r z) q = true then 1 else 0) + insM q r z) q))
    refine .cons x ?_
    split
    · rw [Nat.add_comm, List.replicate_succ]
      exact (List.Perm.cons q ih).trans List.perm_middle.symm
    · rw [Nat.zero_add]
      exact ih
theorem insM_two {a b : Pt} (ha : good a = true) (hb : good b = true) (hab : a ≠ b) (z : Pt) (hz : good z = true) : ∀ xs : List Pt, (∀ p ∈ xs, good p = true) → insM b (insC a xs z) z = insM b xs z := fun xs => by
  induction xs with
  | nil => intro _; rfl
  | cons x r ih =>
    intro hg
    have hx := hg x (by simp)
    have ih' := ih fun p hp => hg p (by simp [hp])
    have hy : good (nxt r z) = true := by
      cases r with
      | nil => exact hz
      | cons y r => exact hg y (by simp)
    have hna : nxt (insC a r z) z = nxt r z := nxt_insC a r z
    rw [insC_cons a x]
    show _ = (if inSB x (nxt r z) b = true then 1 else 0) + insM b r z
    generalize nxt r z = y at *
    by_cases h1 : inS x y a
    · obtain ⟨p1, p2⟩ := inS_parts hx hy ha hb hab h1
      rw [if_pos (inSB_iff.2 h1)]
      show (if inSB x a b = true then 1 else 0) + ((if inSB a (nxt (insC a r z) z) b = true then 1 else 0) + insM b (insC a r z) z) = _
      rw [hna, ih']
      by_cases h3 : inS x a b
      · have h4 : ¬ inS a y b := fun h => p2 ⟨h3, h⟩
        rw [if_pos (inSB_iff.2 h3), if_neg (by rw [inSB_no.2 h4]; simp), if_pos (inSB_iff.2 (p1.2 (.inl h3)))]
        omega
      · by_cases h4 : inS a y b
        · rw [if_neg (by rw [inSB_no.2 h3]; simp), if_pos (inSB_iff.2 h4), if_pos (inSB_iff.2 (p1.2 (.inr h4)))]
          omega
        · have h5 : ¬ inS x y b := fun h => (p1.1 h).elim h3 h4
          rw [if_neg (by rw [inSB_no.2 h3]; simp), if_neg (by rw [inSB_no.2 h4]; simp), if_neg (by rw [inSB_no.2 h5]; simp)]
          omega
    · rw [if_neg (by rw [inSB_no.2 h1]; simp)]
      show (if inSB x (nxt (insC a r z) z) b = true then 1 else 0) + insM b (insC a r z) z = _
      rw [hna, ih']
theorem insM_len (q : Pt) (xs : List Pt) (z : Pt) : (insC q xs z).length = xs.length + insM q xs z := by rw [(insC_perm q xs z).length_eq, List.length_append, List.length_replicate]
theorem insM_le {xs : List Pt} {q : Pt} (hc : checkI xs = 0) (hq : good q = true) : insM q xs (ptAt xs 0) ≤ 1 ∧ (q ∈ xs → insM q xs (ptAt xs 0) = 0) := by
  have hl := insM_len q xs (ptAt xs 0)
  rw [← insG_C] at hl
  refine ⟨?_, fun h => ?_⟩
  · rcases ins_cases hc hq with ⟨e, -⟩ | ⟨k, hk, -, e⟩
    · rw [e] at hl; omega
    · rw [e] at hl
      have : (mark k q xs).length = xs.length + 1 := by unfold mark; simp; omega
      omega
  · rw [corner_out hc h] at hl
    omega
theorem insC_nd {xs : List Pt} {q z : Pt} (hn : xs.Nodup) (h1 : insM q xs z ≤ 1) (h2 : q ∈ xs → insM q xs z = 0) : (insC q xs z).Nodup := by
  rw [(insC_perm q xs z).nodup_iff]
  by_cases hq : insM q xs z = 0
  · rw [hq]; simpa using hn
  · obtain e : insM q xs z = 1 := by omega
    rw [e, List.nodup_append]
    refine ⟨hn, by simp, fun x hx y hy hxy => hq (h2 ?_)⟩
    simp at hy
    rw [← hy, ← hxy]
    exact hx
theorem ins_two {xs : List Pt} {a b : Pt} (hc : checkI xs = 0) (hn : xs.Nodup) (ha : good a = true) (hb : good b = true) (hab : a ≠ b) :
    (insG a xs).Nodup ∧ (insG b (insG a xs)).Nodup ∧ insG b (insG a xs) = insG a (insG b xs) := by
  obtain ⟨-, hg, h3, -, -⟩ := checkI_zero hc
  have hgp : ∀ p ∈ xs, good p = true := fun p hp => goodL_mem hg hp
  have hz : good (ptAt xs 0) = true := hgp _ (ptAt_mem (by omega))
  have hne : xs ≠ [] := fun e => by rw [e] at h3; simp at h3
  have hh : ∀ q, ptAt (insG q xs) 0 = ptAt xs 0 := fun q => by
    rw [insG_C]
    cases xs with
    | nil => exact absurd rfl hne
    | cons x r => rfl
  have hb2 : ∀ q p : Pt, insG p (insG q xs) = insC p (insC q xs (ptAt xs 0)) (ptAt xs 0) := fun q p => by rw [insG_C p, hh, insG_C q]
  have m1 := insM_le hc ha
  have m2 := insM_le hc hb
  have n1 : (insG a xs).Nodup := by rw [insG_C]; exact insC_nd hn m1.1 m1.2
  refine ⟨n1, ?_, ?_⟩
  · rw [hb2]
    have e := insM_two ha hb hab _ hz xs hgp
    rw [insG_C] at n1
    refine insC_nd n1 (by rw [e]; exact m2.1) fun h => ?_
    rw [e]
    have : b ∈ insG a xs := by rw [insG_C]; exact h
    rcases insG_mem this with h4 | h4
    · exact m2.2 h4
    · exact absurd h4.symm hab
  · rw [hb2, hb2]
    exact insC_comm ha hb hab _ hz xs hgp
end Go.Proofs.YtnpjggcgnbgkjaaGreat
namespace Go.Proofs.YtnpjggcgnbgkjaaGreat
open Go.RowKit Go.Lib
theorem PlanOwn.resort {B n c n' c' c2 : Nat} {W W' : World} {A A' A2 : Option Addr} {p : Plan} {hs : List Hd} {d : List PcH} (h : PlanOwn B W A n c A' n' c' p hs) (hd : d.Perm (p.parcels.zip hs))
    (hown : W'.ownsRow B 37 3 (.slice A2 n' c2) n' (pchV d)) (hb : Below W.heap.size W W') : PlanOwn B W' A n c A2 n' c2 ⟨p.outer, d.map (·.1)⟩ (d.map (·.2)) := by
  have hl := h.lenp
  have hl2 := h.len
  have hdl : d.length = n' := by rw [hd.length_eq, List.length_zip, hl, hl2, Nat.min_self]
  have hmap : (d.map (·.1)).Perm p.parcels := by
    have := hd.map (·.1)
    rwa [List.map_fst_zip (by omega)] at this
  refine ⟨own_below h.out hb, by rw [← pch_rowPV]; exact hown, by simp [hdl], by simp [hdl], fun j hj => ?_, fits_perm hmap h.fits⟩
  have hjd : j < d.length := by omega
  have hm : d[j] ∈ p.parcels.zip hs := hd.mem_iff.1 (List.getElem_mem hjd)
  obtain ⟨i, hi, he⟩ := List.getElem_of_mem hm
  rw [List.length_zip] at hi
  have hi1 : i < p.parcels.length := by omega
  have hi2 : i < hs.length := by omega
  rw [List.getElem_zip] at he
  have e1 : hdAt (d.map (·.2)) j = hdAt hs i := by
    unfold hdAt
    rw [List.getElem?_map, List.getElem?_eq_getElem hjd, List.getElem?_eq_getElem hi2, ← he]
    rfl
  have e2 : pcAt (d.map (·.1)) j = pcAt p.parcels i := by
    unfold pcAt
    rw [List.getElem?_map, List.getElem?_eq_getElem hjd, List.getElem?_eq_getElem hi1, ← he]
    rfl
  show World.ownsRow _ _ _ _ _ _ (ptsV (pcAt (d.map (·.1)) j).ring)
  rw [e1, e2]
  exact own_below (h.rings i (by omega)) hb
theorem sorted_put {ps : List Parc} {y : Parc} {d : List PcH} {hs : List Hd} (hl : hs.length = ps.length + 1) (hp : ps.Pairwise (fun x y => x.id < y.id)) (hx : ∀ z ∈ ps, z.id ≠ y.id) (hd : d.Perm ((ps ++ [y]).zip hs))
    (ho : d.Pairwise (fun e f => ¬ f.1.id < e.1.id)) : d.map (·.1) = putId y ps :=
  put_uniq hp hx (by
    have := hd.map (·.1)
    rwa [List.map_fst_zip (by simp [hl])] at this) (List.pairwise_map.2 ho)
end Go.Proofs.YtnpjggcgnbgkjaaGreat

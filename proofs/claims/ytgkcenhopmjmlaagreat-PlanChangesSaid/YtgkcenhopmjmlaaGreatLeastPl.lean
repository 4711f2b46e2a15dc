/- ref05.Least and ref05.Insert: the walks. -/
import Derived.Test.YtgkcenhopmjmlaaGreatBendMark
import Derived.Test.YtgkcenhopmjmlaaGreatRings
namespace Go.Proofs.YtgkcenhopmjmlaaGreat
open Go.RowKit Go.Lib
theorem PlanOwn.frz {B n c n' c' k : Nat} {W : World} {A : Option Addr} {ad : Addr} {p : Plan} {hs : List Hd} (h : PlanOwn B W A n c (some ad) n' c' p hs) (hk : k < n') : W.frozen? ⟨(ad.add (k * 3)).block, (ad.add (k * 3)).off + 1, none⟩ = false := by
  obtain ⟨g, cap, e, hb, hlt⟩ := h.row.form (by omega)
  have e1 : ad = ⟨g, 0, none⟩ := by cases e; rfl
  have e2 : cap = c' := by cases e; rfl
  subst e1 e2
  have hadr : (⟨((⟨g, 0, none⟩ : Addr).add (k * 3)).block, ((⟨g, 0, none⟩ : Addr).add (k * 3)).off + 1, none⟩ : Addr) = ⟨g, k * 3 + 1, none⟩ := by rw [add_off3 _ _ _ (by omega)]; simp [Addr.add]
  rw [hadr]
  exact h.row.frozenAt _
set_option maxRecDepth 100000 in
set_option maxHeartbeats 3200000 in
theorem refLeast_any (p : Plan) (A A' : Option Addr) (n c n' c' : Nat) (w : World) (h : PlanAt w w.heap.size A n c A' n' c' p) (hn : n' ≤ 1048576) (hg0 : ∀ xs, ringOf p xs → xs.length ≤ 1048576) :
    Calls Tryz.prog 112 #[planV A n c A' n' c'] w (OwnPostS (mapG lst p) w) := by
  obtain ⟨wa, hwa⟩ : ∃ wa : World, wa = (w.alloc (.cells #[.slice A n c, .slice A' n' c'] 26)).alloc (.cells #[.slice none 0 0, .slice none 0 0] 26) := ⟨_, rfl⟩
  have hB0 : Below w.heap.size w wa := by rw [hwa]; exact ((Below.refl _ _).alloc (Nat.le_refl _) _).alloc (by simp) _
  have hX : PlK wa w.heap.size A n c A' n' c' := by rw [hwa]; exact Blk.alloc (PlK.new w A n c A' n' c') _
  have hZ : PlK wa (w.heap.size + 1) none 0 0 none 0 0 := by
    have := PlK.new (w.alloc (.cells #[.slice A n c, .slice A' n' c'] 26)) none 0 0 none 0 0
    rw [World.size_alloc] at this
    rw [hwa]
    exact this
  have KO := Lib.hid (ownPlS_any p A A' n c n' c' wa (h.on hB0) hn)
  have HLF : Hid (∀ k, k ≤ p.parcels.length → (mapTo lst p k).fits) := fun k hk => mapTo_fits h.fits (fun xs hx => ⟨by rw [lst_len]; exact hg0 xs hx, fun r hr => by
    rcases hx with rfl | ⟨x, hx, rfl⟩
    · exact h.fits.1.2 r (lst_mem hr)
    · exact (h.fits.2.2 x hx).2.1 r (lst_mem hr)⟩) hk
  have HGF := Lib.hid hg0
  have H0 := Lib.hid (And.intro hB0 hZ)
  have HLN := Lib.hid h.lens
  obtain ⟨q1, q2, q3⟩ := hX.facts
  clear hB0 hX  hZ h hn hg0
  go_enter Tryz.func112, Tryz.ntmps112
  go_upto_region 1 with fail
  rw [← hwa]
  clear hwa
  go_wp2_with fail
  refine KO.out.mono ?_
  rintro e w1 ⟨A1, n1, c1, A2, n2, c2, hs, rfl, hpo, hb1⟩
  have hn2 : p.parcels.length = n2 := hpo.lenp
  have hn1 : p.outer.length = n1 := (Reads.of_own hpo.out).lenPt
  obtain ⟨w2, hw2⟩ : ∃ w2, w2 = w1.alloc (.cells #[.slice A1 n1 c1, .slice A2 n2 c2] 26) := ⟨_, rfl⟩
  have hba : Below w1.heap.size w1 w2 := by rw [hw2]; exact (Below.refl _ _).alloc (Nat.le_refl _) _
  have hQ : PlK w2 w1.heap.size A1 n1 c1 A2 n2 c2 := by rw [hw2]; exact PlK.new w1 A1 n1 c1 A2 n2 c2
  obtain ⟨Bq, hBq⟩ : ∃ Bq, Bq = w1.heap.size := ⟨_, rfl⟩
  rw [← hBq] at hQ
  have hb2 := below_on hb1 (Nat.le_refl _) hba
  have hB2 := below_on H0.out.1 (Nat.le_refl _) hb2
  have hBQ : (w.heap.size + 1) < Bq := by have := Blk.lt H0.out.2; have := hb1.size; omega
  have H2 := Lib.hid (And.intro hB2 (And.intro (H0.out.2.on hb2) (And.intro hQ (And.intro ((hpo.below hba).mono H0.out.1.size) (And.intro hBQ trivial)))))
  have HN := Lib.hid (And.intro hn1 hn2)
  clear hpo hn1 hn2 hba hQ hb1 hb2 hB2 hBQ H0 KO q1 q2 q3
  go_upto_region 2 with fail
  rw [← hw2, ← hBq]
  clear hw2 hBq
  obtain ⟨q1, q2, q3⟩ := H2.out.2.2.1.facts
  have KL := Lib.hid (leastR2_any p.outer A1 n1 c1 w2 (Reads.of_own H2.out.2.2.2.1.out) (by have := HGF.out _ (.inl rfl); have := HN.out.1; omega))
  go_wp2_with fail
  refine KL.out.mono ?_
  rintro e w3 ⟨A3, c3, rfl, ho3, hb3⟩
  have hlo : rot (leastN p.outer n1) p.outer = lst p.outer := by unfold lst; rw [HN.out.1]
  rw [hlo] at ho3
  have hQ3 := H2.out.2.2.1.on hb3
  obtain ⟨s1, s2, f1, f2⟩ := plk_facts4 hQ3
  have hQ4 := Blk.set_ hQ3 0 (.slice A3 n1 c3)
  simp only [List.setIfInBounds_toArray, List.set_cons_zero] at hQ4
  have hpo4 : PlanOwn w.heap.size (w3.setCell ⟨Bq, 0, none⟩ (.slice A3 n1 c3)) A3 n1 c3 A2 n2 c2 (mapTo lst p 0) hs := by
    rw [mapTo_zero]
    refine PlanOwn.store (PlanOwn.outR (H2.out.2.2.2.1.below hb3) (own_mono ho3 H2.out.1.size) ?_) hQ3 (by decide) (by decide) 0 _
    have := HLF.out 0 (Nat.zero_le _)
    rwa [mapTo_zero] at this
  have hB4 := (below_on H2.out.1 (Nat.le_refl _) hb3).setCell (p := ⟨Bq, 0, none⟩) (by have := H2.out.2.2.2.2.1; simp only; omega) (.slice A3 n1 c3)
  have hZ4 := Blk.far (p := ⟨Bq, 0, none⟩) (H2.out.2.1.on hb3) (by have := H2.out.2.2.2.2.1; simp only; omega) (.slice A3 n1 c3)
  obtain ⟨w4, hw4⟩ : ∃ w4, w4 = w3.setCell ⟨Bq, 0, none⟩ (.slice A3 n1 c3) := ⟨_, rfl⟩
  rw [← hw4] at hQ4 hpo4 hB4 hZ4
  have H4 := Lib.hid (And.intro hB4 (And.intro hZ4 (And.intro hQ4 (And.intro hpo4 trivial))))
  have HBQ := Lib.hid H2.out.2.2.2.2.1
  clear hQ3 hQ4 hpo4 hB4 hZ4  ho3 hb3 H2 KL q1 q2 q3 hlo
  go_upto_region 3 with fail
  rw [← hw4]
  clear hw4 s1 s2 f1 f2
  go_wp2_with fail
  go_loopw [4] (fun i wr => ∃ (k : Nat) (hs : List Hd), k ≤ n2 ∧ i = .int .i64 (k : Int) ∧ Hid (Below w.heap.size w wr ∧ PlK wr (w.heap.size + 1) none 0 0 none 0 0 ∧ PlK wr Bq A3 n1 c3 A2 n2 c2 ∧ PlanOwn w.heap.size wr A3 n1 c3 A2 n2 c2 (mapTo lst p k) hs ∧ True)) (fun i _ => n2 - (intOf i).toNat)
  case atStart => exact ⟨0, hs, Nat.zero_le _, rfl, H4⟩
  case round =>
    clear H4
    obtain ⟨k, hs, hk, rfl, HW⟩ := hrel
    obtain ⟨q1, q2, q3⟩ := HW.out.2.2.1.facts
    by_cases hlt : k < n2
    · have hlt' : (k : Int) < (n2 : Int) := by omega
      have hw1 : IntKind.i64.wrap ((k : Int) + 1) = (k : Int) + 1 := by rw [IntKind.wrap_i64]; have := HLN.out.2.2.2; have := HLN.out.2.1; have := HN.out.2; omega
      obtain ⟨ad, rfl⟩ := HW.out.2.2.2.1.at_.parcs.some_ (by omega)
      obtain ⟨hbd, p1, ⟨Ak, nk, ck, p2, hrk, hk1, hk2⟩, -⟩ := HW.out.2.2.2.1.at_.parcs.at_ hlt
      have hlk : k < p.parcels.length := by have := HN.out.2; omega
      rw [mapTo_at hlk] at p1 hrk
      obtain ⟨x, hx⟩ : ∃ x, x = pcAt p.parcels k := ⟨_, rfl⟩
      rw [← hx] at p1 hrk
      have hxr : ringOf p x.ring := .inr ⟨x, by rw [hx, pcAt_lt hlk]; exact List.getElem_mem _, rfl⟩
      have hlx : x.ring.length = nk := hrk.lenPt
      have HMN := Lib.hid (show setR (mapTo lst p k) k (lst x.ring) = mapTo lst p (k + 1) by rw [hx]; exact mapTo_next hlk)
      have kF := leastR2_any x.ring Ak nk ck wr.drew (hrk.on (Below.refl _ _).drew) (by have := HGF.out _ hxr; omega)
      have hlo : rot (leastN x.ring nk) x.ring = lst x.ring := by unfold lst; rw [hlx]
      rw [hlo] at kF
      clear hlo
      have HXX := Lib.hid (And.intro hx hlk)
      clear hrk hk1 hk2 hlk hx hxr hlx p1
      go_upto_region 6 with fail
      have hP0 : wr.drew.cell? ⟨Bq, 1, none⟩ = some (.slice (some ad) n2 c2) := q2
      have hfz := fun V (hV : Below wr.heap.size wr V) => PlanOwn.frz (HW.out.2.2.2.1.below hV) hlt
      have hcl := fun V (hV : Below wr.heap.size wr V) => (hV.cell (p := ⟨(ad.add (k * 3)).block, (ad.add (k * 3)).off + 1, none⟩) (by simp only [block_of_add]; exact hbd)).trans p2
      obtain ⟨hne, hnz, hbb, hny⟩ : ad.block ≠ Bq ∧ ad.block ≠ (w.heap.size + 1) ∧ w.heap.size ≤ ad.block ∧ True := by
        have h1 := own_blk_ne HW.out.2.2.2.1.row HW.out.2.2.1 (by decide)
        have h2 := own_blk_ne HW.out.2.2.2.1.row HW.out.2.1 (by decide)
        have h3 := (HW.out.2.2.2.1.row.lt ad.block rfl).1
        exact ⟨fun e => h1 (by rw [← e]; rfl), fun e => h2 (by rw [← e]; rfl), h3, trivial⟩
      have hbl : Bq < wr.heap.size := q3
      refine wp_region_held_drew (S := fun V => V.cell? ⟨Bq, 1, none⟩ = some (.slice (some ad) n2 c2)) (by kernel_rfl) ?_ (fun hHeld => ?_)
      · exact hP0
      refine tk 0 ?_
      refine tk 1 ?_
      refine tk 2 ?_
      refine tk 3 ?_
      refine tk 4 ?_
      refine tk 5 ?_
      refine tk 6 ?_
      refine tk 7 ?_
      refine wpAnyH_ready (rs := [8]) (by kernel_rfl) (by simp) ?_
      refine AllReadyH.cons rfl (fun K hK => ?_) AllReadyH.nil
      go_simp
      refine hK.out _ _ ?_ (fun hHeld => ?_)
      · exact hHeld
      clear hK K
      try simp only [Act.put, List.setIfInBounds_toArray, List.set_cons_zero, List.set_cons_succ]
      refine wpAnyH_ready (rs := [9]) (by kernel_rfl) (by simp) ?_
      refine AllReadyH.cons rfl (fun K hK => ?_) AllReadyH.nil
      go_simp
      go_at_call 111
      (with_reducible refine (kF).mono ?_)
      rintro e w7 ⟨A7, c7, rfl, ho7, hb'⟩
      have hf7 := hfz w7 ((Below.refl wr.heap.size wr).drew.trans hb')
      have hc7 := hcl w7 ((Below.refl wr.heap.size wr).drew.trans hb')
      try dsimp only
      refine hK.out _ _ ?_ (fun hHeld => ?_)
      · exact (hb'.cell (p := ⟨Bq, 1, none⟩) hbl).trans hP0
      have hS1 := hHeld
      clear hK K
      try simp only [Act.put, List.setIfInBounds_toArray, List.set_cons_zero, List.set_cons_succ]
      refine tk 10 ?_
      refine tk 11 ?_
      refine wpAnyH_ready (rs := [12]) (by kernel_rfl) (by simp) ?_
      refine AllReadyH.cons rfl (fun K hK => ?_) AllReadyH.nil
      go_simp
      refine hK.out _ _ ?_ (fun hHeld => ?_)
      · exact (World.cell?_setCell_other _ _ _ _ (fun e => hne (by have := congrArg Addr.block e; simpa [block_of_add] using this))).trans hS1
      clear hK K
      try simp only [Act.put, List.setIfInBounds_toArray, List.set_cons_zero, List.set_cons_succ]
      refine wpAnyH_done (by kernel_rfl) ?_ _
      have hb7 : Below wr.heap.size wr w7 := (Below.refl wr.heap.size wr).drew.trans hb'
      have hpo7 := HW.out.2.2.2.1.below hb7
      obtain ⟨hpo8, -, -⟩ := PlanOwn.setRing hpo7 hlt (own_mono ho7 (by have := HW.out.1.size; simpa using this)) (by rw [HMN.out]; exact HLF.out _ (by have := HXX.out.2; omega))
      rw [HMN.out] at hpo8
      have hB8 := (below_on HW.out.1 (Nat.le_refl _) hb7).setCell (p := ⟨(ad.add (k * 3)).block, (ad.add (k * 3)).off + 1, none⟩) (by simp only [block_of_add]; exact hbb) (.slice A7 nk c7)
      have hZ8 := Blk.far (p := ⟨(ad.add (k * 3)).block, (ad.add (k * 3)).off + 1, none⟩) (HW.out.2.1.on hb7) (by simp only [block_of_add]; exact fun e => hnz e.symm) (.slice A7 nk c7)
      have hQ8 := Blk.far (p := ⟨(ad.add (k * 3)).block, (ad.add (k * 3)).off + 1, none⟩) (HW.out.2.2.1.on hb7) (by simp only [block_of_add]; exact fun e => hne e.symm) (.slice A7 nk c7)
      have H8 := Lib.hid (And.intro hB8 (And.intro hZ8 (And.intro hQ8 (And.intro hpo8 trivial))))
      clear hP0 hHeld hS1 hfz hcl hf7 hc7 hb7 hpo7 hpo8 hB8 hZ8 hQ8  ho7 hb' p2 hbd q1 q2 q3 
      go_wp2_with fail
      go_roundw
      case rel => exact ⟨k + 1, hs.set k (A7, nk, c7), by omega, by go_num, H8⟩
      case measure => simp [intOf]; omega
    · have hkn : k = n2 := by omega
      subst hkn
      have hpo := HW.out.2.2.2.1
      have hall : mapTo lst p k = mapG lst p := by rw [← HN.out.2]; exact mapTo_all
      rw [hall] at hpo
      have hZ9 := HW.out.2.1
      have hB9 := HW.out.1
      clear hall HW
      obtain ⟨s1, s2, f1, f2⟩ := plk_facts4 hZ9
      obtain ⟨V, hV, r1, r2, hbV⟩ := res_store (g := (w.heap.size + 1)) hB9 (by omega) hZ9 (.slice A3 n1 c3) (.slice A2 k c2)
      have hpo := (hpo.store hZ9 (by decide) (by decide) 0 (.slice A3 n1 c3)).store (Blk.set_ hZ9 0 (.slice A3 n1 c3)) (by decide) (by decide) 1 (.slice A2 k c2)
      rw [← hV] at hpo
      have HV := Lib.hid hV
      have HR := Lib.hid (And.intro r1 (And.intro r2 (And.intro hbV hpo)))
      clear hV r1 r2 hbV hpo hZ9 hB9
      go_wp2_with fail
      rw [← HV.out]
      obtain ⟨r1, r2, hbV, hpo⟩ := HR.out
      refine bodyPost_ret (v := planV A3 n1 c3 A2 k c2) ?_ rfl ⟨A3, n1, c3, A2, k, c2, hs, rfl, hpo, hbV⟩
      simp [results, Tryz.results112, go_sem, r1, r2]
end Go.Proofs.YtgkcenhopmjmlaaGreat

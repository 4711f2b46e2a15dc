/- ref05.Merge: the walk. -/
import Derived.Deep.CutBlock
import Derived.Deep.DeepCutAuto
import Derived.Test.YtgkcenhopmjmlaaGreatMergeP
import Derived.Test.YtgkcenhopmjmlaaGreatWay
import Derived.Test.YtgkcenhopmjmlaaGreatRefMark
namespace Go.Proofs.YtgkcenhopmjmlaaGreat
open Go.RowKit Go.Lib
/-- Those of the first m edges that another border does not go the other way. -/
def cutT (xs ys : List Pt) (m : Nat) : List Ed := cutE ((edgesOf xs).take m) (edgesOf ys)
theorem cutT_zero (xs ys : List Pt) : cutT xs ys 0 = [] := by unfold cutT cutE; simp
theorem cutT_all (xs ys : List Pt) : cutT xs ys xs.length = cutE (edgesOf xs) (edgesOf ys) := by unfold cutT; rw [List.take_of_length_le (by rw [edgesOf_len]; omega)]
theorem cutT_step (xs ys : List Pt) {m : Nat} (hm : m < xs.length) : cutT xs ys (m + 1) = cutT xs ys m ++ (if (edAt (edgesOf xs) m).back ∉ edgesOf ys then [edAt (edgesOf xs) m] else []) := by
  have hl : m < (edgesOf xs).length := by rw [edgesOf_len]; exact hm
  unfold cutT cutE
  rw [List.take_succ_eq_append_getElem hl, List.filter_append, edAt_lt hl]
  by_cases h : (edgesOf xs)[m].back ∈ edgesOf ys <;> simp [h]
theorem cutT_len (xs ys : List Pt) (m : Nat) : (cutT xs ys m).length ≤ xs.length := by
  unfold cutT cutE
  refine Nat.le_trans (List.length_filter_le _ _) ?_
  rw [List.length_take, edgesOf_len]
  omega
theorem del_prep {ps : List Parc} {hs : List Hd} {g n cap k base : Nat} {w : World} (hown : w.ownsRow base 38 3 (.slice (some ⟨g, 0, none⟩) n cap) n (rowPV ps hs)) (hle : hs.length = ps.length) (hl : ps.length = n) (hk : k < n) :
    ∃ (news : List Value) (A : Addr), (if cap = k + 1 then some (⟨g, 0, none⟩ : Addr) else some ⟨g, (k + 1) * 3, none⟩) = some A ∧ (∀ t u, news[t]? = some u → w.drew.cell? (A.add t) = some u) ∧ news.length = (n - (k + 1)) * 3 ∧ (∀ u ∈ news, u.oneCell' = true) ∧ (∀ t, t < news.length → (w.drew.cell? ⟨g, 0 + k * 3 + t, none⟩).isSome = true ∧ w.drew.frozen? ⟨g, 0 + k * 3 + t, none⟩ = false) ∧
      ∃ W1, W1 = w.drew.setCells g (0 + k * 3) news ∧ W1.ownsRow base 38 3 (.slice (some ⟨g, 0, none⟩) (n - 1) cap) (n - 1) (rowPV (ps.eraseIdx k) (hs.eraseIdx k)) ∧ w.grownBy W1 (some g) := by
  have hcap := own_cap hown
  have hpl : (rowPV ps hs).length = n * 3 := by rw [rowPV_len hle, hl]
  have hrow : ∀ j u, (rowPV ps hs)[j]? = some u → w.cell? ⟨g, j, none⟩ = some u ∧ w.frozen? ⟨g, j, none⟩ = false := fun j u hu => by
    have hj : j < n * 3 := by have := (List.getElem?_eq_some_iff.1 hu).1; rw [hpl] at this; exact this
    exact ⟨by rw [hown.cellAt j hj]; exact hu, hown.frozenAt j⟩
  obtain ⟨news, hnews⟩ : ∃ news, news = (rowPV ps hs).drop (k * 3 + 3) := ⟨_, rfl⟩
  have hlen : news.length = (n - (k + 1)) * 3 := by rw [hnews, List.length_drop, hpl]; omega
  obtain ⟨A, hA, hsrc⟩ : ∃ A : Addr, (if cap = k + 1 then some (⟨g, 0, none⟩ : Addr) else some ⟨g, (k + 1) * 3, none⟩) = some A ∧ (∀ t u, news[t]? = some u → w.drew.cell? (A.add t) = some u) := by
    by_cases h : cap = k + 1
    · refine ⟨⟨g, 0, none⟩, by simp [h], fun t u hu => ?_⟩
      have h0 : news.length = 0 := by rw [hlen]; omega
      rw [List.length_eq_zero_iff.1 h0] at hu
      simp at hu
    · refine ⟨⟨g, (k + 1) * 3, none⟩, by simp [h], fun t u hu => ?_⟩
      rw [hnews, List.getElem?_drop] at hu
      rw [addr_to, show (k + 1) * 3 + t = k * 3 + 3 + t by omega]
      exact (hrow _ _ hu).1
  refine ⟨news, A, hA, hsrc, hlen, fun u hu => rowPV_one ps hs u (by rw [hnews] at hu; exact List.mem_of_mem_drop hu), fun t ht => ?_, _, rfl, ?_, ?_⟩
  · have h := hrow (k * 3 + t) _ (List.getElem?_eq_getElem (by omega))
    rw [Nat.zero_add]
    exact ⟨by show (w.cell? _).isSome = true; rw [h.1]; rfl, h.2⟩
  · obtain ⟨cs0, hB0, hz⟩ := own_blk hown
    obtain ⟨cs1, hb1, hz1⟩ := blk_setCells (t := 38) (g := g) news (0 + k * 3) w.drew cs0 hB0
    have hel : (rowPV (ps.eraseIdx k) (hs.eraseIdx k)).length = (n - 1) * 3 := by
      rw [rowPV_len (by rw [List.length_eraseIdx, List.length_eraseIdx, hle]), List.length_eraseIdx_of_lt (by omega), hl]
    refine own_small hown hb1 (by rw [hz1, hz]) (by omega) hel fun j u hu => ?_
    exact delete_cellsPc (w := w.drew) (zs := []) hle hl hk (fun j u h => (hrow j u h).1) (by rw [hnews, Nat.zero_add]; rfl) j u hu
  · exact (grownBy_drewN w 1 _).trans (grownBy_setCs g _ _ _)
/-- Both borders' edges in memory. -/
structure TwoE (W : World) (A1 : Option Addr) (n1 : Nat) (xs : List Pt) (A2 : Option Addr) (n2 : Nat) (ys : List Pt) : Prop where
  one : Reads W W.heap.size 4 A1 n1 (edsV (edgesOf xs))
  two : Reads W W.heap.size 4 A2 n2 (edsV (edgesOf ys))
  lx : xs.length = n1
  ly : ys.length = n2
  sm : n1 ≤ 128 ∧ n2 ≤ 128
theorem TwoE.bel {W W' : World} {A1 A2 : Option Addr} {n1 n2 : Nat} {xs ys : List Pt} (h : TwoE W A1 n1 xs A2 n2 ys) (hb : Below W.heap.size W W') : Reads W' W'.heap.size 4 A1 n1 (edsV (edgesOf xs)) ∧ Reads W' W'.heap.size 4 A2 n2 (edsV (edgesOf ys)) := ⟨(h.one.below hb).more hb.size, (h.two.below hb).more hb.size⟩
set_option maxRecDepth 100000 in
set_option maxHeartbeats 6400000 in
theorem mergeR_any (p : Plan) (a b : Int) (A A' : Option Addr) (n c n' c' : Nat) (w : World) (h : PlanAt w w.heap.size A n c A' n' c' p) :
    Calls Tryz.prog 18 #[planV A n c A' n' c', .int .i64 a, .int .i64 b] w (ResPost (joinP p a b) (joinE p a b) w) := by
  obtain ⟨j0, hj0, hy0, hy1, hy2⟩ := info_parts info_ed
  obtain ⟨i1, hi1, hx0, hx1, hx2⟩ := info_parts info_pc
  obtain ⟨wa, hwa⟩ : ∃ wa : World, wa = (w.alloc (.cells #[.slice A n c, .slice A' n' c'] 26)).alloc (.cells #[.slice none 0 0, .slice none 0 0] 26) := ⟨_, rfl⟩
  have hF : MgF p A n c A' n' c' w wa := by
    have hB0 : Below w.heap.size w wa := by rw [hwa]; exact ((Below.refl _ _).alloc (Nat.le_refl _) _).alloc (by simp) _
    refine ⟨hB0, by rw [hwa]; exact Blk.alloc (PlK.new w A n c A' n' c') _, ?_, h.on hB0⟩
    have := PlK.new (w.alloc (.cells #[.slice A n c, .slice A' n' c'] 26)) none 0 0 none 0 0
    rw [World.size_alloc] at this
    rw [hwa]
    exact this
  have KC := Lib.hid (checkPR_any p A A' n c n' c' wa hF.2.2.2)
  have H0 := Lib.hid hF
  obtain ⟨q1, q2, q3⟩ := hF.2.1.facts
  have HE0 : Hid (joinE p a b = if planB p = true then (if atP p.parcels a < 0 ∨ atP p.parcels b < 0 then 5 else if atP p.parcels a = atP p.parcels b then 1 else joinI p (atP p.parcels a).toNat (atP p.parcels b).toNat) else 2) := rfl
  clear hF h
  go_enter Tryz.func18, Tryz.ntmps18
  go_upto_region 1 with fail
  rw [← hwa]
  clear hwa
  go_wp2_with fail
  refine KC.out.mono ?_
  rintro e w1 ⟨rfl, hb1⟩
  have H1 := Lib.hid (H0.out.on hb1)
  clear hb1 H0 KC q1 q2 q3
  rcases hpb : planB p with _ | _
  · rw [hpb] at HE0
    have hme : joinE p a b = 2 := HE0.out
    have HM := Lib.hid hme
    have HR := Lib.hid H1.out.res
    clear HE0 hme hpb
    obtain ⟨V, hV, r1, r2, hbV⟩ := res_store (g := w.heap.size + 1) HR.out.1 (by omega) HR.out.2 (.slice none 0 0) (.slice none 0 0)
    obtain ⟨s1, s2, f1, f2⟩ := plk_facts4 HR.out.2
    have HV := Lib.hid hV
    have HRR := Lib.hid (And.intro r1 (And.intro r2 hbV))
    clear hV r1 r2 hbV
    go_wp2_with fail
    rw [← HV.out]
    obtain ⟨r1, r2, hbV⟩ := HRR.out
    refine bodyPost_ret (v := .tuple #[planV none 0 0 none 0 0, .int .i64 2]) ?_ rfl (by rw [HM.out]; exact (resPostS_no (joinP_no HM.out (by decide)) hbV).weak)
    simp [results, Tryz.results18, go_sem, r1, r2]
  rw [hpb, if_pos rfl] at HE0
  have HS := Lib.hid (planB_sound hpb)
  clear hpb
  obtain ⟨q1, q2, q3⟩ := H1.out.2.1.facts
  have KA := Lib.hid (atR_any p a A A' n c n' c' w1 H1.out.2.2.2)
  go_wp2_with fail
  refine KA.out.mono ?_
  rintro e w2 ⟨rfl, hb2⟩
  have H2 := Lib.hid (H1.out.on hb2)
  clear hb2 H1 KA q1 q2 q3
  obtain ⟨q1, q2, q3⟩ := H2.out.2.1.facts
  have KA := Lib.hid (atR_any p b A A' n c n' c' w2 H2.out.2.2.2)
  go_wp2_with fail
  refine KA.out.mono ?_
  rintro e wc ⟨rfl, hb3⟩
  have H3 := Lib.hid (H2.out.on hb3)
  have HR3 := Lib.hid H3.out.res
  clear hb3 H2 KA q1 q2 q3
  rcases atP_cases p.parcels a with ⟨ha, -⟩ | ⟨i, hi, ha, -⟩
  · have hme : joinE p a b = 5 := by rw [HE0.out, if_pos (.inl (by rw [ha]; decide))]
    rw [ha]
    have HM := Lib.hid hme
    clear hme HE0 ha
    obtain ⟨V, hV, r1, r2, hbV⟩ := res_store (g := w.heap.size + 1) HR3.out.1 (by omega) HR3.out.2 (.slice none 0 0) (.slice none 0 0)
    obtain ⟨s1, s2, f1, f2⟩ := plk_facts4 HR3.out.2
    have HV := Lib.hid hV
    have HRR := Lib.hid (And.intro r1 (And.intro r2 hbV))
    clear hV r1 r2 hbV
    go_wp2_with fail
    rw [← HV.out]
    obtain ⟨r1, r2, hbV⟩ := HRR.out
    refine bodyPost_ret (v := .tuple #[planV none 0 0 none 0 0, .int .i64 5]) ?_ rfl (by rw [HM.out]; exact (resPostS_no (joinP_no HM.out (by decide)) hbV).weak)
    simp [results, Tryz.results18, go_sem, r1, r2]
  rcases atP_cases p.parcels b with ⟨hb, -⟩ | ⟨k, hk, hb, -⟩
  · have hme : joinE p a b = 5 := by rw [HE0.out, if_pos (.inr (by rw [hb]; decide))]
    rw [ha, hb]
    have HM := Lib.hid hme
    have hi0 : ¬ (i : Int) < 0 := by omega
    clear hme HE0 ha hb
    obtain ⟨V, hV, r1, r2, hbV⟩ := res_store (g := w.heap.size + 1) HR3.out.1 (by omega) HR3.out.2 (.slice none 0 0) (.slice none 0 0)
    obtain ⟨s1, s2, f1, f2⟩ := plk_facts4 HR3.out.2
    have HV := Lib.hid hV
    have HRR := Lib.hid (And.intro r1 (And.intro r2 hbV))
    clear hV r1 r2 hbV
    go_wp2_with fail
    rw [← HV.out]
    obtain ⟨r1, r2, hbV⟩ := HRR.out
    refine bodyPost_ret (v := .tuple #[planV none 0 0 none 0 0, .int .i64 5]) ?_ rfl (by rw [HM.out]; exact (resPostS_no (joinP_no HM.out (by decide)) hbV).weak)
    simp [results, Tryz.results18, go_sem, r1, r2]
  have hi0 : ¬ (i : Int) < 0 := by omega
  have hk0 : ¬ (k : Int) < 0 := by omega
  rw [ha, hb]
  by_cases hik : i = k
  · subst hik
    have hme : joinE p a b = 1 := by rw [HE0.out, if_neg (by rw [ha, hb]; omega), if_pos (by rw [ha, hb])]
    have HM := Lib.hid hme
    clear hme HE0 ha hb
    obtain ⟨V, hV, r1, r2, hbV⟩ := res_store (g := w.heap.size + 1) HR3.out.1 (by omega) HR3.out.2 (.slice none 0 0) (.slice none 0 0)
    obtain ⟨s1, s2, f1, f2⟩ := plk_facts4 HR3.out.2
    have HV := Lib.hid hV
    have HRR := Lib.hid (And.intro r1 (And.intro r2 hbV))
    clear hV r1 r2 hbV
    go_wp2_with fail
    rw [← HV.out]
    obtain ⟨r1, r2, hbV⟩ := HRR.out
    refine bodyPost_ret (v := .tuple #[planV none 0 0 none 0 0, .int .i64 1]) ?_ rfl (by rw [HM.out]; exact (resPostS_no (joinP_no HM.out (by decide)) hbV).weak)
    simp [results, Tryz.results18, go_sem, r1, r2]
  have hik' : ((i : Int) == (k : Int)) = false := by rw [beq_eq_false_iff_ne]; omega
  have hmj : joinE p a b = joinI p i k := by
    rw [HE0.out, if_neg (by rw [ha, hb]; omega), if_neg (by rw [ha, hb]; omega), ha, hb]
    rfl
  have hmp : joinP p a b = if joinE p a b = 0 then joinQ p i k ((joinW p i k).getD []) else ⟨[], []⟩ := by
    unfold joinP
    rw [ha, hb]
    rfl
  have HJ := Lib.hid (And.intro hmj hmp)
  clear hmj hmp HE0 ha hb
  have HIK := Lib.hid (And.intro hi (And.intro hk hik))
  have hl2 := H3.out.2.2.2.lens.2.1
  have hin : (i : Int) < (n' : Int) := by omega
  have hkn : (k : Int) < (n' : Int) := by omega
  have hin' : i < n' := by omega
  have hkn' : k < n' := by omega
  have hn64 : n' ≤ 64 := by have := (listed_bd HS.out.1).2.1; omega
  clear hi hk hl2 hik
  obtain ⟨ad, rfl⟩ := H3.out.2.2.2.parcs.some_ (show 0 < n' by omega)
  obtain ⟨had, -, ⟨Ai, ni, ci, p2, hri, -, -⟩, -⟩ := H3.out.2.2.2.parcs.at_ hin'
  obtain ⟨xs, hxs⟩ : ∃ xs, xs = ringA p i := ⟨_, rfl⟩
  obtain ⟨ys, hys⟩ : ∃ ys, ys = ringA p k := ⟨_, rfl⟩
  have hri' : Reads wc wc.heap.size 2 Ai ni (ptsV xs) := by rw [hxs]; exact hri
  obtain ⟨gx, lx, -⟩ := sound_ring HS.out (ringA_of HIK.out.1)
  obtain ⟨gy, ly, -⟩ := sound_ring HS.out (ringA_of HIK.out.2.1)
  rw [← hxs] at lx
  rw [← hys] at ly
  have hli := hri'.lenPt
  have KE1 := Lib.hid (edgesR_any xs Ai ni ci wc hri' (by omega))
  have HX := Lib.hid (And.intro hxs (And.intro hys (And.intro lx (And.intro ly hli))))
  obtain ⟨q1, q2, q3⟩ := H3.out.2.1.facts
  clear hri hri' hxs hys gx gy lx ly hli had
  go_wp2_with fail
  refine KE1.out.mono ?_
  rintro e w4 ⟨A4, c4, rfl, ho4, hb4⟩
  have H4 := Lib.hid (H3.out.on hb4)
  obtain ⟨-, -, ⟨Ak, nk, ck, p3, hrk, -, -⟩, -⟩ := H4.out.2.2.2.parcs.at_ hkn'
  have hrk' : Reads w4 w4.heap.size 2 Ak nk (ptsV ys) := by rw [HX.out.2.1]; exact hrk
  have hlk := hrk'.lenPt
  have KE2 := Lib.hid (edgesR_any ys Ak nk ck w4 hrk' (by have := HX.out.2.2.2.1; omega))
  have HO4 := Lib.hid (And.intro ho4 hlk)
  have hri2 : Hid (H4.out.1.size = H4.out.1.size) := rfl
  clear hri2 q1 q2 q3 p2 hrk hrk' hlk ho4 hb4 KE1
  obtain ⟨q1, q2, q3⟩ := H4.out.2.1.facts
  go_wp2_with fail
  refine KE2.out.mono ?_
  rintro e w5 ⟨A5, c5, rfl, ho5, hb5⟩
  have H5 := Lib.hid (H4.out.on hb5)
  have T5 : TwoE w5 A4 ni xs A5 nk ys := ⟨Reads.of_own (own_below HO4.out.1 hb5), Reads.of_own ho5, HX.out.2.2.2.2, HO4.out.2, by have := HX.out.2.2.1; have := HX.out.2.2.2.1; have := HX.out.2.2.2.2; have := HO4.out.2; omega⟩
  have HT := Lib.hid T5
  clear T5 ho5 hb5 HO4 KE2 q1 q2 q3 p3
  go_wp2_with fail
  obtain ⟨W, hW⟩ : ∃ W, W = w5 := ⟨_, rfl⟩
  rw [← hW] at H5 HT
  rw [← hW]
  clear hW w5
  go_loopw [12, 13] (fun o i wr => ∃ (m no co : Nat) (Bo : Option Addr), m ≤ ni ∧ i = .int .i64 (m : Int) ∧ o = .slice Bo no co ∧ no = (cutT xs ys m).length ∧ wr.ownsRow W.heap.size 74 4 (.slice Bo no co) no (edsV (cutT xs ys m)) ∧ Below W.heap.size W wr) (fun _ i _ => ni - (intOf i).toNat)
  case atStart => exact ⟨0, 0, 0, none, Nat.zero_le _, rfl, rfl, by rw [cutT_zero]; rfl, by rw [cutT_zero]; exact World.ownsRow_nil _ _ _ _, Below.refl _ _⟩
  case round =>
    obtain ⟨m, no, co, Bo, hm, rfl, rfl, hno, hown, hbx⟩ := hrel
    have hbr := HT.out.bel hbx
    by_cases hlt : m < ni
    · have hlt' : (m : Int) < (ni : Int) := by omega
      have hsm1 := HT.out.sm
      have hw1 : IntKind.i64.wrap ((m : Int) + 1) = (m : Int) + 1 := by rw [IntKind.wrap_i64]; omega
      obtain ⟨ade, hae, -, p1, p2, p3, p4⟩ := hbr.1.edA hlt
      subst hae
      obtain ⟨e, he⟩ : ∃ e, e = edAt (edgesOf xs) m := ⟨_, rfl⟩
      rw [← he] at p1 p2 p3 p4
      have hstep := cutT_step xs ys (m := m) (by rw [HT.out.lx]; exact hlt)
      rw [← he] at hstep
      have hcl := cutT_len xs ys m
      have kB := Lib.hid (backR_any e wr)
      have KP := Lib.hid (fun V (hV : Below wr.heap.size wr V) => placeR_any (edgesOf ys) e.back A5 nk c5 V ((hbr.2.below hV).more hV.size) (by have := HT.out.sm; omega))
      have HB := Lib.hid (And.intro hown (And.intro hbx (And.intro hno (And.intro hstep hcl))))
      have hwz := hbx.size
      have HE := Lib.hid he.symm
      clear hown hno hstep hcl he hbr
      go_wp2_with fail
      refine kB.out.mono ?_
      rintro r w1 ⟨rfl, hb1⟩
      have hbx1 := below_on hbx (Nat.le_refl _) hb1
      have KP1 := Lib.hid (KP.out w1 hb1)
      have hbr1 := HT.out.bel hbx1
      have HB1 := Lib.hid (And.intro (own_below HB.out.1 hb1) hbx1)
      clear hb1 kB KP p1 p2 p3 p4 hbx
      go_wp2_with fail
      refine KP1.out.mono ?_
      rintro r w2 ⟨z, rfl, hz, hb2⟩
      have hbx2 := below_on hbx1 (Nat.le_refl _) hb2
      obtain ⟨ade', hae, -, p1, p2, p3, p4⟩ := (HT.out.bel hbx2).1.edA hlt
      obtain rfl := Option.some.inj hae
      have he2 : edAt (edgesOf xs) m = e := HE.out
      rw [he2] at p1 p2 p3 p4
      have hown2 := own_below HB1.out.1 hb2
      have hws2 := hbx2.size
      clear hae he2 hb2 hbx1 hbr1 KP1
      rcases hz with ⟨hz, hnin⟩ | ⟨kk, hkl, hz, hkk, -⟩
      · subst hz
        have hst := HB.out.2.2.2.1
        rw [if_pos hnin] at hst
        have hnl : no + 1 = (cutT xs ys (m + 1)).length := by rw [hst, HB.out.2.2.1]; simp
        have hsmall : no ≤ 256 := by have := HB.out.2.2.2.2; have := HT.out.sm; have := HT.out.lx; have := HT.out.ly; rw [HB.out.2.2.1]; omega
        have H2 := Lib.hid (And.intro hnl hst)
        have hbx3 := Lib.hid hbx2
        clear hnl hst hnin hbx2
        go_wp2_with (at_builtin; refine wpList_append_any _ rfl (.tmp 67) (.tmp 72) _ rfl W.heap.size 74 j0 _ 4 32 Tryz.underlying70 hj0 hy0 hy1 hy2 rfl (by omega) (.slice Bo no co) no _ rfl (hown2.alloc _) (w2.alloc (.cells #[.int .i64 e.a.x, .int .i64 e.a.y, .int .i64 e.b.x, .int .i64 e.b.y] 74)).heap.size (some ⟨w2.heap.size, 0, none⟩) 1 1 (edsV [e]) rfl (Reads.made w2 #[.int .i64 e.a.x, .int .i64 e.a.y, .int .i64 e.b.x, .int .i64 e.b.y] 74 (0, 0) 4 1 (edsV [e]) rfl rfl) (edsV_one _) (by simp only [maxLen]; omega) (by omega) (by simp; omega) ?_; intro v6 w6 hown6 hg6 hat6; have hB6 := (hbx3.out.alloc hws2 _).grown hg6 (by simp; omega) (fun g hg => (hown2.lt g hg).1); rw [← edsV_append, show cutT xs ys m ++ [e] = cutT xs ys (m + 1) from (by rw [H2.out.2])] at hown6; obtain ⟨A6, c6, rfl⟩ := own_form hown6; have H6 := Lib.hid (And.intro hown6 hB6); clear hown6 hB6 hg6 hat6)
        go_roundw
        case rel => exact ⟨m + 1, no + 1, c6, A6, by omega, by go_num, rfl, H2.out.1, H6.out.1, H6.out.2⟩
        case measure => simp [intOf]; omega
      · have hin : e.back ∈ edgesOf ys := by rw [← hkk]; exact edAt_mem (by rw [edgesOf_len]; have := HT.out.ly; omega)
        have hst := HB.out.2.2.2.1
        rw [if_neg (fun h => h hin), List.append_nil] at hst
        subst hz
        have H2 := Lib.hid (And.intro hst (And.intro hown2 hbx2))
        have hkn : ¬ (kk : Int) < 0 := by omega
        clear hst hin hown2 hbx2 hkk hkl
        go_wp2_with fail
        go_roundw
        case rel => exact ⟨m + 1, no, co, Bo, by omega, by go_num, rfl, by rw [H2.out.1]; exact HB.out.2.2.1, by rw [H2.out.1]; exact H2.out.2.1, H2.out.2.2⟩
        case measure => simp [intOf]; omega
    · have hmn : m = ni := by omega
      subst hmn
      obtain ⟨Lp, hLp⟩ : ∃ L, L = cutE (edgesOf xs) (edgesOf ys) := ⟨_, rfl⟩
      have hct : cutT xs ys m = Lp := by rw [← HT.out.lx, cutT_all, hLp]
      rw [hct] at hno hown
      have hLl : Lp.length ≤ 128 := by have := cutT_len xs ys m; rw [hct] at this; have := HT.out.lx; have := HT.out.sm; omega
      have hjW : joinW p i k = wayO (joinL xs ys) := by unfold joinW; rw [← HX.out.1, ← HX.out.2.1]
      have hjI : joinI p i k = if no = m then 7 else if joinW p i k = none then 9 else if planB (joinQ p i k ((joinW p i k).getD [])) = true then 0 else 8 := by
        rw [hno, hLp, ← HT.out.lx]
        unfold joinI
        rw [← HX.out.1, ← HX.out.2.1]
      have HJW := Lib.hid (And.intro hjW hjI)
      have HLP := Lib.hid (And.intro hLp (And.intro hLl hno))
      by_cases hs7 : no = m
      · have hme : joinE p a b = 7 := by rw [HJ.out.1, HJW.out.2, if_pos hs7]
        have HM := Lib.hid hme
        have HR := Lib.hid (H5.out.on hbx).res
        have hs7' : ((no : Int) == (m : Int)) = true := by rw [beq_iff_eq]; omega
        clear hme hs7 hown hno hct hLl hjW hjI hbx hbr hLp
        obtain ⟨V, hV, r1, r2, hbV⟩ := res_store (g := w.heap.size + 1) HR.out.1 (by omega) HR.out.2 (.slice none 0 0) (.slice none 0 0)
        obtain ⟨s1, s2, f1, f2⟩ := plk_facts4 HR.out.2
        have HV := Lib.hid hV
        have HRR := Lib.hid (And.intro r1 (And.intro r2 hbV))
        clear hV r1 r2 hbV
        go_wp2_with fail
        rw [← HV.out]
        obtain ⟨r1, r2, hbV⟩ := HRR.out
        refine bodyPost_ret (v := .tuple #[planV none 0 0 none 0 0, .int .i64 7]) ?_ rfl (by rw [HM.out]; exact (resPostS_no (joinP_no HM.out (by decide)) hbV).weak)
        simp [results, Tryz.results18, go_sem, r1, r2]
      have HS7 := Lib.hid hs7
      have hs7' : ((no : Int) == (m : Int)) = false := by rw [beq_eq_false_iff_ne]; omega
      have HW1 := Lib.hid (And.intro hown hbx)
      clear hs7 hown hno hct hLl hjW hjI hbx hbr hLp
      go_wp2_with fail
      clear hs7'
      go_loopw [12, 14] (fun o i wr => ∃ (m2 no2 co2 : Nat) (Bo2 : Option Addr), m2 ≤ nk ∧ i = .int .i64 (m2 : Int) ∧ o = .slice Bo2 no2 co2 ∧ no2 = (Lp ++ cutT ys xs m2).length ∧ wr.ownsRow W.heap.size 74 4 (.slice Bo2 no2 co2) no2 (edsV (Lp ++ cutT ys xs m2)) ∧ Below W.heap.size W wr) (fun _ i _ => nk - (intOf i).toNat)
      case atStart => exact ⟨0, no, co, Bo, Nat.zero_le _, rfl, rfl, by rw [cutT_zero, List.append_nil]; exact HLP.out.2.2, by rw [cutT_zero, List.append_nil]; exact HW1.out.1, HW1.out.2⟩
      case round =>
        obtain ⟨m2, no2, co2, Bo2, hm, rfl, rfl, hno, hown, hbx⟩ := hrel
        have hbr := HT.out.bel hbx
        by_cases hlt : m2 < nk
        · have hlt' : (m2 : Int) < (nk : Int) := by omega
          have hsm1 := HT.out.sm
          have hw1 : IntKind.i64.wrap ((m2 : Int) + 1) = (m2 : Int) + 1 := by rw [IntKind.wrap_i64]; omega
          obtain ⟨ade, hae, -, p1, p2, p3, p4⟩ := hbr.2.edA hlt
          subst hae
          obtain ⟨e, he⟩ : ∃ e, e = edAt (edgesOf ys) m2 := ⟨_, rfl⟩
          rw [← he] at p1 p2 p3 p4
          have hstep := cutT_step ys xs (m := m2) (by rw [HT.out.ly]; exact hlt)
          rw [← he] at hstep
          have hcl := cutT_len ys xs m2
          have kB := Lib.hid (backR_any e wr)
          have KP := Lib.hid (fun V (hV : Below wr.heap.size wr V) => placeR_any (edgesOf xs) e.back A4 m c4 V ((hbr.1.below hV).more hV.size) (by have := HT.out.sm; omega))
          have HB := Lib.hid (And.intro hown (And.intro hbx (And.intro hno (And.intro hstep hcl))))
          have hwz := hbx.size
          have HE := Lib.hid he.symm
          clear hown hno hstep hcl he hbr
          go_wp2_with fail
          refine kB.out.mono ?_
          rintro r w1 ⟨rfl, hb1⟩
          have hbx1 := below_on hbx (Nat.le_refl _) hb1
          have KP1 := Lib.hid (KP.out w1 hb1)
          have hbr1 := HT.out.bel hbx1
          have HB1 := Lib.hid (And.intro (own_below HB.out.1 hb1) hbx1)
          clear hb1 kB KP p1 p2 p3 p4 hbx
          go_wp2_with fail
          refine KP1.out.mono ?_
          rintro r w2 ⟨z, rfl, hz, hb2⟩
          have hbx2 := below_on hbx1 (Nat.le_refl _) hb2
          obtain ⟨ade', hae, -, p1, p2, p3, p4⟩ := (HT.out.bel hbx2).2.edA hlt
          obtain rfl := Option.some.inj hae
          have he2 : edAt (edgesOf ys) m2 = e := HE.out
          rw [he2] at p1 p2 p3 p4
          have hown2 := own_below HB1.out.1 hb2
          have hws2 := hbx2.size
          clear hae he2 hb2 hbx1 hbr1 KP1
          rcases hz with ⟨hz, hnin⟩ | ⟨kk, hkl, hz, hkk, -⟩
          · subst hz
            have hst := HB.out.2.2.2.1
            rw [if_pos hnin] at hst
            have hnl : no2 + 1 = (Lp ++ cutT ys xs (m2 + 1)).length := by rw [hst, HB.out.2.2.1]; simp [Nat.add_assoc]
            have hsmall : no2 ≤ 256 := by have := HB.out.2.2.2.2; have := HT.out.sm; have := HT.out.lx; have := HT.out.ly; rw [HB.out.2.2.1]; have := HLP.out.2.1; rw [List.length_append]; omega
            have H2 := Lib.hid (And.intro hnl hst)
            have hbx3 := Lib.hid hbx2
            clear hnl hst hnin hbx2
            go_wp2_with (at_builtin; refine wpList_append_any _ rfl (.tmp 94) (.tmp 99) _ rfl W.heap.size 74 j0 _ 4 32 Tryz.underlying70 hj0 hy0 hy1 hy2 rfl (by omega) (.slice Bo2 no2 co2) no2 _ rfl (hown2.alloc _) (w2.alloc (.cells #[.int .i64 e.a.x, .int .i64 e.a.y, .int .i64 e.b.x, .int .i64 e.b.y] 74)).heap.size (some ⟨w2.heap.size, 0, none⟩) 1 1 (edsV [e]) rfl (Reads.made w2 #[.int .i64 e.a.x, .int .i64 e.a.y, .int .i64 e.b.x, .int .i64 e.b.y] 74 (0, 0) 4 1 (edsV [e]) rfl rfl) (edsV_one _) (by simp only [maxLen]; omega) (by omega) (by simp; omega) ?_; intro v6 w6 hown6 hg6 hat6; have hB6 := (hbx3.out.alloc hws2 _).grown hg6 (by simp; omega) (fun g hg => (hown2.lt g hg).1); rw [← edsV_append, show Lp ++ cutT ys xs m2 ++ [e] = Lp ++ cutT ys xs (m2 + 1) from (by rw [H2.out.2, List.append_assoc])] at hown6; obtain ⟨A6, c6, rfl⟩ := own_form hown6; have H6 := Lib.hid (And.intro hown6 hB6); clear hown6 hB6 hg6 hat6)
            go_roundw
            case rel => exact ⟨m2 + 1, no2 + 1, c6, A6, by omega, by go_num, rfl, H2.out.1, H6.out.1, H6.out.2⟩
            case measure => simp [intOf]; omega
          · have hin : e.back ∈ edgesOf xs := by rw [← hkk]; exact edAt_mem (by rw [edgesOf_len]; have := HT.out.lx; omega)
            have hst := HB.out.2.2.2.1
            rw [if_neg (fun h => h hin), List.append_nil] at hst
            subst hz
            have H2 := Lib.hid (And.intro hst (And.intro hown2 hbx2))
            have hkn : ¬ (kk : Int) < 0 := by omega
            clear hst hin hown2 hbx2 hkk hkl
            go_wp2_with fail
            go_roundw
            case rel => exact ⟨m2 + 1, no2, co2, Bo2, by omega, by go_num, rfl, by rw [H2.out.1]; exact HB.out.2.2.1, by rw [H2.out.1]; exact H2.out.2.1, H2.out.2.2⟩
            case measure => simp [intOf]; omega
        · have hmn : m2 = nk := by omega
          subst hmn
          have hct : cutT ys xs m2 = cutE (edgesOf ys) (edgesOf xs) := by rw [← HT.out.ly, cutT_all]
          rw [hct, HLP.out.1] at hown
          have hL : edsV (cutE (edgesOf xs) (edgesOf ys) ++ cutE (edgesOf ys) (edgesOf xs)) = edsV (joinL xs ys) := rfl
          rw [hL] at hown
          have hno2 : no2 ≤ 1048575 := by have := cutT_len ys xs m2; have := HLP.out.2.1; have := HT.out.ly; have := HT.out.sm; rw [hno, List.length_append]; omega
          have KW := Lib.hid (wayR_any (joinL xs ys) Bo2 no2 co2 wr (Reads.of_own hown) hno2)
          have H6 := Lib.hid (H5.out.on hbx)
          clear hown hno hct hL hno2 hbx hbr
          go_wp2_with fail
          refine KW.out.mono ?_
          rintro e w5 ⟨hres, hb5⟩
          have H8 := Lib.hid (H6.out.on hb5)
          rcases hres with ⟨hno, Aw, nw, cw, rfl⟩ | ⟨r, Aw, cr, hr, rfl, hor⟩
          · have hme : joinE p a b = 9 := by rw [HJ.out.1, HJW.out.2, if_neg HS7.out, if_pos (by rw [HJW.out.1]; exact hno)]
            have HM := Lib.hid hme
            have HR := Lib.hid H8.out.res
            clear hme hno hb5 KW
            obtain ⟨V, hV, r1, r2, hbV⟩ := res_store (g := w.heap.size + 1) HR.out.1 (by omega) HR.out.2 (.slice none 0 0) (.slice none 0 0)
            obtain ⟨s1, s2, f1, f2⟩ := plk_facts4 HR.out.2
            have HV := Lib.hid hV
            have HRR := Lib.hid (And.intro r1 (And.intro r2 hbV))
            clear hV r1 r2 hbV
            go_wp2_with fail
            rw [← HV.out]
            obtain ⟨r1, r2, hbV⟩ := HRR.out
            refine bodyPost_ret (v := .tuple #[planV none 0 0 none 0 0, .int .i64 9]) ?_ rfl (by rw [HM.out]; exact (resPostS_no (joinP_no HM.out (by decide)) hbV).weak)
            simp [results, Tryz.results18, go_sem, r1, r2]
          have hjr : joinW p i k = some r := by rw [HJW.out.1]; exact hr
          obtain ⟨Q, hQe⟩ : ∃ Q, Q = joinQ p i k r := ⟨_, rfl⟩
          have hmj : joinE p a b = doneE Q := by
            rw [HJ.out.1, HJW.out.2, if_neg HS7.out, hjr, if_neg (by simp), hQe]
            rfl
          have hmp : joinP p a b = doneP Q := by
            have h1 : joinP p a b = if joinE p a b = 0 then Q else ⟨[], []⟩ := by rw [HJ.out.2, hjr, hQe]; rfl
            rw [h1, hmj]
            unfold doneP doneE
            rcases planB Q with _ | _ <;> rfl
          obtain ⟨hf1, hf2, hrl⟩ := joinQ_fits HS.out H8.out.2.2.2.fits HIK.out.1 HIK.out.2.1 hjr
          have hlq := joinQ_lst HS.out hjr
          rw [← hQe] at hlq
          have hgl : ∀ zs, ringOf Q zs → zs.length ≤ 1048576 := fun zs hz => by
            rcases hz with rfl | ⟨x, hx, rfl⟩
            · rw [hQe]
              have := (sound_ring HS.out (.inl rfl : ringOf p p.outer)).2.1
              show p.outer.length ≤ _
              omega
            · rw [hQe] at hx
              rcases joinQ_pc hx with h | rfl
              · have := (sound_ring HS.out (.inr ⟨x, h, rfl⟩ : ringOf p x.ring)).2.1; omega
              · show r.length ≤ _
                omega
          have KCl := Lib.hid (ownPlS_any p A (some ad) n c n' c' w5 H8.out.2.2.2 (by omega))
          have HO := Lib.hid (own_mono hor H6.out.1.size)
          have HF := Lib.hid (And.intro hmj (And.intro hmp (And.intro hf1 (And.intro hf2 (And.intro hQe (And.intro hlq hgl))))))
          obtain ⟨q1, q2, q3⟩ := H8.out.2.1.facts
          clear hjr hmj hmp hf1 hf2 hgl hr hor hb5 KW hrl hQe hlq
          go_wp2_with fail
          refine KCl.out.mono ?_
          rintro e w6 ⟨A1, n1, c1, A2, n2, c2, hs, rfl, hpo, hb6⟩
          have hn2 := hpo.lenp
          have hin2 : i < n2 := by have := HIK.out.1; omega
          have hkn2 : k < n2 := by have := HIK.out.2.1; omega
          have hi2 : (i : Int) < (n2 : Int) := by omega
          have h64 : n2 ≤ 64 := by have := (listed_bd HS.out.1).2.1; omega
          obtain ⟨g, cg, eg, hgB, hgl⟩ := hpo.row.form (by omega)
          obtain rfl : A2 = some ⟨g, 0, none⟩ := by cases eg; rfl
          have hgw : w5.heap.size ≤ g := hgB
          obtain ⟨wq, hwq⟩ : ∃ wq, wq = w6.alloc (.cells #[.slice A1 n1 c1, .slice (some ⟨g, 0, none⟩) n2 c2] 26) := ⟨_, rfl⟩
          have hba : Below w6.heap.size w6 wq := by rw [hwq]; exact (Below.refl _ _).alloc (Nat.le_refl _) _
          have hQ : PlK wq w6.heap.size A1 n1 c1 (some ⟨g, 0, none⟩) n2 c2 := by rw [hwq]; exact PlK.new w6 A1 n1 c1 (some ⟨g, 0, none⟩) n2 c2
          obtain ⟨Bq, hBq⟩ : ∃ Bq, Bq = w6.heap.size := ⟨_, rfl⟩
          rw [← hBq] at hQ
          have hgq : g ≠ Bq := by have : g < w6.heap.size := hgl; omega
          have hpoq := (hpo.mono H8.out.1.size).below hba
          have hb56 := below_on hb6 (Nat.le_refl _) hba
          have hor := own_below HO.out hb56
          obtain ⟨hbq, hrq⟩ := (H8.out.on hb56).res
          have hwq8 : w.heap.size ≤ g := Nat.le_trans H8.out.1.size hgw
          have hrg : w.heap.size + 1 ≠ g := by have := Blk.lt H8.out.2.2.1; omega
          have hrBq : w.heap.size + 1 ≠ Bq := by have := Blk.lt H8.out.2.2.1; have := hb6.size; omega
          have hwBq : w.heap.size ≤ Bq := by have := Blk.lt H8.out.2.2.1; have := hb6.size; omega
          obtain ⟨hpo1, -, -⟩ := hpoq.setRing hin2 hor HF.out.2.2.1
          obtain ⟨ad3, e3, -, -, x1⟩ := hpoq.hd hin2
          obtain rfl := Option.some.inj e3
          have f1 := hpoq.frz hin2
          rw [addr_at] at hpo1 x1 f1
          obtain ⟨V1, hV1⟩ : ∃ V1, wq.setCell ⟨g, i * 3 + 1, none⟩ (.slice Aw r.length cr) = V1 := ⟨_, rfl⟩
          simp only at hpo1 x1 f1
          rw [hV1] at hpo1
          have hk1 : ∀ j, j ≠ g → V1.heap[j]? = wq.heap[j]? := fun j hj => by rw [← hV1]; exact Below.heap_setCell _ _ _ j (by simpa using hj)
          have hQ1 : PlK V1 Bq A1 n1 c1 (some ⟨g, 0, none⟩) n2 c2 := (hk1 Bq (fun e' => hgq e'.symm)).trans hQ
          have hR1 : PlK V1 (w.heap.size + 1) none 0 0 none 0 0 := (hk1 _ hrg).trans hrq
          have hB1 : Below w.heap.size w V1 := by rw [← hV1]; exact hbq.setCell (p := ⟨g, i * 3 + 1, none⟩) hwq8 _
          obtain ⟨news, Ax, hA, hsrc, hlen, hone, hthere, W1, hW1, hrow8, hg8⟩ := del_prep hpo1.row (by rw [hpo1.len, hpo1.lenp]) hpo1.lenp hkn2
          obtain ⟨jn, hjn⟩ : ∃ j, j = k + 1 := ⟨_, rfl⟩
          rw [← hjn] at hA hlen
          have s1 := Lib.hid hlen
          have s2 := Lib.hid hone
          have s3 := Lib.hid hthere
          have s4 := Lib.hid hsrc
          have hWW := Lib.hid hW1
          have hcap := own_cap hpo1.row
          have hkc : k ≤ c2 := by omega
          have hnc : n2 ≤ c2 := hcap.1
          have hjc : jn ≤ c2 := by omega
          have hjn2 : jn ≤ n2 := by omega
          have hkj : k ≤ jn := by omega
          have hne : ¬ (k : Int) = (jn : Int) := by omega
          have hw1 : IntKind.i64.wrap ((k : Int) + 1) = (jn : Int) := by rw [IntKind.wrap_i64]; omega
          have hk8 : ∀ j, j < V1.heap.size → j ≠ g → W1.heap[j]? = V1.heap[j]? := fun j h1 h2 => hg8.block j h1 (fun e' => h2 (by cases e'; rfl))
          have hQ8 : PlK W1 Bq A1 n1 c1 (some ⟨g, 0, none⟩) n2 c2 := (hk8 Bq (Blk.lt hQ1) (fun e' => hgq e'.symm)).trans hQ1
          have hR8 : PlK W1 (w.heap.size + 1) none 0 0 none 0 0 := (hk8 _ (Blk.lt hR1) hrg).trans hR1
          have hB8 : Below w.heap.size w W1 := hB1.grown hg8 hB1.size (fun j e' => by have := Option.some.inj e'; omega)
          have hpo8 := hpo1.erase hkn2 hrow8 hg8 HF.out.2.2.2.1
          have hpo9 := hpo8.store hQ8 (by decide) (by decide) 1 (.slice (some ⟨g, 0, none⟩) (n2 - 1) c2)
          have hQ9 := Blk.set_ hQ8 1 (.slice (some ⟨g, 0, none⟩) (n2 - 1) c2)
          simp only [List.setIfInBounds_toArray, List.set_cons_zero, List.set_cons_succ] at hQ9
          have hR9 : PlK (W1.setCell ⟨Bq, 1, none⟩ (.slice (some ⟨g, 0, none⟩) (n2 - 1) c2)) (w.heap.size + 1) none 0 0 none 0 0 := (Below.heap_setCell _ _ _ _ (by simpa using hrBq)).trans hR8
          have hB9 := hB8.setCell (p := ⟨Bq, 1, none⟩) hwBq (.slice (some ⟨g, 0, none⟩) (n2 - 1) c2)
          obtain ⟨z1, z2, -⟩ := hQ8.facts
          have z3 := Blk.frozen hQ8 1
          obtain ⟨V2, hV2⟩ : ∃ V2, W1.setCell ⟨Bq, 1, none⟩ (.slice (some ⟨g, 0, none⟩) (n2 - 1) c2) = V2 := ⟨_, rfl⟩
          rw [hV2] at hpo9 hQ9 hR9 hB9
          have hpoQ : PlanOwn w.heap.size V2 A1 n1 c1 (some ⟨g, 0, none⟩) (n2 - 1) c2 Q ((hs.set i (Aw, r.length, cr)).eraseIdx k) := by rw [HF.out.2.2.2.2.1]; exact hpo9
          have kD := refDone_any Q A1 (some ⟨g, 0, none⟩) n1 c1 (n2 - 1) c2 V2 hpoQ.at_ (by omega) HF.out.2.2.2.2.2.2
          rw [HF.out.2.2.2.2.2.1] at kD
          have KD := Lib.hid kD
          have H9 := Lib.hid (And.intro hpoQ (And.intro hQ9 (And.intro hR9 hB9)))
          have HJN := Lib.hid hjn
          obtain ⟨q1, q2, q3⟩ := hQ.facts
          obtain ⟨y1, y2, y3⟩ := hQ1.facts
          go_upto_region 28 with fail
          rw [← hBq, ← hwq]
          clear hBq hwq hba hQ hpoq hb56 hor hbq hrq hpo1 e3 hk1 hQ1 hR1 hB1 kD hpo hb6 hn2 hgB hlen hone hthere hsrc hW1 hrow8 hg8 hcap hk8 hQ8 hR8 hB8 hpo8 hpo9 hQ9 hR9 hB9 hpoQ hjn
          go_upto_region 29 with fail
          go_cut [] (fun wx => wx = V2)
          case first =>
            go_region_law (refine step_append_room rfl (.tmp 120) (.tmp 125) 24 rfl 38 i1 3 Tryz.underlying24 hi1 hx1 g 0 k c2 (by simp [Act.eval, Act.put]) Ax (n2 - jn) (c2 - jn) news (by simp [Act.eval, Act.put]) s1.out s4.out s2.out (by omega) s3.out ?_; rw [← hWW.out])
            all_goals
              go_wp2_with fail
              go_meet
              rw [show k + (n2 - jn) = n2 - 1 by have := HJN.out; omega]
              exact hV2
          case rest =>
            obtain rfl : wc = V2 := hcut
            obtain ⟨hpoQ, hQ9, hR9, hB9⟩ := H9.out
            have hQ9' : PlK wc Bq A1 n1 c1 (some ⟨g, 0, none⟩) (n2 - 1) c2 := hQ9
            clear q1 q2 q3 y1 y2 y3
            obtain ⟨q1, q2, q3⟩ := hQ9'.facts
            have H10 := Lib.hid (And.intro hR9 hB9)
            clear hpoQ hQ9 hR9 hB9 hQ9' z1 z2 z3 hV2 x1 f1 hV1 H9
            go_wp2_with fail
            refine KD.out.mono ?_
            rintro e w9 ⟨A7, n7, c7, A8, n8, c8, hs9, rfl, hpo9, hb9⟩
            have hR10 := H10.out.1.on hb9
            obtain ⟨V, hV, r1, r2, hbV⟩ := res_store (g := w.heap.size + 1) (below_on H10.out.2 (Nat.le_refl _) hb9) (by omega) hR10 (.slice A7 n7 c7) (.slice A8 n8 c8)
            obtain ⟨s5, s6, f5, f6⟩ := plk_facts4 hR10
            have hpo := (hpo9.store hR10 (by decide) (by decide) 0 (.slice A7 n7 c7)).store (Blk.set_ hR10 0 (.slice A7 n7 c7)) (by decide) (by decide) 1 (.slice A8 n8 c8)
            rw [← hV] at hpo
            have HV := Lib.hid hV
            have HRR := Lib.hid (And.intro r1 (And.intro r2 (And.intro hbV hpo)))
            clear hV r1 r2 hbV hpo hpo9 hb9 hR10 H10 KD q1 q2 q3
            go_wp2_with fail
            rw [← HV.out]
            obtain ⟨r1, r2, hbV, hpo⟩ := HRR.out
            refine bodyPost_ret (v := .tuple #[planV A7 n7 c7 A8 n8 c8, .int .i64 (doneE Q)]) ?_ rfl ⟨A7, n7, c7, A8, n8, c8, by rw [HF.out.1], by rw [HF.out.2.1]; exact hpo.at_, hbV⟩
            simp [results, Tryz.results18, go_sem, r1, r2]
end Go.Proofs.YtgkcenhopmjmlaaGreat

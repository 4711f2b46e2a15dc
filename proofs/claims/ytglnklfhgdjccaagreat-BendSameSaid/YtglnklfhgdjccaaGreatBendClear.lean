/- bend.Clear: the walk. -/
import Derived.Test.YtglnklfhgdjccaaGreatBendMark
import Derived.Test.YtglnklfhgdjccaaGreatClear1
namespace Go.Proofs.YtglnklfhgdjccaaGreat
open Go.RowKit Go.Lib
theorem addr_zero (ad : Addr) : ad.add 0 = ad := by unfold Addr.add; split <;> simp_all
/-- Lies the point on each of the stretches, and are they all one? -/
def seenOK (q : Pt) (es : List Ed) : Prop := ∀ j, j < es.length → onB (edAt es j).a (edAt es j).b q = true ∧ edAt es j = edAt es 0
instance (q : Pt) (es : List Ed) : Decidable (seenOK q es) := by unfold seenOK; infer_instance
noncomputable def clearE (p : Plan) (q : Pt) : Int := if planB p = true then (if good q = true then (if hasC p.parcels q = true then (if seenOK q (seenK (clrF q) p p.parcels.length) then (if planB (eachP (clrG q) p) = true then 0 else 8) else 7) else 5) else 3) else 2
noncomputable def clearP (p : Plan) (q : Pt) : Plan := if clearE p q = 0 then eachP (clrG q) p else ⟨[], []⟩
theorem clearP_no {p : Plan} {q : Pt} {z : Int} (h : clearE p q = z) (h0 : z ≠ 0) : clearP p q = ⟨[], []⟩ := by unfold clearP; rw [if_neg (by rw [h]; exact h0)]
theorem goodL_one' (q : Pt) : goodL [q] = good q := by simp [goodL]
theorem clrG_len (q : Pt) (xs : List Pt) : (clrG q xs).length ≤ xs.length := by unfold clrG; split <;> simp [List.length_eraseIdx]; split <;> omega
theorem clrG_mem {q : Pt} {xs : List Pt} {r : Pt} (h : r ∈ clrG q xs) : r ∈ xs := by
  unfold clrG at h
  split at h
  · exact List.mem_of_mem_eraseIdx h
  · exact h
theorem clr_ok {p : Plan} {q : Pt} (hs : SoundP p) : ∀ xs, ringOf p xs → (clrG q xs).length ≤ 128 ∧ ∀ r ∈ clrG q xs, r.inI := fun xs hx => by
  obtain ⟨h1, h2, -⟩ := sound_ring hs hx
  exact ⟨Nat.le_trans (clrG_len q xs) h2, fun r hr => good_in2 (goodL_mem h1 (clrG_mem hr))⟩
theorem clrF_len (q : Pt) (xs : List Pt) : (clrF q xs).length ≤ 1 := by unfold clrF; split <;> simp
theorem besD_good {xs : List Pt} (h : goodL xs = true) (k : Nat) : good (besD xs k).norm.a = true ∧ good (besD xs k).norm.b = true := by
  have h1 : good (besD xs k).a = true := ptAt_good h _
  have h2 : good (besD xs k).b = true := ptAt_good h _
  unfold Ed.norm Ed.back
  split
  · exact ⟨h2, h1⟩
  · exact ⟨h1, h2⟩
theorem seen_good {p : Plan} {q : Pt} (hs : SoundP p) : ∀ e ∈ seenK (clrF q) p p.parcels.length, good e.a = true ∧ good e.b = true := by
  have hc : ∀ xs, ringOf p xs → ∀ e ∈ clrF q xs, good e.a = true ∧ good e.b = true := fun xs hx e he => by
    obtain ⟨h1, -⟩ := sound_ring hs hx
    unfold clrF at he
    split at he
    · rw [List.mem_singleton] at he
      subst he
      exact besD_good h1 _
    · simp at he
  intro e he
  unfold seenK at he
  rw [List.mem_append, List.mem_flatMap] at he
  rcases he with he | ⟨x, hx, he⟩
  · exact hc _ (.inl rfl) e he
  · exact hc _ (.inr ⟨x, List.mem_of_mem_take hx, rfl⟩) e he
set_option maxRecDepth 100000 in
set_option maxHeartbeats 1600000 in
theorem clear_any (p : Plan) (q : Pt) (A A' : Option Addr) (n c n' c' : Nat) (w : World) (h : PlanAt w w.heap.size A n c A' n' c' p) (hq : q.inI) :
    Calls Tryz.prog 48 #[planV A n c A' n' c', .agg #[.int .i64 q.x, .int .i64 q.y]] w (ResPostS (clearP p q) (clearE p q) w) := by
  obtain ⟨wa, hwa⟩ : ∃ wa : World, wa = ((w.alloc (.cells #[.slice A n c, .slice A' n' c'] 26)).alloc (.cells #[.int .i64 q.x, .int .i64 q.y] 43)).alloc (.cells #[.slice none 0 0, .slice none 0 0] 26) := ⟨_, rfl⟩
  have hB0 : Below w.heap.size w wa := by rw [hwa]; exact (((Below.refl _ _).alloc (Nat.le_refl _) _).alloc (by simp) _).alloc (by simp; omega) _
  have hX : PlK wa w.heap.size A n c A' n' c' := by rw [hwa]; exact Blk.alloc (Blk.alloc (PlK.new w A n c A' n' c') _) _
  have hY : PtK wa (w.heap.size + 1) q := by
    have := PtK.new (w.alloc (.cells #[.slice A n c, .slice A' n' c'] 26)) q
    rw [World.size_alloc] at this
    rw [hwa]
    exact Blk.alloc this _
  have hZ : PlK wa (w.heap.size + 1 + 1) none 0 0 none 0 0 := by
    have := PlK.new ((w.alloc (.cells #[.slice A n c, .slice A' n' c'] 26)).alloc (.cells #[.int .i64 q.x, .int .i64 q.y] 43)) none 0 0 none 0 0
    rw [World.size_alloc, World.size_alloc] at this
    rw [hwa]
    exact this
  have hP := h.below hB0
  have hba : Below wa.heap.size wa (wa.alloc (.cells #[.int .i64 q.x, .int .i64 q.y] 43)) := (Below.refl _ _).alloc (Nat.le_refl _) _
  have KB := Lib.hid (bendBegin_any p [q] A A' (some ⟨wa.heap.size, 0, none⟩) n c n' c' 1 1 _ ((hP.more hB0.size).on hba) (Reads.made wa #[.int .i64 q.x, .int .i64 q.y] 43 (0, 0) 2 1 (ptsV [q]) rfl rfl) (by omega) (fun r hr => by rw [List.mem_singleton] at hr; rw [hr]; exact hq))
  obtain ⟨q1, q2, q3⟩ := hX.facts
  obtain ⟨r1, r2, -, -, -⟩ := hY.facts
  have H := Lib.hid (And.intro (And.intro (below_on hB0 (Nat.le_refl _) hba) (hZ.on hba)) (And.intro (hX.on hba) (And.intro (show PtK _ (w.heap.size + 1) q from Blk.below hY hba (Blk.lt hY)) ((hP.more hB0.size).on hba))))
  have HE : Hid (clearE p q = if planB p = true then (if good q = true then (if hasC p.parcels q = true then (if seenOK q (seenK (clrF q) p p.parcels.length) then (if planB (eachP (clrG q) p) = true then 0 else 8) else 7) else 5) else 3) else 2) := by show _ = _; unfold clearE; rfl
  have HB : Hid (bendE p [q] = if planB p = true then (if good q = true then 0 else 3) else 2) := by show _ = _; unfold bendE; rw [goodL_one']
  have HPW := Lib.hid h
  clear hB0 hX hY hZ hP h hba hq
  go_enter Tryz.func48, Tryz.ntmps48
  go_upto_region 1 with fail
  rw [← hwa]
  clear hwa
  go_wp2_with fail
  refine KB.out.mono ?_
  rintro e w1 ⟨rfl, hb⟩
  have H' := Lib.hid (And.intro (And.intro (below_on H.out.1.1 (Nat.le_refl _) hb) (H.out.1.2.on hb)) (And.intro (H.out.2.1.on hb) (And.intro (show PtK w1 (w.heap.size + 1) q from Blk.below H.out.2.2.1 hb (Blk.lt H.out.2.2.1)) (H.out.2.2.2.on hb))))
  have HR := Lib.hid H'.out.1
  clear hb H
  have H := H'
  clear H'
  clear KB q1 q2 q3 r1 r2
  rcases hpb : planB p with _ | _
  · rw [hpb] at HB HE
    have hbe : bendE p [q] = 2 := HB.out
    have hme : clearE p q = 2 := HE.out
    rw [hbe]
    have HM := Lib.hid hme
    clear HB HE hbe hme hpb H
    obtain ⟨V, hV, r1, r2, hbV⟩ := res_store (g := w.heap.size + 1 + 1) HR.out.1 (by omega) HR.out.2 (.slice none 0 0) (.slice none 0 0)
    obtain ⟨s1, s2, f1, f2⟩ := plk_facts4 HR.out.2
    have HV := Lib.hid hV
    have HR := Lib.hid (And.intro r1 (And.intro r2 hbV))
    clear hV r1 r2 hbV
    go_wp2_with fail
    rw [← HV.out]
    obtain ⟨r1, r2, hbV⟩ := HR.out
    refine bodyPost_ret (v := .tuple #[planV none 0 0 none 0 0, .int .i64 2]) ?_ rfl (by rw [HM.out]; exact resPostS_no (clearP_no HM.out (by decide)) hbV)
    simp [results, Tryz.results48, go_sem, r1, r2]
  rw [hpb, if_pos rfl] at HB HE
  have HS := Lib.hid (planB_sound hpb)
  rcases hgd : good q with _ | _
  · rw [hgd] at HB HE
    have hbe : bendE p [q] = 3 := HB.out
    have hme : clearE p q = 3 := HE.out
    rw [hbe]
    have HM := Lib.hid hme
    clear HB HE hbe hme hpb hgd H
    obtain ⟨V, hV, r1, r2, hbV⟩ := res_store (g := w.heap.size + 1 + 1) HR.out.1 (by omega) HR.out.2 (.slice none 0 0) (.slice none 0 0)
    obtain ⟨s1, s2, f1, f2⟩ := plk_facts4 HR.out.2
    have HV := Lib.hid hV
    have HR := Lib.hid (And.intro r1 (And.intro r2 hbV))
    clear hV r1 r2 hbV
    go_wp2_with fail
    rw [← HV.out]
    obtain ⟨r1, r2, hbV⟩ := HR.out
    refine bodyPost_ret (v := .tuple #[planV none 0 0 none 0 0, .int .i64 3]) ?_ rfl (by rw [HM.out]; exact resPostS_no (clearP_no HM.out (by decide)) hbV)
    simp [results, Tryz.results48, go_sem, r1, r2]
  rw [hgd, if_pos rfl] at HB HE
  have hbe : bendE p [q] = 0 := HB.out
  rw [hbe]
  have HG := Lib.hid hgd
  clear HB hbe hpb hgd
  obtain ⟨q1, q2, q3⟩ := H.out.2.1.facts
  obtain ⟨r1, r2, -, -, -⟩ := PtK.facts H.out.2.2.1
  have KH := Lib.hid (has_any p q A A' n c n' c' w1 H.out.2.2.2)
  go_wp2_with fail
  refine KH.out.mono ?_
  rintro e w2 ⟨rfl, hb⟩
  clear HR
  have H' := Lib.hid (And.intro (And.intro (below_on H.out.1.1 (Nat.le_refl _) hb) (H.out.1.2.on hb)) (And.intro (H.out.2.1.on hb) (And.intro (show PtK w2 (w.heap.size + 1) q from Blk.below H.out.2.2.1 hb (Blk.lt H.out.2.2.1)) (H.out.2.2.2.on hb))))
  have HR := Lib.hid H'.out.1
  clear hb H
  have H := H'
  clear H'
  clear KH q1 q2 q3 r1 r2
  rcases hh1 : hasC p.parcels q with _ | _
  · rw [hh1] at HE
    have hme : clearE p q = 5 := HE.out
    have HM := Lib.hid hme
    clear HE hme hh1 H
    obtain ⟨V, hV, r1, r2, hbV⟩ := res_store (g := w.heap.size + 1 + 1) HR.out.1 (by omega) HR.out.2 (.slice none 0 0) (.slice none 0 0)
    obtain ⟨s1, s2, f1, f2⟩ := plk_facts4 HR.out.2
    have HV := Lib.hid hV
    have HR := Lib.hid (And.intro r1 (And.intro r2 hbV))
    clear hV r1 r2 hbV
    go_wp2_with fail
    rw [← HV.out]
    obtain ⟨r1, r2, hbV⟩ := HR.out
    refine bodyPost_ret (v := .tuple #[planV none 0 0 none 0 0, .int .i64 5]) ?_ rfl (by rw [HM.out]; exact resPostS_no (clearP_no HM.out (by decide)) hbV)
    simp [results, Tryz.results48, go_sem, r1, r2]
  rw [hh1, if_pos rfl] at HE
  clear hh1
  obtain ⟨w3, hw3⟩ : ∃ w3 : World, w3 = w2.alloc (.cells #[.slice none 0 0] 46) := ⟨_, rfl⟩
  have hb : Below w2.heap.size w2 w3 := by rw [hw3]; exact (Below.refl _ _).alloc (Nat.le_refl _) _
  obtain ⟨bs, hbs⟩ : ∃ bs, bs = w2.heap.size := ⟨_, rfl⟩
  have hse : SeenS bs w3 [] := ⟨none, 0, 0, by rw [hw3, hbs]; exact Blk.new _ _ _, World.ownsRow_nil _ _ _ _⟩
  have hlt : w.heap.size + 1 + 1 < bs ∧ bs < w3.heap.size := by
    have := Blk.lt H.out.1.2
    rw [hw3, hbs, World.size_alloc]
    omega
  clear HR
  have H' := Lib.hid (And.intro (And.intro (below_on H.out.1.1 (Nat.le_refl _) hb) (H.out.1.2.on hb)) (And.intro (H.out.2.1.on hb) (And.intro (show PtK w3 (w.heap.size + 1) q from Blk.below H.out.2.2.1 hb (Blk.lt H.out.2.2.1)) (H.out.2.2.2.on hb))))
  have HR := Lib.hid H'.out.1
  clear hb H
  have H := H'
  clear H'
  obtain ⟨q1, q2, q3⟩ := H.out.2.1.facts
  have hpf := HPW.out.below H.out.1.1
  have KI := Lib.hid (eachClr_any (w.heap.size + 1) bs (clrG q) (clrF q) w.heap.size p A A' n c n' c' w3 hpf (by omega) hlt.2 hse (fun xs => clrF_len q xs) (each_fits hpf.fits fun xs hx => ⟨by have := (clr_ok HS.out (q := q) xs hx).1; omega, (clr_ok HS.out xs hx).2⟩) (fun xs hx => by have := (clr_ok HS.out (q := q) xs hx).1; omega) (by have := (listed_bd HS.out.1).2.1; have := hpf.lens.2.1; omega)
    (fun V xs B m cap es hV hes hl hr hm hc hx => clear1_any (w.heap.size + 1) bs w.heap.size q es xs B m cap V hr hm hc (by have := (sound_ring HS.out hx).2.1; have := hr.lenPt; omega) (by omega) (Blk.kp H.out.2.2.1 hV (by omega) (by decide)) hes hl))
  obtain ⟨Q, hQ⟩ : ∃ Q, Q = eachP (clrG q) p := ⟨_, rfl⟩
  obtain ⟨es, hes⟩ : ∃ es, es = seenK (clrF q) p p.parcels.length := ⟨_, rfl⟩
  rw [← hQ, ← hes] at KI
  rw [← hQ, ← hes] at HE
  have hgs : ∀ e ∈ es, good e.a = true ∧ good e.b = true := by rw [hes]; exact seen_good HS.out
  have hel : es.length ≤ 1048577 := by
    have h1 := seenK_len (p := p) (fun xs => clrF_len q xs) p.parcels.length
    have h2 := (listed_bd HS.out.1).2.1
    rw [hes]
    omega
  have HP := Lib.hid (And.intro hQ (And.intro hgs (And.intro hel hlt)))
  have HZW : Hid (w.heap.size ≤ w3.heap.size) := H.out.1.1.size
  clear hQ hes hgs hel hpf hse
  go_upto_region 7 with fail
  rw [← hw3, ← hbs]
  clear hw3 hbs
  go_wp2_with fail
  refine KI.out.mono ?_
  rintro e w5 ⟨A1, n1, c1, A2, n2, c2, hs, rfl, hpo, hkp, hse⟩
  obtain ⟨hQ, hgs, hel, hlt⟩ := HP.out
  obtain ⟨w6, hw6⟩ : ∃ w6, w6 = w5.alloc (.cells #[.slice A1 n1 c1, .slice A2 n2 c2] 26) := ⟨_, rfl⟩
  have hba : Below w5.heap.size w5 w6 := by rw [hw6]; exact (Below.refl _ _).alloc (Nat.le_refl _) _
  have hbx : PlK w6 w5.heap.size A1 n1 c1 A2 n2 c2 := by rw [hw6]; exact PlK.new w5 A1 n1 c1 A2 n2 c2
  obtain ⟨Bq, hBq⟩ : ∃ Bq, Bq = w5.heap.size := ⟨_, rfl⟩
  rw [← hBq] at hbx
  have hk6 := hkp.trans (KpE.of hba)
  obtain ⟨As, ns, cs, hsb, hsr⟩ := hse.below hba
  have hnl : es.length = ns := (Reads.of_own hsr).lenEd
  have h6 := below_on H.out.1.1 (Nat.le_refl _) (Below.refl w3.heap.size w3)
  have hW6 : Below w.heap.size w w6 := H.out.1.1.trans (hk6.below H.out.1.1.size (by omega))
  have H6 := Lib.hid (And.intro (And.intro hW6 (show PlK w6 (w.heap.size + 1 + 1) none 0 0 none 0 0 from Blk.kp H.out.1.2 hk6 (by omega) (by decide))) (And.intro hbx (And.intro (show PtK w6 (w.heap.size + 1) q from Blk.kp H.out.2.2.1 hk6 (by omega) (by decide)) (And.intro (hpo.below hba) (And.intro hsb hsr)))))
  have HR6 := Lib.hid H6.out.1
  have HN := Lib.hid (And.intro hnl hgs)
  have hns : ns ≤ 1048577 := by omega
  obtain ⟨s1, -⟩ : w6.cell? ⟨bs, 0, none⟩ = some (.slice As ns cs) ∧ True := ⟨by rw [Blk.cell hsb]; rfl, trivial⟩
  clear hpo hkp hse hba hbx hk6 hsb hsr hnl h6 hW6 hQ hgs hel H KI q1 q2 q3 HR
  go_upto_region 8 with fail
  rw [← hw6, ← hBq]
  clear hw6 hBq
  go_wp2_with fail
  clear s1
  go_loopw [31] (fun i wr => ∃ k : Nat, k ≤ ns ∧ i = .int .i64 (k : Int) ∧ (∀ j, j < k → onB (edAt es j).a (edAt es j).b q = true ∧ edAt es j = edAt es 0) ∧ Below w6.heap.size w6 wr) (fun i _ => ns - (intOf i).toNat)
  case atStart => exact ⟨0, Nat.zero_le _, rfl, fun j hj => absurd hj (Nat.not_lt_zero _), Below.refl _ _⟩
  case round =>
    obtain ⟨k, hk, rfl, hdone, hbw⟩ := hrel
    by_cases hlt2 : k < ns
    · have hlt' : (k : Int) < (ns : Int) := by omega
      have hw1 : IntKind.i64.wrap ((k : Int) + 1) = (k : Int) + 1 := by rw [IntKind.wrap_i64]; omega
      obtain ⟨-, -, hqb, hpo, hsb, hsr⟩ := H6.out
      obtain ⟨ad, rfl⟩ : ∃ ad, As = some ad := by
        obtain ⟨ad, e, -⟩ := (Reads.of_own hsr).2 (by omega)
        exact ⟨ad, e⟩
      have hrd := (Reads.of_own hsr).on hbw
      obtain ⟨_, e1, hadb, p1, p2, p3, p4⟩ := hrd.edA hlt2
      cases e1
      obtain ⟨_, e1, -, z1, z2, z3, z4⟩ := hrd.edA (show 0 < ns by omega)
      cases e1
      have hke : k < es.length := by have := HN.out.1; omega
      obtain ⟨e, he⟩ : ∃ e, e = edAt es k := ⟨_, rfl⟩
      obtain ⟨f, hf⟩ : ∃ f, f = edAt es 0 := ⟨_, rfl⟩
      have hge : good e.a = true ∧ good e.b = true := HN.out.2 e (by rw [he, edAt_lt hke]; exact List.getElem_mem _)
      rw [← he] at p1 p2 p3 p4
      rw [← hf] at z1 z2 z3 z4
      obtain ⟨we, hwe⟩ : ∃ we : World, we = wr.alloc (.cells #[.int .i64 e.a.x, .int .i64 e.a.y, .int .i64 e.b.x, .int .i64 e.b.y] 45) := ⟨_, rfl⟩
      have hbe : Below wr.heap.size wr we := by rw [hwe]; exact (Below.refl _ _).alloc (Nat.le_refl _) _
      obtain ⟨Be, hBe⟩ : ∃ Be, Be = wr.heap.size := ⟨_, rfl⟩
      have hEb : Blk we Be 45 #[.int .i64 e.a.x, .int .i64 e.a.y, .int .i64 e.b.x, .int .i64 e.b.y] := by rw [hwe, hBe]; exact Blk.new _ _ _
      have hqw : PtK wr (w.heap.size + 1) q := Blk.below hqb hbw (Blk.lt hqb)
      have hqe : PtK we (w.heap.size + 1) q := Blk.below hqw hbe (Blk.lt hqw)
      have hse : we.cell? ⟨bs, 0, none⟩ = some (.slice (some ad) ns cs) := by
        rw [(below_on hbw (Nat.le_refl _) hbe).cell (p := ⟨bs, 0, none⟩) (Blk.lt hsb), Blk.cell hsb]; rfl
      have kO := Lib.hid (onW_any e.a e.b q we hge.1 hge.2 HG.out)
      have HT := Lib.hid (And.intro hbw (And.intro hbe (And.intro hEb (And.intro hqe (And.intro he (And.intro hf (And.intro hdone hke)))))))
      have HZc := Lib.hid (And.intro z1 (And.intro z2 (And.intro z3 (And.intro z4 (And.intro hse hadb)))))
      clear hbw hdone hqb hpo hsb hsr hrd hge hqw hse hbe hke z1 z2 z3 z4 he hf
      go_upto_region 11 with fail
      rw [← hwe, ← hBe]
      clear p1 p2 p3 p4
      have e0 := Blk.cell hEb 0
      have e1 := Blk.cell hEb 1
      have e2 := Blk.cell hEb 2
      have e3 := Blk.cell hEb 3
      obtain ⟨r1, r2, -, -, -⟩ := hqe.facts
      simp only [List.getElem?_toArray, List.getElem?_cons_zero, List.getElem?_cons_succ] at e0 e1 e2 e3
      clear hwe hBe hqe hEb hadb
      go_wp2_with fail
      refine kO.out.mono ?_
      rintro x w7 ⟨rfl, hb7⟩
      clear e0 e1 e2 e3 r1 r2 kO
      obtain ⟨hbw, hbe, hEb, hqe, he, hf, hdone, hke⟩ := HT.out
      obtain ⟨z1, z2, z3, z4, hse, hadb⟩ := HZc.out
      have hbz : Below wr.heap.size wr w7 := hbe.trans (hb7.mono hbe.size)
      have hE7 : Blk w7 Be 45 #[.int .i64 e.a.x, .int .i64 e.a.y, .int .i64 e.b.x, .int .i64 e.b.y] := Blk.below hEb hb7 (Blk.lt hEb)
      have hP0 : w7.drew.cell? ⟨Be, 0, none⟩ = some (.int .i64 e.a.x) ∧ w7.drew.cell? ⟨Be, 1, none⟩ = some (.int .i64 e.a.y) ∧ w7.drew.cell? ⟨Be, 2, none⟩ = some (.int .i64 e.b.x) ∧ w7.drew.cell? ⟨Be, 3, none⟩ = some (.int .i64 e.b.y) ∧ w7.drew.cell? ⟨bs, 0, none⟩ = some (.slice (some ad) ns cs) ∧ w7.drew.cell? ad = some (.int .i64 f.a.x) ∧ w7.drew.cell? ⟨ad.block, ad.off + 1, none⟩ = some (.int .i64 f.a.y) ∧ w7.drew.cell? ⟨ad.block, ad.off + 2, none⟩ = some (.int .i64 f.b.x) ∧ w7.drew.cell? ⟨ad.block, ad.off + 3, none⟩ = some (.int .i64 f.b.y) := by
        have hsl : bs < we.heap.size := Nat.lt_of_lt_of_le (Blk.lt H6.out.2.2.2.2.1) (Nat.le_trans hbw.size hbe.size)
        have g1 := Blk.cell hE7 0
        have g2 := Blk.cell hE7 1
        have g3 := Blk.cell hE7 2
        have g4 := Blk.cell hE7 3
        have k : ∀ {a : Addr} {v : Value}, a.block < wr.heap.size → wr.cell? a = some v → w7.cell? a = some v := fun {a v} ha hv => (hbz.cell (p := a) (by omega)).trans hv
        rw [Nat.zero_mul, addr_zero] at z1 z2 z3 z4
        exact ⟨g1, g2, g3, g4, (hb7.cell (p := ⟨bs, 0, none⟩) hsl).trans hse, k hadb z1, k hadb z2, k hadb z3, k hadb z4⟩
      have hW7 : Below w6.heap.size w6 w7.drew := below_on hbw (Nat.le_refl _) (hbz.trans (Below.refl _ _).drew)
      have HR := Lib.hid (And.intro (below_on H6.out.1.1 (Nat.le_refl _) hW7) (H6.out.1.2.on hW7))
      have HK := Lib.hid (And.intro hW7 (And.intro hdone hke))
      have HEF := Lib.hid (And.intro he hf)
      have hns0 : 0 < ns := by omega
      have hns1 : (0 : Int) < (ns : Int) := by omega
      clear hbw hbe hEb hqe hdone hke z1 z2 z3 z4 hse hadb hbz hE7 hW7 hb7 he hf HZc HT
      rcases hob : onB e.a e.b q with _ | _
      · have hME : clearE p q = 7 := by
          rw [HE.out, if_neg]
          intro hs7
          have := (hs7 k HK.out.2.2).1
          rw [← HEF.out.1, hob] at this
          cases this
        have HM := Lib.hid hME
        clear hME HE hob
        go_upto_region 12 with fail
        refine wp_region_held_drew (S := fun V => V.cell? ⟨Be, 0, none⟩ = some (.int .i64 e.a.x) ∧ V.cell? ⟨Be, 1, none⟩ = some (.int .i64 e.a.y) ∧ V.cell? ⟨Be, 2, none⟩ = some (.int .i64 e.b.x) ∧ V.cell? ⟨Be, 3, none⟩ = some (.int .i64 e.b.y) ∧ V.cell? ⟨bs, 0, none⟩ = some (.slice (some ad) ns cs) ∧ V.cell? ad = some (.int .i64 f.a.x) ∧ V.cell? ⟨ad.block, ad.off + 1, none⟩ = some (.int .i64 f.a.y) ∧ V.cell? ⟨ad.block, ad.off + 2, none⟩ = some (.int .i64 f.b.x) ∧ V.cell? ⟨ad.block, ad.off + 3, none⟩ = some (.int .i64 f.b.y)) (by kernel_rfl) ?_ (fun hHeld => ?_)
        · exact hP0
        refine tk 0 ?_
        refine tk 1 ?_
        refine tk 2 ?_
        refine tu 3 ?_
        refine tu 4 ?_
        refine tu 5 ?_
        refine tu 6 ?_
        refine tu 7 ?_
        refine tk 8 ?_
        refine wpAnyH_done (by kernel_rfl) ?_ _
        obtain ⟨w8, hw8⟩ : ∃ V, V = w7.drew := ⟨_, rfl⟩
        rw [← hw8] at HR HK ⊢
        clear hP0 hHeld hw8
        obtain ⟨V, hV, r1, r2, hbV⟩ := res_store (g := w.heap.size + 1 + 1) HR.out.1 (by omega) HR.out.2 (.slice none 0 0) (.slice none 0 0)
        obtain ⟨s1, s2, f1, f2⟩ := plk_facts4 HR.out.2
        have HV := Lib.hid hV
        have HR := Lib.hid (And.intro r1 (And.intro r2 hbV))
        clear hV r1 r2 hbV
        go_wp2_with fail
        rw [← HV.out]
        obtain ⟨r1, r2, hbV⟩ := HR.out
        refine bodyPost_ret (v := .tuple #[planV none 0 0 none 0 0, .int .i64 7]) ?_ rfl (by rw [HM.out]; exact resPostS_no (clearP_no HM.out (by decide)) hbV)
        simp [results, Tryz.results48, go_sem, r1, r2]
      · have hnr := neqEd_runs e f
        unfold encE at hnr
        go_upto_region 12 with fail
        refine wp_region_held_drew (S := fun V => V.cell? ⟨Be, 0, none⟩ = some (.int .i64 e.a.x) ∧ V.cell? ⟨Be, 1, none⟩ = some (.int .i64 e.a.y) ∧ V.cell? ⟨Be, 2, none⟩ = some (.int .i64 e.b.x) ∧ V.cell? ⟨Be, 3, none⟩ = some (.int .i64 e.b.y) ∧ V.cell? ⟨bs, 0, none⟩ = some (.slice (some ad) ns cs) ∧ V.cell? ad = some (.int .i64 f.a.x) ∧ V.cell? ⟨ad.block, ad.off + 1, none⟩ = some (.int .i64 f.a.y) ∧ V.cell? ⟨ad.block, ad.off + 2, none⟩ = some (.int .i64 f.b.x) ∧ V.cell? ⟨ad.block, ad.off + 3, none⟩ = some (.int .i64 f.b.y)) (by kernel_rfl) ?_ (fun hHeld => ?_)
        · exact hP0
        refine tk 0 ?_
        refine tk 1 ?_
        refine tk 2 ?_
        refine tk 3 ?_
        refine tk 4 ?_
        refine tk 5 ?_
        refine tk 6 ?_
        refine tk 7 ?_
        refine tk 8 ?_
        refine wpAnyH_done (by kernel_rfl) ?_ _
        obtain ⟨w8, hw8⟩ : ∃ V, V = w7.drew := ⟨_, rfl⟩
        rw [← hw8] at HR HK ⊢
        clear hP0 hHeld hnr hw8
        by_cases hef : e = f
        · rw [decide_eq_true hef]
          have hok : onB (edAt es k).a (edAt es k).b q = true ∧ edAt es k = edAt es 0 := by
            rw [← HEF.out.1, ← HEF.out.2]
            exact ⟨hob, hef⟩
          have HOK := Lib.hid hok
          clear hok hef hob
          go_wp2_with fail
          go_roundw
          case rel =>
            refine ⟨k + 1, by omega, by go_num, fun j hj => ?_, HK.out.1⟩
            rcases Nat.lt_or_ge j k with h | h
            · exact HK.out.2.1 j h
            · obtain rfl : j = k := by omega
              exact HOK.out
          case measure => simp [intOf]; omega
        · rw [decide_eq_false hef]
          have hME : clearE p q = 7 := by
            rw [HE.out, if_neg]
            intro hs7
            have := (hs7 k HK.out.2.2).2
            rw [← HEF.out.1, ← HEF.out.2] at this
            exact hef this
          have HM := Lib.hid hME
          clear hME HE hob hef
          obtain ⟨V, hV, r1, r2, hbV⟩ := res_store (g := w.heap.size + 1 + 1) HR.out.1 (by omega) HR.out.2 (.slice none 0 0) (.slice none 0 0)
          obtain ⟨s1, s2, f1, f2⟩ := plk_facts4 HR.out.2
          have HV := Lib.hid hV
          have HR := Lib.hid (And.intro r1 (And.intro r2 hbV))
          clear hV r1 r2 hbV
          go_wp2_with fail
          rw [← HV.out]
          obtain ⟨r1, r2, hbV⟩ := HR.out
          refine bodyPost_ret (v := .tuple #[planV none 0 0 none 0 0, .int .i64 7]) ?_ rfl (by rw [HM.out]; exact resPostS_no (clearP_no HM.out (by decide)) hbV)
          simp [results, Tryz.results48, go_sem, r1, r2]
    · obtain rfl : k = ns := by omega
      have hso : seenOK q es := fun j hj => hdone j (by have := HN.out.1; omega)
      rw [if_pos hso] at HE
      have H7 := Lib.hid (And.intro (And.intro (below_on H6.out.1.1 (Nat.le_refl _) hbw) (H6.out.1.2.on hbw)) (And.intro (H6.out.2.1.on hbw) (H6.out.2.2.2.1.below hbw)))
      obtain ⟨q1, q2, q3⟩ := H7.out.2.1.facts
      have KD := Lib.hid (bendDone_any Q A1 A2 n1 c1 n2 c2 wr H7.out.2.2.at_)
      clear hso hdone hbw HR6
      go_wp2_with fail
      refine KD.out.mono ?_
      rintro x w8 ⟨hyes, hno, hb8⟩
      have H8 := Lib.hid (And.intro (And.intro (below_on H7.out.1.1 (Nat.le_refl _) hb8) (H7.out.1.2.on hb8)) (H7.out.2.2.below hb8))
      have HR8 := Lib.hid H8.out.1
      clear hb8 H7 KD q1 q2 q3
      rcases hpb : planB Q with _ | _
      · obtain rfl := hno hpb
        rw [hpb] at HE
        have hme : clearE p q = 8 := HE.out
        have HM := Lib.hid hme
        clear HE hme hpb H8 hyes hno
        obtain ⟨V, hV, r1, r2, hbV⟩ := res_store (g := w.heap.size + 1 + 1) HR8.out.1 (by omega) HR8.out.2 (.slice none 0 0) (.slice none 0 0)
        obtain ⟨s1, s2, f1, f2⟩ := plk_facts4 HR8.out.2
        have HV := Lib.hid hV
        have HR := Lib.hid (And.intro r1 (And.intro r2 hbV))
        clear hV r1 r2 hbV
        go_wp2_with fail
        rw [← HV.out]
        obtain ⟨r1, r2, hbV⟩ := HR.out
        refine bodyPost_ret (v := .tuple #[planV none 0 0 none 0 0, .int .i64 8]) ?_ rfl (by rw [HM.out]; exact resPostS_no (clearP_no HM.out (by decide)) hbV)
        simp [results, Tryz.results48, go_sem, r1, r2]
      · obtain rfl := hyes hpb
        rw [hpb] at HE
        have hme : clearE p q = 0 := HE.out
        have hmp : clearP p q = Q := by unfold clearP; rw [if_pos hme, HP.out.1]
        have HM := Lib.hid (And.intro hme hmp)
        clear HE hme hmp hpb hyes hno
        obtain ⟨V, hV, r1, r2, hbV⟩ := res_store (g := w.heap.size + 1 + 1) HR8.out.1 (by omega) HR8.out.2 (.slice A1 n1 c1) (.slice A2 n2 c2)
        obtain ⟨s1, s2, f1, f2⟩ := plk_facts4 HR8.out.2
        have hpo := (H8.out.2.store HR8.out.2 (by decide) (by decide) 0 (.slice A1 n1 c1)).store (Blk.set_ HR8.out.2 0 (.slice A1 n1 c1)) (by decide) (by decide) 1 (.slice A2 n2 c2)
        rw [← hV] at hpo
        have HV := Lib.hid hV
        have HR := Lib.hid (And.intro r1 (And.intro r2 (And.intro hbV hpo)))
        clear hV r1 r2 hbV hpo
        go_wp2_with fail
        rw [← HV.out]
        obtain ⟨r1, r2, hbV, hpo⟩ := HR.out
        refine bodyPost_ret (v := .tuple #[planV A1 n1 c1 A2 n2 c2, .int .i64 0]) ?_ rfl ⟨A1, n1, c1, A2, n2, c2, hs, by rw [HM.out.1], by rw [HM.out.2]; exact hpo.mono HZW.out, hbV⟩
        simp [results, Tryz.results48, go_sem, r1, r2]
end Go.Proofs.YtglnklfhgdjccaaGreat

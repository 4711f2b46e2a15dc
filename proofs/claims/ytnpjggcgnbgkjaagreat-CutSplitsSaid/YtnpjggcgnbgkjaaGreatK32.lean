/- cut.Split: the model, and what a plan that is cut is made of: plain law; ref05.done and ref05.Mark: the walks; What two parcels come to: the words, and what the walks want of them; What a cut is made of: rings, corners, the parcels' order: plain law; ref05.Split: its rings begin anew at the end: plain law. -/
import Derived.Test.YtnpjggcgnbgkjaaGreatK17
import Derived.Test.YtnpjggcgnbgkjaaGreatK25
import Derived.Test.YtnpjggcgnbgkjaaGreatK28
import Derived.Test.YtnpjggcgnbgkjaaGreatK30
import Derived.Test.YtnpjggcgnbgkjaaGreatK31
namespace Go.Proofs.YtnpjggcgnbgkjaaGreat
def firstK (xs : List Pt) (s : Nat) (t : Pt) : Nat := (List.range xs.length).findIdx fun j => decide (ptAt xs ((s + j) % xs.length) = t)
/-- The corners from behind one to ahead of another. -/
def wayI (xs : List Pt) (f t : Pt) : List Pt := wayL xs ((idxPt xs f).toNat + 1) (firstK xs ((idxPt xs f).toNat + 1) t)
theorem firstK_eq {xs : List Pt} {s K : Nat} {t : Pt} (hK : K < xs.length) (h1 : ptAt xs ((s + K) % xs.length) = t) (h2 : ∀ j, j < K → ptAt xs ((s + j) % xs.length) ≠ t) : firstK xs s t = K := by
  unfold firstK
  rw [List.findIdx_eq (by rw [List.length_range]; exact hK)]
  refine ⟨by simp [h1], fun j hj => ?_⟩
  simp
  exact h2 j hj
theorem wayI_eq {xs : List Pt} {f t : Pt} {i K : Nat} (hi : idxPt xs f = (i : Int)) (hK : K < xs.length) (h1 : ptAt xs ((i + 1 + K) % xs.length) = t) (h2 : ∀ j, j < K → ptAt xs ((i + 1 + j) % xs.length) ≠ t) : wayI xs f t = wayL xs (i + 1) K := by
  unfold wayI
  rw [hi, Int.toNat_natCast, firstK_eq hK h1 h2]
/-- A plan with two corners more. -/
def spB (p : Plan) (a b : Pt) : Plan := eachP (insG b) (eachP (insG a) p)
def cutRing (p : Plan) (k : Nat) (a b : Pt) : List Pt := (pcAt (spB p a b).parcels k).ring
def path0 (path : List Pt) : Pt := ptAt path 0
def path1 (path : List Pt) : Pt := ptAt path (path.length - 1)
def partA (r path : List Pt) : List Pt := lst (path.reverse ++ wayI r (path0 path) (path1 path))
def partB (r path : List Pt) : List Pt := lst (path ++ wayI r (path1 path) (path0 path))
/-- A parcel more, by its number. -/
def putId (x : Parc) (ps : List Parc) : List Parc := ps.filter (fun y => decide (y.id < x.id)) ++ x :: ps.filter (fun y => decide (x.id < y.id))
def spQ (p : Plan) (k : Nat) (path : List Pt) (fresh : Int) : Plan :=
  ⟨(spB p (path0 path) (path1 path)).outer, putId ⟨fresh, partB (cutRing p k (path0 path) (path1 path)) path, (pcAt p.parcels k).owner⟩ (setR (spB p (path0 path) (path1 path)) k (partA (cutRing p k (path0 path) (path1 path)) path)).parcels⟩
noncomputable def spE (p : Plan) (id : Int) (path : List Pt) (fresh : Int) : Int :=
  if faultI p id path fresh ≠ 0 then faultI p id path fresh else if planB (spQ p (atP p.parcels id).toNat path fresh) = true then 0 else 8
noncomputable def spP (p : Plan) (id : Int) (path : List Pt) (fresh : Int) : Plan :=
  if spE p id path fresh = 0 then spQ p (atP p.parcels id).toNat path fresh else ⟨[], []⟩
theorem spP_no {p : Plan} {id fresh z : Int} {path : List Pt} (h : spE p id path fresh = z) (hz : z ≠ 0) : spP p id path fresh = ⟨[], []⟩ := by
  unfold spP
  rw [h, if_neg hz]
theorem spE_fault {p : Plan} {id fresh z : Int} {path : List Pt} (h : faultI p id path fresh = z) (hz : z ≠ 0) : spE p id path fresh = z := by
  unfold spE
  rw [h, if_pos hz]
end Go.Proofs.YtnpjggcgnbgkjaaGreat
namespace Go.Proofs.YtnpjggcgnbgkjaaGreat
open Go.RowKit Go.Lib
noncomputable def doneP (q : Plan) : Plan := if planB q = true then q else ⟨[], []⟩
noncomputable def doneE (q : Plan) : Int := if planB q = true then 0 else 8
set_option maxRecDepth 100000 in
set_option maxHeartbeats 1600000 in
theorem refDone_any (p : Plan) (A A' : Option Addr) (n c n' c' : Nat) (w : World) (h : PlanAt w w.heap.size A n c A' n' c' p) (hn : n' ≤ 1048576) (hg : ∀ xs, ringOf p xs → xs.length ≤ 1048576) :
    Calls Tryz.prog 57 #[planV A n c A' n' c'] w (ResPostS (doneP (mapG lst p)) (doneE (mapG lst p)) w) := by
  obtain ⟨wa, hwa⟩ : ∃ wa : World, wa = (w.alloc (.cells #[.slice A n c, .slice A' n' c'] 26)).alloc (.cells #[.slice none 0 0, .slice none 0 0] 26) := ⟨_, rfl⟩
  have hB0 : Below w.heap.size w wa := by rw [hwa]; exact ((Below.refl _ _).alloc (Nat.le_refl _) _).alloc (by simp) _
  have hX : PlK wa w.heap.size A n c A' n' c' := by rw [hwa]; exact Blk.alloc (PlK.new w A n c A' n' c') _
  have hZ : PlK wa (w.heap.size + 1) none 0 0 none 0 0 := by
    have := PlK.new (w.alloc (.cells #[.slice A n c, .slice A' n' c'] 26)) none 0 0 none 0 0
    rw [World.size_alloc] at this
    rw [hwa]
    exact this
  have KL := Lib.hid (refLeast_any p A A' n c n' c' wa (h.on hB0) hn hg)
  obtain ⟨q1, q2, q3⟩ := hX.facts
  have H0 := Lib.hid (And.intro hB0 hZ)
  obtain ⟨P, hP⟩ : ∃ P, P = mapG lst p := ⟨_, rfl⟩
  rw [← hP] at KL
  rw [← hP]
  clear hB0 hX hZ h hn hg hP
  go_enter Tryz.func57, Tryz.ntmps57
  go_upto_region 1 with fail
  rw [← hwa]
  clear hwa
  go_wp2_with fail
  refine KL.out.mono ?_
  rintro e w1 ⟨A1, n1, c1, A2, n2, c2, hs, rfl, hpo, hb1⟩
  obtain ⟨w2, hw2⟩ : ∃ w2, w2 = w1.alloc (.cells #[.slice A1 n1 c1, .slice A2 n2 c2] 26) := ⟨_, rfl⟩
  have hba : Below w1.heap.size w1 w2 := by rw [hw2]; exact (Below.refl _ _).alloc (Nat.le_refl _) _
  have hQ : PlK w2 w1.heap.size A1 n1 c1 A2 n2 c2 := by rw [hw2]; exact PlK.new w1 A1 n1 c1 A2 n2 c2
  obtain ⟨Bq, hBq⟩ : ∃ Bq, Bq = w1.heap.size := ⟨_, rfl⟩
  rw [← hBq] at hQ
  have hb2 := below_on hb1 (Nat.le_refl _) hba
  have H2 := Lib.hid (And.intro (And.intro (below_on H0.out.1 (Nat.le_refl _) hb2) (H0.out.2.on hb2)) (And.intro hQ ((hpo.below hba).mono H0.out.1.size)))
  clear hpo hba hQ hb1 hb2 H0 KL q1 q2 q3
  go_upto_region 2 with fail
  rw [← hw2, ← hBq]
  clear hw2 hBq
  obtain ⟨q1, q2, q3⟩ := H2.out.2.1.facts
  have KC := Lib.hid (checkPR_any P A1 A2 n1 c1 n2 c2 w2 H2.out.2.2.at_)
  go_wp2_with fail
  refine KC.out.mono ?_
  rintro e w3 ⟨rfl, hb3⟩
  have H3 := Lib.hid (And.intro (And.intro (below_on H2.out.1.1 (Nat.le_refl _) hb3) (H2.out.1.2.on hb3)) (And.intro (H2.out.2.1.on hb3) (H2.out.2.2.below hb3)))
  have HR3 := Lib.hid H3.out.1
  clear hb3 H2 KC q1 q2 q3
  rcases hpb : planB P with _ | _
  · have hd : doneE P = 8 ∧ doneP P = ⟨[], []⟩ := by unfold doneE doneP; rw [hpb]; exact ⟨rfl, rfl⟩
    have HD := Lib.hid hd
    clear hd hpb H3
    obtain ⟨V, hV, r1, r2, hbV⟩ := res_store (g := w.heap.size + 1) HR3.out.1 (by omega) HR3.out.2 (.slice none 0 0) (.slice none 0 0)
    obtain ⟨s1, s2, f1, f2⟩ := plk_facts4 HR3.out.2
    have HV := Lib.hid hV
    have HR := Lib.hid (And.intro r1 (And.intro r2 hbV))
    clear hV r1 r2 hbV
    go_wp2_with fail
    rw [← HV.out]
    obtain ⟨r1, r2, hbV⟩ := HR.out
    refine bodyPost_ret (v := .tuple #[planV none 0 0 none 0 0, .int .i64 8]) ?_ rfl (by rw [HD.out.1, HD.out.2]; exact resPostS_no rfl hbV)
    simp [results, Tryz.results57, go_sem, r1, r2]
  · have hd : doneE P = 0 ∧ doneP P = P := by unfold doneE doneP; rw [hpb]; exact ⟨rfl, rfl⟩
    have HD := Lib.hid hd
    clear hd hpb
    obtain ⟨q1, q2, q3⟩ := H3.out.2.1.facts
    obtain ⟨V, hV, r1, r2, hbV⟩ := res_store (g := w.heap.size + 1) HR3.out.1 (by omega) HR3.out.2 (.slice A1 n1 c1) (.slice A2 n2 c2)
    obtain ⟨s1, s2, f1, f2⟩ := plk_facts4 HR3.out.2
    have hpo := (H3.out.2.2.store HR3.out.2 (by decide) (by decide) 0 (.slice A1 n1 c1)).store (Blk.set_ HR3.out.2 0 (.slice A1 n1 c1)) (by decide) (by decide) 1 (.slice A2 n2 c2)
    rw [← hV] at hpo
    have HV := Lib.hid hV
    have HR := Lib.hid (And.intro r1 (And.intro r2 (And.intro hbV hpo)))
    clear hV r1 r2 hbV hpo
    go_wp2_with fail
    rw [← HV.out]
    obtain ⟨r1, r2, hbV, hpo⟩ := HR.out
    refine bodyPost_ret (v := .tuple #[planV A1 n1 c1 A2 n2 c2, .int .i64 0]) ?_ rfl ⟨A1, n1, c1, A2, n2, c2, hs, by rw [HD.out.1], by rw [HD.out.2]; exact hpo, hbV⟩
    simp [results, Tryz.results57, go_sem, r1, r2]
end Go.Proofs.YtnpjggcgnbgkjaaGreat
namespace Go.Proofs.YtnpjggcgnbgkjaaGreat
open Go.RowKit
theorem setR_len (p : Plan) (i : Nat) (r : List Pt) : (setR p i r).parcels.length = p.parcels.length := by unfold setR; simp
end Go.Proofs.YtnpjggcgnbgkjaaGreat
namespace Go.Proofs.YtnpjggcgnbgkjaaGreat
theorem listN_pw {ps : List Parc} : ∀ {n : Nat} {last : Int}, listN n last ps = true → ps.Pairwise (fun x y => x.id < y.id) ∧ ∀ x ∈ ps, last < x.id := by
  induction ps with
  | nil => intro n last _; exact ⟨.nil, fun x hx => absurd hx List.not_mem_nil⟩
  | cons y ps ih =>
    intro n last h
    rw [listN_cons] at h
    simp only [Bool.and_eq_true, decide_eq_true_eq] at h
    obtain ⟨h1, h2, h3, h4, h5⟩ := h
    obtain ⟨k1, k2⟩ := ih h5
    refine ⟨List.pairwise_cons.2 ⟨k2, k1⟩, fun x hx => ?_⟩
    rcases List.mem_cons.1 hx with rfl | hx
    · exact h2
    · have := k2 x hx; omega
theorem listed_pw {p : Plan} (h : listedB p = true) : p.parcels.Pairwise (fun x y => x.id < y.id) := by
  unfold listedB at h
  rw [Bool.and_eq_true] at h
  exact (listN_pw h.1).1
theorem pw_inj {ps : List Parc} (h : ps.Pairwise (fun x y => x.id < y.id)) {x y : Parc} (hx : x ∈ ps) (hy : y ∈ ps) (e : x.id = y.id) : x = y := by
  obtain ⟨i, hi, rfl⟩ := List.getElem_of_mem hx
  obtain ⟨j, hj, rfl⟩ := List.getElem_of_mem hy
  have hp := List.pairwise_iff_getElem.1 h
  rcases Nat.lt_trichotomy i j with h1 | h1 | h1
  · have := hp i j hi hj h1; omega
  · subst h1; rfl
  · have := hp j i hj hi h1; omega
theorem putId_perm {x : Parc} {ps : List Parc} (hx : ∀ y ∈ ps, y.id ≠ x.id) : (putId x ps).Perm (ps ++ [x]) := by
  unfold putId
  refine (List.perm_middle).trans ?_
  refine List.Perm.trans (.cons _ ?_) (List.perm_append_singleton x ps).symm
  have e : ps.filter (fun y => decide (x.id < y.id)) = ps.filter (fun y => !decide (y.id < x.id)) := List.filter_congr fun y hy => by
    have := hx y hy
    by_cases h : y.id < x.id
    · rw [decide_eq_true h, decide_eq_false (by omega)]; rfl
    · rw [decide_eq_false h, decide_eq_true (by omega)]; rfl
  rw [e]
  exact List.filter_append_perm _ ps
theorem putId_pw {x : Parc} {ps : List Parc} (hp : ps.Pairwise (fun x y => x.id < y.id)) : (putId x ps).Pairwise (fun x y => x.id < y.id) := by
  unfold putId
  rw [List.pairwise_append]
  refine ⟨hp.filter _, List.pairwise_cons.2 ⟨fun y hy => by simpa using (List.mem_filter.1 hy).2, hp.filter _⟩, fun y hy z hz => ?_⟩
  have h1 : y.id < x.id := by simpa using (List.mem_filter.1 hy).2
  rcases List.mem_cons.1 hz with rfl | hz
  · exact h1
  · have h2 : x.id < z.id := by simpa using (List.mem_filter.1 hz).2
    omega
theorem put_uniq {x : Parc} {ps d : List Parc} (hp : ps.Pairwise (fun x y => x.id < y.id)) (hx : ∀ y ∈ ps, y.id ≠ x.id) (hd : d.Perm (ps ++ [x])) (hs : d.Pairwise (fun e f => ¬ f.id < e.id)) : d = putId x ps := by
  have h1 := putId_pw (x := x) hp
  have h2 := putId_perm hx
  refine List.Perm.eq_of_pairwise (fun a b ha hb u v => ?_) hs (h1.imp fun {a b} h => by omega) (hd.trans h2.symm)
  exact pw_inj h1 (h2.mem_iff.2 (hd.mem_iff.1 ha)) hb (by omega)
theorem goodL_of {xs : List Pt} (h : ∀ p ∈ xs, good p = true) : goodL xs = true := by unfold goodL; exact List.all_eq_true.2 h
theorem ins_good {xs : List Pt} {q : Pt} (h : goodL xs = true) (hq : good q = true) : goodL (lst (insG q xs)) = true := goodL_of fun p hp => by
  rcases insG_mem (lst_mem hp) with h1 | rfl
  · exact goodL_mem h h1
  · exact hq
theorem ins_rings {p : Plan} {a : Pt} {N : Nat} (hs : ∀ xs, ringOf p xs → goodL xs = true ∧ xs.length ≤ N) (ha : good a = true) : ∀ xs, ringOf (eachP (insG a) p) xs → goodL xs = true ∧ xs.length ≤ 2 * N := fun ys hy => by
  obtain ⟨xs, hx, rfl⟩ := ringOf_each hy
  obtain ⟨h1, h2⟩ := hs xs hx
  exact ⟨ins_good h1 ha, by rw [lst_len]; have := insG_len a xs; omega⟩
theorem cut_rings1 {p : Plan} {a : Pt} (hs : SoundP p) (ha : good a = true) : ∀ xs, ringOf (eachP (insG a) p) xs → goodL xs = true ∧ xs.length ≤ 256 :=
  ins_rings (N := 128) (fun xs hx => by obtain ⟨h1, h2, -⟩ := sound_ring hs hx; exact ⟨h1, h2⟩) ha
theorem cut_rings {p : Plan} {a b : Pt} (hs : SoundP p) (ha : good a = true) (hb : good b = true) : ∀ xs, ringOf (spB p a b) xs → goodL xs = true ∧ xs.length ≤ 512 :=
  ins_rings (N := 256) (cut_rings1 hs ha) hb
theorem spB_len (p : Plan) (a b : Pt) : (spB p a b).parcels.length = p.parcels.length := by unfold spB; rw [each_len, each_len]
theorem pcAt_spB {p : Plan} {a b : Pt} {k : Nat} (hk : k < p.parcels.length) : pcAt (spB p a b).parcels k = ⟨(pcAt p.parcels k).id, cutRing p k a b, (pcAt p.parcels k).owner⟩ := by
  have e : pcAt (spB p a b).parcels k = eachX (insG b) (eachX (insG a) (pcAt p.parcels k)) := by
    unfold spB
    rw [pcAt_each (by rw [each_len]; exact hk), pcAt_each hk]
  show _ = (⟨_, (pcAt (spB p a b).parcels k).ring, _⟩ : Parc)
  rw [e]
  rfl
theorem cutRing_eq {p : Plan} {a b : Pt} {k : Nat} (hk : k < p.parcels.length) : cutRing p k a b = lst (insG b (lst (insG a (pcAt p.parcels k).ring))) := by
  unfold cutRing spB
  rw [pcAt_each (by rw [each_len]; exact hk), pcAt_each hk]
  rfl
theorem path0_mem {path : List Pt} (h : 2 ≤ path.length) : path0 path ∈ path ∧ path1 path ∈ path := ⟨ptAt_mem (by omega), ptAt_mem (by omega)⟩
theorem pcAt_mem {ps : List Parc} {k : Nat} (hk : k < ps.length) : pcAt ps k ∈ ps := by rw [pcAt_lt hk]; exact List.getElem_mem hk
theorem cutRing_of {p : Plan} {a b : Pt} {k : Nat} (hk : k < p.parcels.length) : ringOf (spB p a b) (cutRing p k a b) := .inr ⟨_, pcAt_mem (by rw [spB_len]; exact hk), rfl⟩
/-- The point is on the ring's border. -/
def OnR (xs : List Pt) (q : Pt) : Prop := ∃ k, k < xs.length ∧ onB (ptAt xs k) (ptAt xs ((k + 1) % xs.length)) q = true
theorem side_on {xs : List Pt} {q : Pt} (h : sideI xs q = 0) : OnR xs q := Classical.byContradiction fun hn => by
  have hno : noneN xs q xs.length := fun i hi => by
    cases hb : onE xs q i with
    | false => rfl
    | true => exact absurd ⟨i, hi, hb⟩ hn
  rw [sideI_off hno] at h
  split at h <;> cases h
theorem ins_sub {xs : List Pt} {p q : Pt} (h : p ∈ xs) : p ∈ insG q xs := by
  obtain ⟨k, hk, rfl⟩ := List.getElem_of_mem h
  unfold insG insL
  refine List.mem_flatMap.2 ⟨k, List.mem_range.2 hk, ?_⟩
  unfold insK
  rw [ptAt_lt hk]
  exact List.mem_cons_self
theorem ins_has {xs : List Pt} {q : Pt} (h : OnR xs q) : q ∈ insG q xs := by
  obtain ⟨k, hk, ho⟩ := h
  by_cases h1 : q = ptAt xs k
  · exact ins_sub (by rw [h1]; exact ptAt_mem hk)
  by_cases h2 : q = ptAt xs ((k + 1) % xs.length)
  · exact ins_sub (by rw [h2]; exact ptAt_mem (Nat.mod_lt _ (by omega)))
  unfold insG insL
  refine List.mem_flatMap.2 ⟨k, List.mem_range.2 hk, ?_⟩
  rw [(insK_in xs q k).1 ⟨ho, h1, h2⟩]
  simp
theorem on_key {a b p : Pt} (ha : good a = true) (hb : good b = true) (hp : good p = true) : onB a b p = true ↔ cr a b p = 0 ∧ ((key a ≤ key p ∧ key p ≤ key b) ∨ (key b ≤ key p ∧ key p ≤ key a)) := by
  rw [← onP_eq ha hb hp]
  exact onP_key ha hb hp
/-- Two points of one stretch: the one lies on one of the two parts that the other makes. -/
theorem on_parts {a b f t : Pt} (ha : good a = true) (hb : good b = true) (hf : good f = true) (ht : good t = true) (h1 : onB a b f = true) (h2 : onB a b t = true) : onB a f t = true ∨ onB f b t = true := by
  obtain ⟨c1, k1⟩ := (on_key ha hb hf).1 h1
  obtain ⟨c2, k2⟩ := (on_key ha hb ht).1 h2
  by_cases hab : a = b
  · subst hab
    have e1 : key f = key a := by omega
    have e2 : f = a := (key_inj hf ha).2 e1
    have e3 : t = a := (key_inj ht ha).2 (by omega)
    subst e2 e3
    exact .inl (onB_self _ _).1
  have hn := pt_sub_ne (fun e => hab e.symm : b ≠ a)
  have hc : cr a f t = 0 := by
    have := par (w1 := b.x - a.x) (w2 := b.y - a.y) (p1 := f.x - a.x) (p2 := f.y - a.y) (q1 := t.x - a.x) (q2 := t.y - a.y) hn c1 c2
    unfold cr
    exact this
  have hc2 : cr f b t = 0 := by
    have h3 := par (w1 := b.x - a.x) (w2 := b.y - a.y) (p1 := f.x - a.x) (p2 := f.y - a.y) (q1 := t.x - a.x) (q2 := t.y - a.y) hn c1 c2
    unfold cr at c1 c2 ⊢
    grind
  rcases Int.le_total (key t) (key f) with h | h
  · rcases k1 with k1 | k1
    · exact .inl ((on_key ha hf ht).2 ⟨hc, .inl (by omega)⟩)
    · exact .inr ((on_key hf hb ht).2 ⟨hc2, .inr (by omega)⟩)
  · rcases k1 with k1 | k1
    · exact .inr ((on_key hf hb ht).2 ⟨hc2, .inl (by omega)⟩)
    · exact .inl ((on_key ha hf ht).2 ⟨hc, .inr (by omega)⟩)
theorem onR_mark {xs : List Pt} {f t : Pt} {k : Nat} (hg : goodL xs = true) (hf : good f = true) (ht : good t = true) (hk : k < xs.length) (hin : onB (ptAt xs k) (ptAt xs ((k + 1) % xs.length)) f = true) (h : OnR xs t) : OnR (mark k f xs) t := by
  obtain ⟨i, hi, ho⟩ := h
  have hl : (mark k f xs).length = xs.length + 1 := by unfold mark; simp; omega
  have hnx : ∀ i, i < xs.length → k < i → ptAt (mark k f xs) ((i + 1 + 1) % (xs.length + 1)) = ptAt xs ((i + 1) % xs.length) := fun i hi hki => by
    rcases Nat.lt_or_ge (i + 1) xs.length with h1 | h1
    · rw [Nat.mod_eq_of_lt (by omega), Nat.mod_eq_of_lt h1, mark_hi hk (by omega)]
    · have e : i + 1 = xs.length := by omega
      rw [e, Nat.mod_self, Nat.mod_self, mark_lo hk (by omega)]
  rcases Nat.lt_trichotomy i k with h1 | rfl | h1
  · refine ⟨i, by omega, ?_⟩
    rw [hl, Nat.mod_eq_of_lt (by omega), mark_lo hk (by omega), mark_lo hk (by omega)]
    rw [Nat.mod_eq_of_lt (by omega)] at ho
    exact ho
  · rcases on_parts (ptAt_good hg _) (ptAt_good hg _) hf ht hin ho with h2 | h2
    · refine ⟨i, by omega, ?_⟩
      rw [hl, Nat.mod_eq_of_lt (by omega), mark_lo hk (by omega), mark_mid hk]
      exact h2
    · refine ⟨i + 1, by omega, ?_⟩
      rw [hl, mark_mid hk]
      rcases Nat.lt_or_ge (i + 1) xs.length with h3 | h3
      · rw [Nat.mod_eq_of_lt (by omega), mark_hi hk (by omega)]
        rw [Nat.mod_eq_of_lt h3] at h2
        exact h2
      · have e : i + 1 = xs.length := by omega
        rw [e, Nat.mod_self, mark_lo hk (by omega)]
        rw [e, Nat.mod_self] at h2
        exact h2
  · refine ⟨i + 1, by omega, ?_⟩
    rw [hl, mark_hi hk (by omega), hnx i hi h1]
    exact ho
theorem onR_rot {xs : List Pt} {t : Pt} {j : Nat} (hj : j < xs.length) (h : OnR xs t) : OnR (rot j xs) t := by
  obtain ⟨i, hi, ho⟩ := h
  have hl : (rot j xs).length = xs.length := rot_len (by omega)
  refine ⟨(i + (xs.length - j)) % xs.length, by rw [hl]; exact Nat.mod_lt _ (by omega), ?_⟩
  have hm : (i + (xs.length - j)) % xs.length < xs.length := Nat.mod_lt _ (by omega)
  have e1 : (j + (i + (xs.length - j)) % xs.length) % xs.length = i := by
    rw [Nat.add_mod, Nat.mod_mod, ← Nat.add_mod, show j + (i + (xs.length - j)) = i + xs.length by omega, Nat.add_mod_right, Nat.mod_eq_of_lt hi]
  rw [hl, ptAt_rot hj hm, ptAt_rot1 hj, e1]
  exact ho
theorem onR_lst {xs : List Pt} {t : Pt} (h : OnR xs t) : OnR (lst xs) t := by
  obtain ⟨k, hk, -⟩ := id h
  obtain ⟨j, hj, e⟩ := lst_eq_rot xs
  rw [e]
  exact onR_rot (hj (fun e => by rw [e] at hk; exact absurd hk (Nat.not_lt_zero _))) h
theorem onR_ins {xs : List Pt} {f t : Pt} (hc : checkI xs = 0) (hf : good f = true) (ht : good t = true) (h : OnR xs t) : OnR (insG f xs) t := by
  rcases ins_cases hc hf with ⟨e, -⟩ | ⟨k, hk, hin, e⟩
  · rw [e]; exact h
  · rw [e]; exact onR_mark (checkI_zero hc).2.1 hf ht hk hin.1 h
theorem cut_has {p : Plan} {a b : Pt} {k : Nat} (hs : SoundP p) (hk : k < p.parcels.length) (ha : good a = true) (hb : good b = true) (h1 : sideI (pcAt p.parcels k).ring a = 0) (h2 : sideI (pcAt p.parcels k).ring b = 0) : a ∈ cutRing p k a b ∧ b ∈ cutRing p k a b := by
  have hc := (hs.2.2.1 _ (pcAt_mem hk)).1
  rw [cutRing_eq hk]
  exact ⟨mem_lst.2 (ins_sub (mem_lst.2 (ins_has (side_on h1)))), mem_lst.2 (ins_has (onR_lst (onR_ins hc ha hb (side_on h2))))⟩
theorem way_sub {xs : List Pt} {s K : Nat} {p : Pt} (h0 : 0 < xs.length) (h : p ∈ wayL xs s K) : p ∈ xs := by
  unfold wayL at h
  obtain ⟨j, -, rfl⟩ := List.mem_map.1 h
  exact ptAt_mem (Nat.mod_lt _ h0)
theorem wayI_sub {xs : List Pt} {f t p : Pt} (h0 : 0 < xs.length) (h : p ∈ wayI xs f t) : p ∈ xs := way_sub h0 h
theorem firstK_le (xs : List Pt) (s : Nat) (t : Pt) : firstK xs s t ≤ xs.length := by
  unfold firstK
  have := List.findIdx_le_length (xs := List.range xs.length) (p := fun j => decide (ptAt xs ((s + j) % xs.length) = t))
  rwa [List.length_range] at this
theorem wayI_le (xs : List Pt) (f t : Pt) : (wayI xs f t).length ≤ xs.length := by unfold wayI; rw [wayL_len]; exact firstK_le _ _ _
theorem part_fits {p : Plan} {k : Nat} {path : List Pt} (hs : SoundP p) (hk : k < p.parcels.length) (hg : goodL path = true) (hn : path.length ≤ 128) (h0 : path0 path ∈ cutRing p k (path0 path) (path1 path)) (ha : good (path0 path) = true) (hb : good (path1 path) = true) :
    (∀ q ∈ partA (cutRing p k (path0 path) (path1 path)) path, good q = true) ∧ (partA (cutRing p k (path0 path) (path1 path)) path).length ≤ 640 ∧ (∀ q ∈ partB (cutRing p k (path0 path) (path1 path)) path, good q = true) ∧ (partB (cutRing p k (path0 path) (path1 path)) path).length ≤ 640 := by
  obtain ⟨hr1, hr2⟩ := cut_rings hs ha hb _ (cutRing_of (a := path0 path) (b := path1 path) hk)
  have hl : 0 < (cutRing p k (path0 path) (path1 path)).length := List.length_pos_of_mem h0
  generalize cutRing p k (path0 path) (path1 path) = r at *
  have l1 := wayI_le r (path0 path) (path1 path)
  have l2 := wayI_le r (path1 path) (path0 path)
  refine ⟨fun q hq => ?_, ?_, fun q hq => ?_, ?_⟩
  · rcases List.mem_append.1 (lst_mem hq) with h | h
    · exact goodL_mem hg (List.mem_reverse.1 h)
    · exact goodL_mem hr1 (wayI_sub hl h)
  · unfold partA; rw [lst_len, List.length_append, List.length_reverse]; omega
  · rcases List.mem_append.1 (lst_mem hq) with h | h
    · exact goodL_mem hg h
    · exact goodL_mem hr1 (wayI_sub hl h)
  · unfold partB; rw [lst_len, List.length_append]; omega
theorem atP_no {ps : List Parc} {id : Int} (h : atP ps id < 0) {x : Parc} (hx : x ∈ ps) : x.id ≠ id := by
  rcases atP_cases ps id with ⟨-, h1⟩ | ⟨k, -, h1, -⟩
  · obtain ⟨j, hj, rfl⟩ := List.getElem_of_mem hx
    have := h1 j hj
    rw [pcAt_lt hj] at this
    exact this
  · omega
end Go.Proofs.YtnpjggcgnbgkjaaGreat
namespace Go.Proofs.YtnpjggcgnbgkjaaGreat
def rawA (r path : List Pt) : List Pt := path.reverse ++ wayI r (path0 path) (path1 path)
def rawB (r path : List Pt) : List Pt := path ++ wayI r (path1 path) (path0 path)
/-- The plan that ref05.Split hands to done. -/
def rawQ (p : Plan) (k : Nat) (path : List Pt) (fresh : Int) : Plan :=
  ⟨(spB p (path0 path) (path1 path)).outer, putId ⟨fresh, rawB (cutRing p k (path0 path) (path1 path)) path, (pcAt p.parcels k).owner⟩ (setR (spB p (path0 path) (path1 path)) k (rawA (cutRing p k (path0 path) (path1 path)) path)).parcels⟩
theorem put_map {f : Parc → Parc} (hf : ∀ x, (f x).id = x.id) (x : Parc) (ps : List Parc) : (putId x ps).map f = putId (f x) (ps.map f) := by
  unfold putId
  rw [List.map_append, List.map_cons, List.filter_map, List.filter_map]
  have e1 : ((fun y : Parc => decide (y.id < (f x).id)) ∘ f) = fun y => decide (y.id < x.id) := by funext y; simp [hf]
  have e2 : ((fun y : Parc => decide ((f x).id < y.id)) ∘ f) = fun y => decide (x.id < y.id) := by funext y; simp [hf]
  rw [e1, e2]
theorem map_eachX {g : List Pt → List Pt} (ps : List Parc) : (ps.map (eachX g)).map (mapX lst) = ps.map (eachX g) := by
  rw [List.map_map]
  refine List.map_congr_left fun x _ => ?_
  simp only [Function.comp, eachX, mapX, lst_idem]
theorem rawQ_lst {p : Plan} {k : Nat} {path : List Pt} {fresh : Int} : mapG lst (rawQ p k path fresh) = spQ p k path fresh := by
  have h0 : lst (spB p (path0 path) (path1 path)).outer = (spB p (path0 path) (path1 path)).outer := lst_idem _
  have hm : (setR (spB p (path0 path) (path1 path)) k (rawA (cutRing p k (path0 path) (path1 path)) path)).parcels.map (mapX lst) = (setR (spB p (path0 path) (path1 path)) k (partA (cutRing p k (path0 path) (path1 path)) path)).parcels := by
    unfold setR
    rw [List.map_set]
    have h1 : (spB p (path0 path) (path1 path)).parcels.map (mapX lst) = (spB p (path0 path) (path1 path)).parcels := map_eachX _
    rw [h1]
    rfl
  unfold mapG rawQ spQ
  simp only
  rw [h0, put_map (f := mapX lst) (fun _ => rfl), hm]
  rfl
end Go.Proofs.YtnpjggcgnbgkjaaGreat

/- Plain law: which of two parcels is named first does not matter. -/
import Derived.Test.YtgkcenhopmjmlaaGreatJoinLaw
import Derived.Test.YtgkcenhopmjmlaaGreatFindLaw
namespace Go.Proofs.YtgkcenhopmjmlaaGreat
theorem listN_idJ {ps : List Parc} : ∀ {n : Nat} {last : Int}, listN n last ps = true → ∀ x ∈ ps, 1 ≤ x.id := by
  induction ps with
  | nil => intro n last _ x hx; exact absurd hx List.not_mem_nil
  | cons y ps ih =>
    intro n last h x hx
    rw [listN_cons] at h
    simp only [Bool.and_eq_true] at h
    rcases List.mem_cons.1 hx with rfl | hx
    · have := h.1; unfold idB at this; simp at this; exact this.1
    · exact ih h.2.2.2.2 x hx
theorem listN_ltJ {ps : List Parc} : ∀ {n : Nat} {last : Int}, listN n last ps = true → ∀ x ∈ ps, last < x.id := by
  induction ps with
  | nil => intro n last _ x hx; exact absurd hx List.not_mem_nil
  | cons y ps ih =>
    intro n last h x hx
    rw [listN_cons] at h
    simp only [Bool.and_eq_true, decide_eq_true_eq] at h
    rcases List.mem_cons.1 hx with rfl | hx
    · exact h.2.1
    · have := ih h.2.2.2.2 x hx; omega
theorem listN_injJ {ps : List Parc} : ∀ {n : Nat} {last : Int}, listN n last ps = true → ∀ x ∈ ps, ∀ y ∈ ps, x.id = y.id → x = y := by
  induction ps with
  | nil => intro n last _ x hx; exact absurd hx List.not_mem_nil
  | cons z ps ih =>
    intro n last h x hx y hy he
    rw [listN_cons] at h
    simp only [Bool.and_eq_true, decide_eq_true_eq] at h
    have hlt := listN_ltJ h.2.2.2.2
    rcases List.mem_cons.1 hx with h1 | h1 <;> rcases List.mem_cons.1 hy with h2 | h2
    · rw [h1, h2]
    · have := hlt y h2; rw [h1] at he; omega
    · have := hlt x h1; rw [h2] at he; omega
    · exact ih h.2.2.2.2 x h1 y h2 he
theorem listed_injJ {p : Plan} (h : listedB p = true) {x y : Parc} (hx : x ∈ p.parcels) (hy : y ∈ p.parcels) (he : x.id = y.id) : x = y := by
  unfold listedB at h
  rw [Bool.and_eq_true] at h
  exact listN_injJ h.1 x hx y hy he
theorem sumL_acc (l : List Int) : ∀ z : Int, l.foldl (· + ·) z = z + l.foldl (· + ·) 0 := by
  induction l with
  | nil => intro z; simp
  | cons x l ih =>
    intro z
    rw [List.foldl_cons, List.foldl_cons, ih (z + x), ih (0 + x)]
    omega
theorem areasL_cons (x : Parc) (ps : List Parc) : areasL (x :: ps) = areaZ x.ring + areasL ps := by
  unfold areasL sumL
  rw [List.map_cons, List.foldl_cons, sumL_acc]
  omega
theorem areasL_perm {a b : List Parc} (h : a.Perm b) : areasL a = areasL b := by
  induction h with
  | nil => rfl
  | cons x _ ih => rw [areasL_cons, areasL_cons, ih]
  | swap x y l => rw [areasL_cons, areasL_cons, areasL_cons, areasL_cons]; omega
  | trans _ _ ih1 ih2 => rw [ih1, ih2]
theorem allE_perm {a b : List Parc} (h : a.Perm b) : (allE a).Perm (allE b) := List.Perm.flatMap_right _ h
theorem allE_cons (x : Parc) (ps : List Parc) : allE (x :: ps) = edgesOf x.ring ++ allE ps := rfl
theorem erase_perm {α : Type} : ∀ {l : List α} {i : Nat} (h : i < l.length), (l[i] :: l.eraseIdx i).Perm l
  | x :: l, 0, _ => .refl _
  | x :: l, i + 1, h => by
    have := erase_perm (l := l) (i := i) (by simpa using h)
    exact (List.Perm.swap _ _ _).trans (this.cons x)
/-- The parcels of what comes, and the two that were, are the new one and all that were. -/
theorem joinQ_perm {p : Plan} {i k : Nat} {r : List Pt} (hi : i < p.parcels.length) (hk : k < p.parcels.length) (hne : i ≠ k) :
    (pcAt p.parcels i :: pcAt p.parcels k :: (joinQ p i k r).parcels).Perm (⟨(pcAt p.parcels i).id, r, (pcAt p.parcels i).owner⟩ :: p.parcels) := by
  obtain ⟨x, hx⟩ : ∃ x : Parc, x = ⟨(pcAt p.parcels i).id, r, (pcAt p.parcels i).owner⟩ := ⟨_, rfl⟩
  have hq : (joinQ p i k r).parcels = (p.parcels.set i x).eraseIdx k := by rw [hx]; rfl
  rw [hq, ← hx]
  have hl : (p.parcels.set i x).length = p.parcels.length := List.length_set
  have h1 := erase_perm (l := p.parcels.set i x) (i := k) (by omega)
  have e1 : (p.parcels.set i x)[k]'(by omega) = pcAt p.parcels k := by rw [List.getElem_set_ne hne, pcAt_lt hk]
  rw [e1] at h1
  have h2 := erase_perm (l := p.parcels.set i x) (i := i) (by omega)
  rw [List.getElem_set_self, List.eraseIdx_set_eq] at h2
  have h3 := erase_perm (l := p.parcels) (i := i) hi
  rw [← pcAt_lt hi] at h3
  refine (h1.cons _).trans ((h2.symm.cons _).trans ?_)
  exact (List.Perm.swap _ _ _).trans (h3.cons x)
theorem joinQ_mem {p : Plan} {i k : Nat} {r : List Pt} (hi : i < p.parcels.length) (hne : i ≠ k) : (⟨(pcAt p.parcels i).id, r, (pcAt p.parcels i).owner⟩ : Parc) ∈ (joinQ p i k r).parcels := by
  have hl : (p.parcels.set i ⟨(pcAt p.parcels i).id, r, (pcAt p.parcels i).owner⟩).length = p.parcels.length := List.length_set
  show _ ∈ (p.parcels.set i _).eraseIdx k
  rw [List.mem_eraseIdx_iff_getElem]
  exact ⟨i, by omega, hne, by simp⟩
theorem listN_all {ps : List Parc} : ∀ {n : Nat} {last : Int}, listN n last ps = true → (∀ x ∈ ps, idB x.id = true ∧ ownB x.owner = true) ∧ ps.Pairwise (fun x y => x.id < y.id) := by
  induction ps with
  | nil => intro n last _; exact ⟨fun x hx => absurd hx List.not_mem_nil, .nil⟩
  | cons y ps ih =>
    intro n last h
    rw [listN_cons] at h
    simp only [Bool.and_eq_true, decide_eq_true_eq] at h
    obtain ⟨h1, h2, h3, h4, h5⟩ := h
    obtain ⟨k1, k2⟩ := ih h5
    refine ⟨fun x hx => ?_, List.pairwise_cons.2 ⟨fun x hx => listN_ltJ h5 x hx, k2⟩⟩
    rcases List.mem_cons.1 hx with rfl | hx
    · exact ⟨h1, h3⟩
    · exact k1 x hx
theorem listN_of {ps : List Parc} : ∀ {n : Nat} {last : Int}, (∀ x ∈ ps, idB x.id = true ∧ ownB x.owner = true) → ps.Pairwise (fun x y => x.id < y.id) → (∀ x ∈ ps, last < x.id) → n + (allE ps).length ≤ 1024 → listN n last ps = true := by
  induction ps with
  | nil => intro n last _ _ _ _; rfl
  | cons y ps ih =>
    intro n last h1 h2 h3 h4
    rw [allE_cons, List.length_append, edgesOf_len] at h4
    obtain ⟨k1, k2⟩ := List.pairwise_cons.1 h2
    rw [listN_cons]
    simp only [Bool.and_eq_true, decide_eq_true_eq]
    exact ⟨(h1 y (by simp)).1, h3 y (by simp), (h1 y (by simp)).2, by omega, ih (fun x hx => h1 x (by simp [hx])) k2 k1 (by omega)⟩
theorem pairsE_pw (l : List Ed) : PairsE l ↔ l.Pairwise (fun e f => okR e f = true) := by
  unfold PairsE
  rw [List.pairwise_iff_getElem]
theorem pairsE_perm {a b : List Ed} (h : a.Perm b) : PairsE a ↔ PairsE b := by
  rw [pairsE_pw, pairsE_pw]
  exact h.pairwise_iff (fun {x y} hxy => by rw [okR_comm]; exact hxy)
/-- Two parcels' lists of what comes: the same edges, areas and numbers' order. -/
theorem joinQ_sound {p : Plan} {i k : Nat} {r : List Pt} (hs : SoundP p) (hi : i < p.parcels.length) (hk : k < p.parcels.length) (hne : i ≠ k) (h : SoundP (joinQ p i k r)) : SoundP (joinQ p k i r) := by
  have h1 := joinQ_perm (r := r) hi hk hne
  have h2 := joinQ_perm (r := r) hk hi (Ne.symm hne)
  have hE : (allE (joinQ p i k r).parcels).Perm (allE (joinQ p k i r).parcels) := by
    have e1 := allE_perm h1
    have e2 := (allE_perm ((List.Perm.swap (pcAt p.parcels k) (pcAt p.parcels i) (joinQ p k i r).parcels).trans h2))
    simp only [allE_cons] at e1 e2
    have := e1.trans e2.symm
    rw [← List.append_assoc, ← List.append_assoc] at this
    exact (List.perm_append_left_iff _).1 this
  have hA : areasL (joinQ p i k r).parcels = areasL (joinQ p k i r).parcels := by
    have e1 := areasL_perm h1
    have e2 := areasL_perm h2
    simp only [areasL_cons] at e1 e2
    omega
  obtain ⟨l1, n1, n2, m1, p1, a1⟩ := h
  have hl : (joinQ p i k r).parcels.length = (joinQ p k i r).parcels.length := by
    have := h1.length_eq
    have := h2.length_eq
    simp only [List.length_cons] at *
    omega
  have hl0 := hs.1
  unfold listedB at hl0 l1
  simp only [Bool.and_eq_true, decide_eq_true_eq] at hl0 l1
  obtain ⟨q0, -, -, -⟩ := hl0
  obtain ⟨q1, q2, q3, q4⟩ := l1
  obtain ⟨c1, c2⟩ := listN_all q0
  have hmem : ∀ x ∈ (joinQ p k i r).parcels, idB x.id = true ∧ ownB x.owner = true ∧ NormedP x.ring ∧ 0 < x.id := fun x hx => by
    rcases joinQ_pc hx with h | rfl
    · exact ⟨(c1 x h).1, (c1 x h).2, hs.2.2.1 x h, by have := listN_idJ q0 x h; omega⟩
    · have hm : pcAt p.parcels k ∈ p.parcels := by rw [pcAt_lt hk]; exact List.getElem_mem hk
      exact ⟨(c1 _ hm).1, (c1 _ hm).2, (show NormedP r from n2 (⟨(pcAt p.parcels i).id, r, (pcAt p.parcels i).owner⟩ : Parc) (joinQ_mem hi hne)), by have := listN_idJ q0 _ hm; show 0 < (pcAt p.parcels k).id; omega⟩
  refine ⟨?_, n1, fun x hx => (hmem x hx).2.2.1, ?_, (pairsE_perm hE).1 p1, by rw [← hA]; exact a1⟩
  · unfold listedB
    simp only [Bool.and_eq_true, decide_eq_true_eq]
    rw [cornN_eq] at q4
    have hEl := hE.length_eq
    refine ⟨listN_of (fun x hx => ⟨(hmem x hx).1, (hmem x hx).2.1⟩) ?_ (fun x hx => (hmem x hx).2.2.2) (by rw [← hEl]; exact q4), by omega, by omega, by rw [cornN_eq, ← hEl]; exact q4⟩
    show ((setR p k r).parcels.eraseIdx i).Pairwise _
    refine List.Pairwise.sublist (List.eraseIdx_sublist ..) ?_
    have e : (setR p k r).parcels.map (·.id) = p.parcels.map (·.id) := by
      unfold setR
      refine List.ext_getElem (by simp) fun j h3 h4 => ?_
      simp only [List.getElem_map, List.getElem_set]
      split
      · rename_i e
        subst e
        rw [pcAt_lt hk]
      · rfl
    have c3 : (p.parcels.map (·.id)).Pairwise (· < ·) := List.pairwise_map.2 c2
    rw [← e] at c3
    exact List.pairwise_map.1 c3
  · obtain ⟨m2, m3, m4⟩ := m1
    refine ⟨hE.nodup_iff.1 m2, fun e he => hE.mem_iff.1 (m3 e he), fun e he => ?_⟩
    rw [← hE.mem_iff]
    exact m4 e (hE.mem_iff.2 he)
theorem cut_full (a b : List Ed) : (cutE a b).length = a.length ↔ ∀ e ∈ a, e.back ∉ b := by
  unfold cutE
  rw [List.length_filter_eq_length_iff]
  simp
theorem cut_swap {a b : List Ed} (h : (cutE a b).length = a.length) : (cutE b a).length = b.length := by
  rw [cut_full] at h ⊢
  intro e he hb
  exact h _ hb (by rw [Ed.back_back]; exact he)
theorem joinL_swap (a b : List Pt) : (joinL a b).Perm (joinL b a) := List.perm_append_comm
theorem joinW_swap (p : Plan) (i k : Nat) : joinW p i k = joinW p k i := wayO_perm (joinL_swap _ _)
theorem joinI_swap {p : Plan} {i k : Nat} (hs : SoundP p) (hi : i < p.parcels.length) (hk : k < p.parcels.length) (hne : i ≠ k) : joinI p i k = joinI p k i := by
  have e7 : (cutE (edgesOf (ringA p i)) (edgesOf (ringA p k))).length = (ringA p i).length ↔ (cutE (edgesOf (ringA p k)) (edgesOf (ringA p i))).length = (ringA p k).length := by
    rw [← edgesOf_len (ringA p i), ← edgesOf_len (ringA p k)]
    exact ⟨cut_swap, cut_swap⟩
  have e8 : ∀ r, planB (joinQ p i k r) = planB (joinQ p k i r) := fun r => by
    rw [Bool.eq_iff_iff]
    exact ⟨fun h => planB_of (joinQ_sound hs hi hk hne (planB_sound h)), fun h => planB_of (joinQ_sound hs hk hi (Ne.symm hne) (planB_sound h))⟩
  unfold joinI
  rw [joinW_swap p i k]
  by_cases h : (cutE (edgesOf (ringA p i)) (edgesOf (ringA p k))).length = (ringA p i).length
  · rw [if_pos h, if_pos (e7.1 h)]
  · rw [if_neg h, if_neg (fun h' => h (e7.2 h')), e8]
theorem joinE_swap (p : Plan) (a b : Int) : joinE p a b = joinE p b a := by
  unfold joinE
  rcases hb : planB p with _ | _
  · rfl
  · rw [if_pos rfl, if_pos rfl]
    by_cases h5 : atP p.parcels a < 0 ∨ atP p.parcels b < 0
    · rw [if_pos h5, if_pos (Or.comm.1 h5)]
    · rw [if_neg h5, if_neg (fun h => h5 (Or.comm.1 h))]
      by_cases h1 : atP p.parcels a = atP p.parcels b
      · rw [if_pos h1, if_pos h1.symm]
      · rw [if_neg h1, if_neg (fun h => h1 h.symm)]
        rcases atP_cases p.parcels a with ⟨ha, -⟩ | ⟨i, hi, ha, -⟩
        · exact absurd (.inl (by rw [ha]; decide)) h5
        rcases atP_cases p.parcels b with ⟨hb', -⟩ | ⟨k, hk, hb', -⟩
        · exact absurd (.inr (by rw [hb']; decide)) h5
        rw [ha, hb']
        simp only [Int.toNat_natCast]
        exact joinI_swap (planB_sound hb) hi hk (fun e => h1 (by rw [ha, hb', e]))
/-- What came of two parcels, where it went well. -/
theorem joinP_ok {p : Plan} {a b : Int} (h : joinE p a b = 0) : ∃ (i k : Nat) (r : List Pt), SoundP p ∧ i < p.parcels.length ∧ k < p.parcels.length ∧ i ≠ k ∧ (pcAt p.parcels i).id = a ∧ (pcAt p.parcels k).id = b ∧ atP p.parcels a = (i : Int) ∧ atP p.parcels b = (k : Int) ∧ joinW p i k = some r ∧ joinP p a b = joinQ p i k r ∧ SoundP (joinQ p i k r) := by
  have h0 := h
  unfold joinE at h
  rcases hb : planB p with _ | _
  · rw [hb] at h; cases h
  rw [hb, if_pos rfl] at h
  rcases atP_cases p.parcels a with ⟨ha, -⟩ | ⟨i, hi, ha, hai⟩
  · rw [if_pos (.inl (by rw [ha]; decide))] at h; cases h
  rcases atP_cases p.parcels b with ⟨hb', -⟩ | ⟨k, hk, hb', hbk⟩
  · rw [if_pos (.inr (by rw [hb']; decide))] at h; cases h
  rw [ha, hb', if_neg (by omega)] at h
  by_cases hik : i = k
  · rw [if_pos (by rw [hik])] at h; cases h
  rw [if_neg (by omega)] at h
  simp only [Int.toNat_natCast] at h
  unfold joinI at h
  split at h
  · cases h
  split at h
  · cases h
  rename_i hw
  obtain ⟨r, hr⟩ := Option.ne_none_iff_exists'.1 hw
  rw [hr] at h
  simp only [Option.getD_some] at h
  split at h
  · rename_i hq
    refine ⟨i, k, r, planB_sound hb, hi, hk, hik, hai, hbk, ha, hb', hr, ?_, planB_sound hq⟩
    unfold joinP
    rw [if_pos h0, ha, hb']
    simp only [Int.toNat_natCast, hr, Option.getD_some]
  · cases h
/-- The one parcel with a number. -/
theorem atP_one {p : Plan} (hl : listedB p = true) {x : Parc} (hx : x ∈ p.parcels) : ∃ j : Nat, j < p.parcels.length ∧ atP p.parcels x.id = (j : Int) ∧ pcAt p.parcels j = x := by
  rcases atP_cases p.parcels x.id with ⟨-, h1⟩ | ⟨j, hj, h1, h2⟩
  · obtain ⟨j, hj, rfl⟩ := List.getElem_of_mem hx
    exact absurd (by rw [pcAt_lt hj]) (h1 j hj)
  · exact ⟨j, hj, h1, listed_injJ hl (by rw [pcAt_lt hj]; exact List.getElem_mem hj) hx h2⟩
theorem either_law {p : Plan} {a b : Int} (h : joinE p a b = 0) : ∃ (j l : Nat), j < (joinP p a b).parcels.length ∧ l < (joinP p b a).parcels.length ∧ atP (joinP p a b).parcels a = (j : Int) ∧ atP (joinP p b a).parcels b = (l : Int) ∧ (pcAt (joinP p a b).parcels j).ring = (pcAt (joinP p b a).parcels l).ring ∧ (joinP p a b).outer = (joinP p b a).outer := by
  obtain ⟨i, k, r, hs, hi, hk, hne, hai, hbk, ha, hb, hr, hp, hq⟩ := joinP_ok h
  obtain ⟨i2, k2, r2, -, -, -, -, -, -, ha2, hb2, hr2, hp2, hq2⟩ := joinP_ok (by rw [joinE_swap]; exact h : joinE p b a = 0)
  obtain rfl : i2 = k := by rw [hb] at ha2; omega
  obtain rfl : k2 = i := by rw [ha] at hb2; omega
  obtain rfl : r2 = r := by rw [joinW_swap, hr] at hr2; exact (Option.some.inj hr2).symm
  obtain ⟨j, hj, hj1, hj2⟩ := atP_one hq.1 (joinQ_mem hi hne)
  obtain ⟨l, hl, hl1, hl2⟩ := atP_one hq2.1 (joinQ_mem hk (Ne.symm hne))
  rw [hp, hp2]
  refine ⟨j, l, hj, hl, ?_, ?_, ?_, rfl⟩
  · rw [← hai]; exact hj1
  · rw [← hbk]; exact hl1
  · rw [hj2, hl2]
end Go.Proofs.YtgkcenhopmjmlaaGreat

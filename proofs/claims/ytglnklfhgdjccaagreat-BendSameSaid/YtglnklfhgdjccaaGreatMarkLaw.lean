/- Plain law: a corner more on an edge. -/
import Derived.Test.YtglnklfhgdjccaaGreatPlanLaw
import Derived.Test.YtglnklfhgdjccaaGreatShiftMv
namespace Go.Proofs.YtglnklfhgdjccaaGreat
theorem on_part {a b p d : Pt} (hp : onB a b p = true) (h : onB a p d = true) : onB a b d = true := by
  obtain ⟨M, s, g1, g2, g3, g4, g5⟩ := on_param hp
  obtain ⟨N, t, h1, h2, h3, h4, h5⟩ := on_param h
  have hle : t * s ≤ N * M := Int.mul_le_mul h3 g3 g2 (by omega)
  refine on_conv (N := N * M) (t := t * s) (Int.mul_pos h1 g1) (Int.mul_nonneg h2 g2) hle ?_ ?_
  · have : M * ((N - t) * a.x + t * p.x) = M * (N * d.x) := by rw [h4]
    grind
  · have : M * ((N - t) * a.y + t * p.y) = M * (N * d.y) := by rw [h5]
    grind
theorem part_far {a b p d : Pt} (ha : good a = true) (hb : good b = true) (hp : good p = true) (hd : good d = true) (h : meetR a b b d = 1) (hon : onB a b p = true) (hpb : p ≠ b) (hab : a ≠ b) (hdb : d ≠ b) : ¬ Touch a p b d := by
  rw [one_iff] at h
  obtain ⟨h1, h2⟩ := h
  have kon := (onB_key ha hb hp).1 hon
  rintro (g | g | g | g | g)
  · exact hab (h1 g)
  · obtain ⟨z1, z2, z3, z4⟩ := two_common hpb hon (onB_self a b).2 g (onB_self b d).1
    have kg := ((onB_key hb hd hp).1 g).2
    have kne := mt (key_inj hp hb).2 hpb
    have q1 : ¬ (cr b d a = 0 ∧ ((key b ≤ key a ∧ key a ≤ key d) ∨ (key d ≤ key a ∧ key a ≤ key b))) := fun q => hab (h1 ((onB_key hb hd ha).2 q))
    have q2 : ¬ (cr a b d = 0 ∧ ((key a ≤ key d ∧ key d ≤ key b) ∨ (key b ≤ key d ∧ key d ≤ key a))) := fun q => hdb (h2 ((onB_key ha hb hd).2 q))
    omega
  · have kg := ((onB_key ha hp hb).1 g).2
    have kne := mt (key_inj hp hb).2 hpb
    have kab := mt (key_inj ha hb).2 hab
    omega
  · exact hdb (h2 (on_part hon g))
  · rw [prB_iff] at g
    have : cr a p b = - cr a b p := by unfold cr; grind
    rw [kon.1] at this
    omega
theorem part_near {a b p c : Pt} (ha : good a = true) (hb : good b = true) (hp : good p = true) (hc : good c = true) (h : meetR c a a b = 1) (hon : onB a b p = true) (hpa : p ≠ a) : meetR c a a p = 1 := by
  rw [one_iff] at h ⊢
  obtain ⟨h1, h2⟩ := h
  refine ⟨fun g => h1 (on_part hon g), fun g => Classical.byContradiction fun _ => ?_⟩
  obtain ⟨z1, z2, z3, z4⟩ := two_common hpa hon (onB_self a b).1 g (onB_self c a).2
  have kon := ((onB_key ha hb hp).1 hon).2
  have kg := ((onB_key hc ha hp).1 g).2
  have kne := mt (key_inj hp ha).2 hpa
  by_cases q1 : cr a b c = 0 ∧ ((key a ≤ key c ∧ key c ≤ key b) ∨ (key b ≤ key c ∧ key c ≤ key a))
  · have := (key_inj hc ha).1 (h1 ((onB_key ha hb hc).2 q1))
    omega
  · by_cases q2 : cr c a b = 0 ∧ ((key c ≤ key b ∧ key b ≤ key a) ∨ (key a ≤ key b ∧ key b ≤ key c))
    · have := (key_inj hb ha).1 (h2 ((onB_key hc ha hb).2 q2))
      omega
    · omega
theorem part_two {a b p : Pt} (ha : good a = true) (hb : good b = true) (hp : good p = true) (hon : onB a b p = true) : meetR a p p b = 1 := by
  rw [one_iff]
  have kon := ((onB_key ha hb hp).1 hon).2
  refine ⟨fun g => (key_inj ha hp).2 ?_, fun g => (key_inj hb hp).2 ?_⟩
  · have := ((onB_key hp hb ha).1 g).2
    omega
  · have := ((onB_key ha hp hb).1 g).2
    omega
theorem ptAt_app {xs : List Pt} {p : Pt} {i : Nat} (h : i < xs.length) : ptAt (xs ++ [p]) i = ptAt xs i := by
  unfold ptAt
  rw [List.getElem?_append_left h]
theorem ptAt_end {xs : List Pt} {p : Pt} : ptAt (xs ++ [p]) xs.length = p := by
  unfold ptAt
  simp
/-- Edges of the ring with a corner more behind the last one. -/
theorem nx_lo {n i : Nat} (h : i + 1 < n) : (i + 1) % (n + 1) = i + 1 ∧ (i + 1) % n = i + 1 := ⟨Nat.mod_eq_of_lt (by omega), Nat.mod_eq_of_lt h⟩
theorem mark_pairs {xs : List Pt} {p : Pt} (h3 : 3 ≤ xs.length) (hg : goodL xs = true) (hp : good p = true) (hP : PairsOK xs) (hon : onB (ptAt xs (xs.length - 1)) (ptAt xs 0) p = true) (hpa : p ≠ ptAt xs (xs.length - 1)) (hpb : p ≠ ptAt xs 0) : PairsOK (xs ++ [p]) := by
  obtain ⟨n, hn⟩ : ∃ n, n = xs.length := ⟨_, rfl⟩
  rw [← hn] at h3 hon hpa
  have hG := fun i => ptAt_good hg i
  have hd : ∀ i j, i < j → j < n → ptAt xs i ≠ ptAt xs j := fun i j hi hj => by
    have := hP i j hi (by omega)
    unfold pairOK at this
    rw [Bool.and_eq_true, decide_eq_true_eq] at this
    exact this.1
  have hm : ∀ i j, i < j → j < n → meetR (ptAt xs i) (ptAt xs ((i + 1) % n)) (ptAt xs j) (ptAt xs ((j + 1) % n)) = if nextB n i j = true then 1 else 0 := fun i j hi hj => by
    have := hP i j hi (by omega)
    unfold pairOK meetOf at this
    rw [Bool.and_eq_true, decide_eq_true_eq, decide_eq_true_eq, ← hn] at this
    exact this.2
  -- against the last edge
  have hl : ∀ i, i + 1 < n → meetR (ptAt xs i) (ptAt xs (i + 1)) (ptAt xs (n - 1)) (ptAt xs 0) = if i = 0 ∨ i = n - 2 then 1 else 0 := fun i hi => by
    have := hm i (n - 1) (by omega) (by omega)
    rw [(nx_lo hi).2, show n - 1 + 1 = n by omega, Nat.mod_self] at this
    rw [this]
    have e : nextB n i (n - 1) = true ↔ (i = 0 ∨ i = n - 2) := by
      unfold nextB
      simp only [Bool.or_eq_true, Bool.and_eq_true, decide_eq_true_eq, and_true]
      omega
    by_cases h : i = 0 ∨ i = n - 2
    · rw [if_pos (e.2 h), if_pos h]
    · rw [if_neg (fun h' => h (e.1 h')), if_neg h]
  have hab : ptAt xs (n - 1) ≠ ptAt xs 0 := fun e => hd 0 (n - 1) (by omega) (by omega) e.symm
  have hdp : ∀ i, i < n → ptAt xs i ≠ p := fun i hi e => by
    by_cases h0 : i = 0
    · subst h0; exact hpb e.symm
    · by_cases h1 : i = n - 1
      · subst h1; exact hpa e.symm
      · obtain ⟨m, rfl⟩ : ∃ m, i = m + 1 := ⟨i - 1, by omega⟩
        have ho : onB (ptAt xs (n - 1)) (ptAt xs 0) (ptAt xs (m + 1)) = true := by rw [e]; exact hon
        have := hl m (by omega)
        by_cases hm0 : m = 0
        · subst hm0
          rw [if_pos (.inl rfl), ← meetR_comm, one_iff] at this
          exact hd 0 1 (by omega) (by omega) (this.2 ho).symm
        · rw [if_neg (by omega), meet_zero] at this
          exact this (.inr (.inl ho))
  have hlen : (xs ++ [p]).length = n + 1 := by simp [hn]
  have eP : ∀ i, i < n → ptAt (xs ++ [p]) i = ptAt xs i := fun i hi => ptAt_app (by omega)
  have eE : ptAt (xs ++ [p]) n = p := by rw [hn]; exact ptAt_end
  -- the two new edges, against an old one
  have hA : ∀ i, i + 1 < n → meetR (ptAt xs i) (ptAt xs (i + 1)) (ptAt xs (n - 1)) p = if i = n - 2 then 1 else 0 := fun i hi => by
    have h := hl i hi
    by_cases h2 : i = n - 2
    · subst h2
      rw [show n - 2 + 1 = n - 1 by omega] at h ⊢
      rw [if_pos (.inr rfl)] at h
      rw [if_pos rfl]
      exact part_near (hG _) (hG _) hp (hG _) h hon hpa
    · rw [if_neg h2, ← meetR_comm, meet_zero]
      by_cases h0 : i = 0
      · subst h0
        rw [if_pos (.inl rfl), ← meetR_comm] at h
        exact part_far (hG _) (hG _) hp (hG _) h hon hpb hab (fun e => hd 0 1 (by omega) (by omega) e.symm)
      · rw [if_neg (by omega), ← meetR_comm, meet_zero] at h
        exact fun h' => h (touch_part (hG _) (hG _) (hG _) (hG _) hon h')
  have hon' : onB (ptAt xs 0) (ptAt xs (n - 1)) p = true := by rw [onB_swap]; exact hon
  have hB : ∀ i, i + 1 < n → meetR (ptAt xs i) (ptAt xs (i + 1)) p (ptAt xs 0) = if i = 0 then 1 else 0 := fun i hi => by
    have h := hl i hi
    by_cases h0 : i = 0
    · subst h0
      rw [if_pos (.inl rfl)] at h
      rw [if_pos rfl]
      have := part_near (a := ptAt xs 0) (b := ptAt xs (n - 1)) (c := ptAt xs 1) (hG _) (hG _) hp (hG _) (by rw [meetR_swap1, meetR_swap2]; exact h) hon' hpb
      rw [meetR_swap1, meetR_swap2] at this
      exact this
    · rw [if_neg h0, ← meetR_comm, meet_zero]
      by_cases h2 : i = n - 2
      · subst h2
        rw [show n - 2 + 1 = n - 1 by omega] at h ⊢
        rw [if_pos (.inr rfl)] at h
        have := part_far (a := ptAt xs 0) (b := ptAt xs (n - 1)) (d := ptAt xs (n - 2)) (hG _) (hG _) hp (hG _) (by rw [← meetR_comm, meetR_swap1, meetR_swap2]; exact h) hon' hpa (fun e => hab e.symm) (hd _ _ (by omega) (by omega))
        rw [← meet_zero, meetR_swap1, meetR_swap2, meet_zero] at this
        exact this
      · rw [if_neg (by omega), ← meetR_comm, meet_zero] at h
        intro h'
        have h'' : Touch (ptAt xs 0) p (ptAt xs i) (ptAt xs (i + 1)) := by
          rw [← touch_iff, meetR_swap1, touch_iff]
          exact h'
        have := touch_part (hG _) (hG _) (hG _) (hG _) hon' h''
        rw [← touch_iff, meetR_swap1, touch_iff] at this
        exact h this
  intro i j hi hj
  rw [hlen] at hj
  unfold pairOK meetOf
  rw [hlen, Bool.and_eq_true, decide_eq_true_eq, decide_eq_true_eq]
  by_cases hjn : j = n
  · subst hjn
    rw [eE, eP i hi, Nat.mod_self, eP 0 (by omega)]
    refine ⟨hdp i hi, ?_⟩
    have e : nextB (j + 1) i j = true ↔ (i = 0 ∨ i = j - 1) := by
      unfold nextB
      simp only [Bool.or_eq_true, Bool.and_eq_true, decide_eq_true_eq]
      omega
    by_cases h1 : i = j - 1
    · rw [if_pos (e.2 (.inr h1)), h1, show j - 1 + 1 = j by omega, Nat.mod_eq_of_lt (by omega), eE]
      exact part_two (hG _) (hG _) hp hon
    · rw [Nat.mod_eq_of_lt (by omega : i + 1 < j + 1), eP (i + 1) (by omega), hB i (by omega)]
      by_cases h0 : i = 0
      · rw [if_pos h0, if_pos (e.2 (.inl h0))]
      · rw [if_neg h0, if_neg (fun h' => by have := e.1 h'; omega)]
  · rw [eP i (by omega), eP j (by omega), Nat.mod_eq_of_lt (by omega : i + 1 < n + 1), eP (i + 1) (by omega)]
    refine ⟨hd i j hi (by omega), ?_⟩
    by_cases h1 : j = n - 1
    · subst h1
      rw [show n - 1 + 1 = n by omega, Nat.mod_eq_of_lt (by omega), eE, hA i (by omega)]
      have e : nextB (n + 1) i (n - 1) = true ↔ i = n - 2 := by
        unfold nextB
        simp only [Bool.or_eq_true, Bool.and_eq_true, decide_eq_true_eq]
        omega
      by_cases h2 : i = n - 2
      · rw [if_pos h2, if_pos (e.2 h2)]
      · rw [if_neg h2, if_neg (fun h' => h2 (e.1 h'))]
    · rw [Nat.mod_eq_of_lt (by omega : j + 1 < n + 1), eP (j + 1) (by omega)]
      have h := hm i j hi (by omega)
      rw [Nat.mod_eq_of_lt (by omega : i + 1 < n), Nat.mod_eq_of_lt (by omega : j + 1 < n)] at h
      rw [h]
      have e : nextB n i j = nextB (n + 1) i j := by
        rw [Bool.eq_iff_iff]
        unfold nextB
        simp only [Bool.or_eq_true, Bool.and_eq_true, decide_eq_true_eq]
        omega
      rw [e]
/-- The area, and the sides. -/
theorem on_turn {a b p : Pt} (h : onB a b p = true) : cr ⟨0, 0⟩ a p + cr ⟨0, 0⟩ p b = cr ⟨0, 0⟩ a b := by
  have := ((onB_iff a b p).1 h).1
  unfold cr at *
  simp only [Int.sub_zero]
  grind
theorem mark_area {xs : List Pt} {p : Pt} (h1 : 1 ≤ xs.length) (hon : onB (ptAt xs (xs.length - 1)) (ptAt xs 0) p = true) : areaZ (xs ++ [p]) = areaZ xs := by
  obtain ⟨m, hm⟩ : ∃ m, xs.length = m + 1 := ⟨xs.length - 1, by omega⟩
  have hlen : (xs ++ [p]).length = m + 2 := by simp [hm]
  rw [areaZ_zsum, areaZ_zsum, hlen, hm, zsum, zsum, zsum]
  have e1 : zsum (areaK (xs ++ [p])) m = zsum (areaK xs) m := zsum_congr fun i hi => by
    unfold areaK
    rw [hlen, hm, Nat.mod_eq_of_lt (by omega), Nat.mod_eq_of_lt (by omega), ptAt_app (by omega), ptAt_app (by omega)]
  have eE : ptAt (xs ++ [p]) (m + 1) = p := by rw [← hm]; exact ptAt_end
  have e2 : areaK (xs ++ [p]) m = cr ⟨0, 0⟩ (ptAt xs m) p := by
    unfold areaK
    rw [hlen, Nat.mod_eq_of_lt (by omega), eE, ptAt_app (by omega)]
  have e3 : areaK (xs ++ [p]) (m + 1) = cr ⟨0, 0⟩ p (ptAt xs 0) := by
    unfold areaK
    rw [hlen, Nat.mod_self, eE, ptAt_app (by omega)]
  have e4 : areaK xs m = cr ⟨0, 0⟩ (ptAt xs m) (ptAt xs 0) := by
    unfold areaK
    rw [hm, Nat.mod_self]
  rw [hm, Nat.add_sub_cancel] at hon
  have := on_turn hon
  rw [e1, e2, e3, e4]
  omega
theorem on_split {a b p q : Pt} (ha : good a = true) (hb : good b = true) (hp : good p = true) (hq : good q = true) (hon : onB a b p = true) (hpa : p ≠ a) (hpb : p ≠ b) : onB a b q = (onB a p q || onB p b q) := by
  have kon := (onB_key ha hb hp).1 hon
  have k1 := mt (key_inj hp ha).2 hpa
  have k2 := mt (key_inj hp hb).2 hpb
  obtain ⟨M, s, g1, g2, g3, g4, g5⟩ := on_param hon
  have c1 : M * cr a p q = s * cr a b q := by unfold cr; grind
  have c2 : M * cr p b q = (M - s) * cr a b q := by
    have := kon.1
    unfold cr at *
    grind
  have s0 : s ≠ 0 := fun e => by
    subst e
    have hx : M * a.x = M * p.x := by grind
    have hy : M * a.y = M * p.y := by grind
    rw [mul_eq g1] at hx hy
    obtain ⟨px, py⟩ := p
    obtain ⟨ax, ay⟩ := a
    simp only at hx hy
    exact hpa (by rw [hx, hy])
  have s1 : s ≠ M := fun e => by
    subst e
    have hx : s * b.x = s * p.x := by grind
    have hy : s * b.y = s * p.y := by grind
    rw [mul_eq g1] at hx hy
    obtain ⟨px, py⟩ := p
    obtain ⟨bx, by_⟩ := b
    simp only at hx hy
    exact hpb (by rw [hx, hy])
  have z1 : cr a p q = 0 ↔ cr a b q = 0 := by
    rw [(pos_sgn (N := M) (x := cr a p q) g1 c1).2.2, ← (pos_sgn (N := s) (x := cr a b q) (by omega) rfl).2.2]
  have z2 : cr p b q = 0 ↔ cr a b q = 0 := by
    rw [(pos_sgn (N := M) (x := cr p b q) g1 c2).2.2, ← (pos_sgn (N := M - s) (x := cr a b q) (by omega) rfl).2.2]
  rw [Bool.eq_iff_iff, Bool.or_eq_true, onB_key ha hb hq, onB_key ha hp hq, onB_key hp hb hq, z1, z2]
  have := kon.2
  omega
theorem cr_split {a b p q : Pt} (hon : onB a b p = true) (hpa : p ≠ a) (hpb : p ≠ b) (hab : a.y ≤ b.y) : crB a b q = xor (crB a p q) (crB p b q) := by
  have kon := (onB_iff a b p).1 hon
  obtain ⟨M, s, g1, g2, g3, g4, g5⟩ := on_param hon
  have c1 : M * cr a p q = s * cr a b q := by unfold cr; grind
  have c2 : M * cr p b q = (M - s) * cr a b q := by
    have := kon.1
    unfold cr at *
    grind
  have s0 : s ≠ 0 := fun e => by
    subst e
    have hx : M * a.x = M * p.x := by grind
    have hy : M * a.y = M * p.y := by grind
    rw [mul_eq g1] at hx hy
    obtain ⟨px, py⟩ := p
    obtain ⟨ax, ay⟩ := a
    simp only at hx hy
    exact hpa (by rw [hx, hy])
  have s1 : s ≠ M := fun e => by
    subst e
    have hx : s * b.x = s * p.x := by grind
    have hy : s * b.y = s * p.y := by grind
    rw [mul_eq g1] at hx hy
    obtain ⟨px, py⟩ := p
    obtain ⟨bx, by_⟩ := b
    simp only at hx hy
    exact hpb (by rw [hx, hy])
  have z1 : 0 < cr a p q ↔ 0 < cr a b q := by
    rw [(pos_sgn (N := M) (x := cr a p q) g1 c1).1, ← (pos_sgn (N := s) (x := cr a b q) (by omega) rfl).1]
  have z2 : 0 < cr p b q ↔ 0 < cr a b q := by
    rw [(pos_sgn (N := M) (x := cr p b q) g1 c2).1, ← (pos_sgn (N := M - s) (x := cr a b q) (by omega) rfl).1]
  have hy := kon.2.2
  have e1 := crB_up (a := a) (b := b) (p := q) hab
  have e2 := crB_up (a := a) (b := p) (p := q) (by omega)
  have e3 := crB_up (a := p) (b := b) (p := q) (by omega)
  rw [z1] at e2
  rw [z2] at e3
  rcases h1 : crB a b q with _ | _ <;> rcases h2 : crB a p q with _ | _ <;> rcases h3 : crB p b q with _ | _ <;> simp only [h1, h2, h3, Bool.false_eq_true, true_iff, false_iff] at e1 e2 e3 <;> (first | rfl | (exfalso; omega))
theorem cr_splitA {a b p q : Pt} (hon : onB a b p = true) (hpa : p ≠ a) (hpb : p ≠ b) : crB a b q = xor (crB a p q) (crB p b q) := by
  by_cases hab : a.y ≤ b.y
  · exact cr_split hon hpa hpb hab
  · rw [crB_swap a b, crB_swap a p, crB_swap p b, Bool.xor_comm]
    exact cr_split (by rw [onB_swap]; exact hon) hpb hpa (by omega)
theorem mark_side {xs : List Pt} {p : Pt} (q : Pt) (h1 : 1 ≤ xs.length) (hg : goodL xs = true) (hp : good p = true) (hq : good q = true) (hon : onB (ptAt xs (xs.length - 1)) (ptAt xs 0) p = true) (hpa : p ≠ ptAt xs (xs.length - 1)) (hpb : p ≠ ptAt xs 0) : sideI (xs ++ [p]) q = sideI xs q := by
  obtain ⟨m, hm⟩ : ∃ m, xs.length = m + 1 := ⟨xs.length - 1, by omega⟩
  have hlen : (xs ++ [p]).length = m + 2 := by simp [hm]
  have eE : ptAt (xs ++ [p]) (m + 1) = p := by rw [← hm]; exact ptAt_end
  rw [hm, Nat.add_sub_cancel] at hon hpa
  have o1 : ∀ i, i < m → onE (xs ++ [p]) q i = onE xs q i := fun i hi => by
    unfold onE
    rw [hlen, hm, Nat.mod_eq_of_lt (by omega), Nat.mod_eq_of_lt (by omega), ptAt_app (by omega), ptAt_app (by omega)]
  have o2 : onE (xs ++ [p]) q m = onB (ptAt xs m) p q := by
    unfold onE
    rw [hlen, Nat.mod_eq_of_lt (by omega), eE, ptAt_app (by omega)]
  have o3 : onE (xs ++ [p]) q (m + 1) = onB p (ptAt xs 0) q := by
    unfold onE
    rw [hlen, Nat.mod_self, eE, ptAt_app (by omega)]
  have o4 : onE xs q m = (onB (ptAt xs m) p q || onB p (ptAt xs 0) q) := by
    rw [← on_split (ptAt_good hg _) (ptAt_good hg _) hp hq hon hpa hpb]
    unfold onE
    rw [hm, Nat.mod_self]
  have c1 : ∀ i, i < m → crE (xs ++ [p]) q i = crE xs q i := fun i hi => by
    unfold crE
    rw [hlen, hm, Nat.mod_eq_of_lt (by omega), Nat.mod_eq_of_lt (by omega), ptAt_app (by omega), ptAt_app (by omega)]
  have c2 : crE (xs ++ [p]) q m = crB (ptAt xs m) p q := by
    unfold crE
    rw [hlen, Nat.mod_eq_of_lt (by omega), eE, ptAt_app (by omega)]
  have c3 : crE (xs ++ [p]) q (m + 1) = crB p (ptAt xs 0) q := by
    unfold crE
    rw [hlen, Nat.mod_self, eE, ptAt_app (by omega)]
  have c4 : crE xs q m = xor (crB (ptAt xs m) p q) (crB p (ptAt xs 0) q) := by
    rw [← cr_splitA hon hpa hpb]
    unfold crE
    rw [hm, Nat.mod_self]
  have e3 : oddN (xs ++ [p]) q (m + 2) = oddN xs q (m + 1) := by
    rw [oddN, oddN, oddN, c2, c3, c4, oddN_xsum, oddN_xsum, xsum_congr c1, Bool.xor_assoc]
  have e4 : noneN (xs ++ [p]) q (m + 2) ↔ noneN xs q (m + 1) := by
    unfold noneN
    constructor
    · intro hn i hi
      by_cases him : i = m
      · subst him
        have g1 := hn i (by omega)
        have g2 := hn (i + 1) (by omega)
        rw [o2] at g1
        rw [o3] at g2
        rw [o4, g1, g2]
        rfl
      · rw [← o1 i (by omega)]
        exact hn i (by omega)
    · intro hn i hi
      have g := hn m (by omega)
      rw [o4, Bool.or_eq_false_iff] at g
      by_cases h1 : i = m + 1
      · subst h1; rw [o3]; exact g.2
      · by_cases h2 : i = m
        · subst h2; rw [o2]; exact g.1
        · rw [o1 i (by omega)]
          exact hn i (by omega)
  unfold sideI
  rw [hlen, hm, e3]
  by_cases hn : noneN xs q (m + 1)
  · rw [if_pos hn, if_pos (e4.2 hn)]
  · rw [if_neg hn, if_neg (fun h' => hn (e4.1 h'))]
end Go.Proofs.YtglnklfhgdjccaaGreat
namespace Go.Proofs.YtglnklfhgdjccaaGreat
/-- The ring with a corner more behind the k-th. -/
def mark (k : Nat) (p : Pt) (xs : List Pt) : List Pt := xs.take (k + 1) ++ [p] ++ xs.drop (k + 1)
theorem mark_len {k : Nat} {p : Pt} {xs : List Pt} (h : k < xs.length) : (mark k p xs).length = xs.length + 1 := by
  unfold mark
  simp only [List.length_append, List.length_take, List.length_drop, List.length_cons, List.length_nil]
  omega
theorem mark_good {k : Nat} {p : Pt} {xs : List Pt} (hg : goodL xs = true) (hp : good p = true) : goodL (mark k p xs) = true := by
  unfold goodL mark at *
  rw [List.all_eq_true] at hg ⊢
  intro e he
  rcases List.mem_append.1 he with h | h
  · rcases List.mem_append.1 h with h | h
    · exact hg e (List.mem_of_mem_take h)
    · rw [List.mem_singleton.1 h]; exact hp
  · exact hg e (List.mem_of_mem_drop h)
theorem mark_core {k : Nat} {p q : Pt} {xs : List Pt} (hk : k < xs.length) (h3 : 3 ≤ xs.length) (hg : goodL xs = true) (hp : good p = true) (hq : good q = true) (hP : PairsOK xs) (hon : onB (ptAt xs k) (ptAt xs ((k + 1) % xs.length)) p = true) (hpa : p ≠ ptAt xs k) (hpb : p ≠ ptAt xs ((k + 1) % xs.length)) :
    PairsOK (mark k p xs) ∧ areaZ (mark k p xs) = areaZ xs ∧ sideI (mark k p xs) q = sideI xs q := by
  by_cases hk1 : k + 1 < xs.length
  · have hz := rot_len (k := k + 1) (xs := xs) (by omega)
    have e0 : ptAt (rot (k + 1) xs) 0 = ptAt xs ((k + 1) % xs.length) := by rw [ptAt_rot hk1 (by omega)]
    have e1 : ptAt (rot (k + 1) xs) ((rot (k + 1) xs).length - 1) = ptAt xs k := by
      rw [hz, ptAt_rot hk1 (by omega), show k + 1 + (xs.length - 1) = k + xs.length by omega, Nat.add_mod_right, Nat.mod_eq_of_lt hk]
    have hm := mark_len (p := p) hk
    have er : rot (k + 2) (mark k p xs) = rot (k + 1) xs ++ [p] := by
      unfold rot mark
      have hl : (xs.take (k + 1) ++ [p]).length = k + 2 := by
        simp only [List.length_append, List.length_take, List.length_cons, List.length_nil]; omega
      rw [List.drop_left' hl, List.take_left' hl, List.append_assoc]
    have hgz : goodL (rot (k + 1) xs) = true := by rw [good_rot]; exact hg
    rw [← e1] at hpa
    rw [← e0] at hpb
    rw [← e1, ← e0] at hon
    have p1 := mark_pairs (xs := rot (k + 1) xs) (by omega) hgz hp ((pairs_rot hk1).2 hP) hon hpa hpb
    have p2 := mark_area (xs := rot (k + 1) xs) (p := p) (by omega) hon
    have p3 := mark_side (xs := rot (k + 1) xs) q (by omega) hgz hp hq hon hpa hpb
    rw [← er] at p1 p2 p3
    rw [pairs_rot (by omega)] at p1
    rw [areaZ_rot (by omega), areaZ_rot hk1] at p2
    rw [side_rot q (by omega), side_rot q hk1] at p3
    exact ⟨p1, p2, p3⟩
  · have hkn : k + 1 = xs.length := by omega
    have em : mark k p xs = xs ++ [p] := by
      unfold mark
      rw [hkn, List.take_length, List.drop_length, List.append_nil]
    have ek : k = xs.length - 1 := by omega
    rw [hkn, Nat.mod_self] at hon hpb
    rw [em]
    rw [ek] at hon hpa
    exact ⟨mark_pairs h3 hg hp hP hon hpa hpb, mark_area (by omega) hon, mark_side q (by omega) hg hp hq hon hpa hpb⟩
theorem mark_all {k : Nat} {p q : Pt} {xs : List Pt} (hk : k < xs.length) (hc : checkI xs = 0) (hn : xs.length ≤ 127) (hp : good p = true) (hq : good q = true) (hon : onB (ptAt xs k) (ptAt xs ((k + 1) % xs.length)) p = true) (hpa : p ≠ ptAt xs k) (hpb : p ≠ ptAt xs ((k + 1) % xs.length)) :
    checkI (mark k p xs) = 0 ∧ areaE xs = 0 ∧ areaE (mark k p xs) = 0 ∧ areaV (mark k p xs) = areaV xs ∧ sideE xs q = 0 ∧ sideE (mark k p xs) q = 0 ∧ sideV (mark k p xs) q = sideV xs q := by
  obtain ⟨h1, h2, h3, h4, h5⟩ := checkI_zero hc
  obtain ⟨m1, m2, m3⟩ := mark_core hk h3 h2 hp hq h5 hon hpa hpb
  have a1 := areaE_of h1 h2
  have a2 : areaE (mark k p xs) = 0 := areaE_of (by rw [mark_len hk]; omega) (mark_good h2 hp)
  have c2 : checkI (mark k p xs) = 0 := checkI_ok a2 (by rw [mark_len hk]; omega) (by rw [m2]; exact h4) m1
  refine ⟨c2, a1, a2, by rw [areaV_ok a1, areaV_ok a2, m2], ?_, ?_, ?_⟩
  · unfold sideE; rw [if_neg (by rw [hc]; decide), if_pos hq]
  · unfold sideE; rw [if_neg (by rw [c2]; decide), if_pos hq]
  · unfold sideV
    rw [hc, c2, hq, m3]
end Go.Proofs.YtglnklfhgdjccaaGreat

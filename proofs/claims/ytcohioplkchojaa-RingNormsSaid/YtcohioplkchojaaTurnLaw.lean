/- Plain law: a ring that begins elsewhere, and one that is turned. -/
import Derived.Test.YtcohioplkchojaaShiftLaw
import Derived.Test.YtcohioplkchojaaParity
namespace Go.Proofs.Ytcohioplkchojaa
def zsum (f : Nat → Int) : Nat → Int
  | 0 => 0
  | k + 1 => zsum f k + f k
theorem areaS_zsum (xs : List Pt) (k : Nat) : areaS xs k = zsum (areaK xs) k := by
  induction k with
  | zero => rfl
  | succ k ih => rw [areaS_succ, zsum, ih]
theorem areaZ_zsum (xs : List Pt) : areaZ xs = zsum (areaK xs) xs.length := by rw [← areaS_zsum, areaS_all]
theorem zsum_congr {f g : Nat → Int} {n : Nat} (h : ∀ k, k < n → f k = g k) : zsum f n = zsum g n := by
  induction n with
  | zero => rfl
  | succ n ih => rw [zsum, zsum, ih fun k hk => h k (by omega), h n (by omega)]
theorem zsum_neg (f : Nat → Int) (n : Nat) : zsum (fun i => - f i) n = - zsum f n := by
  induction n with
  | zero => rfl
  | succ n ih => rw [zsum, zsum, ih]; omega
theorem zsum_one (g : Nat → Int) (n : Nat) : zsum (fun i => g (i + 1)) n = zsum g n + g n - g 0 := by
  induction n with
  | zero => simp [zsum]
  | succ n ih => rw [zsum, zsum, ih]; omega
theorem zsum_shift (f : Nat → Int) {n : Nat} (k : Nat) : zsum (fun i => f ((k + i) % n)) n = zsum f n := by
  induction k with
  | zero => exact zsum_congr fun i hi => by rw [Nat.zero_add, Nat.mod_eq_of_lt hi]
  | succ k ih =>
    have h := zsum_one (fun i => f ((k + i) % n)) n
    simp only [Nat.add_zero, Nat.add_mod_right] at h
    have e : (fun i => f ((k + 1 + i) % n)) = fun i => f ((k + (i + 1)) % n) := by funext i; rw [show k + 1 + i = k + (i + 1) by omega]
    rw [e]
    omega
theorem zsum_rev_aux (g : Nat → Int) (n : Nat) : ∀ k, k ≤ n → zsum (fun i => g (n - 1 - i)) k + zsum g (n - k) = zsum g n
  | 0, _ => by simp [zsum]
  | k + 1, h => by
    have ih := zsum_rev_aux g n k (by omega)
    obtain ⟨m, hm⟩ : ∃ m, n - k = m + 1 := ⟨n - k - 1, by omega⟩
    rw [hm, zsum] at ih
    rw [zsum, show n - (k + 1) = m by omega, show n - 1 - k = m by omega]
    omega
theorem zsum_rev (g : Nat → Int) (n : Nat) : zsum (fun i => g (n - 1 - i)) n = zsum g n := by
  have := zsum_rev_aux g n n (Nat.le_refl _)
  rw [Nat.sub_self] at this
  simpa [zsum] using this
theorem xsum_one (g : Nat → Bool) (n : Nat) : xsum (fun i => g (i + 1)) n = xor (xor (xsum g n) (g n)) (g 0) := by
  induction n with
  | zero => simp [xsum]
  | succ n ih => rw [xsum, xsum, ih]; cases xsum g n <;> cases g n <;> cases g 0 <;> cases g (n + 1) <;> rfl
theorem xsum_shift (f : Nat → Bool) {n : Nat} (k : Nat) : xsum (fun i => f ((k + i) % n)) n = xsum f n := by
  induction k with
  | zero => exact xsum_congr fun i hi => by rw [Nat.zero_add, Nat.mod_eq_of_lt hi]
  | succ k ih =>
    have h := xsum_one (fun i => f ((k + i) % n)) n
    simp only [Nat.add_zero, Nat.add_mod_right] at h
    have e : (fun i => f ((k + 1 + i) % n)) = fun i => f ((k + (i + 1)) % n) := by funext i; rw [show k + 1 + i = k + (i + 1) by omega]
    rw [e, h, ih]
    cases xsum f n <;> cases f (k % n) <;> rfl
/-- The ring that begins at k. -/
def rot (k : Nat) (xs : List Pt) : List Pt := xs.drop k ++ xs.take k
theorem rot_len {k : Nat} {xs : List Pt} (h : k ≤ xs.length) : (rot k xs).length = xs.length := by
  unfold rot
  rw [List.length_append, List.length_drop, List.length_take]
  omega
theorem ptAt_rot {k i : Nat} {xs : List Pt} (h : k < xs.length) (hi : i < xs.length) : ptAt (rot k xs) i = ptAt xs ((k + i) % xs.length) := by
  unfold ptAt rot
  by_cases hlt : i < xs.length - k
  · rw [List.getElem?_append_left (by rw [List.length_drop]; exact hlt), List.getElem?_drop, Nat.mod_eq_of_lt (by omega)]
  · rw [List.getElem?_append_right (by rw [List.length_drop]; omega), List.length_drop, List.getElem?_take]
    have e : (k + i) % xs.length = i - (xs.length - k) := by
      rw [Nat.mod_eq_sub_mod (by omega), Nat.mod_eq_of_lt (by omega)]
      omega
    rw [e, if_pos (by omega)]
theorem ptAt_rot1 {k i : Nat} {xs : List Pt} (h : k < xs.length) : ptAt (rot k xs) ((i + 1) % xs.length) = ptAt xs (((k + i) % xs.length + 1) % xs.length) := by
  rw [ptAt_rot h (Nat.mod_lt _ (by omega))]
  congr 1
  rw [Nat.add_mod_mod, Nat.mod_add_mod, Nat.add_assoc]
theorem good_rot {k : Nat} {xs : List Pt} : goodL (rot k xs) = goodL xs := by
  unfold goodL rot
  rw [List.all_append, Bool.and_comm, ← List.all_append, List.take_append_drop]
theorem areaZ_rot {k : Nat} {xs : List Pt} (h : k < xs.length) : areaZ (rot k xs) = areaZ xs := by
  rw [areaZ_zsum, areaZ_zsum, rot_len (by omega), ← zsum_shift (areaK xs) k]
  refine zsum_congr fun i hi => ?_
  unfold areaK
  rw [rot_len (by omega), ptAt_rot h hi, ptAt_rot1 h]
theorem side_rot {k : Nat} {xs : List Pt} (p : Pt) (h : k < xs.length) : sideI (rot k xs) p = sideI xs p := by
  have e1 : ∀ i, i < xs.length → onE (rot k xs) p i = onE xs p ((k + i) % xs.length) := fun i hi => by
    unfold onE
    rw [rot_len (by omega), ptAt_rot h hi, ptAt_rot1 h]
  have e2 : ∀ i, i < xs.length → crE (rot k xs) p i = crE xs p ((k + i) % xs.length) := fun i hi => by
    unfold crE
    rw [rot_len (by omega), ptAt_rot h hi, ptAt_rot1 h]
  have e3 : oddN (rot k xs) p xs.length = oddN xs p xs.length := by
    rw [oddN_xsum, oddN_xsum, xsum_congr e2]
    exact xsum_shift (crE xs p) k
  have e4 : noneN (rot k xs) p xs.length ↔ noneN xs p xs.length := by
    unfold noneN
    constructor
    · intro hn i hi
      have := hn ((i + (xs.length - k)) % xs.length) (Nat.mod_lt _ (by omega))
      rw [e1 _ (Nat.mod_lt _ (by omega)), Nat.add_mod_mod, show k + (i + (xs.length - k)) = i + xs.length by omega, Nat.add_mod_right, Nat.mod_eq_of_lt hi] at this
      exact this
    · intro hn i hi
      rw [e1 i hi]
      exact hn _ (Nat.mod_lt _ (by omega))
  unfold sideI
  rw [rot_len (by omega), e3]
  by_cases hn : noneN xs p xs.length
  · rw [if_pos hn, if_pos (e4.2 hn)]
  · rw [if_neg hn, if_neg (fun h' => hn (e4.1 h'))]
/-- Pairs, whichever is named first. -/
theorem prB_comm (a b c d : Pt) : prB c d a b = prB a b c d := by
  unfold prB
  rw [decide_eq_decide]
  exact And.comm
theorem endsL_comm {a b c d e : Pt} : e ∈ endsL c d a b ↔ e ∈ endsL a b c d := by
  unfold endsL
  simp only [List.mem_append]
  constructor <;> rintro (h | h | h | h) <;> simp only [h, true_or, or_true]
theorem difB_iff (l : List Pt) : difB l = true ↔ ∃ p q, p ∈ l ∧ q ∈ l ∧ p ≠ q := by
  refine ⟨difB_two, ?_⟩
  rintro ⟨p, q, hp, hq, hne⟩
  cases l with
  | nil => cases hp
  | cons e t =>
    unfold difB
    rw [List.any_eq_true]
    by_cases h1 : p = e
    · subst h1
      refine ⟨q, ?_, decide_eq_true (fun h => hne h.symm)⟩
      rcases List.mem_cons.1 hq with h | h
      · exact absurd h.symm hne
      · exact h
    · refine ⟨p, ?_, decide_eq_true h1⟩
      rcases List.mem_cons.1 hp with h | h
      · exact absurd h h1
      · exact h
theorem meetR_comm (a b c d : Pt) : meetR c d a b = meetR a b c d := by
  have h1 : difB (endsL c d a b) = difB (endsL a b c d) := by
    rw [Bool.eq_iff_iff, difB_iff, difB_iff]
    simp only [endsL_comm]
  have h2 : endsL c d a b ≠ [] ↔ endsL a b c d ≠ [] := by
    constructor <;> intro h <;> obtain ⟨e, he⟩ := List.exists_mem_of_ne_nil _ h
    · exact List.ne_nil_of_mem (endsL_comm.1 he)
    · exact List.ne_nil_of_mem (endsL_comm.2 he)
  unfold meetR
  rw [h1, prB_comm]
  by_cases h : endsL a b c d ≠ []
  · rw [if_pos (h2.2 h), if_pos h]
  · rw [if_neg (fun h' => h (h2.1 h')), if_neg h]
def adjB (n i j : Nat) : Bool := decide ((i + 1) % n = j) || decide ((j + 1) % n = i)
theorem next_adj {n i j : Nat} (hi : i < j) (hj : j < n) : nextB n i j = adjB n i j := by
  unfold nextB adjB
  rw [Nat.mod_eq_of_lt (by omega : i + 1 < n)]
  by_cases h : j + 1 = n
  · rw [h, Nat.mod_self]
    rw [Bool.eq_iff_iff]
    simp only [Bool.or_eq_true, Bool.and_eq_true, decide_eq_true_eq]
    omega
  · rw [Nat.mod_eq_of_lt (by omega : j + 1 < n)]
    rw [Bool.eq_iff_iff]
    simp only [Bool.or_eq_true, Bool.and_eq_true, decide_eq_true_eq]
    omega
def pairS (xs : List Pt) (i j : Nat) : Prop := ptAt xs i ≠ ptAt xs j ∧ meetOf xs i j = if adjB xs.length i j = true then 1 else 0
theorem pairS_comm {xs : List Pt} {i j : Nat} (h : pairS xs i j) : pairS xs j i := by
  unfold pairS meetOf at *
  refine ⟨fun e => h.1 e.symm, ?_⟩
  rw [meetR_comm, h.2]
  unfold adjB
  rw [Bool.or_comm]
theorem pairs_iff (xs : List Pt) : PairsOK xs ↔ ∀ i j, i < xs.length → j < xs.length → i ≠ j → pairS xs i j := by
  have key : ∀ i j, i < j → j < xs.length → (pairOK xs i j = true ↔ pairS xs i j) := fun i j hi hj => by
    unfold pairOK pairS
    rw [next_adj hi hj, Bool.and_eq_true, decide_eq_true_eq, decide_eq_true_eq]
  constructor
  · intro h i j hi hj hne
    rcases Nat.lt_or_gt_of_ne hne with hlt | hlt
    · exact (key i j hlt hj).1 (h i j hlt hj)
    · exact pairS_comm ((key j i hlt hi).1 (h j i hlt hi))
  · intro h i j hi hj
    exact (key i j hi hj).2 (h i j (by omega) hj (by omega))
theorem rot_inj {n k i j : Nat} (hi : i < n) (hj : j < n) (h : (k + i) % n = (k + j) % n) : i = j := by
  have h1 := Nat.div_add_mod (k + i) n
  have h2 := Nat.div_add_mod (k + j) n
  have h3 : n * ((k + i) / n) + (k + j) = n * ((k + j) / n) + (k + i) := by omega
  rcases Nat.lt_trichotomy ((k + i) / n) ((k + j) / n) with h4 | h4 | h4
  · have := Nat.mul_le_mul_left n (show (k + i) / n + 1 ≤ (k + j) / n from h4)
    rw [Nat.mul_add, Nat.mul_one] at this
    omega
  · rw [h4] at h3; omega
  · have := Nat.mul_le_mul_left n (show (k + j) / n + 1 ≤ (k + i) / n from h4)
    rw [Nat.mul_add, Nat.mul_one] at this
    omega
theorem adj_rot {n k i j : Nat} (hi : i < n) (hj : j < n) : adjB n ((k + i) % n) ((k + j) % n) = adjB n i j := by
  have key : ∀ i j, i < n → j < n → decide (((k + i) % n + 1) % n = (k + j) % n) = decide ((i + 1) % n = j) := fun i j hi hj => by
    rw [decide_eq_decide, Nat.mod_add_mod]
    constructor
    · intro h
      have : (k + (i + 1) % n) % n = (k + j) % n := by rw [Nat.add_mod_mod]; exact h
      exact rot_inj (Nat.mod_lt _ (by omega)) hj this
    · intro h
      rw [← h, Nat.add_mod_mod]
      rfl
  unfold adjB
  rw [key i j hi hj, key j i hj hi]
theorem pairS_rot {k i j : Nat} {xs : List Pt} (h : k < xs.length) (hi : i < xs.length) (hj : j < xs.length) : pairS (rot k xs) i j ↔ pairS xs ((k + i) % xs.length) ((k + j) % xs.length) := by
  unfold pairS meetOf
  rw [rot_len (by omega), ptAt_rot1 h, ptAt_rot1 h, ptAt_rot h hi, ptAt_rot h hj, adj_rot hi hj]
theorem pairs_rot {k : Nat} {xs : List Pt} (h : k < xs.length) : PairsOK (rot k xs) ↔ PairsOK xs := by
  have hn : 0 < xs.length := by omega
  rw [pairs_iff, pairs_iff, rot_len (by omega)]
  constructor
  · intro hp i j hi hj hne
    have e : ∀ i, i < xs.length → (k + (i + (xs.length - k)) % xs.length) % xs.length = i := fun i hi => by
      rw [Nat.add_mod_mod, show k + (i + (xs.length - k)) = i + xs.length by omega, Nat.add_mod_right, Nat.mod_eq_of_lt hi]
    have := hp ((i + (xs.length - k)) % xs.length) ((j + (xs.length - k)) % xs.length) (Nat.mod_lt _ hn) (Nat.mod_lt _ hn) (fun h' => hne (by rw [← e i hi, h', e j hj]))
    rw [pairS_rot h (Nat.mod_lt _ hn) (Nat.mod_lt _ hn), e i hi, e j hj] at this
    exact this
  · intro hp i j hi hj hne
    rw [pairS_rot h hi hj]
    exact hp _ _ (Nat.mod_lt _ hn) (Nat.mod_lt _ hn) (fun h' => hne (rot_inj hi hj h'))
theorem area_rot {k : Nat} {xs : List Pt} (h : k < xs.length) : areaE (rot k xs) = areaE xs ∧ areaV (rot k xs) = areaV xs := by
  have h1 : areaE (rot k xs) = areaE xs := by
    unfold areaE
    rw [rot_len (by omega), good_rot]
  refine ⟨h1, ?_⟩
  unfold areaV
  rw [h1, areaZ_rot h]
theorem check_rot {k : Nat} {xs : List Pt} (h : k < xs.length) : checkI (rot k xs) = checkI xs := check_congr (area_rot h).1 (by rw [rot_len (by omega)]) (areaZ_rot h) (pairs_rot h)
theorem sideW_rot {k : Nat} {xs : List Pt} (p : Pt) (h : k < xs.length) : sideV (rot k xs) p = sideV xs p ∧ sideE (rot k xs) p = sideE xs p := by
  unfold sideV sideE
  rw [check_rot h, side_rot p h]
  exact ⟨rfl, rfl⟩
theorem ptAt_rev {xs : List Pt} {i : Nat} (h : i < xs.length) : ptAt xs.reverse i = ptAt xs (xs.length - 1 - i) := by
  unfold ptAt
  rw [List.getElem?_reverse h]
theorem areaZ_rev (xs : List Pt) : areaZ xs.reverse = - areaZ xs := by
  rw [areaZ_zsum, areaZ_zsum, List.length_reverse, ← zsum_shift (areaK xs) (xs.length - 1), ← zsum_rev (fun i => areaK xs ((xs.length - 1 + i) % xs.length)), ← zsum_neg]
  refine zsum_congr fun i hi => ?_
  unfold areaK
  rw [List.length_reverse, ptAt_rev hi, ptAt_rev (Nat.mod_lt _ (by omega))]
  have e1 : ((xs.length - 1 + (xs.length - 1 - i)) % xs.length + 1) % xs.length = xs.length - 1 - i := by
    rw [Nat.mod_add_mod, show xs.length - 1 + (xs.length - 1 - i) + 1 = xs.length - 1 - i + xs.length by omega, Nat.add_mod_right, Nat.mod_eq_of_lt (by omega)]
  have e2 : (xs.length - 1 + (xs.length - 1 - i)) % xs.length = xs.length - 1 - (i + 1) % xs.length := by
    by_cases h1 : i + 1 = xs.length
    · rw [h1, Nat.mod_self, show xs.length - 1 + (xs.length - 1 - i) = xs.length - 1 by omega, Nat.mod_eq_of_lt (by omega)]
      omega
    · rw [Nat.mod_eq_of_lt (by omega : i + 1 < xs.length), show xs.length - 1 + (xs.length - 1 - i) = xs.length - 1 - (i + 1) + xs.length by omega, Nat.add_mod_right, Nat.mod_eq_of_lt (by omega)]
  rw [e1, e2]
  unfold cr
  simp only [Int.sub_zero]
  grind
theorem good_rev (xs : List Pt) : goodL xs.reverse = goodL xs := by
  unfold goodL
  rw [List.all_reverse]
theorem areaE_rev (xs : List Pt) : areaE xs.reverse = areaE xs := by
  unfold areaE
  rw [List.length_reverse, good_rev]
theorem areaV_rev (xs : List Pt) : areaV xs.reverse = - areaV xs := by
  unfold areaV
  rw [areaE_rev, areaZ_rev]
  split <;> rfl
theorem check_rev {xs : List Pt} (h : checkI xs = 0) : checkI xs.reverse = 4 := by
  obtain ⟨h1, h2, -, h3, -⟩ := checkI_zero h
  exact checkI_no ((areaE_rev xs).trans (areaE_of h1 h2)) (fun h' => by have := h'.2.1; rw [areaZ_rev] at this; omega)
end Go.Proofs.Ytcohioplkchojaa

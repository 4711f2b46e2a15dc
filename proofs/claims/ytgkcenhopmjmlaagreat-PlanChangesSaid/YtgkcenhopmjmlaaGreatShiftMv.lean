/- What lies beside PlanLaw. -/
import Derived.Test.YtgkcenhopmjmlaaGreatCheck2
import Derived.Test.YtgkcenhopmjmlaaGreatPlanLaw
namespace Go.Proofs.YtgkcenhopmjmlaaGreat
theorem check_congr {xs ys : List Pt} (he : areaE ys = areaE xs) (hl : 3 ≤ ys.length ↔ 3 ≤ xs.length) (ha : areaZ ys = areaZ xs) (hp : PairsOK ys ↔ PairsOK xs) : checkI ys = checkI xs := by
  by_cases h0 : areaE xs = 0
  · by_cases h : 3 ≤ xs.length ∧ 0 < areaZ xs ∧ PairsOK xs
    · rw [checkI_ok h0 h.1 h.2.1 h.2.2, checkI_ok (he.trans h0) (hl.2 h.1) (by rw [ha]; exact h.2.1) (hp.2 h.2.2)]
    · rw [checkI_no h0 h, checkI_no (he.trans h0) (fun h' => h ⟨hl.1 h'.1, by rw [← ha]; exact h'.2.1, hp.1 h'.2.2⟩)]
  · rw [checkI_err h0, checkI_err (by rw [he]; exact h0), he]
def mv (d p : Pt) : Pt := ⟨p.x + d.x, p.y + d.y⟩
theorem cr_mv (d a b c : Pt) : cr (mv d a) (mv d b) (mv d c) = cr a b c := by
  unfold cr mv
  simp only
  rw [show b.x + d.x - (a.x + d.x) = b.x - a.x by omega, show c.y + d.y - (a.y + d.y) = c.y - a.y by omega, show b.y + d.y - (a.y + d.y) = b.y - a.y by omega, show c.x + d.x - (a.x + d.x) = c.x - a.x by omega]
theorem btw_mv (d a b n : Int) : btw (a + d) (b + d) (n + d) = btw a b n := by
  unfold btw
  rw [decide_eq_decide]
  omega
theorem onB_mv (d a b p : Pt) : onB (mv d a) (mv d b) (mv d p) = onB a b p := by
  unfold onB
  rw [cr_mv]
  unfold mv
  simp only [btw_mv]
theorem mv_inj {d p q : Pt} : mv d p = mv d q ↔ p = q := by
  obtain ⟨px, py⟩ := p
  obtain ⟨qx, qy⟩ := q
  unfold mv
  simp only [Pt.mk.injEq]
  omega
theorem endsL_mv (d a b c e : Pt) : endsL (mv d a) (mv d b) (mv d c) (mv d e) = (endsL a b c e).map (mv d) := by
  unfold endsL
  rw [onB_mv, onB_mv, onB_mv, onB_mv]
  cases onB c e a <;> cases onB c e b <;> cases onB a b c <;> cases onB a b e <;> rfl
theorem difB_mv (d : Pt) (l : List Pt) : difB (l.map (mv d)) = difB l := by
  cases l with
  | nil => rfl
  | cons e t =>
    simp only [List.map_cons, difB, List.any_map]
    congr 1
    funext p
    simp only [Function.comp, ne_eq, mv_inj]
theorem prB_mv (d a b c e : Pt) : prB (mv d a) (mv d b) (mv d c) (mv d e) = prB a b c e := by
  unfold prB
  rw [cr_mv, cr_mv, cr_mv, cr_mv]
theorem meetR_mv (d a b c e : Pt) : meetR (mv d a) (mv d b) (mv d c) (mv d e) = meetR a b c e := by
  unfold meetR
  rw [endsL_mv, difB_mv, prB_mv]
  simp only [ne_eq, List.map_eq_nil_iff]
theorem ptAt_mv (d : Pt) {xs : List Pt} {k : Nat} (h : k < xs.length) : ptAt (xs.map (mv d)) k = mv d (ptAt xs k) := by
  unfold ptAt
  simp [h]
theorem ptAt_mvn (d : Pt) {xs : List Pt} {k : Nat} (h : k < xs.length) : ptAt (xs.map (mv d)) ((k + 1) % xs.length) = mv d (ptAt xs ((k + 1) % xs.length)) := ptAt_mv d (Nat.mod_lt _ (by omega))
theorem pairs_mv (d : Pt) (xs : List Pt) : PairsOK (xs.map (mv d)) ↔ PairsOK xs := by
  have key : ∀ i j, i < j → j < xs.length → pairOK (xs.map (mv d)) i j = pairOK xs i j := fun i j hi hj => by
    unfold pairOK meetOf
    rw [List.length_map, ptAt_mvn d (by omega : i < xs.length), ptAt_mvn d hj, ptAt_mv d (by omega : i < xs.length), ptAt_mv d hj, meetR_mv]
    simp only [ne_eq, mv_inj]
  constructor
  · intro h i j hi hj
    rw [← key i j hi hj]
    exact h i j hi (by simpa using hj)
  · intro h i j hi hj
    rw [List.length_map] at hj
    rw [key i j hi hj]
    exact h i j hi hj
theorem areaK_mv (d a b : Pt) : cr ⟨0, 0⟩ (mv d a) (mv d b) = cr ⟨0, 0⟩ a b + (d.x * b.y - d.y * b.x) - (d.x * a.y - d.y * a.x) := by
  unfold cr mv
  simp only [Int.sub_zero]
  grind
theorem areaS_mv (d : Pt) (xs : List Pt) (k : Nat) (hk : k < xs.length) : areaS (xs.map (mv d)) k = areaS xs k + (d.x * (ptAt xs k).y - d.y * (ptAt xs k).x) - (d.x * (ptAt xs 0).y - d.y * (ptAt xs 0).x) := by
  induction k with
  | zero => rw [areaS_zero, areaS_zero]; omega
  | succ k ih =>
    rw [areaS_succ, areaS_succ, ih (by omega)]
    unfold areaK
    rw [List.length_map, ptAt_mvn d (by omega : k < xs.length), ptAt_mv d (by omega : k < xs.length), areaK_mv, Nat.mod_eq_of_lt hk]
    omega
theorem areaZ_mv (d : Pt) (xs : List Pt) : areaZ (xs.map (mv d)) = areaZ xs := by
  rw [← areaS_all, ← areaS_all, List.length_map]
  rcases Nat.eq_zero_or_pos xs.length with h | h
  · rw [h]; rfl
  · obtain ⟨m, hm⟩ : ∃ m, xs.length = m + 1 := ⟨xs.length - 1, by omega⟩
    rw [hm, areaS_succ, areaS_succ, areaS_mv d xs m (by omega)]
    unfold areaK
    rw [List.length_map, ptAt_mvn d (by omega : m < xs.length), ptAt_mv d (by omega : m < xs.length), areaK_mv, hm, Nat.mod_self]
    omega
theorem crB_mv (d a b p : Pt) : crB (mv d a) (mv d b) (mv d p) = crB a b p := by
  unfold crB
  rw [cr_mv, cr_mv]
  unfold mv
  simp only [Int.add_lt_add_iff_right, Int.add_le_add_iff_right]
theorem side_mv (d : Pt) (xs : List Pt) (p : Pt) : sideI (xs.map (mv d)) (mv d p) = sideI xs p := by
  have e1 : ∀ k, k < xs.length → onE (xs.map (mv d)) (mv d p) k = onE xs p k := fun k hk => by
    unfold onE
    rw [List.length_map, ptAt_mvn d hk, ptAt_mv d hk, onB_mv]
  have e2 : ∀ k, k ≤ xs.length → oddN (xs.map (mv d)) (mv d p) k = oddN xs p k := fun k hk => by
    induction k with
    | zero => rfl
    | succ k ih =>
      rw [oddN, oddN, ih (by omega)]
      unfold crE
      rw [List.length_map, ptAt_mvn d (by omega : k < xs.length), ptAt_mv d (by omega : k < xs.length), crB_mv]
  have e3 : noneN (xs.map (mv d)) (mv d p) xs.length ↔ noneN xs p xs.length := by
    unfold noneN
    exact ⟨fun h i hi => by rw [← e1 i hi]; exact h i hi, fun h i hi => by rw [e1 i hi]; exact h i hi⟩
  unfold sideI
  rw [List.length_map, e2 _ (Nat.le_refl _)]
  by_cases h : noneN xs p xs.length
  · rw [if_pos h, if_pos (e3.2 h)]
  · rw [if_neg h, if_neg (fun h' => h (e3.1 h'))]
theorem area_mvE {d : Pt} {xs : List Pt} (hg : goodL xs = true) (hm : goodL (xs.map (mv d)) = true) : areaE (xs.map (mv d)) = areaE xs ∧ areaV (xs.map (mv d)) = areaV xs := by
  have h1 : areaE (xs.map (mv d)) = areaE xs := by
    unfold areaE
    rw [List.length_map, hg, hm]
  refine ⟨h1, ?_⟩
  unfold areaV
  rw [h1, areaZ_mv]
theorem check_mv {d : Pt} {xs : List Pt} (hg : goodL xs = true) (hm : goodL (xs.map (mv d)) = true) : checkI (xs.map (mv d)) = checkI xs := by
  exact check_congr (area_mvE hg hm).1 (by rw [List.length_map]) (areaZ_mv d xs) (pairs_mv d xs)
theorem sideW_mv {d : Pt} {xs : List Pt} {p : Pt} (hg : goodL xs = true) (hm : goodL (xs.map (mv d)) = true) (hp : good p = true) (hq : good (mv d p) = true) : sideV (xs.map (mv d)) (mv d p) = sideV xs p ∧ sideE (xs.map (mv d)) (mv d p) = sideE xs p := by
  unfold sideV sideE
  rw [check_mv hg hm, hp, hq, side_mv]
  exact ⟨rfl, rfl⟩
end Go.Proofs.YtgkcenhopmjmlaaGreat
namespace Go.Proofs.YtgkcenhopmjmlaaGreat
/-- The sum, over two, of a closed way's steps is nothing. -/
def xsum (f : Nat → Bool) : Nat → Bool
  | 0 => false
  | k + 1 => xor (xsum f k) (f k)
theorem xsum_tel (h : Nat → Bool) (k : Nat) : xsum (fun i => xor (h i) (h (i + 1))) k = xor (h 0) (h k) := by
  induction k with
  | zero => simp [xsum]
  | succ k ih =>
    rw [xsum, ih]
    cases h 0 <;> cases h k <;> cases h (k + 1) <;> rfl
theorem xsum_congr {f g : Nat → Bool} {n : Nat} (h : ∀ k, k < n → f k = g k) : xsum f n = xsum g n := by
  induction n with
  | zero => rfl
  | succ n ih => rw [xsum, xsum, ih fun k hk => h k (by omega), h n (by omega)]
theorem xsum_xor (f g : Nat → Bool) (n : Nat) : xsum (fun k => xor (f k) (g k)) n = xor (xsum f n) (xsum g n) := by
  induction n with
  | zero => rfl
  | succ n ih =>
    rw [xsum, xsum, xsum, ih]
    cases xsum f n <;> cases xsum g n <;> cases f n <;> cases g n <;> rfl
theorem xsum_cyc (h : Nat → Bool) {n : Nat} (hn : 0 < n) : xsum (fun k => xor (h k) (h ((k + 1) % n))) n = false := by
  obtain ⟨m, rfl⟩ : ∃ m, n = m + 1 := ⟨n - 1, by omega⟩
  have : xsum (fun k => xor (h k) (h ((k + 1) % (m + 1)))) m = xsum (fun i => xor (h i) (h (i + 1))) m := xsum_congr fun k hk => by rw [Nat.mod_eq_of_lt (by omega)]
  rw [xsum, this, xsum_tel, Nat.mod_self]
  cases h 0 <;> cases h m <;> rfl
theorem oddN_xsum (xs : List Pt) (p : Pt) (k : Nat) : oddN xs p k = xsum (fun i => crE xs p i) k := by
  induction k with
  | zero => rfl
  | succ k ih => rw [oddN, xsum, ih]
/-- An edge (a, b) that goes up from y1's half to y2's: the strip's right part. -/
def inH (X y1 y2 : Int) (p : Pt) : Bool := decide (y1 < p.y) && (decide (p.y ≤ y2) && decide (X < p.x))
theorem pos_mul {u v : Int} (hu : 0 ≤ u) (hv : 0 ≤ v) : 0 ≤ u * v := Int.mul_nonneg hu hv
theorem smul {u v : Int} (hu : 0 < u) : (0 < u * v ↔ 0 < v) ∧ (u * v < 0 ↔ v < 0) := by
  have := pos_sgn (N := u) (x := v) (y := u * v) hu rfl
  exact ⟨this.1.symm, this.2.1.symm⟩
theorem nmul {u v : Int} (hu : 0 ≤ u) : (0 ≤ v → 0 ≤ u * v) ∧ (v ≤ 0 → u * v ≤ 0) :=
  ⟨fun h => Int.mul_nonneg hu h, fun h => Int.mul_nonpos_of_nonneg_of_nonpos hu h⟩
theorem npmul {u v : Int} (hu : u ≤ 0) : (0 ≤ v → u * v ≤ 0) ∧ (v ≤ 0 → 0 ≤ u * v) :=
  ⟨fun h => Int.mul_nonpos_of_nonpos_of_nonneg hu h, fun h => Int.mul_nonneg_of_nonpos_of_nonpos hu h⟩
theorem Off.swap {a b : Pt} {X y1 y2 : Int} (hy : y1 < y2) (h : ¬ Touch a b ⟨X, y1⟩ ⟨X, y2⟩) : ¬ Touch b a ⟨X, y1⟩ ⟨X, y2⟩ := by
  obtain ⟨h1, h2, h3, h4, h5⟩ := not_touch h
  rintro (g | g | g | g | g)
  · rw [h2] at g; cases g
  · rw [h1] at g; cases g
  · rw [onB_swap, h3] at g; cases g
  · rw [onB_swap, h4] at g; cases g
  · have : prB a b ⟨X, y1⟩ ⟨X, y2⟩ = true := by
      rw [pr_up hy] at g ⊢
      rw [cr_swapT, cr_swapT a b] at g
      omega
    rw [h5] at this
    cases this
theorem up_par {a b : Pt} {X y1 y2 : Int} (hy : y1 < y2) (hab : a.y ≤ b.y) (h : Off a b X y1 y2) :
    ((a.y ≤ y1 ∧ y1 < b.y ∧ b.y ≤ y2) → (0 < cr a b ⟨X, y1⟩ ↔ X < b.x)) ∧
    ((y1 < a.y ∧ a.y ≤ y2 ∧ y2 < b.y) → (0 < cr a b ⟨X, y2⟩ ↔ X < a.x)) ∧
    ((a.y ≤ y1 ∧ y2 < b.y) → (0 < cr a b ⟨X, y1⟩ ↔ 0 < cr a b ⟨X, y2⟩)) ∧
    ((y1 < a.y ∧ b.y ≤ y2) → (X < a.x ↔ X < b.x)) := by
  obtain ⟨ea, eb, hc1, hc2, hpr, hfl⟩ := h
  have f1 := cr_at a b X y1
  have f2 := cr_at a b X y2
  have hd : cr a b ⟨X, y2⟩ - cr a b ⟨X, y1⟩ = (y2 - y1) * (b.x - a.x) := by rw [f1, f2]; grind
  generalize cr a b ⟨X, y1⟩ = c at *
  generalize cr a b ⟨X, y2⟩ = d at *
  obtain ⟨A, hA⟩ : ∃ A, A = a.x - X := ⟨_, rfl⟩
  obtain ⟨B, hB⟩ : ∃ B, B = b.x - X := ⟨_, rfl⟩
  rw [← hA, ← hB] at f1 f2
  rw [show b.x - a.x = B - A by omega] at hd
  refine ⟨?_, ?_, ?_, ?_⟩
  · rintro ⟨g1, g2, g3⟩
    have e := eb (by omega) g3
    have m1 := smul (u := b.y - y1) (v := A) (by omega)
    have m2 := nmul (u := y1 - a.y) (v := B) (by omega)
    have m3 := npmul (u := b.y - y2) (v := A) (by omega)
    have m4 := smul (u := y2 - a.y) (v := B) (by omega)
    have k := hc1 g1 (by omega) (by omega)
    omega
  · rintro ⟨g1, g2, g3⟩
    have e := ea (by omega) g2
    have m1 := smul (u := b.y - y2) (v := A) (by omega)
    have m2 := nmul (u := y2 - a.y) (v := B) (by omega)
    have m3 := smul (u := b.y - y1) (v := A) (by omega)
    have m4 := npmul (u := y1 - a.y) (v := B) (by omega)
    have k := hc2 g2 (by omega) (by omega)
    omega
  · rintro ⟨g1, g2⟩
    have m1 := smul (u := b.y - y1) (v := A) (by omega)
    have m2 := nmul (u := y1 - a.y) (v := B) (by omega)
    have m3 := smul (u := b.y - y2) (v := A) (by omega)
    have m4 := smul (u := y2 - a.y) (v := B) (by omega)
    have m5 := smul (u := y2 - y1) (v := B - A) (by omega)
    have k1 := hc1 g1 (by omega) (by omega)
    have k2 := hc2 (by omega) (by omega) (by omega)
    omega
  · rintro ⟨g1, g2⟩
    have e1 := ea (by omega) (by omega)
    have e2 := eb (by omega) (by omega)
    have m1 := smul (u := b.y - y1) (v := A) (by omega)
    have m2 := npmul (u := y1 - a.y) (v := B) (by omega)
    have m2' := smul (u := a.y - y1) (v := B) (by omega)
    have m2e : (y1 - a.y) * B = -((a.y - y1) * B) := by grind
    have m3 := npmul (u := b.y - y2) (v := A) (by omega)
    have m4 := nmul (u := y2 - a.y) (v := B) (by omega)
    by_cases h1 : b.y = y2
    · by_cases h2 : a.y = y2
      · have := hfl (by omega) h2
        omega
      · have m6 := smul (u := y2 - a.y) (v := B) (by omega)
        omega
    · have m7 := smul (u := y2 - b.y) (v := A) (by omega)
      have m7e : (b.y - y2) * A = -((y2 - b.y) * A) := by grind
      omega
theorem crB_up {a b p : Pt} (h : a.y ≤ b.y) : crB a b p = true ↔ (a.y ≤ p.y ∧ p.y < b.y ∧ 0 < cr a b p) := by
  unfold crB
  rw [if_neg (by omega)]
  simp only [Bool.and_eq_true, decide_eq_true_eq]
theorem crB_swap (a b p : Pt) : crB a b p = crB b a p := by
  unfold crB
  by_cases h1 : b.y < a.y
  · rw [if_pos h1, if_neg (by omega)]
  · by_cases h2 : a.y < b.y
    · rw [if_neg h1, if_pos h2]
    · rw [if_neg h1, if_neg h2]
      by_cases h3 : a.y ≤ p.y
      · rw [decide_eq_false (by omega : ¬ p.y < b.y), decide_eq_false (by omega : ¬ p.y < a.y)]
        simp
      · rw [decide_eq_false h3, decide_eq_false (by omega : ¬ b.y ≤ p.y)]
        simp
theorem inH_iff (X y1 y2 : Int) (p : Pt) : inH X y1 y2 p = true ↔ (y1 < p.y ∧ p.y ≤ y2 ∧ X < p.x) := by
  unfold inH
  simp only [Bool.and_eq_true, decide_eq_true_eq]
theorem edge_up {a b : Pt} {X y1 y2 : Int} (hy : y1 < y2) (hab : a.y ≤ b.y) (h : ¬ Touch a b ⟨X, y1⟩ ⟨X, y2⟩) :
    xor (crB a b ⟨X, y1⟩) (crB a b ⟨X, y2⟩) = xor (inH X y1 y2 a) (inH X y1 y2 b) := by
  obtain ⟨p1, p2, p3, p4⟩ := up_par hy hab (Off.of hy h)
  have e1 := crB_up (p := ⟨X, y1⟩) hab
  have e2 := crB_up (p := ⟨X, y2⟩) hab
  have e3 := inH_iff X y1 y2 a
  have e4 := inH_iff X y1 y2 b
  simp only at e1 e2
  generalize cr a b ⟨X, y1⟩ = c at *
  generalize cr a b ⟨X, y2⟩ = d at *
  generalize crB a b ⟨X, y1⟩ = b1 at *
  generalize crB a b ⟨X, y2⟩ = b2 at *
  generalize inH X y1 y2 a = b3 at *
  generalize inH X y1 y2 b = b4 at *
  clear h
  rcases b1 with _ | _ <;> rcases b2 with _ | _ <;> rcases b3 with _ | _ <;> rcases b4 with _ | _
  all_goals first
    | rfl
    | (exfalso; simp only [Bool.false_eq_true, false_iff, true_iff] at e1 e2 e3 e4; omega)
theorem edge_par {a b : Pt} {X y1 y2 : Int} (hy : y1 < y2) (h : ¬ Touch a b ⟨X, y1⟩ ⟨X, y2⟩) :
    xor (crB a b ⟨X, y1⟩) (crB a b ⟨X, y2⟩) = xor (inH X y1 y2 a) (inH X y1 y2 b) := by
  by_cases hab : a.y ≤ b.y
  · exact edge_up hy hab h
  · rw [crB_swap a b, crB_swap a b, edge_up hy (by omega) (Off.swap hy h), Bool.xor_comm]
/-- Up or down where no edge touches the way: the same side. -/
theorem par_vert {xs : List Pt} {X y1 y2 : Int} (hn : 0 < xs.length) (hy : y1 < y2) (h : ∀ k, k < xs.length → ¬ Touch (ptAt xs k) (ptAt xs ((k + 1) % xs.length)) ⟨X, y1⟩ ⟨X, y2⟩) :
    oddN xs ⟨X, y1⟩ xs.length = oddN xs ⟨X, y2⟩ xs.length := by
  have h1 : xsum (fun k => xor (crE xs ⟨X, y1⟩ k) (crE xs ⟨X, y2⟩ k)) xs.length = xsum (fun k => xor (inH X y1 y2 (ptAt xs k)) (inH X y1 y2 (ptAt xs ((k + 1) % xs.length)))) xs.length :=
    xsum_congr fun k hk => edge_par hy (h k hk)
  have h2 := xsum_cyc (fun k => inH X y1 y2 (ptAt xs k)) hn
  rw [h2, xsum_xor] at h1
  rw [oddN_xsum, oddN_xsum]
  generalize xsum (fun k => crE xs ⟨X, y1⟩ k) xs.length = u at *
  generalize xsum (fun k => crE xs ⟨X, y2⟩ k) xs.length = v at *
  cases u <;> cases v <;> first | rfl | cases h1
end Go.Proofs.YtgkcenhopmjmlaaGreat
namespace Go.Proofs.YtgkcenhopmjmlaaGreat
def zsum (f : Nat → Int) : Nat → Int
  | 0 => 0
  | k + 1 => zsum f k + f k
theorem areaS_zsum (xs : List Pt) (k : Nat) : areaS xs k = zsum (areaK xs) k := by
  induction k with
  | zero => rfl
  | succ k ih => rw [areaS_succ, zsum, ih]
theorem areaZ_zsum (xs : List Pt) : areaZ xs = zsum (areaK xs) xs.length := by rw [← areaS_zsum, areaS_all]
theorem zsum_congr {f g : Nat → Int} {n : Nat} (h : ∀ k, k < n → f k = g k) : zsum f n = zsum g n := by
  induction n with
  | zero => rfl
  | succ n ih => rw [zsum, zsum, ih fun k hk => h k (by omega), h n (by omega)]
theorem zsum_neg (f : Nat → Int) (n : Nat) : zsum (fun i => - f i) n = - zsum f n := by
  induction n with
  | zero => rfl
  | succ n ih => rw [zsum, zsum, ih]; omega
theorem zsum_one (g : Nat → Int) (n : Nat) : zsum (fun i => g (i + 1)) n = zsum g n + g n - g 0 := by
  induction n with
  | zero => simp [zsum]
  | succ n ih => rw [zsum, zsum, ih]; omega
theorem zsum_shift (f : Nat → Int) {n : Nat} (k : Nat) : zsum (fun i => f ((k + i) % n)) n = zsum f n := by
  induction k with
  | zero => exact zsum_congr fun i hi => by rw [Nat.zero_add, Nat.mod_eq_of_lt hi]
  | succ k ih =>
    have h := zsum_one (fun i => f ((k + i) % n)) n
    simp only [Nat.add_zero, Nat.add_mod_right] at h
    have e : (fun i => f ((k + 1 + i) % n)) = fun i => f ((k + (i + 1)) % n) := by funext i; rw [show k + 1 + i = k + (i + 1) by omega]
    rw [e]
    omega
theorem zsum_rev_aux (g : Nat → Int) (n : Nat) : ∀ k, k ≤ n → zsum (fun i => g (n - 1 - i)) k + zsum g (n - k) = zsum g n
  | 0, _ => by simp [zsum]
  | k + 1, h => by
    have ih := zsum_rev_aux g n k (by omega)
    obtain ⟨m, hm⟩ : ∃ m, n - k = m + 1 := ⟨n - k - 1, by omega⟩
    rw [hm, zsum] at ih
    rw [zsum, show n - (k + 1) = m by omega, show n - 1 - k = m by omega]
    omega
theorem zsum_rev (g : Nat → Int) (n : Nat) : zsum (fun i => g (n - 1 - i)) n = zsum g n := by
  have := zsum_rev_aux g n n (Nat.le_refl _)
  rw [Nat.sub_self] at this
  simpa [zsum] using this
theorem xsum_one (g : Nat → Bool) (n : Nat) : xsum (fun i => g (i + 1)) n = xor (xor (xsum g n) (g n)) (g 0) := by
  induction n with
  | zero => simp [xsum]
  | succ n ih => rw [xsum, xsum, ih]; cases xsum g n <;> cases g n <;> cases g 0 <;> cases g (n + 1) <;> rfl
theorem xsum_shift (f : Nat → Bool) {n : Nat} (k : Nat) : xsum (fun i => f ((k + i) % n)) n = xsum f n := by
  induction k with
  | zero => exact xsum_congr fun i hi => by rw [Nat.zero_add, Nat.mod_eq_of_lt hi]
  | succ k ih =>
    have h := xsum_one (fun i => f ((k + i) % n)) n
    simp only [Nat.add_zero, Nat.add_mod_right] at h
    have e : (fun i => f ((k + 1 + i) % n)) = fun i => f ((k + (i + 1)) % n) := by funext i; rw [show k + 1 + i = k + (i + 1) by omega]
    rw [e, h, ih]
    cases xsum f n <;> cases f (k % n) <;> rfl
theorem ptAt_rot1 {k i : Nat} {xs : List Pt} (h : k < xs.length) : ptAt (rot k xs) ((i + 1) % xs.length) = ptAt xs (((k + i) % xs.length + 1) % xs.length) := by
  rw [ptAt_rot h (Nat.mod_lt _ (by omega))]
  congr 1
  rw [Nat.add_mod_mod, Nat.mod_add_mod, Nat.add_assoc]
theorem good_rot {k : Nat} {xs : List Pt} : goodL (rot k xs) = goodL xs := by
  unfold goodL rot
  rw [List.all_append, Bool.and_comm, ← List.all_append, List.take_append_drop]
theorem areaZ_rot {k : Nat} {xs : List Pt} (h : k < xs.length) : areaZ (rot k xs) = areaZ xs := by
  rw [areaZ_zsum, areaZ_zsum, rot_len (by omega), ← zsum_shift (areaK xs) k]
  refine zsum_congr fun i hi => ?_
  unfold areaK
  rw [rot_len (by omega), ptAt_rot h hi, ptAt_rot1 h]
theorem side_rot {k : Nat} {xs : List Pt} (p : Pt) (h : k < xs.length) : sideI (rot k xs) p = sideI xs p := by
  have e1 : ∀ i, i < xs.length → onE (rot k xs) p i = onE xs p ((k + i) % xs.length) := fun i hi => by
    unfold onE
    rw [rot_len (by omega), ptAt_rot h hi, ptAt_rot1 h]
  have e2 : ∀ i, i < xs.length → crE (rot k xs) p i = crE xs p ((k + i) % xs.length) := fun i hi => by
    unfold crE
    rw [rot_len (by omega), ptAt_rot h hi, ptAt_rot1 h]
  have e3 : oddN (rot k xs) p xs.length = oddN xs p xs.length := by
    rw [oddN_xsum, oddN_xsum, xsum_congr e2]
    exact xsum_shift (crE xs p) k
  have e4 : noneN (rot k xs) p xs.length ↔ noneN xs p xs.length := by
    unfold noneN
    constructor
    · intro hn i hi
      have := hn ((i + (xs.length - k)) % xs.length) (Nat.mod_lt _ (by omega))
      rw [e1 _ (Nat.mod_lt _ (by omega)), Nat.add_mod_mod, show k + (i + (xs.length - k)) = i + xs.length by omega, Nat.add_mod_right, Nat.mod_eq_of_lt hi] at this
      exact this
    · intro hn i hi
      rw [e1 i hi]
      exact hn _ (Nat.mod_lt _ (by omega))
  unfold sideI
  rw [rot_len (by omega), e3]
  by_cases hn : noneN xs p xs.length
  · rw [if_pos hn, if_pos (e4.2 hn)]
  · rw [if_neg hn, if_neg (fun h' => hn (e4.1 h'))]
def adjB (n i j : Nat) : Bool := decide ((i + 1) % n = j) || decide ((j + 1) % n = i)
theorem next_adj {n i j : Nat} (hi : i < j) (hj : j < n) : nextB n i j = adjB n i j := by
  unfold nextB adjB
  rw [Nat.mod_eq_of_lt (by omega : i + 1 < n)]
  by_cases h : j + 1 = n
  · rw [h, Nat.mod_self]
    rw [Bool.eq_iff_iff]
    simp only [Bool.or_eq_true, Bool.and_eq_true, decide_eq_true_eq]
    omega
  · rw [Nat.mod_eq_of_lt (by omega : j + 1 < n)]
    rw [Bool.eq_iff_iff]
    simp only [Bool.or_eq_true, Bool.and_eq_true, decide_eq_true_eq]
    omega
def pairS (xs : List Pt) (i j : Nat) : Prop := ptAt xs i ≠ ptAt xs j ∧ meetOf xs i j = if adjB xs.length i j = true then 1 else 0
theorem pairS_comm {xs : List Pt} {i j : Nat} (h : pairS xs i j) : pairS xs j i := by
  unfold pairS meetOf at *
  refine ⟨fun e => h.1 e.symm, ?_⟩
  rw [meetR_comm, h.2]
  unfold adjB
  rw [Bool.or_comm]
theorem pairs_iff (xs : List Pt) : PairsOK xs ↔ ∀ i j, i < xs.length → j < xs.length → i ≠ j → pairS xs i j := by
  have key : ∀ i j, i < j → j < xs.length → (pairOK xs i j = true ↔ pairS xs i j) := fun i j hi hj => by
    unfold pairOK pairS
    rw [next_adj hi hj, Bool.and_eq_true, decide_eq_true_eq, decide_eq_true_eq]
  constructor
  · intro h i j hi hj hne
    rcases Nat.lt_or_gt_of_ne hne with hlt | hlt
    · exact (key i j hlt hj).1 (h i j hlt hj)
    · exact pairS_comm ((key j i hlt hi).1 (h j i hlt hi))
  · intro h i j hi hj
    exact (key i j hi hj).2 (h i j (by omega) hj (by omega))
theorem rot_inj {n k i j : Nat} (hi : i < n) (hj : j < n) (h : (k + i) % n = (k + j) % n) : i = j := by
  have h1 := Nat.div_add_mod (k + i) n
  have h2 := Nat.div_add_mod (k + j) n
  have h3 : n * ((k + i) / n) + (k + j) = n * ((k + j) / n) + (k + i) := by omega
  rcases Nat.lt_trichotomy ((k + i) / n) ((k + j) / n) with h4 | h4 | h4
  · have := Nat.mul_le_mul_left n (show (k + i) / n + 1 ≤ (k + j) / n from h4)
    rw [Nat.mul_add, Nat.mul_one] at this
    omega
  · rw [h4] at h3; omega
  · have := Nat.mul_le_mul_left n (show (k + j) / n + 1 ≤ (k + i) / n from h4)
    rw [Nat.mul_add, Nat.mul_one] at this
    omega
theorem adj_rot {n k i j : Nat} (hi : i < n) (hj : j < n) : adjB n ((k + i) % n) ((k + j) % n) = adjB n i j := by
  have key : ∀ i j, i < n → j < n → decide (((k + i) % n + 1) % n = (k + j) % n) = decide ((i + 1) % n = j) := fun i j hi hj => by
    rw [decide_eq_decide, Nat.mod_add_mod]
    constructor
    · intro h
      have : (k + (i + 1) % n) % n = (k + j) % n := by rw [Nat.add_mod_mod]; exact h
      exact rot_inj (Nat.mod_lt _ (by omega)) hj this
    · intro h
      rw [← h, Nat.add_mod_mod]
      rfl
  unfold adjB
  rw [key i j hi hj, key j i hj hi]
theorem pairS_rot {k i j : Nat} {xs : List Pt} (h : k < xs.length) (hi : i < xs.length) (hj : j < xs.length) : pairS (rot k xs) i j ↔ pairS xs ((k + i) % xs.length) ((k + j) % xs.length) := by
  unfold pairS meetOf
  rw [rot_len (by omega), ptAt_rot1 h, ptAt_rot1 h, ptAt_rot h hi, ptAt_rot h hj, adj_rot hi hj]
theorem pairs_rot {k : Nat} {xs : List Pt} (h : k < xs.length) : PairsOK (rot k xs) ↔ PairsOK xs := by
  have hn : 0 < xs.length := by omega
  rw [pairs_iff, pairs_iff, rot_len (by omega)]
  constructor
  · intro hp i j hi hj hne
    have e : ∀ i, i < xs.length → (k + (i + (xs.length - k)) % xs.length) % xs.length = i := fun i hi => by
      rw [Nat.add_mod_mod, show k + (i + (xs.length - k)) = i + xs.length by omega, Nat.add_mod_right, Nat.mod_eq_of_lt hi]
    have := hp ((i + (xs.length - k)) % xs.length) ((j + (xs.length - k)) % xs.length) (Nat.mod_lt _ hn) (Nat.mod_lt _ hn) (fun h' => hne (by rw [← e i hi, h', e j hj]))
    rw [pairS_rot h (Nat.mod_lt _ hn) (Nat.mod_lt _ hn), e i hi, e j hj] at this
    exact this
  · intro hp i j hi hj hne
    rw [pairS_rot h hi hj]
    exact hp _ _ (Nat.mod_lt _ hn) (Nat.mod_lt _ hn) (fun h' => hne (rot_inj hi hj h'))
theorem area_rot {k : Nat} {xs : List Pt} (h : k < xs.length) : areaE (rot k xs) = areaE xs ∧ areaV (rot k xs) = areaV xs := by
  have h1 : areaE (rot k xs) = areaE xs := by
    unfold areaE
    rw [rot_len (by omega), good_rot]
  refine ⟨h1, ?_⟩
  unfold areaV
  rw [h1, areaZ_rot h]
theorem check_rot {k : Nat} {xs : List Pt} (h : k < xs.length) : checkI (rot k xs) = checkI xs := check_congr (area_rot h).1 (by rw [rot_len (by omega)]) (areaZ_rot h) (pairs_rot h)
theorem sideW_rot {k : Nat} {xs : List Pt} (p : Pt) (h : k < xs.length) : sideV (rot k xs) p = sideV xs p ∧ sideE (rot k xs) p = sideE xs p := by
  unfold sideV sideE
  rw [check_rot h, side_rot p h]
  exact ⟨rfl, rfl⟩
theorem ptAt_rev {xs : List Pt} {i : Nat} (h : i < xs.length) : ptAt xs.reverse i = ptAt xs (xs.length - 1 - i) := by
  unfold ptAt
  rw [List.getElem?_reverse h]
theorem areaZ_rev (xs : List Pt) : areaZ xs.reverse = - areaZ xs := by
  rw [areaZ_zsum, areaZ_zsum, List.length_reverse, ← zsum_shift (areaK xs) (xs.length - 1), ← zsum_rev (fun i => areaK xs ((xs.length - 1 + i) % xs.length)), ← zsum_neg]
  refine zsum_congr fun i hi => ?_
  unfold areaK
  rw [List.length_reverse, ptAt_rev hi, ptAt_rev (Nat.mod_lt _ (by omega))]
  have e1 : ((xs.length - 1 + (xs.length - 1 - i)) % xs.length + 1) % xs.length = xs.length - 1 - i := by
    rw [Nat.mod_add_mod, show xs.length - 1 + (xs.length - 1 - i) + 1 = xs.length - 1 - i + xs.length by omega, Nat.add_mod_right, Nat.mod_eq_of_lt (by omega)]
  have e2 : (xs.length - 1 + (xs.length - 1 - i)) % xs.length = xs.length - 1 - (i + 1) % xs.length := by
    by_cases h1 : i + 1 = xs.length
    · rw [h1, Nat.mod_self, show xs.length - 1 + (xs.length - 1 - i) = xs.length - 1 by omega, Nat.mod_eq_of_lt (by omega)]
      omega
    · rw [Nat.mod_eq_of_lt (by omega : i + 1 < xs.length), show xs.length - 1 + (xs.length - 1 - i) = xs.length - 1 - (i + 1) + xs.length by omega, Nat.add_mod_right, Nat.mod_eq_of_lt (by omega)]
  rw [e1, e2]
  unfold cr
  simp only [Int.sub_zero]
  grind
theorem good_rev (xs : List Pt) : goodL xs.reverse = goodL xs := by
  unfold goodL
  rw [List.all_reverse]
theorem areaE_rev (xs : List Pt) : areaE xs.reverse = areaE xs := by
  unfold areaE
  rw [List.length_reverse, good_rev]
theorem areaV_rev (xs : List Pt) : areaV xs.reverse = - areaV xs := by
  unfold areaV
  rw [areaE_rev, areaZ_rev]
  split <;> rfl
theorem check_rev {xs : List Pt} (h : checkI xs = 0) : checkI xs.reverse = 4 := by
  obtain ⟨h1, h2, -, h3, -⟩ := checkI_zero h
  exact checkI_no ((areaE_rev xs).trans (areaE_of h1 h2)) (fun h' => by have := h'.2.1; rw [areaZ_rev] at this; omega)
end Go.Proofs.YtgkcenhopmjmlaaGreat
namespace Go.Proofs.YtgkcenhopmjmlaaGreat
theorem onB_key {a b p : Pt} (ha : good a = true) (hb : good b = true) (hp : good p = true) : onB a b p = true ↔ cr a b p = 0 ∧ ((key a ≤ key p ∧ key p ≤ key b) ∨ (key b ≤ key p ∧ key p ≤ key a)) := by
  rw [← onP_eq ha hb hp]
  exact onP_key ha hb hp
theorem on_conv {a b c : Pt} {N t : Int} (hN : 0 < N) (h0 : 0 ≤ t) (h1 : t ≤ N) (hx : (N - t) * a.x + t * b.x = N * c.x) (hy : (N - t) * a.y + t * b.y = N * c.y) : onB a b c = true := by
  rw [onB_iff]
  refine ⟨?_, ?_, ?_⟩
  · have : N * cr a b c = 0 := by unfold cr; grind
    exact line_zero (by omega) this
  · have := conv_btw (x := a.x) (y := b.x) h0 h1
    rw [hx, mul_le hN, mul_le hN, mul_le hN, mul_le hN] at this
    exact this
  · have := conv_btw (x := a.y) (y := b.y) h0 h1
    rw [hy, mul_le hN, mul_le hN, mul_le hN, mul_le hN] at this
    exact this
theorem com_of_touch {a b c d : Pt} (h : Touch a b c d) : ∃ N t A B, Com a b c d N t A B := by
  rcases h with h | h | h | h | h
  · obtain ⟨N, t, h1, h2, h3, h4, h5⟩ := on_param h
    exact ⟨N, 0, N - t, t, h1, by omega, by omega, by omega, by omega, by omega, by rw [h4]; grind, by rw [h5]; grind⟩
  · obtain ⟨N, t, h1, h2, h3, h4, h5⟩ := on_param h
    exact ⟨N, N, N - t, t, h1, by omega, by omega, by omega, by omega, by omega, by rw [h4]; grind, by rw [h5]; grind⟩
  · obtain ⟨N, t, h1, h2, h3, h4, h5⟩ := on_param h
    exact ⟨N, t, N, 0, h1, h2, h3, by omega, by omega, by omega, by rw [h4]; grind, by rw [h5]; grind⟩
  · obtain ⟨N, t, h1, h2, h3, h4, h5⟩ := on_param h
    exact ⟨N, t, 0, N, h1, h2, h3, by omega, by omega, by omega, by rw [h4]; grind, by rw [h5]; grind⟩
  · obtain ⟨N, t, A, B, h⟩ := pr_param h
    exact ⟨N, t, A, B, h⟩
theorem com_sum {a b c d : Pt} {N t A B : Int} (h : Com a b c d N t A B) : A * cr a b c + B * cr a b d = 0 := by
  obtain ⟨h1, h2, h3, h4, h5, h6, h7, h8⟩ := h
  unfold cr
  grind
theorem signs {A B C D : Int} (hA : 0 ≤ A) (hB : 0 ≤ B) (hN : 0 < A + B) (h : A * C + B * D = 0) : (C = 0 ∧ D = 0) ∨ (C < 0 ∧ 0 < D) ∨ (D < 0 ∧ 0 < C) ∨ A = 0 ∨ B = 0 := by
  by_cases h1 : A = 0
  · simp [h1]
  · by_cases h2 : B = 0
    · simp [h2]
    · have hA' : 0 < A := by omega
      have hB' : 0 < B := by omega
      have m1 := smul (u := A) (v := C) hA'
      have m2 := smul (u := B) (v := D) hB'
      omega
theorem touch_of_com {a b c d : Pt} (ha : good a = true) (hb : good b = true) (hc : good c = true) (hd : good d = true) {N t A B : Int} (h : Com a b c d N t A B) : Touch a b c d := by
  have k1 := com_sum h
  have k2 := com_sum h.other
  obtain ⟨h1, h2, h3, h4, h5, h6, h7, h8⟩ := h
  have s1 := signs h4 h5 (by omega) k1
  have s2 := signs (by omega : 0 ≤ N - t) h2 (by omega) k2
  by_cases eA : A = 0
  · exact .inr (.inr (.inr (.inl (on_conv h1 h2 h3 (by rw [h7, eA]; rw [show B = N by omega]; grind) (by rw [h8, eA]; rw [show B = N by omega]; grind)))))
  by_cases eB : B = 0
  · exact .inr (.inr (.inl (on_conv h1 h2 h3 (by rw [h7, eB]; rw [show A = N by omega]; grind) (by rw [h8, eB]; rw [show A = N by omega]; grind))))
  by_cases e0 : N - t = 0
  · exact .inr (.inl (on_conv h1 h5 (by omega) (by rw [show N - B = A by omega, ← h7, e0, show t = N by omega]; grind) (by rw [show N - B = A by omega, ← h8, e0, show t = N by omega]; grind)))
  by_cases e1 : t = 0
  · exact .inl (on_conv h1 h5 (by omega) (by rw [show N - B = A by omega, ← h7, e1]; grind) (by rw [show N - B = A by omega, ← h8, e1]; grind))
  by_cases hz : cr a b c = 0 ∧ cr a b d = 0 ∧ cr c d a = 0 ∧ cr c d b = 0
  · obtain ⟨z1, z2, z3, z4⟩ := hz
    have hk : (N - t) * key a + t * key b = A * key c + B * key d := by unfold key; grind
    have c1 := conv_btw (N := N) (t := t) (x := key a) (y := key b) h2 h3
    have c2 := conv_btw (N := N) (t := B) (x := key c) (y := key d) h5 (by omega)
    rw [show N - B = A by omega] at c2
    rw [← hk] at c2
    generalize (N - t) * key a + t * key b = X at *
    have m : ∀ x y : Int, N * x ≤ N * y → x ≤ y := fun x y h => (mul_le h1).1 h
    have mm : ∀ x y : Int, N * x ≤ X → X ≤ N * y → x ≤ y := fun x y p q => m x y (by omega)
    have g1 := onB_key hc hd ha
    have g2 := onB_key hc hd hb
    have g3 := onB_key ha hb hc
    have g4 := onB_key ha hb hd
    unfold Touch
    rw [g1, g2, g3, g4]
    simp only [z1, z2, z3, z4, true_and]
    rcases c1 with ⟨c11, c12⟩ | ⟨c11, c12⟩ <;> rcases c2 with ⟨c21, c22⟩ | ⟨c21, c22⟩
    · have := mm _ _ c11 c22; have := mm _ _ c21 c12; have := mm _ _ c11 c12; have := mm _ _ c21 c22; omega
    · have := mm _ _ c11 c22; have := mm _ _ c21 c12; have := mm _ _ c11 c12; have := mm _ _ c21 c22; omega
    · have := mm _ _ c11 c22; have := mm _ _ c21 c12; have := mm _ _ c11 c12; have := mm _ _ c21 c22; omega
    · have := mm _ _ c11 c22; have := mm _ _ c21 c12; have := mm _ _ c11 c12; have := mm _ _ c21 c22; omega
  · right; right; right; right
    rw [prB_iff]
    have p1 : (cr a b c = 0 ∧ cr a b d = 0) → (cr c d a = 0 ∧ cr c d b = 0) → False := fun q1 q2 => hz ⟨q1.1, q1.2, q2⟩
    have p2 : cr a b d - cr a b c = cr c d a - cr c d b := by unfold cr; grind
    omega
theorem touch_other {a b c d : Pt} : Touch c d a b ↔ Touch a b c d := by
  rw [← touch_iff, ← touch_iff, meetR_comm]
/-- Of a stretch's part. -/
theorem com_part {a b p c d : Pt} (hp : onB a b p = true) {N t A B : Int} (h : Com a p c d N t A B) : ∃ N t A B, Com a b c d N t A B := by
  obtain ⟨M, s, g1, g2, g3, g4, g5⟩ := on_param hp
  obtain ⟨h1, h2, h3, h4, h5, h6, h7, h8⟩ := h
  have hle : t * s ≤ N * M := Int.mul_le_mul h3 g3 g2 (by omega)
  refine ⟨N * M, t * s, M * A, M * B, Int.mul_pos h1 g1, Int.mul_nonneg h2 g2, hle, Int.mul_nonneg (by omega) h4, Int.mul_nonneg (by omega) h5, by rw [← Int.mul_add, h6]; exact Int.mul_comm _ _, ?_, ?_⟩
  · have : M * ((N - t) * a.x + t * p.x) = M * (A * c.x + B * d.x) := by rw [h7]
    grind
  · have : M * ((N - t) * a.y + t * p.y) = M * (A * c.y + B * d.y) := by rw [h8]
    grind
theorem touch_part {a b p c d : Pt} (ha : good a = true) (hb : good b = true) (hc : good c = true) (hd : good d = true) (hp : onB a b p = true) (h : Touch a p c d) : Touch a b c d := by
  obtain ⟨N, t, A, B, h⟩ := com_of_touch h
  obtain ⟨N, t, A, B, h⟩ := com_part hp h
  exact touch_of_com ha hb hc hd h
theorem meetR_nn (a b c d : Pt) : 0 ≤ meetR a b c d := by
  unfold meetR
  split <;> (try split) <;> (try split) <;> omega
theorem meet_zero {a b c d : Pt} : meetR a b c d = 0 ↔ ¬ Touch a b c d := by
  have := meetR_nn a b c d
  rw [← touch_iff]
  omega
/-- Two stretches with one end in common and no other point. -/
theorem one_iff {a b d : Pt} : meetR a b b d = 1 ↔ (onB b d a = true → a = b) ∧ (onB a b d = true → d = b) := by
  have hb1 := (onB_self b d).1
  have hb2 := (onB_self a b).2
  have hne : endsL a b b d ≠ [] := by unfold endsL; rw [hb1, hb2]; simp
  have hd : difB (endsL a b b d) = true ↔ ¬ ((onB b d a = true → a = b) ∧ (onB a b d = true → d = b)) := by
    rw [difB_iff]
    have hmem : ∀ e, e ∈ endsL a b b d ↔ e = b ∨ (onB b d a = true ∧ e = a) ∨ (onB a b d = true ∧ e = d) := fun e => by
      unfold endsL
      rw [hb1, hb2]
      rcases q1 : onB b d a with _ | _ <;> rcases q2 : onB a b d with _ | _ <;> simp <;> grind
    constructor
    · rintro ⟨p, q, hp, hq, hne⟩ ⟨g1, g2⟩
      have e : ∀ e, e ∈ endsL a b b d → e = b := fun e he => by
        rcases (hmem e).1 he with h | ⟨h, h'⟩ | ⟨h, h'⟩
        · exact h
        · rw [h', g1 h]
        · rw [h', g2 h]
      exact hne ((e p hp).trans (e q hq).symm)
    · intro h
      by_cases q1 : onB b d a = true ∧ a ≠ b
      · exact ⟨a, b, (hmem a).2 (.inr (.inl ⟨q1.1, rfl⟩)), (hmem b).2 (.inl rfl), q1.2⟩
      · by_cases q2 : onB a b d = true ∧ d ≠ b
        · exact ⟨d, b, (hmem d).2 (.inr (.inr ⟨q2.1, rfl⟩)), (hmem b).2 (.inl rfl), q2.2⟩
        · exact absurd ⟨fun h1 => Classical.byContradiction fun h2 => q1 ⟨h1, h2⟩, fun h1 => Classical.byContradiction fun h2 => q2 ⟨h1, h2⟩⟩ h
  unfold meetR
  by_cases hD : difB (endsL a b b d) = true
  · rw [if_pos hD]
    constructor
    · intro h; omega
    · intro h; exact absurd h (hd.1 hD)
  · rw [if_neg hD, if_pos hne]
    constructor
    · intro _
      exact Classical.byContradiction fun h => hD (hd.2 h)
    · intro _; rfl
end Go.Proofs.YtgkcenhopmjmlaaGreat
namespace Go.Proofs.YtgkcenhopmjmlaaGreat
end Go.Proofs.YtgkcenhopmjmlaaGreat
namespace Go.Proofs.YtgkcenhopmjmlaaGreat
end Go.Proofs.YtgkcenhopmjmlaaGreat

/- Plain law: a ring that is moved as a whole. -/
/- Plain law: a point that moves where no edge touches its way stays on its side of a ring. -/
/- Plain law: a ring that begins elsewhere, and one that is turned. -/
/- Plain law: stretches, and a point on one of them. -/
/- Plain law: where the least corner of a ring stands. -/
/- Plain law: which plans are sound, as the program and the document's answer reckon it. -/
import Derived.Test.YtglnklfhgdjccaaGreatCheck
import Derived.Test.YtglnklfhgdjccaaGreatRefArea
import Derived.Test.YtglnklfhgdjccaaGreatArea
import Derived.Test.YtglnklfhgdjccaaGreatGeoLaw
namespace Go.Proofs.YtglnklfhgdjccaaGreat
theorem check_congr {xs ys : List Pt} (he : areaE ys = areaE xs) (hl : 3 ≤ ys.length ↔ 3 ≤ xs.length) (ha : areaZ ys = areaZ xs) (hp : PairsOK ys ↔ PairsOK xs) : checkI ys = checkI xs := by
  by_cases h0 : areaE xs = 0
  · by_cases h : 3 ≤ xs.length ∧ 0 < areaZ xs ∧ PairsOK xs
    · rw [checkI_ok h0 h.1 h.2.1 h.2.2, checkI_ok (he.trans h0) (hl.2 h.1) (by rw [ha]; exact h.2.1) (hp.2 h.2.2)]
    · rw [checkI_no h0 h, checkI_no (he.trans h0) (fun h' => h ⟨hl.1 h'.1, by rw [← ha]; exact h'.2.1, hp.1 h'.2.2⟩)]
  · rw [checkI_err h0, checkI_err (by rw [he]; exact h0), he]
def mv (d p : Pt) : Pt := ⟨p.x + d.x, p.y + d.y⟩
theorem cr_mv (d a b c : Pt) : cr (mv d a) (mv d b) (mv d c) = cr a b c := by
  unfold cr mv
  simp only
  rw [show b.x + d.x - (a.x + d.x) = b.x - a.x by omega, show c.y + d.y - (a.y + d.y) = c.y - a.y by omega, show b.y + d.y - (a.y + d.y) = b.y - a.y by omega, show c.x + d.x - (a.x + d.x) = c.x - a.x by omega]
theorem btw_mv (d a b n : Int) : btw (a + d) (b + d) (n + d) = btw a b n := by
  unfold btw
  rw [decide_eq_decide]
  omega
theorem onB_mv (d a b p : Pt) : onB (mv d a) (mv d b) (mv d p) = onB a b p := by
  unfold onB
  rw [cr_mv]
  unfold mv
  simp only [btw_mv]
theorem mv_inj {d p q : Pt} : mv d p = mv d q ↔ p = q := by
  obtain ⟨px, py⟩ := p
  obtain ⟨qx, qy⟩ := q
  unfold mv
  simp only [Pt.mk.injEq]
  omega
theorem endsL_mv (d a b c e : Pt) : endsL (mv d a) (mv d b) (mv d c) (mv d e) = (endsL a b c e).map (mv d) := by
  unfold endsL
  rw [onB_mv, onB_mv, onB_mv, onB_mv]
  cases onB c e a <;> cases onB c e b <;> cases onB a b c <;> cases onB a b e <;> rfl
theorem difB_mv (d : Pt) (l : List Pt) : difB (l.map (mv d)) = difB l := by
  cases l with
  | nil => rfl
  | cons e t =>
    simp only [List.map_cons, difB, List.any_map]
    congr 1
    funext p
    simp only [Function.comp, ne_eq, mv_inj]
theorem prB_mv (d a b c e : Pt) : prB (mv d a) (mv d b) (mv d c) (mv d e) = prB a b c e := by
  unfold prB
  rw [cr_mv, cr_mv, cr_mv, cr_mv]
theorem meetR_mv (d a b c e : Pt) : meetR (mv d a) (mv d b) (mv d c) (mv d e) = meetR a b c e := by
  unfold meetR
  rw [endsL_mv, difB_mv, prB_mv]
  simp only [ne_eq, List.map_eq_nil_iff]
theorem ptAt_mv (d : Pt) {xs : List Pt} {k : Nat} (h : k < xs.length) : ptAt (xs.map (mv d)) k = mv d (ptAt xs k) := by
  unfold ptAt
  simp [h]
theorem ptAt_mvn (d : Pt) {xs : List Pt} {k : Nat} (h : k < xs.length) : ptAt (xs.map (mv d)) ((k + 1) % xs.length) = mv d (ptAt xs ((k + 1) % xs.length)) := ptAt_mv d (Nat.mod_lt _ (by omega))
theorem pairs_mv (d : Pt) (xs : List Pt) : PairsOK (xs.map (mv d)) ↔ PairsOK xs := by
  have key : ∀ i j, i < j → j < xs.length → pairOK (xs.map (mv d)) i j = pairOK xs i j := fun i j hi hj => by
    unfold pairOK meetOf
    rw [List.length_map, ptAt_mvn d (by omega : i < xs.length), ptAt_mvn d hj, ptAt_mv d (by omega : i < xs.length), ptAt_mv d hj, meetR_mv]
    simp only [ne_eq, mv_inj]
  constructor
  · intro h i j hi hj
    rw [← key i j hi hj]
    exact h i j hi (by simpa using hj)
  · intro h i j hi hj
    rw [List.length_map] at hj
    rw [key i j hi hj]
    exact h i j hi hj
theorem areaK_mv (d a b : Pt) : cr ⟨0, 0⟩ (mv d a) (mv d b) = cr ⟨0, 0⟩ a b + (d.x * b.y - d.y * b.x) - (d.x * a.y - d.y * a.x) := by
  unfold cr mv
  simp only [Int.sub_zero]
  grind
theorem areaS_mv (d : Pt) (xs : List Pt) (k : Nat) (hk : k < xs.length) : areaS (xs.map (mv d)) k = areaS xs k + (d.x * (ptAt xs k).y - d.y * (ptAt xs k).x) - (d.x * (ptAt xs 0).y - d.y * (ptAt xs 0).x) := by
  induction k with
  | zero => rw [areaS_zero, areaS_zero]; omega
  | succ k ih =>
    rw [areaS_succ, areaS_succ, ih (by omega)]
    unfold areaK
    rw [List.length_map, ptAt_mvn d (by omega : k < xs.length), ptAt_mv d (by omega : k < xs.length), areaK_mv, Nat.mod_eq_of_lt hk]
    omega
theorem areaZ_mv (d : Pt) (xs : List Pt) : areaZ (xs.map (mv d)) = areaZ xs := by
  rw [← areaS_all, ← areaS_all, List.length_map]
  rcases Nat.eq_zero_or_pos xs.length with h | h
  · rw [h]; rfl
  · obtain ⟨m, hm⟩ : ∃ m, xs.length = m + 1 := ⟨xs.length - 1, by omega⟩
    rw [hm, areaS_succ, areaS_succ, areaS_mv d xs m (by omega)]
    unfold areaK
    rw [List.length_map, ptAt_mvn d (by omega : m < xs.length), ptAt_mv d (by omega : m < xs.length), areaK_mv, hm, Nat.mod_self]
    omega
theorem crB_mv (d a b p : Pt) : crB (mv d a) (mv d b) (mv d p) = crB a b p := by
  unfold crB
  rw [cr_mv, cr_mv]
  unfold mv
  simp only [Int.add_lt_add_iff_right, Int.add_le_add_iff_right]
theorem side_mv (d : Pt) (xs : List Pt) (p : Pt) : sideI (xs.map (mv d)) (mv d p) = sideI xs p := by
  have e1 : ∀ k, k < xs.length → onE (xs.map (mv d)) (mv d p) k = onE xs p k := fun k hk => by
    unfold onE
    rw [List.length_map, ptAt_mvn d hk, ptAt_mv d hk, onB_mv]
  have e2 : ∀ k, k ≤ xs.length → oddN (xs.map (mv d)) (mv d p) k = oddN xs p k := fun k hk => by
    induction k with
    | zero => rfl
    | succ k ih =>
      rw [oddN, oddN, ih (by omega)]
      unfold crE
      rw [List.length_map, ptAt_mvn d (by omega : k < xs.length), ptAt_mv d (by omega : k < xs.length), crB_mv]
  have e3 : noneN (xs.map (mv d)) (mv d p) xs.length ↔ noneN xs p xs.length := by
    unfold noneN
    exact ⟨fun h i hi => by rw [← e1 i hi]; exact h i hi, fun h i hi => by rw [e1 i hi]; exact h i hi⟩
  unfold sideI
  rw [List.length_map, e2 _ (Nat.le_refl _)]
  by_cases h : noneN xs p xs.length
  · rw [if_pos h, if_pos (e3.2 h)]
  · rw [if_neg h, if_neg (fun h' => h (e3.1 h'))]
theorem area_mvE {d : Pt} {xs : List Pt} (hg : goodL xs = true) (hm : goodL (xs.map (mv d)) = true) : areaE (xs.map (mv d)) = areaE xs ∧ areaV (xs.map (mv d)) = areaV xs := by
  have h1 : areaE (xs.map (mv d)) = areaE xs := by
    unfold areaE
    rw [List.length_map, hg, hm]
  refine ⟨h1, ?_⟩
  unfold areaV
  rw [h1, areaZ_mv]
theorem check_mv {d : Pt} {xs : List Pt} (hg : goodL xs = true) (hm : goodL (xs.map (mv d)) = true) : checkI (xs.map (mv d)) = checkI xs := by
  exact check_congr (area_mvE hg hm).1 (by rw [List.length_map]) (areaZ_mv d xs) (pairs_mv d xs)
theorem sideW_mv {d : Pt} {xs : List Pt} {p : Pt} (hg : goodL xs = true) (hm : goodL (xs.map (mv d)) = true) (hp : good p = true) (hq : good (mv d p) = true) : sideV (xs.map (mv d)) (mv d p) = sideV xs p ∧ sideE (xs.map (mv d)) (mv d p) = sideE xs p := by
  unfold sideV sideE
  rw [check_mv hg hm, hp, hq, side_mv]
  exact ⟨rfl, rfl⟩
end Go.Proofs.YtglnklfhgdjccaaGreat
namespace Go.Proofs.YtglnklfhgdjccaaGreat
/-- The sum, over two, of a closed way's steps is nothing. -/
def xsum (f : Nat → Bool) : Nat → Bool
  | 0 => false
  | k + 1 => xor (xsum f k) (f k)
theorem xsum_tel (h : Nat → Bool) (k : Nat) : xsum (fun i => xor (h i) (h (i + 1))) k = xor (h 0) (h k) := by
  induction k with
  | zero => simp [xsum]
  | succ k ih =>
    rw [xsum, ih]
    cases h 0 <;> cases h k <;> cases h (k + 1) <;> rfl
theorem xsum_congr {f g : Nat → Bool} {n : Nat} (h : ∀ k, k < n → f k = g k) : xsum f n = xsum g n := by
  induction n with
  | zero => rfl
  | succ n ih => rw [xsum, xsum, ih fun k hk => h k (by omega), h n (by omega)]
theorem xsum_xor (f g : Nat → Bool) (n : Nat) : xsum (fun k => xor (f k) (g k)) n = xor (xsum f n) (xsum g n) := by
  induction n with
  | zero => rfl
  | succ n ih =>
    rw [xsum, xsum, xsum, ih]
    cases xsum f n <;> cases xsum g n <;> cases f n <;> cases g n <;> rfl
theorem xsum_cyc (h : Nat → Bool) {n : Nat} (hn : 0 < n) : xsum (fun k => xor (h k) (h ((k + 1) % n))) n = false := by
  obtain ⟨m, rfl⟩ : ∃ m, n = m + 1 := ⟨n - 1, by omega⟩
  have : xsum (fun k => xor (h k) (h ((k + 1) % (m + 1)))) m = xsum (fun i => xor (h i) (h (i + 1))) m := xsum_congr fun k hk => by rw [Nat.mod_eq_of_lt (by omega)]
  rw [xsum, this, xsum_tel, Nat.mod_self]
  cases h 0 <;> cases h m <;> rfl
theorem oddN_xsum (xs : List Pt) (p : Pt) (k : Nat) : oddN xs p k = xsum (fun i => crE xs p i) k := by
  induction k with
  | zero => rfl
  | succ k ih => rw [oddN, xsum, ih]
/-- An edge (a, b) that goes up from y1's half to y2's: the strip's right part. -/
def inH (X y1 y2 : Int) (p : Pt) : Bool := decide (y1 < p.y) && (decide (p.y ≤ y2) && decide (X < p.x))
theorem not_touch {a b c d : Pt} (h : ¬ Touch a b c d) : onB c d a = false ∧ onB c d b = false ∧ onB a b c = false ∧ onB a b d = false ∧ prB a b c d = false := by
  unfold Touch at h
  refine ⟨?_, ?_, ?_, ?_, ?_⟩ <;> rw [← Bool.not_eq_true] <;> intro h' <;> exact h (by simp [h'])
/-- Of an upright way (X, y1) to (X, y2), and an edge that does not touch it. -/
theorem off_end {X y1 y2 : Int} {p : Pt} (h : onB ⟨X, y1⟩ ⟨X, y2⟩ p = false) (h1 : y1 ≤ p.y) (h2 : p.y ≤ y2) : p.x ≠ X := fun e => by
  have : onB ⟨X, y1⟩ ⟨X, y2⟩ p = true := by
    rw [onB_iff]
    refine ⟨?_, ?_, ?_⟩
    · unfold cr
      simp only [e, Int.sub_self, Int.zero_mul, Int.mul_zero]
    · simp only; omega
    · simp only; omega
  rw [this] at h
  cases h
theorem on_up {a b p : Pt} (h : onB a b p = false) (hc : cr a b p = 0) (h1 : a.y ≤ p.y) (h2 : p.y ≤ b.y) (h3 : a.y < b.y) : False := by
  have hx : ¬ ((a.x ≤ p.x ∧ p.x ≤ b.x) ∨ (b.x ≤ p.x ∧ p.x ≤ a.x)) := fun hx => by
    have := (onB_iff a b p).2 ⟨hc, hx, .inl ⟨h1, h2⟩⟩
    rw [h] at this
    cases this
  apply hx
  unfold cr at hc
  have h1 : (b.y - a.y) * (p.x - a.x) = (b.x - a.x) * (p.y - a.y) := by omega
  have := line_btw (u := b.y - a.y) (v := b.x - a.x) (s := p.y - a.y) (t := p.x - a.x) (by omega) h1 (by omega) (by omega)
  omega
/-- The sign of X against an edge at a height of its own: which of its ends tells. -/
theorem cr_at (a b : Pt) (X y : Int) : cr a b ⟨X, y⟩ = (b.y - y) * (a.x - X) + (y - a.y) * (b.x - X) := by
  unfold cr
  grind
theorem pos_mul {u v : Int} (hu : 0 ≤ u) (hv : 0 ≤ v) : 0 ≤ u * v := Int.mul_nonneg hu hv
theorem pr_up {a b : Pt} {X y1 y2 : Int} (hy : y1 < y2) : prB a b ⟨X, y1⟩ ⟨X, y2⟩ = true ↔ ((cr a b ⟨X, y1⟩ < 0 ∧ 0 < cr a b ⟨X, y2⟩) ∨ (cr a b ⟨X, y2⟩ < 0 ∧ 0 < cr a b ⟨X, y1⟩)) ∧ ((a.x < X ∧ X < b.x) ∨ (b.x < X ∧ X < a.x)) := by
  rw [prB_iff]
  have e : ∀ p : Pt, cr ⟨X, y1⟩ ⟨X, y2⟩ p = (y2 - y1) * (X - p.x) := fun p => by
    unfold cr
    simp only [Int.sub_self, Int.zero_mul]
    grind
  have hp : ∀ z : Int, ((y2 - y1) * z < 0 ↔ z < 0) ∧ (0 < (y2 - y1) * z ↔ 0 < z) := fun z => by
    have := pos_sgn (N := y2 - y1) (x := z) (y := (y2 - y1) * z) (by omega) rfl
    exact ⟨this.2.1.symm, this.1.symm⟩
  rw [e, e, (hp _).1, (hp _).2, (hp _).1, (hp _).2]
  constructor
  · rintro ⟨h1, h2⟩; exact ⟨h1, by omega⟩
  · rintro ⟨h1, h2⟩; exact ⟨h1, by omega⟩
theorem smul {u v : Int} (hu : 0 < u) : (0 < u * v ↔ 0 < v) ∧ (u * v < 0 ↔ v < 0) := by
  have := pos_sgn (N := u) (x := v) (y := u * v) hu rfl
  exact ⟨this.1.symm, this.2.1.symm⟩
theorem nmul {u v : Int} (hu : 0 ≤ u) : (0 ≤ v → 0 ≤ u * v) ∧ (v ≤ 0 → u * v ≤ 0) :=
  ⟨fun h => Int.mul_nonneg hu h, fun h => Int.mul_nonpos_of_nonneg_of_nonpos hu h⟩
theorem npmul {u v : Int} (hu : u ≤ 0) : (0 ≤ v → u * v ≤ 0) ∧ (v ≤ 0 → 0 ≤ u * v) :=
  ⟨fun h => Int.mul_nonpos_of_nonpos_of_nonneg hu h, fun h => Int.mul_nonneg_of_nonpos_of_nonpos hu h⟩
/-- The facts of an edge that does not touch the upright way, in numbers. -/
structure Off (a b : Pt) (X y1 y2 : Int) : Prop where
  ea : y1 ≤ a.y → a.y ≤ y2 → a.x ≠ X
  eb : y1 ≤ b.y → b.y ≤ y2 → b.x ≠ X
  c1 : a.y ≤ y1 → y1 ≤ b.y → a.y < b.y → cr a b ⟨X, y1⟩ ≠ 0
  c2 : a.y ≤ y2 → y2 ≤ b.y → a.y < b.y → cr a b ⟨X, y2⟩ ≠ 0
  pr : ¬ (((cr a b ⟨X, y1⟩ < 0 ∧ 0 < cr a b ⟨X, y2⟩) ∨ (cr a b ⟨X, y2⟩ < 0 ∧ 0 < cr a b ⟨X, y1⟩)) ∧ ((a.x < X ∧ X < b.x) ∨ (b.x < X ∧ X < a.x)))
  fl : a.y = b.y → a.y = y2 → ¬ ((a.x < X ∧ X < b.x) ∨ (b.x < X ∧ X < a.x))
theorem Off.of {a b : Pt} {X y1 y2 : Int} (hy : y1 < y2) (h : ¬ Touch a b ⟨X, y1⟩ ⟨X, y2⟩) : Off a b X y1 y2 := by
  obtain ⟨h1, h2, h3, h4, h5⟩ := not_touch h
  refine ⟨off_end h1, off_end h2, fun g1 g2 g3 g4 => on_up h3 g4 g1 g2 g3, fun g1 g2 g3 g4 => on_up h4 g4 g1 g2 g3, fun g => ?_, fun g1 g2 g3 => ?_⟩
  · rw [(pr_up hy).2 g] at h5
    cases h5
  · have : onB a b ⟨X, y2⟩ = true := by
      rw [onB_iff]
      refine ⟨?_, ?_, ?_⟩
      · rw [cr_at, ← g1, g2, Int.sub_self]
        simp
      · simp only; omega
      · simp only; omega
    rw [this] at h4
    cases h4
theorem Off.swap {a b : Pt} {X y1 y2 : Int} (hy : y1 < y2) (h : ¬ Touch a b ⟨X, y1⟩ ⟨X, y2⟩) : ¬ Touch b a ⟨X, y1⟩ ⟨X, y2⟩ := by
  obtain ⟨h1, h2, h3, h4, h5⟩ := not_touch h
  rintro (g | g | g | g | g)
  · rw [h2] at g; cases g
  · rw [h1] at g; cases g
  · rw [onB_swap, h3] at g; cases g
  · rw [onB_swap, h4] at g; cases g
  · have : prB a b ⟨X, y1⟩ ⟨X, y2⟩ = true := by
      rw [pr_up hy] at g ⊢
      rw [cr_swapT, cr_swapT a b] at g
      omega
    rw [h5] at this
    cases this
theorem up_par {a b : Pt} {X y1 y2 : Int} (hy : y1 < y2) (hab : a.y ≤ b.y) (h : Off a b X y1 y2) :
    ((a.y ≤ y1 ∧ y1 < b.y ∧ b.y ≤ y2) → (0 < cr a b ⟨X, y1⟩ ↔ X < b.x)) ∧
    ((y1 < a.y ∧ a.y ≤ y2 ∧ y2 < b.y) → (0 < cr a b ⟨X, y2⟩ ↔ X < a.x)) ∧
    ((a.y ≤ y1 ∧ y2 < b.y) → (0 < cr a b ⟨X, y1⟩ ↔ 0 < cr a b ⟨X, y2⟩)) ∧
    ((y1 < a.y ∧ b.y ≤ y2) → (X < a.x ↔ X < b.x)) := by
  obtain ⟨ea, eb, hc1, hc2, hpr, hfl⟩ := h
  have f1 := cr_at a b X y1
  have f2 := cr_at a b X y2
  have hd : cr a b ⟨X, y2⟩ - cr a b ⟨X, y1⟩ = (y2 - y1) * (b.x - a.x) := by rw [f1, f2]; grind
  generalize cr a b ⟨X, y1⟩ = c at *
  generalize cr a b ⟨X, y2⟩ = d at *
  obtain ⟨A, hA⟩ : ∃ A, A = a.x - X := ⟨_, rfl⟩
  obtain ⟨B, hB⟩ : ∃ B, B = b.x - X := ⟨_, rfl⟩
  rw [← hA, ← hB] at f1 f2
  rw [show b.x - a.x = B - A by omega] at hd
  refine ⟨?_, ?_, ?_, ?_⟩
  · rintro ⟨g1, g2, g3⟩
    have e := eb (by omega) g3
    have m1 := smul (u := b.y - y1) (v := A) (by omega)
    have m2 := nmul (u := y1 - a.y) (v := B) (by omega)
    have m3 := npmul (u := b.y - y2) (v := A) (by omega)
    have m4 := smul (u := y2 - a.y) (v := B) (by omega)
    have k := hc1 g1 (by omega) (by omega)
    omega
  · rintro ⟨g1, g2, g3⟩
    have e := ea (by omega) g2
    have m1 := smul (u := b.y - y2) (v := A) (by omega)
    have m2 := nmul (u := y2 - a.y) (v := B) (by omega)
    have m3 := smul (u := b.y - y1) (v := A) (by omega)
    have m4 := npmul (u := y1 - a.y) (v := B) (by omega)
    have k := hc2 g2 (by omega) (by omega)
    omega
  · rintro ⟨g1, g2⟩
    have m1 := smul (u := b.y - y1) (v := A) (by omega)
    have m2 := nmul (u := y1 - a.y) (v := B) (by omega)
    have m3 := smul (u := b.y - y2) (v := A) (by omega)
    have m4 := smul (u := y2 - a.y) (v := B) (by omega)
    have m5 := smul (u := y2 - y1) (v := B - A) (by omega)
    have k1 := hc1 g1 (by omega) (by omega)
    have k2 := hc2 (by omega) (by omega) (by omega)
    omega
  · rintro ⟨g1, g2⟩
    have e1 := ea (by omega) (by omega)
    have e2 := eb (by omega) (by omega)
    have m1 := smul (u := b.y - y1) (v := A) (by omega)
    have m2 := npmul (u := y1 - a.y) (v := B) (by omega)
    have m2' := smul (u := a.y - y1) (v := B) (by omega)
    have m2e : (y1 - a.y) * B = -((a.y - y1) * B) := by grind
    have m3 := npmul (u := b.y - y2) (v := A) (by omega)
    have m4 := nmul (u := y2 - a.y) (v := B) (by omega)
    by_cases h1 : b.y = y2
    · by_cases h2 : a.y = y2
      · have := hfl (by omega) h2
        omega
      · have m6 := smul (u := y2 - a.y) (v := B) (by omega)
        omega
    · have m7 := smul (u := y2 - b.y) (v := A) (by omega)
      have m7e : (b.y - y2) * A = -((y2 - b.y) * A) := by grind
      omega
theorem crB_up {a b p : Pt} (h : a.y ≤ b.y) : crB a b p = true ↔ (a.y ≤ p.y ∧ p.y < b.y ∧ 0 < cr a b p) := by
  unfold crB
  rw [if_neg (by omega)]
  simp only [Bool.and_eq_true, decide_eq_true_eq]
theorem crB_swap (a b p : Pt) : crB a b p = crB b a p := by
  unfold crB
  by_cases h1 : b.y < a.y
  · rw [if_pos h1, if_neg (by omega)]
  · by_cases h2 : a.y < b.y
    · rw [if_neg h1, if_pos h2]
    · rw [if_neg h1, if_neg h2]
      by_cases h3 : a.y ≤ p.y
      · rw [decide_eq_false (by omega : ¬ p.y < b.y), decide_eq_false (by omega : ¬ p.y < a.y)]
        simp
      · rw [decide_eq_false h3, decide_eq_false (by omega : ¬ b.y ≤ p.y)]
        simp
theorem inH_iff (X y1 y2 : Int) (p : Pt) : inH X y1 y2 p = true ↔ (y1 < p.y ∧ p.y ≤ y2 ∧ X < p.x) := by
  unfold inH
  simp only [Bool.and_eq_true, decide_eq_true_eq]
theorem edge_up {a b : Pt} {X y1 y2 : Int} (hy : y1 < y2) (hab : a.y ≤ b.y) (h : ¬ Touch a b ⟨X, y1⟩ ⟨X, y2⟩) :
    xor (crB a b ⟨X, y1⟩) (crB a b ⟨X, y2⟩) = xor (inH X y1 y2 a) (inH X y1 y2 b) := by
  obtain ⟨p1, p2, p3, p4⟩ := up_par hy hab (Off.of hy h)
  have e1 := crB_up (p := ⟨X, y1⟩) hab
  have e2 := crB_up (p := ⟨X, y2⟩) hab
  have e3 := inH_iff X y1 y2 a
  have e4 := inH_iff X y1 y2 b
  simp only at e1 e2
  generalize cr a b ⟨X, y1⟩ = c at *
  generalize cr a b ⟨X, y2⟩ = d at *
  generalize crB a b ⟨X, y1⟩ = b1 at *
  generalize crB a b ⟨X, y2⟩ = b2 at *
  generalize inH X y1 y2 a = b3 at *
  generalize inH X y1 y2 b = b4 at *
  clear h
  rcases b1 with _ | _ <;> rcases b2 with _ | _ <;> rcases b3 with _ | _ <;> rcases b4 with _ | _
  all_goals first
    | rfl
    | (exfalso; simp only [Bool.false_eq_true, false_iff, true_iff] at e1 e2 e3 e4; omega)
theorem edge_par {a b : Pt} {X y1 y2 : Int} (hy : y1 < y2) (h : ¬ Touch a b ⟨X, y1⟩ ⟨X, y2⟩) :
    xor (crB a b ⟨X, y1⟩) (crB a b ⟨X, y2⟩) = xor (inH X y1 y2 a) (inH X y1 y2 b) := by
  by_cases hab : a.y ≤ b.y
  · exact edge_up hy hab h
  · rw [crB_swap a b, crB_swap a b, edge_up hy (by omega) (Off.swap hy h), Bool.xor_comm]
/-- Up or down where no edge touches the way: the same side. -/
theorem par_vert {xs : List Pt} {X y1 y2 : Int} (hn : 0 < xs.length) (hy : y1 < y2) (h : ∀ k, k < xs.length → ¬ Touch (ptAt xs k) (ptAt xs ((k + 1) % xs.length)) ⟨X, y1⟩ ⟨X, y2⟩) :
    oddN xs ⟨X, y1⟩ xs.length = oddN xs ⟨X, y2⟩ xs.length := by
  have h1 : xsum (fun k => xor (crE xs ⟨X, y1⟩ k) (crE xs ⟨X, y2⟩ k)) xs.length = xsum (fun k => xor (inH X y1 y2 (ptAt xs k)) (inH X y1 y2 (ptAt xs ((k + 1) % xs.length)))) xs.length :=
    xsum_congr fun k hk => edge_par hy (h k hk)
  have h2 := xsum_cyc (fun k => inH X y1 y2 (ptAt xs k)) hn
  rw [h2, xsum_xor] at h1
  rw [oddN_xsum, oddN_xsum]
  generalize xsum (fun k => crE xs ⟨X, y1⟩ k) xs.length = u at *
  generalize xsum (fun k => crE xs ⟨X, y2⟩ k) xs.length = v at *
  cases u <;> cases v <;> first | rfl | cases h1
end Go.Proofs.YtglnklfhgdjccaaGreat
namespace Go.Proofs.YtglnklfhgdjccaaGreat
def zsum (f : Nat → Int) : Nat → Int
  | 0 => 0
  | k + 1 => zsum f k + f k
theorem areaS_zsum (xs : List Pt) (k : Nat) : areaS xs k = zsum (areaK xs) k := by
  induction k with
  | zero => rfl
  | succ k ih => rw [areaS_succ, zsum, ih]
theorem areaZ_zsum (xs : List Pt) : areaZ xs = zsum (areaK xs) xs.length := by rw [← areaS_zsum, areaS_all]
theorem zsum_congr {f g : Nat → Int} {n : Nat} (h : ∀ k, k < n → f k = g k) : zsum f n = zsum g n := by
  induction n with
  | zero => rfl
  | succ n ih => rw [zsum, zsum, ih fun k hk => h k (by omega), h n (by omega)]
theorem zsum_neg (f : Nat → Int) (n : Nat) : zsum (fun i => - f i) n = - zsum f n := by
  induction n with
  | zero => rfl
  | succ n ih => rw [zsum, zsum, ih]; omega
theorem zsum_one (g : Nat → Int) (n : Nat) : zsum (fun i => g (i + 1)) n = zsum g n + g n - g 0 := by
  induction n with
  | zero => simp [zsum]
  | succ n ih => rw [zsum, zsum, ih]; omega
theorem zsum_shift (f : Nat → Int) {n : Nat} (k : Nat) : zsum (fun i => f ((k + i) % n)) n = zsum f n := by
  induction k with
  | zero => exact zsum_congr fun i hi => by rw [Nat.zero_add, Nat.mod_eq_of_lt hi]
  | succ k ih =>
    have h := zsum_one (fun i => f ((k + i) % n)) n
    simp only [Nat.add_zero, Nat.add_mod_right] at h
    have e : (fun i => f ((k + 1 + i) % n)) = fun i => f ((k + (i + 1)) % n) := by funext i; rw [show k + 1 + i = k + (i + 1) by omega]
    rw [e]
    omega
theorem zsum_rev_aux (g : Nat → Int) (n : Nat) : ∀ k, k ≤ n → zsum (fun i => g (n - 1 - i)) k + zsum g (n - k) = zsum g n
  | 0, _ => by simp [zsum]
  | k + 1, h => by
    have ih := zsum_rev_aux g n k (by omega)
    obtain ⟨m, hm⟩ : ∃ m, n - k = m + 1 := ⟨n - k - 1, by omega⟩
    rw [hm, zsum] at ih
    rw [zsum, show n - (k + 1) = m by omega, show n - 1 - k = m by omega]
    omega
theorem zsum_rev (g : Nat → Int) (n : Nat) : zsum (fun i => g (n - 1 - i)) n = zsum g n := by
  have := zsum_rev_aux g n n (Nat.le_refl _)
  rw [Nat.sub_self] at this
  simpa [zsum] using this
theorem xsum_one (g : Nat → Bool) (n : Nat) : xsum (fun i => g (i + 1)) n = xor (xor (xsum g n) (g n)) (g 0) := by
  induction n with
  | zero => simp [xsum]
  | succ n ih => rw [xsum, xsum, ih]; cases xsum g n <;> cases g n <;> cases g 0 <;> cases g (n + 1) <;> rfl
theorem xsum_shift (f : Nat → Bool) {n : Nat} (k : Nat) : xsum (fun i => f ((k + i) % n)) n = xsum f n := by
  induction k with
  | zero => exact xsum_congr fun i hi => by rw [Nat.zero_add, Nat.mod_eq_of_lt hi]
  | succ k ih =>
    have h := xsum_one (fun i => f ((k + i) % n)) n
    simp only [Nat.add_zero, Nat.add_mod_right] at h
    have e : (fun i => f ((k + 1 + i) % n)) = fun i => f ((k + (i + 1)) % n) := by funext i; rw [show k + 1 + i = k + (i + 1) by omega]
    rw [e, h, ih]
    cases xsum f n <;> cases f (k % n) <;> rfl
/-- The ring that begins at k. -/
def rot (k : Nat) (xs : List Pt) : List Pt := xs.drop k ++ xs.take k
theorem rot_len {k : Nat} {xs : List Pt} (h : k ≤ xs.length) : (rot k xs).length = xs.length := by
  unfold rot
  rw [List.length_append, List.length_drop, List.length_take]
  omega
theorem ptAt_rot {k i : Nat} {xs : List Pt} (h : k < xs.length) (hi : i < xs.length) : ptAt (rot k xs) i = ptAt xs ((k + i) % xs.length) := by
  unfold ptAt rot
  by_cases hlt : i < xs.length - k
  · rw [List.getElem?_append_left (by rw [List.length_drop]; exact hlt), List.getElem?_drop, Nat.mod_eq_of_lt (by omega)]
  · rw [List.getElem?_append_right (by rw [List.length_drop]; omega), List.length_drop, List.getElem?_take]
    have e : (k + i) % xs.length = i - (xs.length - k) := by
      rw [Nat.mod_eq_sub_mod (by omega), Nat.mod_eq_of_lt (by omega)]
      omega
    rw [e, if_pos (by omega)]
theorem ptAt_rot1 {k i : Nat} {xs : List Pt} (h : k < xs.length) : ptAt (rot k xs) ((i + 1) % xs.length) = ptAt xs (((k + i) % xs.length + 1) % xs.length) := by
  rw [ptAt_rot h (Nat.mod_lt _ (by omega))]
  congr 1
  rw [Nat.add_mod_mod, Nat.mod_add_mod, Nat.add_assoc]
theorem good_rot {k : Nat} {xs : List Pt} : goodL (rot k xs) = goodL xs := by
  unfold goodL rot
  rw [List.all_append, Bool.and_comm, ← List.all_append, List.take_append_drop]
theorem areaZ_rot {k : Nat} {xs : List Pt} (h : k < xs.length) : areaZ (rot k xs) = areaZ xs := by
  rw [areaZ_zsum, areaZ_zsum, rot_len (by omega), ← zsum_shift (areaK xs) k]
  refine zsum_congr fun i hi => ?_
  unfold areaK
  rw [rot_len (by omega), ptAt_rot h hi, ptAt_rot1 h]
theorem side_rot {k : Nat} {xs : List Pt} (p : Pt) (h : k < xs.length) : sideI (rot k xs) p = sideI xs p := by
  have e1 : ∀ i, i < xs.length → onE (rot k xs) p i = onE xs p ((k + i) % xs.length) := fun i hi => by
    unfold onE
    rw [rot_len (by omega), ptAt_rot h hi, ptAt_rot1 h]
  have e2 : ∀ i, i < xs.length → crE (rot k xs) p i = crE xs p ((k + i) % xs.length) := fun i hi => by
    unfold crE
    rw [rot_len (by omega), ptAt_rot h hi, ptAt_rot1 h]
  have e3 : oddN (rot k xs) p xs.length = oddN xs p xs.length := by
    rw [oddN_xsum, oddN_xsum, xsum_congr e2]
    exact xsum_shift (crE xs p) k
  have e4 : noneN (rot k xs) p xs.length ↔ noneN xs p xs.length := by
    unfold noneN
    constructor
    · intro hn i hi
      have := hn ((i + (xs.length - k)) % xs.length) (Nat.mod_lt _ (by omega))
      rw [e1 _ (Nat.mod_lt _ (by omega)), Nat.add_mod_mod, show k + (i + (xs.length - k)) = i + xs.length by omega, Nat.add_mod_right, Nat.mod_eq_of_lt hi] at this
      exact this
    · intro hn i hi
      rw [e1 i hi]
      exact hn _ (Nat.mod_lt _ (by omega))
  unfold sideI
  rw [rot_len (by omega), e3]
  by_cases hn : noneN xs p xs.length
  · rw [if_pos hn, if_pos (e4.2 hn)]
  · rw [if_neg hn, if_neg (fun h' => hn (e4.1 h'))]
/-- Pairs, whichever is named first. -/
theorem prB_comm (a b c d : Pt) : prB c d a b = prB a b c d := by
  unfold prB
  rw [decide_eq_decide]
  exact And.comm
theorem endsL_comm {a b c d e : Pt} : e ∈ endsL c d a b ↔ e ∈ endsL a b c d := by
  unfold endsL
  simp only [List.mem_append]
  constructor <;> rintro (h | h | h | h) <;> simp only [h, true_or, or_true]
theorem difB_iff (l : List Pt) : difB l = true ↔ ∃ p q, p ∈ l ∧ q ∈ l ∧ p ≠ q := by
  refine ⟨difB_two, ?_⟩
  rintro ⟨p, q, hp, hq, hne⟩
  cases l with
  | nil => cases hp
  | cons e t =>
    unfold difB
    rw [List.any_eq_true]
    by_cases h1 : p = e
    · subst h1
      refine ⟨q, ?_, decide_eq_true (fun h => hne h.symm)⟩
      rcases List.mem_cons.1 hq with h | h
      · exact absurd h.symm hne
      · exact h
    · refine ⟨p, ?_, decide_eq_true h1⟩
      rcases List.mem_cons.1 hp with h | h
      · exact absurd h h1
      · exact h
theorem meetR_comm (a b c d : Pt) : meetR c d a b = meetR a b c d := by
  have h1 : difB (endsL c d a b) = difB (endsL a b c d) := by
    rw [Bool.eq_iff_iff, difB_iff, difB_iff]
    simp only [endsL_comm]
  have h2 : endsL c d a b ≠ [] ↔ endsL a b c d ≠ [] := by
    constructor <;> intro h <;> obtain ⟨e, he⟩ := List.exists_mem_of_ne_nil _ h
    · exact List.ne_nil_of_mem (endsL_comm.1 he)
    · exact List.ne_nil_of_mem (endsL_comm.2 he)
  unfold meetR
  rw [h1, prB_comm]
  by_cases h : endsL a b c d ≠ []
  · rw [if_pos (h2.2 h), if_pos h]
  · rw [if_neg (fun h' => h (h2.1 h')), if_neg h]
def adjB (n i j : Nat) : Bool := decide ((i + 1) % n = j) || decide ((j + 1) % n = i)
theorem next_adj {n i j : Nat} (hi : i < j) (hj : j < n) : nextB n i j = adjB n i j := by
  unfold nextB adjB
  rw [Nat.mod_eq_of_lt (by omega : i + 1 < n)]
  by_cases h : j + 1 = n
  · rw [h, Nat.mod_self]
    rw [Bool.eq_iff_iff]
    simp only [Bool.or_eq_true, Bool.and_eq_true, decide_eq_true_eq]
    omega
  · rw [Nat.mod_eq_of_lt (by omega : j + 1 < n)]
    rw [Bool.eq_iff_iff]
    simp only [Bool.or_eq_true, Bool.and_eq_true, decide_eq_true_eq]
    omega
def pairS (xs : List Pt) (i j : Nat) : Prop := ptAt xs i ≠ ptAt xs j ∧ meetOf xs i j = if adjB xs.length i j = true then 1 else 0
theorem pairS_comm {xs : List Pt} {i j : Nat} (h : pairS xs i j) : pairS xs j i := by
  unfold pairS meetOf at *
  refine ⟨fun e => h.1 e.symm, ?_⟩
  rw [meetR_comm, h.2]
  unfold adjB
  rw [Bool.or_comm]
theorem pairs_iff (xs : List Pt) : PairsOK xs ↔ ∀ i j, i < xs.length → j < xs.length → i ≠ j → pairS xs i j := by
  have key : ∀ i j, i < j → j < xs.length → (pairOK xs i j = true ↔ pairS xs i j) := fun i j hi hj => by
    unfold pairOK pairS
    rw [next_adj hi hj, Bool.and_eq_true, decide_eq_true_eq, decide_eq_true_eq]
  constructor
  · intro h i j hi hj hne
    rcases Nat.lt_or_gt_of_ne hne with hlt | hlt
    · exact (key i j hlt hj).1 (h i j hlt hj)
    · exact pairS_comm ((key j i hlt hi).1 (h j i hlt hi))
  · intro h i j hi hj
    exact (key i j hi hj).2 (h i j (by omega) hj (by omega))
theorem rot_inj {n k i j : Nat} (hi : i < n) (hj : j < n) (h : (k + i) % n = (k + j) % n) : i = j := by
  have h1 := Nat.div_add_mod (k + i) n
  have h2 := Nat.div_add_mod (k + j) n
  have h3 : n * ((k + i) / n) + (k + j) = n * ((k + j) / n) + (k + i) := by omega
  rcases Nat.lt_trichotomy ((k + i) / n) ((k + j) / n) with h4 | h4 | h4
  · have := Nat.mul_le_mul_left n (show (k + i) / n + 1 ≤ (k + j) / n from h4)
    rw [Nat.mul_add, Nat.mul_one] at this
    omega
  · rw [h4] at h3; omega
  · have := Nat.mul_le_mul_left n (show (k + j) / n + 1 ≤ (k + i) / n from h4)
    rw [Nat.mul_add, Nat.mul_one] at this
    omega
theorem adj_rot {n k i j : Nat} (hi : i < n) (hj : j < n) : adjB n ((k + i) % n) ((k + j) % n) = adjB n i j := by
  have key : ∀ i j, i < n → j < n → decide (((k + i) % n + 1) % n = (k + j) % n) = decide ((i + 1) % n = j) := fun i j hi hj => by
    rw [decide_eq_decide, Nat.mod_add_mod]
    constructor
    · intro h
      have : (k + (i + 1) % n) % n = (k + j) % n := by rw [Nat.add_mod_mod]; exact h
      exact rot_inj (Nat.mod_lt _ (by omega)) hj this
    · intro h
      rw [← h, Nat.add_mod_mod]
      rfl
  unfold adjB
  rw [key i j hi hj, key j i hj hi]
theorem pairS_rot {k i j : Nat} {xs : List Pt} (h : k < xs.length) (hi : i < xs.length) (hj : j < xs.length) : pairS (rot k xs) i j ↔ pairS xs ((k + i) % xs.length) ((k + j) % xs.length) := by
  unfold pairS meetOf
  rw [rot_len (by omega), ptAt_rot1 h, ptAt_rot1 h, ptAt_rot h hi, ptAt_rot h hj, adj_rot hi hj]
theorem pairs_rot {k : Nat} {xs : List Pt} (h : k < xs.length) : PairsOK (rot k xs) ↔ PairsOK xs := by
  have hn : 0 < xs.length := by omega
  rw [pairs_iff, pairs_iff, rot_len (by omega)]
  constructor
  · intro hp i j hi hj hne
    have e : ∀ i, i < xs.length → (k + (i + (xs.length - k)) % xs.length) % xs.length = i := fun i hi => by
      rw [Nat.add_mod_mod, show k + (i + (xs.length - k)) = i + xs.length by omega, Nat.add_mod_right, Nat.mod_eq_of_lt hi]
    have := hp ((i + (xs.length - k)) % xs.length) ((j + (xs.length - k)) % xs.length) (Nat.mod_lt _ hn) (Nat.mod_lt _ hn) (fun h' => hne (by rw [← e i hi, h', e j hj]))
    rw [pairS_rot h (Nat.mod_lt _ hn) (Nat.mod_lt _ hn), e i hi, e j hj] at this
    exact this
  · intro hp i j hi hj hne
    rw [pairS_rot h hi hj]
    exact hp _ _ (Nat.mod_lt _ hn) (Nat.mod_lt _ hn) (fun h' => hne (rot_inj hi hj h'))
theorem area_rot {k : Nat} {xs : List Pt} (h : k < xs.length) : areaE (rot k xs) = areaE xs ∧ areaV (rot k xs) = areaV xs := by
  have h1 : areaE (rot k xs) = areaE xs := by
    unfold areaE
    rw [rot_len (by omega), good_rot]
  refine ⟨h1, ?_⟩
  unfold areaV
  rw [h1, areaZ_rot h]
theorem check_rot {k : Nat} {xs : List Pt} (h : k < xs.length) : checkI (rot k xs) = checkI xs := check_congr (area_rot h).1 (by rw [rot_len (by omega)]) (areaZ_rot h) (pairs_rot h)
theorem sideW_rot {k : Nat} {xs : List Pt} (p : Pt) (h : k < xs.length) : sideV (rot k xs) p = sideV xs p ∧ sideE (rot k xs) p = sideE xs p := by
  unfold sideV sideE
  rw [check_rot h, side_rot p h]
  exact ⟨rfl, rfl⟩
theorem ptAt_rev {xs : List Pt} {i : Nat} (h : i < xs.length) : ptAt xs.reverse i = ptAt xs (xs.length - 1 - i) := by
  unfold ptAt
  rw [List.getElem?_reverse h]
theorem areaZ_rev (xs : List Pt) : areaZ xs.reverse = - areaZ xs := by
  rw [areaZ_zsum, areaZ_zsum, List.length_reverse, ← zsum_shift (areaK xs) (xs.length - 1), ← zsum_rev (fun i => areaK xs ((xs.length - 1 + i) % xs.length)), ← zsum_neg]
  refine zsum_congr fun i hi => ?_
  unfold areaK
  rw [List.length_reverse, ptAt_rev hi, ptAt_rev (Nat.mod_lt _ (by omega))]
  have e1 : ((xs.length - 1 + (xs.length - 1 - i)) % xs.length + 1) % xs.length = xs.length - 1 - i := by
    rw [Nat.mod_add_mod, show xs.length - 1 + (xs.length - 1 - i) + 1 = xs.length - 1 - i + xs.length by omega, Nat.add_mod_right, Nat.mod_eq_of_lt (by omega)]
  have e2 : (xs.length - 1 + (xs.length - 1 - i)) % xs.length = xs.length - 1 - (i + 1) % xs.length := by
    by_cases h1 : i + 1 = xs.length
    · rw [h1, Nat.mod_self, show xs.length - 1 + (xs.length - 1 - i) = xs.length - 1 by omega, Nat.mod_eq_of_lt (by omega)]
      omega
    · rw [Nat.mod_eq_of_lt (by omega : i + 1 < xs.length), show xs.length - 1 + (xs.length - 1 - i) = xs.length - 1 - (i + 1) + xs.length by omega, Nat.add_mod_right, Nat.mod_eq_of_lt (by omega)]
  rw [e1, e2]
  unfold cr
  simp only [Int.sub_zero]
  grind
theorem good_rev (xs : List Pt) : goodL xs.reverse = goodL xs := by
  unfold goodL
  rw [List.all_reverse]
theorem areaE_rev (xs : List Pt) : areaE xs.reverse = areaE xs := by
  unfold areaE
  rw [List.length_reverse, good_rev]
theorem areaV_rev (xs : List Pt) : areaV xs.reverse = - areaV xs := by
  unfold areaV
  rw [areaE_rev, areaZ_rev]
  split <;> rfl
theorem check_rev {xs : List Pt} (h : checkI xs = 0) : checkI xs.reverse = 4 := by
  obtain ⟨h1, h2, -, h3, -⟩ := checkI_zero h
  exact checkI_no ((areaE_rev xs).trans (areaE_of h1 h2)) (fun h' => by have := h'.2.1; rw [areaZ_rev] at this; omega)
end Go.Proofs.YtglnklfhgdjccaaGreat
namespace Go.Proofs.YtglnklfhgdjccaaGreat
theorem onB_key {a b p : Pt} (ha : good a = true) (hb : good b = true) (hp : good p = true) : onB a b p = true ↔ cr a b p = 0 ∧ ((key a ≤ key p ∧ key p ≤ key b) ∨ (key b ≤ key p ∧ key p ≤ key a)) := by
  rw [← onP_eq ha hb hp]
  exact onP_key ha hb hp
/-- A point in common, as a share of either's ends. -/
def Com (a b c d : Pt) (N t A B : Int) : Prop := 0 < N ∧ 0 ≤ t ∧ t ≤ N ∧ 0 ≤ A ∧ 0 ≤ B ∧ A + B = N ∧ (N - t) * a.x + t * b.x = A * c.x + B * d.x ∧ (N - t) * a.y + t * b.y = A * c.y + B * d.y
theorem on_conv {a b c : Pt} {N t : Int} (hN : 0 < N) (h0 : 0 ≤ t) (h1 : t ≤ N) (hx : (N - t) * a.x + t * b.x = N * c.x) (hy : (N - t) * a.y + t * b.y = N * c.y) : onB a b c = true := by
  rw [onB_iff]
  refine ⟨?_, ?_, ?_⟩
  · have : N * cr a b c = 0 := by unfold cr; grind
    exact line_zero (by omega) this
  · have := conv_btw (x := a.x) (y := b.x) h0 h1
    rw [hx, mul_le hN, mul_le hN, mul_le hN, mul_le hN] at this
    exact this
  · have := conv_btw (x := a.y) (y := b.y) h0 h1
    rw [hy, mul_le hN, mul_le hN, mul_le hN, mul_le hN] at this
    exact this
theorem com_of_touch {a b c d : Pt} (h : Touch a b c d) : ∃ N t A B, Com a b c d N t A B := by
  rcases h with h | h | h | h | h
  · obtain ⟨N, t, h1, h2, h3, h4, h5⟩ := on_param h
    exact ⟨N, 0, N - t, t, h1, by omega, by omega, by omega, by omega, by omega, by rw [h4]; grind, by rw [h5]; grind⟩
  · obtain ⟨N, t, h1, h2, h3, h4, h5⟩ := on_param h
    exact ⟨N, N, N - t, t, h1, by omega, by omega, by omega, by omega, by omega, by rw [h4]; grind, by rw [h5]; grind⟩
  · obtain ⟨N, t, h1, h2, h3, h4, h5⟩ := on_param h
    exact ⟨N, t, N, 0, h1, h2, h3, by omega, by omega, by omega, by rw [h4]; grind, by rw [h5]; grind⟩
  · obtain ⟨N, t, h1, h2, h3, h4, h5⟩ := on_param h
    exact ⟨N, t, 0, N, h1, h2, h3, by omega, by omega, by omega, by rw [h4]; grind, by rw [h5]; grind⟩
  · obtain ⟨N, t, A, B, h⟩ := pr_param h
    exact ⟨N, t, A, B, h⟩
theorem Com.other {a b c d : Pt} {N t A B : Int} (h : Com a b c d N t A B) : Com c d a b N B (N - t) t := by
  obtain ⟨h1, h2, h3, h4, h5, h6, h7, h8⟩ := h
  exact ⟨h1, h5, by omega, by omega, h2, by omega, by rw [show N - B = A by omega]; exact h7.symm, by rw [show N - B = A by omega]; exact h8.symm⟩
theorem com_sum {a b c d : Pt} {N t A B : Int} (h : Com a b c d N t A B) : A * cr a b c + B * cr a b d = 0 := by
  obtain ⟨h1, h2, h3, h4, h5, h6, h7, h8⟩ := h
  unfold cr
  grind
theorem signs {A B C D : Int} (hA : 0 ≤ A) (hB : 0 ≤ B) (hN : 0 < A + B) (h : A * C + B * D = 0) : (C = 0 ∧ D = 0) ∨ (C < 0 ∧ 0 < D) ∨ (D < 0 ∧ 0 < C) ∨ A = 0 ∨ B = 0 := by
  by_cases h1 : A = 0
  · simp [h1]
  · by_cases h2 : B = 0
    · simp [h2]
    · have hA' : 0 < A := by omega
      have hB' : 0 < B := by omega
      have m1 := smul (u := A) (v := C) hA'
      have m2 := smul (u := B) (v := D) hB'
      omega
theorem touch_of_com {a b c d : Pt} (ha : good a = true) (hb : good b = true) (hc : good c = true) (hd : good d = true) {N t A B : Int} (h : Com a b c d N t A B) : Touch a b c d := by
  have k1 := com_sum h
  have k2 := com_sum h.other
  obtain ⟨h1, h2, h3, h4, h5, h6, h7, h8⟩ := h
  have s1 := signs h4 h5 (by omega) k1
  have s2 := signs (by omega : 0 ≤ N - t) h2 (by omega) k2
  by_cases eA : A = 0
  · exact .inr (.inr (.inr (.inl (on_conv h1 h2 h3 (by rw [h7, eA]; rw [show B = N by omega]; grind) (by rw [h8, eA]; rw [show B = N by omega]; grind)))))
  by_cases eB : B = 0
  · exact .inr (.inr (.inl (on_conv h1 h2 h3 (by rw [h7, eB]; rw [show A = N by omega]; grind) (by rw [h8, eB]; rw [show A = N by omega]; grind))))
  by_cases e0 : N - t = 0
  · exact .inr (.inl (on_conv h1 h5 (by omega) (by rw [show N - B = A by omega, ← h7, e0, show t = N by omega]; grind) (by rw [show N - B = A by omega, ← h8, e0, show t = N by omega]; grind)))
  by_cases e1 : t = 0
  · exact .inl (on_conv h1 h5 (by omega) (by rw [show N - B = A by omega, ← h7, e1]; grind) (by rw [show N - B = A by omega, ← h8, e1]; grind))
  by_cases hz : cr a b c = 0 ∧ cr a b d = 0 ∧ cr c d a = 0 ∧ cr c d b = 0
  · obtain ⟨z1, z2, z3, z4⟩ := hz
    have hk : (N - t) * key a + t * key b = A * key c + B * key d := by unfold key; grind
    have c1 := conv_btw (N := N) (t := t) (x := key a) (y := key b) h2 h3
    have c2 := conv_btw (N := N) (t := B) (x := key c) (y := key d) h5 (by omega)
    rw [show N - B = A by omega] at c2
    rw [← hk] at c2
    generalize (N - t) * key a + t * key b = X at *
    have m : ∀ x y : Int, N * x ≤ N * y → x ≤ y := fun x y h => (mul_le h1).1 h
    have mm : ∀ x y : Int, N * x ≤ X → X ≤ N * y → x ≤ y := fun x y p q => m x y (by omega)
    have g1 := onB_key hc hd ha
    have g2 := onB_key hc hd hb
    have g3 := onB_key ha hb hc
    have g4 := onB_key ha hb hd
    unfold Touch
    rw [g1, g2, g3, g4]
    simp only [z1, z2, z3, z4, true_and]
    rcases c1 with ⟨c11, c12⟩ | ⟨c11, c12⟩ <;> rcases c2 with ⟨c21, c22⟩ | ⟨c21, c22⟩
    · have := mm _ _ c11 c22; have := mm _ _ c21 c12; have := mm _ _ c11 c12; have := mm _ _ c21 c22; omega
    · have := mm _ _ c11 c22; have := mm _ _ c21 c12; have := mm _ _ c11 c12; have := mm _ _ c21 c22; omega
    · have := mm _ _ c11 c22; have := mm _ _ c21 c12; have := mm _ _ c11 c12; have := mm _ _ c21 c22; omega
    · have := mm _ _ c11 c22; have := mm _ _ c21 c12; have := mm _ _ c11 c12; have := mm _ _ c21 c22; omega
  · right; right; right; right
    rw [prB_iff]
    have p1 : (cr a b c = 0 ∧ cr a b d = 0) → (cr c d a = 0 ∧ cr c d b = 0) → False := fun q1 q2 => hz ⟨q1.1, q1.2, q2⟩
    have p2 : cr a b d - cr a b c = cr c d a - cr c d b := by unfold cr; grind
    omega
theorem touch_other {a b c d : Pt} : Touch c d a b ↔ Touch a b c d := by
  rw [← touch_iff, ← touch_iff, meetR_comm]
/-- Of a stretch's part. -/
theorem com_part {a b p c d : Pt} (hp : onB a b p = true) {N t A B : Int} (h : Com a p c d N t A B) : ∃ N t A B, Com a b c d N t A B := by
  obtain ⟨M, s, g1, g2, g3, g4, g5⟩ := on_param hp
  obtain ⟨h1, h2, h3, h4, h5, h6, h7, h8⟩ := h
  have hle : t * s ≤ N * M := Int.mul_le_mul h3 g3 g2 (by omega)
  refine ⟨N * M, t * s, M * A, M * B, Int.mul_pos h1 g1, Int.mul_nonneg h2 g2, hle, Int.mul_nonneg (by omega) h4, Int.mul_nonneg (by omega) h5, by rw [← Int.mul_add, h6]; exact Int.mul_comm _ _, ?_, ?_⟩
  · have : M * ((N - t) * a.x + t * p.x) = M * (A * c.x + B * d.x) := by rw [h7]
    grind
  · have : M * ((N - t) * a.y + t * p.y) = M * (A * c.y + B * d.y) := by rw [h8]
    grind
theorem touch_part {a b p c d : Pt} (ha : good a = true) (hb : good b = true) (hc : good c = true) (hd : good d = true) (hp : onB a b p = true) (h : Touch a p c d) : Touch a b c d := by
  obtain ⟨N, t, A, B, h⟩ := com_of_touch h
  obtain ⟨N, t, A, B, h⟩ := com_part hp h
  exact touch_of_com ha hb hc hd h
theorem meetR_nn (a b c d : Pt) : 0 ≤ meetR a b c d := by
  unfold meetR
  split <;> (try split) <;> (try split) <;> omega
theorem meet_zero {a b c d : Pt} : meetR a b c d = 0 ↔ ¬ Touch a b c d := by
  have := meetR_nn a b c d
  rw [← touch_iff]
  omega
theorem prB_swap1 (a b c d : Pt) : prB b a c d = prB a b c d := by
  rw [Bool.eq_iff_iff, prB_iff, prB_iff, cr_swapT a b c, cr_swapT a b d]
  omega
theorem meetR_swap1 (a b c d : Pt) : meetR b a c d = meetR a b c d := by
  have hm : ∀ e, e ∈ endsL b a c d ↔ e ∈ endsL a b c d := fun e => by
    unfold endsL
    rw [onB_swap b a c, onB_swap b a d]
    simp only [List.mem_append]
    constructor <;> rintro (h | h | h | h) <;> simp only [h, true_or, or_true]
  have h1 : difB (endsL b a c d) = difB (endsL a b c d) := by
    rw [Bool.eq_iff_iff, difB_iff, difB_iff]
    simp only [hm]
  have h2 : endsL b a c d ≠ [] ↔ endsL a b c d ≠ [] := by
    constructor <;> intro h <;> obtain ⟨e, he⟩ := List.exists_mem_of_ne_nil _ h
    · exact List.ne_nil_of_mem ((hm e).1 he)
    · exact List.ne_nil_of_mem ((hm e).2 he)
  unfold meetR
  rw [h1, prB_swap1]
  by_cases h : endsL a b c d ≠ []
  · rw [if_pos (h2.2 h), if_pos h]
  · rw [if_neg (fun h' => h (h2.1 h')), if_neg h]
theorem meetR_swap2 (a b c d : Pt) : meetR a b d c = meetR a b c d := by rw [← meetR_comm, meetR_swap1, meetR_comm]
/-- Two stretches with one end in common and no other point. -/
theorem one_iff {a b d : Pt} : meetR a b b d = 1 ↔ (onB b d a = true → a = b) ∧ (onB a b d = true → d = b) := by
  have hb1 := (onB_self b d).1
  have hb2 := (onB_self a b).2
  have hne : endsL a b b d ≠ [] := by unfold endsL; rw [hb1, hb2]; simp
  have hd : difB (endsL a b b d) = true ↔ ¬ ((onB b d a = true → a = b) ∧ (onB a b d = true → d = b)) := by
    rw [difB_iff]
    have hmem : ∀ e, e ∈ endsL a b b d ↔ e = b ∨ (onB b d a = true ∧ e = a) ∨ (onB a b d = true ∧ e = d) := fun e => by
      unfold endsL
      rw [hb1, hb2]
      rcases q1 : onB b d a with _ | _ <;> rcases q2 : onB a b d with _ | _ <;> simp <;> grind
    constructor
    · rintro ⟨p, q, hp, hq, hne⟩ ⟨g1, g2⟩
      have e : ∀ e, e ∈ endsL a b b d → e = b := fun e he => by
        rcases (hmem e).1 he with h | ⟨h, h'⟩ | ⟨h, h'⟩
        · exact h
        · rw [h', g1 h]
        · rw [h', g2 h]
      exact hne ((e p hp).trans (e q hq).symm)
    · intro h
      by_cases q1 : onB b d a = true ∧ a ≠ b
      · exact ⟨a, b, (hmem a).2 (.inr (.inl ⟨q1.1, rfl⟩)), (hmem b).2 (.inl rfl), q1.2⟩
      · by_cases q2 : onB a b d = true ∧ d ≠ b
        · exact ⟨d, b, (hmem d).2 (.inr (.inr ⟨q2.1, rfl⟩)), (hmem b).2 (.inl rfl), q2.2⟩
        · exact absurd ⟨fun h1 => Classical.byContradiction fun h2 => q1 ⟨h1, h2⟩, fun h1 => Classical.byContradiction fun h2 => q2 ⟨h1, h2⟩⟩ h
  unfold meetR
  by_cases hD : difB (endsL a b b d) = true
  · rw [if_pos hD]
    constructor
    · intro h; omega
    · intro h; exact absurd h (hd.1 hD)
  · rw [if_neg hD, if_pos hne]
    constructor
    · intro _
      exact Classical.byContradiction fun h => hD (hd.2 h)
    · intro _; rfl
end Go.Proofs.YtglnklfhgdjccaaGreat
namespace Go.Proofs.YtglnklfhgdjccaaGreat
/-- The place of the least of the first m corners, the first of those that are alike. -/
def leastN (xs : List Pt) : Nat → Nat
  | 0 => 0
  | m + 1 => if ordI (ptAt xs m) (ptAt xs (leastN xs m)) < 0 then m else leastN xs m
theorem leastN_lt (xs : List Pt) {m : Nat} (h : 0 < m) : leastN xs m < m := by
  induction m with
  | zero => omega
  | succ m ih =>
    unfold leastN
    split
    · omega
    · rcases Nat.eq_zero_or_pos m with h0 | h0
      · subst h0; unfold leastN; omega
      · have := ih h0; omega
theorem ordI_eq {a b : Pt} : ordI a b = 0 ↔ a = b := by
  obtain ⟨ax, ay⟩ := a
  obtain ⟨bx, by_⟩ := b
  unfold ordI orI
  simp only [Pt.mk.injEq]
  rcases cmpI_cases ax bx with ⟨h, e⟩ | ⟨h, e⟩ | ⟨h, e⟩ <;> rcases cmpI_cases ay by_ with ⟨h', e'⟩ | ⟨h', e'⟩ | ⟨h', e'⟩ <;> rw [e, e'] <;> simp <;> omega
end Go.Proofs.YtglnklfhgdjccaaGreat
namespace Go.Proofs.YtglnklfhgdjccaaGreat
structure Ed where
  a : Pt
  b : Pt
  deriving DecidableEq
def Ed.back (e : Ed) : Ed := ⟨e.b, e.a⟩
def Ed.norm (e : Ed) : Ed := if 0 < ordI e.a e.b then e.back else e
structure Parc where
  id : Int
  ring : List Pt
  owner : ByteArray
structure Plan where
  outer : List Pt
  parcels : List Parc
def edgesOf (xs : List Pt) : List Ed := (List.range xs.length).map fun k => ⟨ptAt xs k, ptAt xs ((k + 1) % xs.length)⟩
def allE (ps : List Parc) : List Ed := ps.flatMap fun x => edgesOf x.ring
def ownB (s : ByteArray) : Bool := decide (s.size ≤ 32) && s.data.toList.all fun c => decide (32 ≤ c.toNat ∧ c.toNat ≤ 126)
def idB (n : Int) : Bool := decide (1 ≤ n ∧ n ≤ 1073741824)
def listN : Nat → Int → List Parc → Bool
  | _, _, [] => true
  | n, last, x :: r => idB x.id && (decide (last < x.id) && (ownB x.owner && (decide (n + x.ring.length ≤ 1024) && listN (n + x.ring.length) x.id r)))
theorem listN_cons (n : Nat) (last : Int) (x : Parc) (r : List Parc) : listN n last (x :: r) = (idB x.id && (decide (last < x.id) && (ownB x.owner && (decide (n + x.ring.length ≤ 1024) && listN (n + x.ring.length) x.id r)))) := rfl
theorem listN_nil (n : Nat) (last : Int) : listN n last [] = true := rfl
def cornN : Nat → List Parc → Nat
  | n, [] => n
  | n, x :: r => cornN (n + x.ring.length) r
theorem cornN_cons (n : Nat) (x : Parc) (r : List Parc) : cornN n (x :: r) = cornN (n + x.ring.length) r := rfl
theorem cornN_nil (n : Nat) : cornN n [] = n := rfl
def listedB (p : Plan) : Bool := listN p.outer.length 0 p.parcels && (decide (1 ≤ p.parcels.length) && (decide (p.parcels.length ≤ 64) && decide (cornN p.outer.length p.parcels ≤ 1024)))
def NormedP (xs : List Pt) : Prop := checkI xs = 0 ∧ xs = rot (leastN xs xs.length) xs
def MatchP (p : Plan) : Prop := (allE p.parcels).Nodup ∧ (∀ e ∈ edgesOf p.outer, e ∈ allE p.parcels) ∧ ∀ e ∈ allE p.parcels, (e.back ∈ allE p.parcels ↔ e ∉ edgesOf p.outer)
def shareB (e f : Ed) : Bool := decide (e.a = f.a) || (decide (e.a = f.b) || (decide (e.b = f.a) || decide (e.b = f.b)))
def meetE (e f : Ed) : Int := meetR e.a e.b f.a f.b
def apartB (e f : Ed) : Bool := if meetE e f = 0 then true else if meetE e f = 1 then shareB e f else decide (meetE e f = 3) && (decide (e = f) || decide (e = f.back))
def okR (e f : Ed) : Bool := !(decide (meetE e f = 2) || ((decide (meetE e f = 1) && !shareB e f) || (decide (meetE e f = 3) && !decide (e = f.back))))
def PairsE (l : List Ed) : Prop := ∀ i j (hi : i < l.length) (hj : j < l.length), i < j → okR l[i] l[j] = true
def SweepE (l : List Ed) : Prop := ∀ i j (hi : i < l.length) (hj : j < l.length), i < j → (∀ m (hm : m < l.length), i < m → m ≤ j → l[m].a.x ≤ l[i].b.x) → apartB l[i] l[j] = true
def areasL (ps : List Parc) : Int := sumL (ps.map fun x => areaZ x.ring)
def SoundP (p : Plan) : Prop := listedB p = true ∧ NormedP p.outer ∧ (∀ x ∈ p.parcels, NormedP x.ring) ∧ MatchP p ∧ PairsE (allE p.parcels) ∧ areasL p.parcels = areaZ p.outer
open Classical in
noncomputable def planB (p : Plan) : Bool := decide (SoundP p)
noncomputable def planE (p : Plan) : Int := if planB p = true then 0 else 2
theorem Ed.back_back (e : Ed) : e.back.back = e := rfl
theorem ordI_anti {a b : Pt} (h : 0 < ordI a b) : ordI b a < 0 := by
  unfold ordI orI at *
  rcases cmpI_cases a.x b.x with ⟨h1, e⟩ | ⟨h1, e⟩ | ⟨h1, e⟩ <;> rcases cmpI_cases a.y b.y with ⟨h2, e'⟩ | ⟨h2, e'⟩ | ⟨h2, e'⟩ <;> rcases cmpI_cases b.x a.x with ⟨h3, f⟩ | ⟨h3, f⟩ | ⟨h3, f⟩ <;> rcases cmpI_cases b.y a.y with ⟨h4, f'⟩ | ⟨h4, f'⟩ | ⟨h4, f'⟩ <;> rw [e, e'] at h <;> rw [f, f'] <;> (first | omega | (simp at h; done) | simp)
theorem ordI_le {a b : Pt} (h : ordI a b ≤ 0) : a.x ≤ b.x := by
  unfold ordI orI at h
  rcases cmpI_cases a.x b.x with ⟨h1, e⟩ | ⟨h1, e⟩ | ⟨h1, e⟩
  · omega
  · rw [e] at h; simp at h
  · omega
theorem ordI_both {a b : Pt} (h : ordI a b ≤ 0) (h' : ordI b a ≤ 0) : a = b := by
  obtain ⟨ax, ay⟩ := a
  obtain ⟨bx, by_⟩ := b
  unfold ordI orI at *
  simp only [Pt.mk.injEq] at *
  rcases cmpI_cases ax bx with ⟨h1, e⟩ | ⟨h1, e⟩ | ⟨h1, e⟩ <;> rcases cmpI_cases ay by_ with ⟨h2, e'⟩ | ⟨h2, e'⟩ | ⟨h2, e'⟩ <;> rcases cmpI_cases bx ax with ⟨h3, f⟩ | ⟨h3, f⟩ | ⟨h3, f⟩ <;> rcases cmpI_cases by_ ay with ⟨h4, f'⟩ | ⟨h4, f'⟩ | ⟨h4, f'⟩ <;> rw [e, e'] at h <;> rw [f, f'] at h' <;> (first | omega | (simp at h; done) | (simp at h'; done) | (simp at h h'; omega))
theorem Ed.norm_le (e : Ed) : ordI e.norm.a e.norm.b ≤ 0 := by
  unfold Ed.norm
  split
  · rename_i h
    have := ordI_anti h
    show ordI e.b e.a ≤ 0
    omega
  · omega
theorem Ed.norm_or (e : Ed) : e.norm = e ∨ e.norm = e.back := by
  unfold Ed.norm
  split
  · exact .inr rfl
  · exact .inl rfl
theorem Ed.norm_back {e : Ed} (h : e.a ≠ e.b) : e.back.norm = e.norm := by
  have h1 : ordI e.a e.b ≠ 0 := fun h' => h (ordI_eq.1 h')
  have h2 : ordI e.b e.a ≠ 0 := fun h' => h (ordI_eq.1 h').symm
  unfold Ed.norm Ed.back
  by_cases h3 : 0 < ordI e.a e.b
  · have := ordI_anti h3
    rw [if_pos h3, if_neg (by simp only; omega)]
  · rw [if_neg h3]
    have h4 : 0 < ordI e.b e.a := by
      rcases Int.lt_trichotomy (ordI e.b e.a) 0 with g | g | g
      · exfalso
        have := ordI_eq (a := e.a) (b := e.b)
        unfold ordI orI at h1 h2 h3 g
        rcases cmpI_cases e.a.x e.b.x with ⟨k1, e1⟩ | ⟨k1, e1⟩ | ⟨k1, e1⟩ <;> rcases cmpI_cases e.a.y e.b.y with ⟨k2, e2⟩ | ⟨k2, e2⟩ | ⟨k2, e2⟩ <;> rcases cmpI_cases e.b.x e.a.x with ⟨k3, e3⟩ | ⟨k3, e3⟩ | ⟨k3, e3⟩ <;> rcases cmpI_cases e.b.y e.a.y with ⟨k4, e4⟩ | ⟨k4, e4⟩ | ⟨k4, e4⟩ <;> rw [e1, e2] at h1 h3 <;> rw [e3, e4] at g <;> (first | omega | (simp at h1 h3 g; done) | (simp at g; done) | (simp at h3; done) | (simp at h1; done))
      · exact absurd g h2
      · exact g
    rw [if_pos (by simpa using h4)]
theorem Ed.norm_eq {e f : Ed} (h : e.norm = f.norm) : e = f ∨ e = f.back := by
  rcases e.norm_or with h1 | h1 <;> rcases f.norm_or with h2 | h2 <;> rw [h1, h2] at h
  · exact .inl h
  · exact .inr h
  · right; rw [← Ed.back_back e, h]
  · left; rw [← Ed.back_back e, h, Ed.back_back]
theorem meetE_comm (e f : Ed) : meetE f e = meetE e f := meetR_comm _ _ _ _
theorem meetE_back1 (e f : Ed) : meetE e.back f = meetE e f := meetR_swap1 _ _ _ _
theorem meetE_back2 (e f : Ed) : meetE e f.back = meetE e f := meetR_swap2 _ _ _ _
theorem meetE_norm (e f : Ed) : meetE e.norm f.norm = meetE e f := by
  rcases e.norm_or with h1 | h1 <;> rcases f.norm_or with h2 | h2 <;> rw [h1, h2]
  · rw [meetE_back2]
  · rw [meetE_back1]
  · rw [meetE_back1, meetE_back2]
theorem shareB_iff (e f : Ed) : shareB e f = true ↔ e.a = f.a ∨ e.a = f.b ∨ e.b = f.a ∨ e.b = f.b := by
  unfold shareB; simp
theorem shareB_comm (e f : Ed) : shareB f e = shareB e f := by
  rw [Bool.eq_iff_iff, shareB_iff, shareB_iff]
  constructor <;> (rintro (h | h | h | h) <;> simp [h])
theorem shareB_norm (e f : Ed) : shareB e.norm f.norm = shareB e f := by
  rw [Bool.eq_iff_iff, shareB_iff, shareB_iff]
  rcases e.norm_or with h1 | h1 <;> rcases f.norm_or with h2 | h2 <;> rw [h1, h2] <;> unfold Ed.back <;> simp only <;> (constructor <;> (rintro (h | h | h | h) <;> simp [h]))
theorem meetE_cases (e f : Ed) : meetE e f = 0 ∨ meetE e f = 1 ∨ meetE e f = 2 ∨ meetE e f = 3 := by
  unfold meetE meetR
  split
  · simp
  · split
    · simp
    · split <;> simp
theorem meetE_self {e : Ed} (h : e.a ≠ e.b) : meetE e e = 3 := by
  have h1 := onB_self e.a e.b
  unfold meetE meetR
  rw [if_pos]
  have : endsL e.a e.b e.a e.b = [e.a, e.b, e.a, e.b] := by unfold endsL; simp [h1.1, h1.2]
  rw [this, difB_iff]
  exact ⟨e.a, e.b, by simp, by simp, h⟩
theorem okR_iff (e f : Ed) : okR e f = true ↔ meetE e f ≠ 2 ∧ (meetE e f = 1 → shareB e f = true) ∧ (meetE e f = 3 → e = f.back) := by
  unfold okR
  by_cases h1 : meetE e f = 1 <;> by_cases h2 : meetE e f = 2 <;> by_cases h3 : meetE e f = 3 <;> by_cases h4 : e = f.back <;> rcases h5 : shareB e f with _ | _ <;> simp [h1, h2, h3, h4]
theorem okR_comm (e f : Ed) : okR f e = okR e f := by
  rw [Bool.eq_iff_iff, okR_iff, okR_iff, meetE_comm, shareB_comm]
  have : f = e.back ↔ e = f.back := ⟨fun h => by rw [h]; rfl, fun h => by rw [h]; rfl⟩
  rw [this]
theorem apartB_iff (e f : Ed) : apartB e f = true ↔ meetE e f ≠ 2 ∧ (meetE e f = 1 → shareB e f = true) ∧ (meetE e f = 3 → e = f ∨ e = f.back) := by
  unfold apartB
  rcases meetE_cases e f with h | h | h | h <;> rw [h] <;> simp
/-- Stretches of which the one stands wholly to the left of the other have no point in common. -/
theorem meetE_left {e f : Ed} (he : good e.a = true ∧ good e.b = true) (hf : good f.a = true ∧ good f.b = true) (h1 : e.a.x ≤ e.b.x) (h2 : f.a.x ≤ f.b.x) (h : e.b.x < f.a.x) : meetE e f = 0 := by
  unfold meetE
  rw [← meet_eq he.1 he.2 hf.1 hf.2]
  unfold meetP
  rw [if_pos]
  unfold apB mx mn
  rw [decide_eq_true_eq]
  left
  split <;> split <;> omega
/-- The sweep over the stretches, each once and turned up, sees what all pairs show. -/
theorem sweep_iff {l L : List Ed} (hn : l.Nodup) (hd : ∀ e ∈ l, e.a ≠ e.b) (hg : ∀ e ∈ l, good e.a = true ∧ good e.b = true) (hm : ∀ e, e ∈ L ↔ ∃ f ∈ l, e = f.norm)
    (hs : L.Pairwise fun e f => e ≠ f ∧ ordI e.a f.a ≤ 0) : SweepE L ↔ PairsE l := by
  have hgL : ∀ e ∈ L, (good e.a = true ∧ good e.b = true) ∧ e.a.x ≤ e.b.x := fun e he => by
    obtain ⟨f, hf, rfl⟩ := (hm e).1 he
    have := hg f hf
    refine ⟨?_, ordI_le f.norm_le⟩
    rcases f.norm_or with h | h <;> rw [h]
    · exact this
    · exact ⟨this.2, this.1⟩
  have hs' : ∀ i j (hi : i < L.length) (hj : j < L.length), i < j → L[i] ≠ L[j] ∧ L[i].a.x ≤ L[j].a.x := fun i j hi hj hij => by
    have := List.pairwise_iff_getElem.1 hs i j hi hj hij
    exact ⟨this.1, ordI_le this.2⟩
  constructor
  · intro hS i j hi hj hij
    have hne : l[i] ≠ l[j] := List.pairwise_iff_getElem.1 hn i j hi hj hij
    have hei := List.getElem_mem hi
    have hej := List.getElem_mem hj
    by_cases hnm : l[i].norm = l[j].norm
    · rcases Ed.norm_eq hnm with h | h
      · exact absurd h hne
      · rw [okR_iff, h, meetE_back1, meetE_self (hd _ hej)]
        simp
    · -- the two in the sweep's list
      have key : ∀ e f, e ∈ l → f ∈ l → e.norm ≠ f.norm → (∃ i j, ∃ hi : i < L.length, ∃ hj : j < L.length, i < j ∧ L[i] = e.norm ∧ L[j] = f.norm) → okR e f = true := by
        rintro e f he hf hne ⟨i, j, hi, hj, hij, e1, e2⟩
        have hap : meetE e f ≠ 2 ∧ (meetE e f = 1 → shareB e f = true) ∧ (meetE e f = 3 → e.norm = f.norm ∨ e.norm = f.norm.back) := by
          by_cases hcut : ∀ m (hm : m < L.length), i < m → m ≤ j → L[m].a.x ≤ L[i].b.x
          · have := hS i j hi hj hij hcut
            rw [e1, e2, apartB_iff, meetE_norm, shareB_norm] at this
            exact this
          · obtain ⟨m, hm⟩ := Classical.not_forall.1 hcut
            obtain ⟨hml, hm⟩ := Classical.not_forall.1 hm
            obtain ⟨h1, hm⟩ := Classical.not_forall.1 hm
            obtain ⟨h2, hm⟩ := Classical.not_forall.1 hm
            have hx : L[m].a.x ≤ L[j].a.x := by
              rcases Nat.lt_or_ge m j with h | h
              · exact (hs' m j hml hj h).2
              · have : m = j := Nat.le_antisymm h2 h
                subst this; exact Int.le_refl _
            have hi' := hgL _ (List.getElem_mem hi)
            have hj' := hgL _ (List.getElem_mem hj)
            have h0 := meetE_left hi'.1 hj'.1 hi'.2 hj'.2 (Int.lt_of_lt_of_le (Int.not_le.1 hm) hx)
            rw [e1, e2, meetE_norm] at h0
            rw [h0]
            simp
        rw [okR_iff]
        refine ⟨hap.1, hap.2.1, fun h3 => ?_⟩
        rcases hap.2.2 h3 with h | h
        · exact absurd h hne
        · exfalso
          have a1 := e.norm_le
          have a2 := f.norm_le
          rw [h] at a1
          unfold Ed.back at a1
          simp only at a1
          have heq := ordI_both a2 a1
          have := hd f hf
          rcases f.norm_or with g | g <;> rw [g] at heq
          · exact this heq
          · exact this heq.symm
      obtain ⟨p, hp, hp'⟩ := List.getElem_of_mem ((hm l[i].norm).2 ⟨_, hei, rfl⟩)
      obtain ⟨q, hq, hq'⟩ := List.getElem_of_mem ((hm l[j].norm).2 ⟨_, hej, rfl⟩)
      rcases Nat.lt_trichotomy p q with h | h | h
      · exact key _ _ hei hej hnm ⟨p, q, hp, hq, h, hp', hq'⟩
      · subst h
        exact absurd (hp'.symm.trans hq') hnm
      · rw [← okR_comm]
        exact key _ _ hej hei (fun h => hnm h.symm) ⟨q, p, hq, hp, h, hq', hp'⟩
  · intro hP i j hi hj hij _
    obtain ⟨hne, -⟩ := hs' i j hi hj hij
    obtain ⟨e, he, h1⟩ := (hm _).1 (List.getElem_mem hi)
    obtain ⟨f, hf, h2⟩ := (hm _).1 (List.getElem_mem hj)
    rw [h1, h2] at hne ⊢
    have hef : e ≠ f := fun h => hne (by rw [h])
    have hok : okR e f = true := by
      obtain ⟨p, hp, rfl⟩ := List.getElem_of_mem he
      obtain ⟨q, hq, rfl⟩ := List.getElem_of_mem hf
      rcases Nat.lt_trichotomy p q with h | h | h
      · exact hP p q hp hq h
      · subst h; exact absurd rfl hef
      · rw [← okR_comm]; exact hP q p hq hp h
    rw [okR_iff] at hok
    rw [apartB_iff, meetE_norm, shareB_norm]
    refine ⟨hok.1, hok.2.1, fun h3 => ?_⟩
    exfalso
    have := hok.2.2 h3
    rw [this, Ed.norm_back (hd f hf)] at hne
    exact hne rfl
end Go.Proofs.YtglnklfhgdjccaaGreat

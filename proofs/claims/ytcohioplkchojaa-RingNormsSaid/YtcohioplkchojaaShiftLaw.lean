/- Plain law: a ring that is moved as a whole. -/
import Derived.Test.YtcohioplkchojaaCheck
import Derived.Test.YtcohioplkchojaaRefArea
namespace Go.Proofs.Ytcohioplkchojaa
theorem check_congr {xs ys : List Pt} (he : areaE ys = areaE xs) (hl : 3 ≤ ys.length ↔ 3 ≤ xs.length) (ha : areaZ ys = areaZ xs) (hp : PairsOK ys ↔ PairsOK xs) : checkI ys = checkI xs := by
  by_cases h0 : areaE xs = 0
  · by_cases h : 3 ≤ xs.length ∧ 0 < areaZ xs ∧ PairsOK xs
    · rw [checkI_ok h0 h.1 h.2.1 h.2.2, checkI_ok (he.trans h0) (hl.2 h.1) (by rw [ha]; exact h.2.1) (hp.2 h.2.2)]
    · rw [checkI_no h0 h, checkI_no (he.trans h0) (fun h' => h ⟨hl.1 h'.1, by rw [← ha]; exact h'.2.1, hp.1 h'.2.2⟩)]
  · rw [checkI_err h0, checkI_err (by rw [he]; exact h0), he]
def mv (d p : Pt) : Pt := ⟨p.x + d.x, p.y + d.y⟩
theorem cr_mv (d a b c : Pt) : cr (mv d a) (mv d b) (mv d c) = cr a b c := by
  unfold cr mv
  simp only
  rw [show b.x + d.x - (a.x + d.x) = b.x - a.x by omega, show c.y + d.y - (a.y + d.y) = c.y - a.y by omega, show b.y + d.y - (a.y + d.y) = b.y - a.y by omega, show c.x + d.x - (a.x + d.x) = c.x - a.x by omega]
theorem btw_mv (d a b n : Int) : btw (a + d) (b + d) (n + d) = btw a b n := by
  unfold btw
  rw [decide_eq_decide]
  omega
theorem onB_mv (d a b p : Pt) : onB (mv d a) (mv d b) (mv d p) = onB a b p := by
  unfold onB
  rw [cr_mv]
  unfold mv
  simp only [btw_mv]
theorem mv_inj {d p q : Pt} : mv d p = mv d q ↔ p = q := by
  obtain ⟨px, py⟩ := p
  obtain ⟨qx, qy⟩ := q
  unfold mv
  simp only [Pt.mk.injEq]
  omega
theorem endsL_mv (d a b c e : Pt) : endsL (mv d a) (mv d b) (mv d c) (mv d e) = (endsL a b c e).map (mv d) := by
  unfold endsL
  rw [onB_mv, onB_mv, onB_mv, onB_mv]
  cases onB c e a <;> cases onB c e b <;> cases onB a b c <;> cases onB a b e <;> rfl
theorem difB_mv (d : Pt) (l : List Pt) : difB (l.map (mv d)) = difB l := by
  cases l with
  | nil => rfl
  | cons e t =>
    simp only [List.map_cons, difB, List.any_map]
    congr 1
    funext p
    simp only [Function.comp, ne_eq, mv_inj]
theorem prB_mv (d a b c e : Pt) : prB (mv d a) (mv d b) (mv d c) (mv d e) = prB a b c e := by
  unfold prB
  rw [cr_mv, cr_mv, cr_mv, cr_mv]
theorem meetR_mv (d a b c e : Pt) : meetR (mv d a) (mv d b) (mv d c) (mv d e) = meetR a b c e := by
  unfold meetR
  rw [endsL_mv, difB_mv, prB_mv]
  simp only [ne_eq, List.map_eq_nil_iff]
theorem ptAt_mv (d : Pt) {xs : List Pt} {k : Nat} (h : k < xs.length) : ptAt (xs.map (mv d)) k = mv d (ptAt xs k) := by
  unfold ptAt
  simp [h]
theorem ptAt_mvn (d : Pt) {xs : List Pt} {k : Nat} (h : k < xs.length) : ptAt (xs.map (mv d)) ((k + 1) % xs.length) = mv d (ptAt xs ((k + 1) % xs.length)) := ptAt_mv d (Nat.mod_lt _ (by omega))
theorem pairs_mv (d : Pt) (xs : List Pt) : PairsOK (xs.map (mv d)) ↔ PairsOK xs := by
  have key : ∀ i j, i < j → j < xs.length → pairOK (xs.map (mv d)) i j = pairOK xs i j := fun i j hi hj => by
    unfold pairOK meetOf
    rw [List.length_map, ptAt_mvn d (by omega : i < xs.length), ptAt_mvn d hj, ptAt_mv d (by omega : i < xs.length), ptAt_mv d hj, meetR_mv]
    simp only [ne_eq, mv_inj]
  constructor
  · intro h i j hi hj
    rw [← key i j hi hj]
    exact h i j hi (by simpa using hj)
  · intro h i j hi hj
    rw [List.length_map] at hj
    rw [key i j hi hj]
    exact h i j hi hj
theorem areaK_mv (d a b : Pt) : cr ⟨0, 0⟩ (mv d a) (mv d b) = cr ⟨0, 0⟩ a b + (d.x * b.y - d.y * b.x) - (d.x * a.y - d.y * a.x) := by
  unfold cr mv
  simp only [Int.sub_zero]
  grind
theorem areaS_mv (d : Pt) (xs : List Pt) (k : Nat) (hk : k < xs.length) : areaS (xs.map (mv d)) k = areaS xs k + (d.x * (ptAt xs k).y - d.y * (ptAt xs k).x) - (d.x * (ptAt xs 0).y - d.y * (ptAt xs 0).x) := by
  induction k with
  | zero => rw [areaS_zero, areaS_zero]; omega
  | succ k ih =>
    rw [areaS_succ, areaS_succ, ih (by omega)]
    unfold areaK
    rw [List.length_map, ptAt_mvn d (by omega : k < xs.length), ptAt_mv d (by omega : k < xs.length), areaK_mv, Nat.mod_eq_of_lt hk]
    omega
theorem areaZ_mv (d : Pt) (xs : List Pt) : areaZ (xs.map (mv d)) = areaZ xs := by
  rw [← areaS_all, ← areaS_all, List.length_map]
  rcases Nat.eq_zero_or_pos xs.length with h | h
  · rw [h]; rfl
  · obtain ⟨m, hm⟩ : ∃ m, xs.length = m + 1 := ⟨xs.length - 1, by omega⟩
    rw [hm, areaS_succ, areaS_succ, areaS_mv d xs m (by omega)]
    unfold areaK
    rw [List.length_map, ptAt_mvn d (by omega : m < xs.length), ptAt_mv d (by omega : m < xs.length), areaK_mv, hm, Nat.mod_self]
    omega
theorem crB_mv (d a b p : Pt) : crB (mv d a) (mv d b) (mv d p) = crB a b p := by
  unfold crB
  rw [cr_mv, cr_mv]
  unfold mv
  simp only [Int.add_lt_add_iff_right, Int.add_le_add_iff_right]
theorem side_mv (d : Pt) (xs : List Pt) (p : Pt) : sideI (xs.map (mv d)) (mv d p) = sideI xs p := by
  have e1 : ∀ k, k < xs.length → onE (xs.map (mv d)) (mv d p) k = onE xs p k := fun k hk => by
    unfold onE
    rw [List.length_map, ptAt_mvn d hk, ptAt_mv d hk, onB_mv]
  have e2 : ∀ k, k ≤ xs.length → oddN (xs.map (mv d)) (mv d p) k = oddN xs p k := fun k hk => by
    induction k with
    | zero => rfl
    | succ k ih =>
      rw [oddN, oddN, ih (by omega)]
      unfold crE
      rw [List.length_map, ptAt_mvn d (by omega : k < xs.length), ptAt_mv d (by omega : k < xs.length), crB_mv]
  have e3 : noneN (xs.map (mv d)) (mv d p) xs.length ↔ noneN xs p xs.length := by
    unfold noneN
    exact ⟨fun h i hi => by rw [← e1 i hi]; exact h i hi, fun h i hi => by rw [e1 i hi]; exact h i hi⟩
  unfold sideI
  rw [List.length_map, e2 _ (Nat.le_refl _)]
  by_cases h : noneN xs p xs.length
  · rw [if_pos h, if_pos (e3.2 h)]
  · rw [if_neg h, if_neg (fun h' => h (e3.1 h'))]
theorem area_mvE {d : Pt} {xs : List Pt} (hg : goodL xs = true) (hm : goodL (xs.map (mv d)) = true) : areaE (xs.map (mv d)) = areaE xs ∧ areaV (xs.map (mv d)) = areaV xs := by
  have h1 : areaE (xs.map (mv d)) = areaE xs := by
    unfold areaE
    rw [List.length_map, hg, hm]
  refine ⟨h1, ?_⟩
  unfold areaV
  rw [h1, areaZ_mv]
theorem check_mv {d : Pt} {xs : List Pt} (hg : goodL xs = true) (hm : goodL (xs.map (mv d)) = true) : checkI (xs.map (mv d)) = checkI xs := by
  exact check_congr (area_mvE hg hm).1 (by rw [List.length_map]) (areaZ_mv d xs) (pairs_mv d xs)
theorem sideW_mv {d : Pt} {xs : List Pt} {p : Pt} (hg : goodL xs = true) (hm : goodL (xs.map (mv d)) = true) (hp : good p = true) (hq : good (mv d p) = true) : sideV (xs.map (mv d)) (mv d p) = sideV xs p ∧ sideE (xs.map (mv d)) (mv d p) = sideE xs p := by
  unfold sideV sideE
  rw [check_mv hg hm, hp, hq, side_mv]
  exact ⟨rfl, rfl⟩
end Go.Proofs.Ytcohioplkchojaa

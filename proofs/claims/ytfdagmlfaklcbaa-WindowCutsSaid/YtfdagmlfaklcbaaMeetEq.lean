/- Plain law: what two stretches have in common, as the program reckons it and as the document says it. -/
import Derived.Test.YtfdagmlfaklcbaaMeetLaw
namespace Go.Proofs.Ytfdagmlfaklcbaa
/-- Is one of them another one than the first? -/
def difB : List Pt → Bool
  | [] => false
  | e :: t => t.any fun p => decide (p ≠ e)
/-- The ends that both have. -/
def endsL (a b c d : Pt) : List Pt := (if onB c d a = true then [a] else []) ++ ((if onB c d b = true then [b] else []) ++ ((if onB a b c = true then [c] else []) ++ (if onB a b d = true then [d] else [])))
def meetR (a b c d : Pt) : Int := if difB (endsL a b c d) = true then 3 else if endsL a b c d ≠ [] then 1 else if prB a b c d = true then 2 else 0
theorem onB_self (a b : Pt) : onB a b a = true ∧ onB a b b = true := by
  rw [onB_iff, onB_iff]
  unfold cr
  refine ⟨⟨by grind, by omega, by omega⟩, by grind, by omega, by omega⟩
theorem endsL_mem {a b c d e : Pt} (h : e ∈ endsL a b c d) : onB a b e = true ∧ onB c d e = true := by
  unfold endsL at h
  simp only [List.mem_append] at h
  rcases h with h | h | h | h <;> split at h <;> simp at h <;> subst h
  · exact ⟨(onB_self _ _).1, by assumption⟩
  · exact ⟨(onB_self _ _).2, by assumption⟩
  · exact ⟨by assumption, (onB_self _ _).1⟩
  · exact ⟨by assumption, (onB_self _ _).2⟩
theorem difB_two {l : List Pt} (h : difB l = true) : ∃ p q, p ∈ l ∧ q ∈ l ∧ p ≠ q := by
  rcases l with _ | ⟨e, t⟩
  · simp [difB] at h
  · simp only [difB, List.any_eq_true, decide_eq_true_eq] at h
    obtain ⟨p, hp, hne⟩ := h
    exact ⟨p, e, by simp [hp], by simp, hne⟩
/-- Two ways along one third are along one another. -/
theorem par {w1 w2 p1 p2 q1 q2 : Int} (hw : w1 ≠ 0 ∨ w2 ≠ 0) (hp : w1 * p2 - w2 * p1 = 0) (hq : w1 * q2 - w2 * q1 = 0) : p1 * q2 - p2 * q1 = 0 := by
  have e1 : w1 * (p1 * q2 - p2 * q1) = p1 * (w1 * q2 - w2 * q1) - q1 * (w1 * p2 - w2 * p1) := by grind
  have e2 : w2 * (p1 * q2 - p2 * q1) = p2 * (w1 * q2 - w2 * q1) - q2 * (w1 * p2 - w2 * p1) := by grind
  rw [hp, hq] at e1 e2
  simp only [Int.mul_zero, Int.sub_self] at e1 e2
  rcases hw with hw | hw
  · exact line_zero hw e1
  · exact line_zero hw e2
theorem pt_ne {p q : Pt} (h : p ≠ q) : p.x ≠ q.x ∨ p.y ≠ q.y := by
  obtain ⟨a, b⟩ := p
  obtain ⟨c, d⟩ := q
  by_cases h1 : a = c
  · right
    rintro rfl
    exact h (by rw [h1])
  · exact .inl h1
theorem two_common {a b c d P Q : Pt} (hne : P ≠ Q) (h1 : onB a b P = true) (h2 : onB a b Q = true) (h3 : onB c d P = true) (h4 : onB c d Q = true) :
    cr a b c = 0 ∧ cr a b d = 0 ∧ cr c d a = 0 ∧ cr c d b = 0 := by
  rw [onB_iff] at h1 h2 h3 h4
  obtain ⟨z1, x1, y1⟩ := h1
  obtain ⟨z2, x2, y2⟩ := h2
  obtain ⟨z3, x3, y3⟩ := h3
  obtain ⟨z4, x4, y4⟩ := h4
  have hne' := pt_ne hne
  unfold cr at *
  have hw : Q.x - P.x ≠ 0 ∨ Q.y - P.y ≠ 0 := by omega
  have hv : b.x - a.x ≠ 0 ∨ b.y - a.y ≠ 0 := by omega
  have hv' : d.x - c.x ≠ 0 ∨ d.y - c.y ≠ 0 := by omega
  have e1 : (Q.x - P.x) * (b.y - a.y) - (Q.y - P.y) * (b.x - a.x) = 0 := by grind
  have e2 : (Q.x - P.x) * (d.y - c.y) - (Q.y - P.y) * (d.x - c.x) = 0 := by grind
  have e3 := par hw e1 e2
  have f1 : (b.x - a.x) * (P.y - c.y) - (b.y - a.y) * (P.x - c.x) = 0 := by
    have := par hv' (p1 := b.x - a.x) (p2 := b.y - a.y) (q1 := P.x - c.x) (q2 := P.y - c.y) (by grind) (by grind)
    exact this
  have f2 : (d.x - c.x) * (P.y - a.y) - (d.y - c.y) * (P.x - a.x) = 0 := by
    have := par hv (p1 := d.x - c.x) (p2 := d.y - c.y) (q1 := P.x - a.x) (q2 := P.y - a.y) (by grind) (by grind)
    exact this
  have g1 : (b.x - a.x) * (P.y - d.y) - (b.y - a.y) * (P.x - d.x) = 0 := by
    have := par hv' (p1 := b.x - a.x) (p2 := b.y - a.y) (q1 := P.x - d.x) (q2 := P.y - d.y) (by grind) (by grind)
    exact this
  have g2 : (d.x - c.x) * (P.y - b.y) - (d.y - c.y) * (P.x - b.x) = 0 := by
    have := par hv (p1 := d.x - c.x) (p2 := d.y - c.y) (q1 := P.x - b.x) (q2 := P.y - b.y) (by grind) (by grind)
    exact this
  refine ⟨by grind, by grind, by grind, by grind⟩
/-- Two that lie beyond one another along one axis do not cross. -/
theorem apart {A B C D p q r s m : Int} (h : B * p - A * q = C * s - D * r) (hk : B - A = C - D) (h1 : p ≤ m) (h2 : q ≤ m) (h3 : m < r) (h4 : m < s) (hab : (A < 0 ∧ 0 < B) ∨ (B < 0 ∧ 0 < A)) (hcd : (C < 0 ∧ 0 < D) ∨ (D < 0 ∧ 0 < C)) : False := by
  rcases hab with ⟨hA, hB⟩ | ⟨hB, hA⟩
  · have hC : D < 0 ∧ 0 < C := by omega
    have a1 := Int.mul_nonneg (by omega : 0 ≤ B) (by omega : 0 ≤ m - p)
    have a2 := Int.mul_nonneg (by omega : 0 ≤ -A) (by omega : 0 ≤ m - q)
    have a3 := Int.mul_pos hC.2 (by omega : 0 < s - m)
    have a4 := Int.mul_pos (by omega : 0 < -D) (by omega : 0 < r - m)
    have : B * (m - p) + (-A) * (m - q) + C * (s - m) + (-D) * (r - m) = 0 := by grind
    omega
  · have hC : C < 0 ∧ 0 < D := by omega
    have a1 := Int.mul_nonneg (by omega : 0 ≤ -B) (by omega : 0 ≤ m - p)
    have a2 := Int.mul_nonneg (by omega : 0 ≤ A) (by omega : 0 ≤ m - q)
    have a3 := Int.mul_pos (by omega : 0 < -C) (by omega : 0 < s - m)
    have a4 := Int.mul_pos hC.2 (by omega : 0 < r - m)
    have : (-B) * (m - p) + A * (m - q) + (-C) * (s - m) + D * (r - m) = 0 := by grind
    omega
theorem cr_ids (a b c d : Pt) : cr c d b * a.x - cr c d a * b.x = cr a b c * d.x - cr a b d * c.x ∧ cr c d b * a.y - cr c d a * b.y = cr a b c * d.y - cr a b d * c.y ∧ cr c d b - cr c d a = cr a b c - cr a b d := by
  unfold cr
  refine ⟨by grind, by grind, by grind⟩
theorem sgn_mul_neg {x y : Int} : sgn x * sgn y < 0 ↔ (x < 0 ∧ 0 < y) ∨ (y < 0 ∧ 0 < x) := by
  unfold sgn
  split
  · split
    · omega
    · split <;> omega
  · split
    · split
      · omega
      · split <;> omega
    · omega
theorem prB_iff (a b c d : Pt) : prB a b c d = true ↔ ((cr a b c < 0 ∧ 0 < cr a b d) ∨ (cr a b d < 0 ∧ 0 < cr a b c)) ∧ ((cr c d a < 0 ∧ 0 < cr c d b) ∨ (cr c d b < 0 ∧ 0 < cr c d a)) := by
  unfold prB
  rw [decide_eq_true_eq, sgn_mul_neg, sgn_mul_neg]
theorem mx_mn (x y : Int) : x ≤ mx x y ∧ y ≤ mx x y ∧ mn x y ≤ x ∧ mn x y ≤ y ∧ (mx x y = x ∨ mx x y = y) ∧ (mn x y = x ∨ mn x y = y) := by
  unfold mx mn
  split <;> split <;> omega
theorem ap_pr {a b c d : Pt} (h : apB a b c d = true) : prB a b c d = false := by
  rcases hp : prB a b c d with _ | _
  · rfl
  · exfalso
    rw [prB_iff] at hp
    obtain ⟨hcd, hab⟩ := hp
    obtain ⟨i1, i2, i3⟩ := cr_ids a b c d
    unfold apB at h
    rw [decide_eq_true_eq] at h
    have m1 := mx_mn a.x b.x
    have m2 := mx_mn c.x d.x
    have m3 := mx_mn a.y b.y
    have m4 := mx_mn c.y d.y
    rcases h with h | h | h | h
    · exact apart i1 i3 m1.1 m1.2.1 (Int.lt_of_lt_of_le h m2.2.2.1) (Int.lt_of_lt_of_le h m2.2.2.2.1) hab hcd
    · exact apart i1.symm i3.symm m2.2.1 m2.1 (Int.lt_of_lt_of_le h m1.2.2.2.1) (Int.lt_of_lt_of_le h m1.2.2.1) hcd.symm hab.symm
    · exact apart i2 i3 m3.1 m3.2.1 (Int.lt_of_lt_of_le h m4.2.2.1) (Int.lt_of_lt_of_le h m4.2.2.2.1) hab hcd
    · exact apart i2.symm i3.symm m4.2.1 m4.1 (Int.lt_of_lt_of_le h m3.2.2.2.1) (Int.lt_of_lt_of_le h m3.2.2.1) hcd.symm hab.symm
theorem btw_box {a b p : Int} (h : (a ≤ p ∧ p ≤ b) ∨ (b ≤ p ∧ p ≤ a)) : p ≤ mx a b ∧ mn a b ≤ p := by
  have := mx_mn a b
  omega
theorem ap_ends {a b c d : Pt} (h : apB a b c d = true) : endsL a b c d = [] := by
  rw [List.eq_nil_iff_forall_not_mem]
  intro e he
  obtain ⟨h1, h2⟩ := endsL_mem he
  rw [onB_iff] at h1 h2
  unfold apB at h
  rw [decide_eq_true_eq] at h
  have m1 := btw_box h1.2.1
  have m2 := btw_box h2.2.1
  have m3 := btw_box h1.2.2
  have m4 := btw_box h2.2.2
  clear h1 h2
  omega
theorem key_inj {p q : Pt} (hp : good p = true) (hq : good q = true) : p = q ↔ key p = key q := by
  rcases key_ord hp hq with ⟨h, _⟩ | ⟨h, _⟩ | ⟨h, h', _⟩
  · exact ⟨fun e => by rw [e], fun e => by omega⟩
  · exact ⟨fun e => by rw [e], fun e => by omega⟩
  · exact ⟨fun _ => h', fun _ => h⟩
/-- Two stretches of one line, by keys. -/
theorem lineI_key {a b c d : Pt} (ha : good a = true) (hb : good b = true) (hc : good c = true) (hd : good d = true) :
    ∃ lo1 hi1 lo2 hi2 : Int, ((key a ≤ key b ∧ lo1 = key a ∧ hi1 = key b) ∨ (key b < key a ∧ lo1 = key b ∧ hi1 = key a)) ∧ ((key c ≤ key d ∧ lo2 = key c ∧ hi2 = key d) ∨ (key d < key c ∧ lo2 = key d ∧ hi2 = key c)) ∧
      (((hi1 < lo1 ∨ hi1 < lo2 ∨ hi2 < lo1 ∨ hi2 < lo2) ∧ lineI a b c d = 0) ∨ ((lo1 ≤ hi1 ∧ lo1 ≤ hi2 ∧ lo2 ≤ hi1 ∧ lo2 ≤ hi2) ∧ (lo1 = hi1 ∨ lo1 = hi2 ∨ lo2 = hi1 ∨ lo2 = hi2) ∧ lineI a b c d = 1) ∨ ((lo1 < hi1 ∧ lo1 < hi2 ∧ lo2 < hi1 ∧ lo2 < hi2) ∧ lineI a b c d = 3)) := by
  obtain ⟨l1, hl1⟩ : ∃ q, q = endA a b := ⟨_, rfl⟩
  obtain ⟨h1, hh1⟩ : ∃ q, q = endB a b := ⟨_, rfl⟩
  obtain ⟨l2, hl2⟩ : ∃ q, q = endA c d := ⟨_, rfl⟩
  obtain ⟨h2, hh2⟩ : ∃ q, q = endB c d := ⟨_, rfl⟩
  have e1 := ends_key ha hb
  have e2 := ends_key hc hd
  rw [← hl1, ← hh1] at e1
  rw [← hl2, ← hh2] at e2
  have gl1 : good l1 = true := by rcases e1 with ⟨_, e, _⟩ | ⟨_, e, _⟩ <;> rw [e] <;> assumption
  have gh1 : good h1 = true := by rcases e1 with ⟨_, _, e⟩ | ⟨_, _, e⟩ <;> rw [e] <;> assumption
  have gl2 : good l2 = true := by rcases e2 with ⟨_, e, _⟩ | ⟨_, e, _⟩ <;> rw [e] <;> assumption
  have gh2 : good h2 = true := by rcases e2 with ⟨_, _, e⟩ | ⟨_, _, e⟩ <;> rw [e] <;> assumption
  refine ⟨key l1, key h1, key l2, key h2, ?_, ?_, ?_⟩
  · rcases e1 with ⟨h, e, e'⟩ | ⟨h, e, e'⟩ <;> rw [e, e']
    · exact .inl ⟨h, rfl, rfl⟩
    · exact .inr ⟨h, rfl, rfl⟩
  · rcases e2 with ⟨h, e, e'⟩ | ⟨h, e, e'⟩ <;> rw [e, e']
    · exact .inl ⟨h, rfl, rfl⟩
    · exact .inr ⟨h, rfl, rfl⟩
  · have hF : (0 < ordI l1 l2 ∧ lnF a b c d = l1) ∨ (ordI l1 l2 ≤ 0 ∧ lnF a b c d = l2) := by
      unfold lnF
      rw [← hl1, ← hl2]
      split
      · exact .inl ⟨by assumption, rfl⟩
      · exact .inr ⟨by omega, rfl⟩
    have hT : (ordI h2 h1 < 0 ∧ lnT a b c d = h2) ∨ (0 ≤ ordI h2 h1 ∧ lnT a b c d = h1) := by
      unfold lnT
      rw [← hh1, ← hh2]
      split
      · exact .inl ⟨by assumption, rfl⟩
      · exact .inr ⟨by omega, rfl⟩
    have kF := key_ord gl1 gl2
    have kT := key_ord gh2 gh1
    have hl := lineI_cases a b c d
    rcases hF with ⟨q1, f⟩ | ⟨q1, f⟩ <;> rcases hT with ⟨q2, t⟩ | ⟨q2, t⟩ <;> rw [f, t] at hl
    · have := key_ord gl1 gh2; omega
    · have := key_ord gl1 gh1; omega
    · have := key_ord gl2 gh2; omega
    · have := key_ord gl2 gh1; omega
theorem line_meet {a b c d : Pt} (ha : good a = true) (hb : good b = true) (hc : good c = true) (hd : good d = true) (h : cr a b c = 0 ∧ cr a b d = 0 ∧ cr c d a = 0 ∧ cr c d b = 0) : lineI a b c d = meetR a b c d := by
  obtain ⟨z1, z2, z3, z4⟩ := h
  have hpr : prB a b c d = false := by
    rcases hp : prB a b c d with _ | _
    · rfl
    · rw [prB_iff] at hp; omega
  have o1 := onP_key hc hd ha
  have o2 := onP_key hc hd hb
  have o3 := onP_key ha hb hc
  have o4 := onP_key ha hb hd
  rw [onP_eq hc hd ha, z3] at o1
  rw [onP_eq hc hd hb, z4] at o2
  rw [onP_eq ha hb hc, z1] at o3
  rw [onP_eq ha hb hd, z2] at o4
  simp only [true_and] at o1 o2 o3 o4
  obtain ⟨lo1, hi1, lo2, hi2, f1, f2, f3⟩ := lineI_key ha hb hc hd
  have kab := key_inj ha hb
  have kac := key_inj ha hc
  have kad := key_inj ha hd
  have kbc := key_inj hb hc
  have kbd := key_inj hb hd
  have kcd := key_inj hc hd
  unfold meetR endsL
  rw [hpr]
  rcases q1 : onB c d a with _ | _ <;> rcases q2 : onB c d b with _ | _ <;> rcases q3 : onB a b c with _ | _ <;> rcases q4 : onB a b d with _ | _
  all_goals
    rw [q1] at o1
    rw [q2] at o2
    rw [q3] at o3
    rw [q4] at o4
    simp only [Bool.false_eq_true, false_iff, true_iff] at o1 o2 o3 o4
    simp only [Bool.false_eq_true, if_false, if_true, List.nil_append, List.cons_append, difB, List.any_cons, List.any_nil, Bool.or_false, ne_eq, Bool.or_eq_true, decide_eq_true_eq, not_true, not_false_iff, reduceCtorEq]
    first
    | omega
    | (rw [eq_comm (a := b), kab, eq_comm (a := c), kac, eq_comm (a := d), kad]; split <;> omega)
    | (simp only [eq_comm (a := b) (b := a), eq_comm (a := c) (b := a), eq_comm (a := d) (b := a), eq_comm (a := c) (b := b), eq_comm (a := d) (b := b), eq_comm (a := d) (b := c), kab, kac, kad, kbc, kbd, kcd]; split <;> omega)
end Go.Proofs.Ytfdagmlfaklcbaa

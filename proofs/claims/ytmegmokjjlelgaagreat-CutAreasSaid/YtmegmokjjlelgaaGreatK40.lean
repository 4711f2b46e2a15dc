/- A path that is walked the other way: corners put in in either order, the same parts: plain law. -/
import Derived.Test.YtmegmokjjlelgaaGreatK37
import Derived.Test.YtmegmokjjlelgaaGreatK38
namespace Go.Proofs.YtmegmokjjlelgaaGreat
theorem inS_key {a b q : Pt} (ha : good a = true) (hb : good b = true) (hq : good q = true) : inS a b q ↔ cr a b q = 0 ∧ ((key a < key q ∧ key q < key b) ∨ (key b < key q ∧ key q < key a)) := by
  unfold inS
  rw [on_key ha hb hq]
  have h1 := key_inj hq ha
  have h2 := key_inj hq hb
  constructor
  · rintro ⟨⟨hc, hk⟩, n1, n2⟩
    have e1 : key q ≠ key a := fun e => n1 (h1.2 e)
    have e2 : key q ≠ key b := fun e => n2 (h2.2 e)
    exact ⟨hc, by omega⟩
  · rintro ⟨hc, hk⟩
    exact ⟨⟨hc, by omega⟩, fun e => by have := h1.1 e; omega, fun e => by have := h2.1 e; omega⟩
theorem cr_sub {x y a b : Pt} (hne : x ≠ y) (h1 : cr x y a = 0) (h2 : cr x y b = 0) : cr x a b = 0 ∧ cr a y b = 0 := by
  have hn := pt_sub_ne (fun e => hne e.symm : y ≠ x)
  have := par (w1 := y.x - x.x) (w2 := y.y - x.y) (p1 := a.x - x.x) (p2 := a.y - x.y) (q1 := b.x - x.x) (q2 := b.y - x.y) hn h1 h2
  unfold cr at h1 h2 ⊢
  exact ⟨this, by grind⟩
theorem cr_sup {x y a b : Pt} (hne : x ≠ a) (h1 : cr x y a = 0) (h2 : cr x a b = 0) : cr x y b = 0 := by
  have hn := pt_sub_ne (fun e => hne e.symm : a ≠ x)
  have := par (w1 := a.x - x.x) (w2 := a.y - x.y) (p1 := y.x - x.x) (p2 := y.y - x.y) (q1 := b.x - x.x) (q2 := b.y - x.y) hn (by unfold cr at h1; grind) h2
  unfold cr
  exact this
theorem cr_sup2 {x y a b : Pt} (hne : a ≠ y) (h1 : cr x y a = 0) (h2 : cr a y b = 0) : cr x y b = 0 := by
  have e1 : cr y x a = 0 := by unfold cr at h1 ⊢; grind
  have e2 : cr y a b = 0 := by unfold cr at h2 ⊢; grind
  have := cr_sup (x := y) (y := x) (a := a) (b := b) (fun e => hne e.symm) e1 e2
  unfold cr at this ⊢
  grind
/-- What a point within a stretch makes of another. -/
theorem inS_parts {x y a b : Pt} (hx : good x = true) (hy : good y = true) (ha : good a = true) (hb : good b = true) (hab : a ≠ b) (h : inS x y a) : (inS x y b ↔ inS x a b ∨ inS a y b) ∧ ¬ (inS x a b ∧ inS a y b) := by
  have hxy := inS_ne h
  have n1 : x ≠ a := fun e => h.2.1 e.symm
  have n2 : a ≠ y := h.2.2
  have kab : key b ≠ key a := fun e => hab ((key_inj hb ha).2 e).symm
  rw [inS_key hx hy ha] at h
  rw [inS_key hx hy hb, inS_key hx ha hb, inS_key ha hy hb]
  obtain ⟨hc, hk⟩ := h
  refine ⟨⟨fun ⟨h1, h2⟩ => ?_, fun h1 => ?_⟩, fun ⟨⟨_, h1⟩, _, h2⟩ => by omega⟩
  · obtain ⟨c1, c2⟩ := cr_sub hxy hc h1
    rcases Int.lt_or_gt_of_ne kab with h3 | h3 <;> rcases hk with hk | hk
    · exact .inl ⟨c1, by omega⟩
    · exact .inr ⟨c2, by omega⟩
    · exact .inr ⟨c2, by omega⟩
    · exact .inl ⟨c1, by omega⟩
  · rcases h1 with ⟨c1, k1⟩ | ⟨c1, k1⟩
    · exact ⟨cr_sup n1 hc c1, by omega⟩
    · exact ⟨cr_sup2 n2 hc c1, by omega⟩
theorem inS_both {x y a b : Pt} (hx : good x = true) (hy : good y = true) (ha : good a = true) (hb : good b = true) (hab : a ≠ b) (h : inS x y a) (h' : inS x y b) : (inS x a b ↔ inS b y a) ∧ (inS a y b ↔ inS x b a) := by
  have hxy := inS_ne h
  have kab : key b ≠ key a := fun e => hab ((key_inj hb ha).2 e).symm
  rw [inS_key hx hy ha] at h
  rw [inS_key hx hy hb] at h'
  obtain ⟨c1, c2⟩ := cr_sub hxy h.1 h'.1
  obtain ⟨c3, c4⟩ := cr_sub hxy h'.1 h.1
  rw [inS_key hx ha hb, inS_key hb hy ha, inS_key ha hy hb, inS_key hx hb ha]
  have := h.2
  have := h'.2
  exact ⟨⟨fun ⟨_, k⟩ => ⟨c4, by omega⟩, fun ⟨_, k⟩ => ⟨c1, by omega⟩⟩, ⟨fun ⟨_, k⟩ => ⟨c3, by omega⟩, fun ⟨_, k⟩ => ⟨c2, by omega⟩⟩⟩
def inSB (x y q : Pt) : Bool := onB x y q && (!decide (q = x) && !decide (q = y))
theorem inSB_iff {x y q : Pt} : inSB x y q = true ↔ inS x y q := by
  unfold inSB inS
  simp
def nxt (l : List Pt) (z : Pt) : Pt := l.head?.getD z
/-- A corner more, along an open chain. -/
def insC (q : Pt) : List Pt → Pt → List Pt
  | [], _ => []
  | x :: r, z => x :: ((if inSB x (nxt r z) q = true then [q] else []) ++ insC q r z)
theorem insC_cons (q x : Pt) (r : List Pt) (z : Pt) : insC q (x :: r) z = x :: ((if inSB x (nxt r z) q = true then [q] else []) ++ insC q r z) := rfl
theorem nxt_insC (q : Pt) (r : List Pt) (z : Pt) : nxt (insC q r z) z = nxt r z := by cases r <;> rfl
theorem insC_app (q : Pt) (u v : List Pt) (z : Pt) : insC q (u ++ v) z = insC q u (nxt v z) ++ insC q v z := by
  induction u with
  | nil => rfl
  | cons x u ih =>
    rw [List.cons_append, insC_cons, insC_cons, ih]
    have e : nxt (u ++ v) z = nxt u (nxt v z) := by cases u <;> rfl
    rw [e]
    simp
theorem insG_C (q : Pt) (xs : List Pt) : insG q xs = insC q xs (ptAt xs 0) := by
  have h : ∀ m k, k + m = xs.length → insL xs q (List.range' k m) = insC q (xs.drop k) (ptAt xs 0) := fun m => by
    induction m with
    | zero => intro k hk; rw [List.drop_of_length_le (by omega)]; rfl
    | succ m ih =>
      intro k hk
      have hk1 : k < xs.length := by omega
      rw [List.range'_succ, List.drop_eq_getElem_cons hk1, insC_cons, ← ih (k + 1) (by omega)]
      have e : nxt (xs.drop (k + 1)) (ptAt xs 0) = ptAt xs ((k + 1) % xs.length) := by
        unfold nxt
        rw [List.head?_drop]
        rcases Nat.lt_or_ge (k + 1) xs.length with h1 | h1
        · rw [Nat.mod_eq_of_lt h1, List.getElem?_eq_getElem h1, ptAt_lt h1]; rfl
        · obtain h2 : k + 1 = xs.length := by omega
          rw [List.getElem?_eq_none (by omega), h2, Nat.mod_self]; rfl
      rw [e]
      show insK xs q k ++ insL xs q (List.range' (k + 1) m) = _
      unfold insK
      rw [ptAt_lt hk1]
      rfl
  have := h xs.length 0 (by omega)
  rw [List.drop_zero, ← List.range_eq_range'] at this
  exact this
theorem insG_nxt (q : Pt) (xs : List Pt) (z : Pt) : insG q xs = insC q xs (nxt xs z) := by
  rw [insG_C]
  cases xs <;> rfl
/-- Where a ring begins does not matter. -/
theorem insG_rot (q : Pt) (j : Nat) (xs : List Pt) : ∃ i, i ≤ (insG q xs).length ∧ insG q (rot j xs) = rot i (insG q xs) := by
  have hx := List.take_append_drop j xs
  unfold rot
  generalize xs.take j = u at hx
  generalize xs.drop j = v at hx
  subst hx
  cases u with
  | nil => exact ⟨0, Nat.zero_le _, by simp⟩
  | cons x u =>
    cases v with
    | nil => exact ⟨0, Nat.zero_le _, by simp⟩
    | cons y v =>
      have e1 : insG q ((x :: u) ++ (y :: v)) = insC q (x :: u) y ++ insC q (y :: v) x := by
        rw [insG_nxt q _ x, insC_app]
        rfl
      have e2 : insG q ((y :: v) ++ (x :: u)) = insC q (y :: v) x ++ insC q (x :: u) y := by
        rw [insG_nxt q _ y, insC_app]
        rfl
      refine ⟨(insC q (x :: u) y).length, ?_, ?_⟩
      · rw [e1, List.length_append]; omega
      · rw [e1, e2, List.drop_left, List.take_left]
theorem inSB_no {x y q : Pt} : inSB x y q = false ↔ ¬ inS x y q := by rw [← inSB_iff]; simp
/-- Put in in either order. -/
theorem insC_comm {a b : Pt} (ha : good a = true) (hb : good b = true) (hab : a ≠ b) (z : Pt) (hz : good z = true) : ∀ xs : List Pt, (∀ p ∈ xs, good p = true) → insC b (insC a xs z) z = insC a (insC b xs z) z := fun xs => by
  induction xs with
  | nil => intro _; rfl
  | cons x r ih =>
    intro hg
    have hx := hg x (by simp)
    have ih' := ih fun p hp => hg p (by simp [hp])
    have hy : good (nxt r z) = true := by
      cases r with
      | nil => exact hz
      | cons y r => exact hg y (by simp)
    rw [insC_cons a x r z, insC_cons b x r z]
    obtain ⟨y, hy0⟩ : ∃ y, y = nxt r z := ⟨_, rfl⟩
    have hna : nxt (insC a r z) z = y := by rw [nxt_insC, hy0]
    have hnb : nxt (insC b r z) z = y := by rw [nxt_insC, hy0]
    rw [← hy0] at hy ⊢
    by_cases h1 : inS x y a
    · obtain ⟨p1, p2⟩ := inS_parts hx hy ha hb hab h1
      rw [if_pos (inSB_iff.2 h1)]
      simp only [List.singleton_append]
      rw [insC_cons b x, insC_cons b a, hna]
      show x :: ((if inSB x a b = true then [b] else []) ++ a :: ((if inSB a y b = true then [b] else []) ++ insC b (insC a r z) z)) = _
      by_cases h2 : inS x y b
      · obtain ⟨k1, k2⟩ := inS_both hx hy ha hb hab h1 h2
        rw [if_pos (inSB_iff.2 h2)]
        simp only [List.singleton_append]
        rw [insC_cons a x, insC_cons a b, hnb]
        show _ = x :: ((if inSB x b a = true then [a] else []) ++ b :: ((if inSB b y a = true then [a] else []) ++ insC a (insC b r z) z))
        rw [ih']
        rcases p1.1 h2 with h3 | h3
        · have h4 : ¬ inS a y b := fun h => p2 ⟨h3, h⟩
          rw [if_pos (inSB_iff.2 h3), if_neg (by rw [inSB_no.2 h4]; simp), if_neg (by rw [inSB_no.2 (fun h => h4 (k2.2 h))]; simp), if_pos (inSB_iff.2 (k1.1 h3))]
          rfl
        · have h4 : ¬ inS x a b := fun h => p2 ⟨h, h3⟩
          rw [if_neg (by rw [inSB_no.2 h4]; simp), if_pos (inSB_iff.2 h3), if_pos (inSB_iff.2 (k2.1 h3)), if_neg (by rw [inSB_no.2 (fun h => h4 (k1.2 h))]; simp)]
          rfl
      · have h3 : ¬ inS x a b := fun h => h2 (p1.2 (.inl h))
        have h4 : ¬ inS a y b := fun h => h2 (p1.2 (.inr h))
        rw [if_neg (by rw [inSB_no.2 h3]; simp), if_neg (by rw [inSB_no.2 h4]; simp), if_neg (by rw [inSB_no.2 h2]; simp)]
        simp only [List.nil_append]
        rw [insC_cons a x, hnb, if_pos (inSB_iff.2 h1), ih']
        rfl
    · rw [if_neg (by rw [inSB_no.2 h1]; simp)]
      simp only [List.nil_append]
      rw [insC_cons b x, hna]
      by_cases h2 : inS x y b
      · obtain ⟨p1, p2⟩ := inS_parts hx hy hb ha (Ne.symm hab) h2
        have h3 : ¬ inS x b a := fun h => h1 (p1.2 (.inl h))
        have h4 : ¬ inS b y a := fun h => h1 (p1.2 (.inr h))
        rw [if_pos (inSB_iff.2 h2)]
        simp only [List.singleton_append]
        rw [insC_cons a x, insC_cons a b, hnb]
        show _ = x :: ((if inSB x b a = true then [a] else []) ++ b :: ((if inSB b y a = true then [a] else []) ++ insC a (insC b r z) z))
        rw [if_neg (by rw [inSB_no.2 h3]; simp), if_neg (by rw [inSB_no.2 h4]; simp), ih']
        rfl
      · rw [if_neg (by rw [inSB_no.2 h2]; simp)]
        simp only [List.nil_append]
        rw [insC_cons a x, hnb, if_neg (by rw [inSB_no.2 h1]; simp), ih']
        rfl
/-- How often a corner is put in. -/
def insM (q : Pt) : List Pt → Pt → Nat
  | [], _ => 0
  | x :: r, z => (if inSB x (nxt r z) q = true then 1 else 0) + insM q r z
theorem insC_perm (q : Pt) (xs : List Pt) (z : Pt) : (insC q xs z).Perm (xs ++ List.replicate (insM q xs z) q) := by
  induction xs with
  | nil => exact .refl _
  | cons x r ih =>
    rw [insC_cons]
    show List.Perm _ (x :: (r ++ List.replicate ((if inSB x (nxt r z) q = true then 1 else 0) + insM q r z) q))
    refine .cons x ?_
    split
    · rw [Nat.add_comm, List.replicate_succ]
      exact (List.Perm.cons q ih).trans List.perm_middle.symm
    · rw [Nat.zero_add]
      exact ih
theorem insM_two {a b : Pt} (ha : good a = true) (hb : good b = true) (hab : a ≠ b) (z : Pt) (hz : good z = true) : ∀ xs : List Pt, (∀ p ∈ xs, good p = true) → insM b (insC a xs z) z = insM b xs z := fun xs => by
  induction xs with
  | nil => intro _; rfl
  | cons x r ih =>
    intro hg
    have hx := hg x (by simp)
    have ih' := ih fun p hp => hg p (by simp [hp])
    have hy : good (nxt r z) = true := by
      cases r with
      | nil => exact hz
      | cons y r => exact hg y (by simp)
    have hna : nxt (insC a r z) z = nxt r z := nxt_insC a r z
    rw [insC_cons a x]
    show _ = (if inSB x (nxt r z) b = true then 1 else 0) + insM b r z
    generalize nxt r z = y at *
    by_cases h1 : inS x y a
    · obtain ⟨p1, p2⟩ := inS_parts hx hy ha hb hab h1
      rw [if_pos (inSB_iff.2 h1)]
      show (if inSB x a b = true then 1 else 0) + ((if inSB a (nxt (insC a r z) z) b = true then 1 else 0) + insM b (insC a r z) z) = _
      rw [hna, ih']
      by_cases h3 : inS x a b
      · have h4 : ¬ inS a y b := fun h => p2 ⟨h3, h⟩
        rw [if_pos (inSB_iff.2 h3), if_neg (by rw [inSB_no.2 h4]; simp), if_pos (inSB_iff.2 (p1.2 (.inl h3)))]
        omega
      · by_cases h4 : inS a y b
        · rw [if_neg (by rw [inSB_no.2 h3]; simp), if_pos (inSB_iff.2 h4), if_pos (inSB_iff.2 (p1.2 (.inr h4)))]
          omega
        · have h5 : ¬ inS x y b := fun h => (p1.1 h).elim h3 h4
          rw [if_neg (by rw [inSB_no.2 h3]; simp), if_neg (by rw [inSB_no.2 h4]; simp), if_neg (by rw [inSB_no.2 h5]; simp)]
          omega
    · rw [if_neg (by rw [inSB_no.2 h1]; simp)]
      show (if inSB x (nxt (insC a r z) z) b = true then 1 else 0) + insM b (insC a r z) z = _
      rw [hna, ih']
theorem insM_len (q : Pt) (xs : List Pt) (z : Pt) : (insC q xs z).length = xs.length + insM q xs z := by rw [(insC_perm q xs z).length_eq, List.length_append, List.length_replicate]
theorem insM_le {xs : List Pt} {q : Pt} (hc : checkI xs = 0) (hq : good q = true) : insM q xs (ptAt xs 0) ≤ 1 ∧ (q ∈ xs → insM q xs (ptAt xs 0) = 0) := by
  have hl := insM_len q xs (ptAt xs 0)
  rw [← insG_C] at hl
  refine ⟨?_, fun h => ?_⟩
  · rcases ins_cases hc hq with ⟨e, -⟩ | ⟨k, hk, -, e⟩
    · rw [e] at hl; omega
    · rw [e] at hl
      have : (mark k q xs).length = xs.length + 1 := by unfold mark; simp; omega
      omega
  · rw [corner_out hc h] at hl
    omega
theorem insC_nd {xs : List Pt} {q z : Pt} (hn : xs.Nodup) (h1 : insM q xs z ≤ 1) (h2 : q ∈ xs → insM q xs z = 0) : (insC q xs z).Nodup := by
  rw [(insC_perm q xs z).nodup_iff]
  by_cases hq : insM q xs z = 0
  · rw [hq]; simpa using hn
  · obtain e : insM q xs z = 1 := by omega
    rw [e, List.nodup_append]
    refine ⟨hn, by simp, fun x hx y hy hxy => hq (h2 ?_)⟩
    simp at hy
    rw [← hy, ← hxy]
    exact hx
theorem ins_two {xs : List Pt} {a b : Pt} (hc : checkI xs = 0) (hn : xs.Nodup) (ha : good a = true) (hb : good b = true) (hab : a ≠ b) :
    (insG a xs).Nodup ∧ (insG b (insG a xs)).Nodup ∧ insG b (insG a xs) = insG a (insG b xs) := by
  obtain ⟨-, hg, h3, -, -⟩ := checkI_zero hc
  have hgp : ∀ p ∈ xs, good p = true := fun p hp => goodL_mem hg hp
  have hz : good (ptAt xs 0) = true := hgp _ (ptAt_mem (by omega))
  have hne : xs ≠ [] := fun e => by rw [e] at h3; simp at h3
  have hh : ∀ q, ptAt (insG q xs) 0 = ptAt xs 0 := fun q => by
    rw [insG_C]
    cases xs with
    | nil => exact absurd rfl hne
    | cons x r => rfl
  have hb2 : ∀ q p : Pt, insG p (insG q xs) = insC p (insC q xs (ptAt xs 0)) (ptAt xs 0) := fun q p => by rw [insG_C p, hh, insG_C q]
  have m1 := insM_le hc ha
  have m2 := insM_le hc hb
  have n1 : (insG a xs).Nodup := by rw [insG_C]; exact insC_nd hn m1.1 m1.2
  refine ⟨n1, ?_, ?_⟩
  · rw [hb2]
    have e := insM_two ha hb hab _ hz xs hgp
    rw [insG_C] at n1
    refine insC_nd n1 (by rw [e]; exact m2.1) fun h => ?_
    rw [e]
    have : b ∈ insG a xs := by rw [insG_C]; exact h
    rcases insG_mem this with h4 | h4
    · exact m2.2 h4
    · exact absurd h4.symm hab
  · rw [hb2, hb2]
    exact insC_comm ha hb hab _ hz xs hgp
theorem lst_ins {xs : List Pt} {b : Pt} (hb : (insG b xs).Nodup) : lst (insG b (lst xs)) = lst (insG b xs) := by
  obtain ⟨j, -, e⟩ := lst_eq_rot xs
  obtain ⟨i, hi, e2⟩ := insG_rot b j xs
  rw [e, e2]
  exact lst_rot' hb hi
theorem set_perm {α : Type} : ∀ {l : List α} {k : Nat} (_ : k < l.length) (a : α), (l.set k a).Perm (a :: l.eraseIdx k)
  | _ :: l, 0, _, a => .refl _
  | x :: l, k + 1, h, a => ((set_perm (l := l) (k := k) (by simpa using h) a).cons x).trans (.swap _ _ _)
end Go.Proofs.YtmegmokjjlelgaaGreat

/- Plain law: a corner that was put is cleared. -/
import Derived.Test.YtglnklfhgdjccaaGreatInLaw
import Derived.Test.YtglnklfhgdjccaaGreatBendClear
import Derived.Test.YtglnklfhgdjccaaGreatMarkLaw
import Derived.Test.YtglnklfhgdjccaaGreatArea2
namespace Go.Proofs.YtglnklfhgdjccaaGreat
theorem insK_in (xs : List Pt) (q : Pt) (k : Nat) : (inS (ptAt xs k) (ptAt xs ((k + 1) % xs.length)) q → insK xs q k = [ptAt xs k, q]) ∧ (¬ inS (ptAt xs k) (ptAt xs ((k + 1) % xs.length)) q → insK xs q k = [ptAt xs k]) := by
  unfold insK inS
  generalize ptAt xs ((k + 1) % xs.length) = b
  generalize ptAt xs k = a
  rcases onB a b q with _ | _ <;> by_cases h1 : q = a <;> by_cases h2 : q = b <;> simp [h1, h2]
theorem insL_range (xs : List Pt) (q : Pt) : ∀ m, m ≤ xs.length → (∀ i, i < xs.length → ¬ inS (ptAt xs i) (ptAt xs ((i + 1) % xs.length)) q) → insL xs q (List.range m) = xs.take m := fun m => by
  induction m with
  | zero => intro _ _; simp [insL]
  | succ m ih =>
    intro hm hn
    have h1 := (insK_in xs q m).2 (hn m (by omega))
    have h2 := ih (by omega) hn
    unfold insL at *
    rw [List.range_succ, List.flatMap_append, h2, List.flatMap_singleton, h1, ptAt_lt (by omega), List.take_succ_eq_append_getElem (by omega)]
theorem ins_none {xs : List Pt} {q : Pt} (hn : ∀ i, i < xs.length → ¬ inS (ptAt xs i) (ptAt xs ((i + 1) % xs.length)) q) : insG q xs = xs := by
  unfold insG
  rw [insL_range xs q _ (Nat.le_refl _) hn, List.take_length]
theorem insL_one {xs : List Pt} {q : Pt} {k : Nat} (hk : k < xs.length) (hin : inS (ptAt xs k) (ptAt xs ((k + 1) % xs.length)) q) (hn : ∀ i, i < xs.length → i ≠ k → ¬ inS (ptAt xs i) (ptAt xs ((i + 1) % xs.length)) q) :
    ∀ m, m ≤ xs.length → insL xs q (List.range m) = if k < m then xs.take (k + 1) ++ [q] ++ (xs.take m).drop (k + 1) else xs.take m := fun m => by
  induction m with
  | zero => intro _; simp [insL]
  | succ m ih =>
    intro hm
    have h2 := ih (by omega)
    have ht : xs.take (m + 1) = xs.take m ++ [ptAt xs m] := by rw [ptAt_lt (by omega), List.take_succ_eq_append_getElem (by omega)]
    unfold insL at *
    rw [List.range_succ, List.flatMap_append, h2, List.flatMap_singleton]
    by_cases h : m = k
    · subst h
      rw [(insK_in xs q m).1 hin, if_neg (by omega), if_pos (by omega), ht, List.drop_of_length_le (by simp; omega)]
      simp
    · rw [(insK_in xs q m).2 (hn m (by omega) h)]
      by_cases h3 : k < m
      · rw [if_pos h3, if_pos (by omega), ht, List.drop_append_of_le_length (by rw [List.length_take]; omega)]
        simp
      · rw [if_neg h3, if_neg (by omega), ht]
theorem ins_one {xs : List Pt} {q : Pt} {k : Nat} (hk : k < xs.length) (hin : inS (ptAt xs k) (ptAt xs ((k + 1) % xs.length)) q) (hn : ∀ i, i < xs.length → i ≠ k → ¬ inS (ptAt xs i) (ptAt xs ((i + 1) % xs.length)) q) : insG q xs = mark k q xs := by
  unfold insG mark
  rw [insL_one hk hin hn _ (Nat.le_refl _), if_pos hk, List.take_length]
theorem ptAt_goodL {xs : List Pt} (hg : goodL xs = true) {k : Nat} (hk : k < xs.length) : good (ptAt xs k) = true := goodL_mem hg (ptAt_mem hk)
/-- A point lies within one edge of a ring at most. -/
theorem ins_uniq {xs : List Pt} {q : Pt} (hc : checkI xs = 0) (hq : good q = true) {i k : Nat} (hi : i < xs.length) (hk : k < xs.length) (h1 : inS (ptAt xs i) (ptAt xs ((i + 1) % xs.length)) q) (h2 : inS (ptAt xs k) (ptAt xs ((k + 1) % xs.length)) q) : i = k := by
  obtain ⟨-, hg, h3, -, hP⟩ := checkI_zero hc
  refine Classical.byContradiction fun hne => ?_
  have hp := ((pairs_iff xs).1 hP i k hi hk hne).2
  have hm : ∀ j, (j + 1) % xs.length < xs.length := fun j => Nat.mod_lt _ (by omega)
  have g := fun j (hj : j < xs.length) => ptAt_goodL hg hj
  have e : meetOf xs i k = meetR (ptAt xs i) (ptAt xs ((i + 1) % xs.length)) (ptAt xs k) (ptAt xs ((k + 1) % xs.length)) := rfl
  rw [e] at hp
  split at hp
  · exact inS_one (g i hi) (g _ (hm i)) (g k hk) (g _ (hm k)) hq h1 h2 hp
  · exact inS_touch (g i hi) (g _ (hm i)) (g k hk) (g _ (hm k)) h1 h2 hp
/-- What comes of a point that is no corner: nothing, or a corner more on just one edge. -/
theorem ins_cases {xs : List Pt} {q : Pt} (hc : checkI xs = 0) (hq : good q = true) : (insG q xs = xs ∧ ∀ i, i < xs.length → ¬ inS (ptAt xs i) (ptAt xs ((i + 1) % xs.length)) q) ∨ ∃ k, k < xs.length ∧ inS (ptAt xs k) (ptAt xs ((k + 1) % xs.length)) q ∧ insG q xs = mark k q xs := by
  by_cases h : ∃ k, k < xs.length ∧ inS (ptAt xs k) (ptAt xs ((k + 1) % xs.length)) q
  · obtain ⟨k, hk, hin⟩ := h
    exact .inr ⟨k, hk, hin, ins_one hk hin fun i hi hne h1 => hne (ins_uniq hc hq hi hk h1 hin)⟩
  · have hn : ∀ i, i < xs.length → ¬ inS (ptAt xs i) (ptAt xs ((i + 1) % xs.length)) q := fun i hi h1 => h ⟨i, hi, h1⟩
    exact .inl ⟨ins_none hn, hn⟩
theorem clrG_filter {q : Pt} : ∀ {xs : List Pt}, xs.Nodup → clrG q xs = xs.filter fun p => decide (p ≠ q) := fun {xs} hn => by
  induction xs with
  | nil => simp [clrG]
  | cons x xs ih =>
    obtain ⟨h1, h2⟩ := List.nodup_cons.1 hn
    have ih' := ih h2
    unfold clrG at *
    by_cases hx : x = q
    · subst hx
      have hf : xs.filter (fun p => decide (p ≠ x)) = xs := List.filter_eq_self.2 fun p hp => by
        simp only [ne_eq, decide_eq_true_eq]
        exact fun e => h1 (by rw [← e]; exact hp)
      simp only [List.mem_cons, true_or, if_true, List.findIdx_cons, decide_true, cond_true, List.eraseIdx_zero, List.tail_cons, List.filter_cons, ne_eq, not_true_eq_false, decide_false, Bool.false_eq_true, if_false]
      exact hf.symm
    · by_cases hq : q ∈ xs
      · rw [if_pos hq] at ih'
        rw [if_pos (List.mem_cons_of_mem _ hq), List.filter_cons, if_pos (by simpa using hx), List.findIdx_cons]
        simp only [hx, decide_false, cond_false, List.eraseIdx_cons_succ]
        rw [ih']
      · rw [if_neg hq] at ih'
        rw [if_neg (by simp only [List.mem_cons, not_or]; exact ⟨fun e => hx e.symm, hq⟩), List.filter_cons, if_pos (by simpa using hx), ← ih']
theorem filter_rot (f : Pt → Bool) (j : Nat) (ys : List Pt) : (rot j ys).filter f = rot ((ys.take j).filter f).length (ys.filter f) := by
  have e : ys.filter f = (ys.take j).filter f ++ (ys.drop j).filter f := by rw [← List.filter_append, List.take_append_drop]
  unfold rot
  rw [List.filter_append, e, List.drop_left, List.take_left]
theorem lst_rot' {xs : List Pt} (hn : xs.Nodup) {j : Nat} (hj : j ≤ xs.length) : lst (rot j xs) = lst xs := by
  by_cases h : j = xs.length
  · have e : rot j xs = xs := by unfold rot; rw [h, List.drop_length, List.take_length, List.nil_append]
    rw [e]
  · exact lst_rot hn (by omega)
theorem mark_filter {xs : List Pt} {q : Pt} (hq : q ∉ xs) (k : Nat) : (mark k q xs).filter (fun p => decide (p ≠ q)) = xs := by
  have hf : ∀ l : List Pt, (∀ p ∈ l, p ∈ xs) → l.filter (fun p => decide (p ≠ q)) = l := fun l hl => List.filter_eq_self.2 fun p hp => by
    simp only [ne_eq, decide_eq_true_eq]
    exact fun e => hq (by rw [← e]; exact hl p hp)
  unfold mark
  rw [List.filter_append, List.filter_append, hf _ (fun p hp => List.mem_of_mem_take hp), hf _ (fun p hp => List.mem_of_mem_drop hp)]
  simp
theorem mark_nodup {xs : List Pt} {q : Pt} (hn : xs.Nodup) (hq : q ∉ xs) (k : Nat) : (mark k q xs).Nodup := by
  have hp : (mark k q xs).Perm (q :: xs) := by
    unfold mark
    have h1 : (xs.take (k + 1) ++ [q] ++ xs.drop (k + 1)).Perm (q :: (xs.take (k + 1) ++ xs.drop (k + 1))) := by
      rw [List.append_assoc]
      exact List.perm_middle
    rw [List.take_append_drop] at h1
    exact h1
  exact hp.nodup_iff.2 (List.nodup_cons.2 ⟨hq, hn⟩)
theorem mark_mem {xs : List Pt} {q p : Pt} {k : Nat} : p ∈ mark k q xs ↔ p = q ∨ p ∈ xs := by
  unfold mark
  rw [List.mem_append, List.mem_append, List.mem_singleton]
  have h : p ∈ xs ↔ p ∈ xs.take (k + 1) ∨ p ∈ xs.drop (k + 1) := by rw [← List.mem_append, List.take_append_drop]
  rw [h]
  constructor
  · rintro ((h | h) | h)
    · exact .inr (.inl h)
    · exact .inl h
    · exact .inr (.inr h)
  · rintro (h | h | h)
    · exact .inl (.inr h)
    · exact .inl (.inl h)
    · exact .inr h
/-- A ring's corner that was put is cleared: the ring is as it was. -/
theorem clr_mark {xs : List Pt} {q : Pt} (hn : xs.Nodup) (hl : lst xs = xs) (hq : q ∉ xs) (k : Nat) : lst (clrG q (lst (mark k q xs))) = xs := by
  have hm := mark_nodup hn hq k
  obtain ⟨j, -, e⟩ := lst_eq_rot (mark k q xs)
  rw [e, clrG_filter (rot_nodup j hm), filter_rot, mark_filter hq]
  rw [lst_rot' hn ?_, hl]
  have h1 : ((mark k q xs).take j).filter (fun p => decide (p ≠ q)) ++ ((mark k q xs).drop j).filter (fun p => decide (p ≠ q)) = xs := by rw [← List.filter_append, List.take_append_drop, mark_filter hq]
  have h2 := congrArg List.length h1
  rw [List.length_append] at h2
  omega
theorem mark_lo {xs : List Pt} {q : Pt} {k i : Nat} (hk : k < xs.length) (hi : i ≤ k) : ptAt (mark k q xs) i = ptAt xs i := by
  have h0 : i < (xs.take (k + 1)).length := by rw [List.length_take]; omega
  unfold ptAt mark
  rw [List.append_assoc, List.getElem?_append_left h0, List.getElem?_take_of_lt (by omega)]
theorem mark_mid {xs : List Pt} {q : Pt} {k : Nat} (hk : k < xs.length) : ptAt (mark k q xs) (k + 1) = q := by
  have h0 : (xs.take (k + 1)).length = k + 1 := by rw [List.length_take]; omega
  unfold ptAt mark
  rw [List.append_assoc, List.getElem?_append_right (by omega), h0]
  simp
theorem mark_hi {xs : List Pt} {q : Pt} {k i : Nat} (hk : k < xs.length) (hi : k + 1 ≤ i) : ptAt (mark k q xs) (i + 1) = ptAt xs i := by
  have h0 : (xs.take (k + 1) ++ [q]).length = k + 2 := by simp; omega
  unfold ptAt mark
  rw [List.getElem?_append_right (by omega), h0, List.getElem?_drop, show k + 1 + (i + 1 - (k + 2)) = i by omega]
theorem besD_rot {ys : List Pt} {j i : Nat} (hj : j < ys.length) (hi : i < ys.length) : besD (rot j ys) i = besD ys ((j + i) % ys.length) := by
  have hl := rot_len (k := j) (xs := ys) (by omega)
  unfold besD
  rw [hl, ptAt_rot hj (Nat.mod_lt _ (by omega)), ptAt_rot hj (Nat.mod_lt _ (by omega))]
  have e1 : (j + (i + ys.length - 1) % ys.length) % ys.length = ((j + i) % ys.length + ys.length - 1) % ys.length := by
    rw [Nat.add_mod_mod, show j + (i + ys.length - 1) = (j + i) + (ys.length - 1) by omega, show (j + i) % ys.length + ys.length - 1 = (j + i) % ys.length + (ys.length - 1) by omega, Nat.mod_add_mod]
  have e2 : (j + (i + 1) % ys.length) % ys.length = ((j + i) % ys.length + 1) % ys.length := by
    rw [Nat.add_mod_mod, Nat.mod_add_mod, Nat.add_assoc]
  rw [e1, e2]
theorem besD_mark {xs : List Pt} {q : Pt} {k : Nat} (hk : k < xs.length) : besD (mark k q xs) (k + 1) = ⟨ptAt xs k, ptAt xs ((k + 1) % xs.length)⟩ := by
  have hl := mark_len (p := q) hk
  unfold besD
  rw [hl]
  have e1 : (k + 1 + (xs.length + 1) - 1) % (xs.length + 1) = k := by
    rw [show k + 1 + (xs.length + 1) - 1 = k + (xs.length + 1) by omega, Nat.add_mod_right, Nat.mod_eq_of_lt (by omega)]
  rw [e1, mark_lo hk (Nat.le_refl _)]
  by_cases h : k + 1 < xs.length
  · rw [Nat.mod_eq_of_lt (by omega : k + 1 + 1 < xs.length + 1), Nat.mod_eq_of_lt h, mark_hi hk (by omega)]
  · have h2 : k + 1 = xs.length := by omega
    rw [h2, Nat.mod_self, Nat.mod_self, mark_lo hk (Nat.zero_le _)]
theorem clrF_at {q : Pt} {xs : List Pt} (hn : xs.Nodup) {i : Nat} (hi : i < xs.length) (h : ptAt xs i = q) : clrF q xs = [(besD xs i).norm] := by
  have hq : q ∈ xs := by rw [← h]; exact ptAt_mem hi
  obtain ⟨k, hk, hix, hp, -⟩ := idx_lt hq
  have e : k = i := nodup_ptAt hn hk hi (hp.trans h.symm)
  subst e
  exact (clr_at hix).2.2
theorem clrF_mark {xs : List Pt} {q : Pt} (hn : xs.Nodup) (hq : q ∉ xs) {k : Nat} (hk : k < xs.length) : clrF q (lst (mark k q xs)) = [(⟨ptAt xs k, ptAt xs ((k + 1) % xs.length)⟩ : Ed).norm] := by
  have hm := mark_nodup hn hq k
  have hml := mark_len (p := q) hk
  obtain ⟨j, hj, e⟩ := lst_eq_rot (mark k q xs)
  have hj' : j < (mark k q xs).length := hj (fun e' => by rw [e'] at hml; simp at hml)
  rw [e]
  have hl := rot_len (k := j) (xs := mark k q xs) (by omega)
  have hi : (k + 1 + ((mark k q xs).length - j)) % (mark k q xs).length < (mark k q xs).length := Nat.mod_lt _ (by omega)
  have hji : (j + (k + 1 + ((mark k q xs).length - j)) % (mark k q xs).length) % (mark k q xs).length = k + 1 := by
    rw [Nat.add_mod_mod, show j + (k + 1 + ((mark k q xs).length - j)) = k + 1 + (mark k q xs).length by omega, Nat.add_mod_right, Nat.mod_eq_of_lt (by omega)]
  rw [clrF_at (rot_nodup j hm) (i := (k + 1 + ((mark k q xs).length - j)) % (mark k q xs).length) (by rw [hl]; exact hi) (by rw [ptAt_rot hj' hi, hji, mark_mid hk]), besD_rot hj' hi, hji, besD_mark hk]
theorem norm_back (e : Ed) : e.back.norm = e.norm := by
  obtain ⟨⟨a, b⟩, ⟨c, d⟩⟩ := e
  unfold Ed.norm Ed.back
  by_cases h1 : 0 < ordI ⟨a, b⟩ ⟨c, d⟩
  · have h2 := ordI_anti h1
    rw [if_pos h1, if_neg (by show ¬ 0 < ordI ⟨c, d⟩ ⟨a, b⟩; omega)]
  · by_cases h2 : 0 < ordI ⟨c, d⟩ ⟨a, b⟩
    · rw [if_neg h1, if_pos (by exact h2)]
    · have h3 : (⟨a, b⟩ : Pt) = ⟨c, d⟩ := by
        refine ord_eq (fun h => ?_) (fun h => ?_)
        · rw [ordI_neg] at h
          apply h2
          unfold ordI orI cmpI
          grind
        · rw [ordI_neg] at h
          apply h1
          unfold ordI orI cmpI
          grind
      rw [if_neg h1, if_neg (by exact h2), h3]
theorem okR_in {e f : Ed} {q : Pt} (he : good e.a = true ∧ good e.b = true) (hf : good f.a = true ∧ good f.b = true) (hq : good q = true) (h1 : inS e.a e.b q) (h2 : inS f.a f.b q) (h : okR e f = true) : e = f.back := by
  have m0 := inS_touch he.1 he.2 hf.1 hf.2 h1 h2
  have m1 := inS_one he.1 he.2 hf.1 hf.2 hq h1 h2
  unfold okR meetE at h
  have hv : meetR e.a e.b f.a f.b = 0 ∨ meetR e.a e.b f.a f.b = 1 ∨ meetR e.a e.b f.a f.b = 2 ∨ meetR e.a e.b f.a f.b = 3 := by
    unfold meetR
    split
    · simp
    · split
      · simp
      · split <;> simp
  rcases hv with h3 | h3 | h3 | h3
  · exact absurd h3 m0
  · exact absurd h3 m1
  · rw [h3] at h
    simp at h
  · rw [h3] at h
    simpa using h
theorem edge_good {p : Plan} (hs : SoundP p) {e : Ed} (h : e ∈ allE p.parcels) : good e.a = true ∧ good e.b = true := by
  unfold allE at h
  rw [List.mem_flatMap] at h
  obtain ⟨x, hx, h3⟩ := h
  obtain ⟨hg, -⟩ := sound_ring hs (.inr ⟨x, hx, rfl⟩)
  unfold edgesOf at h3
  obtain ⟨i, hi, rfl⟩ := List.mem_map.1 h3
  exact ⟨ptAt_good hg _, ptAt_good hg _⟩
/-- All edges of a sound plan that have a point within them are one, or its other way round. -/
theorem within_one {p : Plan} {q : Pt} (hs : SoundP p) (hq : good q = true) {e f : Ed} (he : e ∈ allE p.parcels) (hf : f ∈ allE p.parcels) (h1 : inS e.a e.b q) (h2 : inS f.a f.b q) : e.norm = f.norm := by
  by_cases hne : e = f
  · rw [hne]
  · obtain ⟨i, hi, rfl⟩ := List.getElem_of_mem he
    obtain ⟨j, hj, rfl⟩ := List.getElem_of_mem hf
    have hP := hs.2.2.2.2.1
    rcases Nat.lt_trichotomy i j with h | h | h
    · have := okR_in (edge_good hs he) (edge_good hs hf) hq h1 h2 (hP i j hi hj h)
      rw [this, norm_back]
    · subst h; exact absurd rfl hne
    · have := okR_in (edge_good hs hf) (edge_good hs he) hq h2 h1 (hP j i hj hi h)
      rw [this, norm_back]
theorem ring_edge {p : Plan} (hs : SoundP p) {xs : List Pt} (hx : ringOf p xs) {k : Nat} (hk : k < xs.length) : (⟨ptAt xs k, ptAt xs ((k + 1) % xs.length)⟩ : Ed) ∈ allE p.parcels := by
  have h1 : (⟨ptAt xs k, ptAt xs ((k + 1) % xs.length)⟩ : Ed) ∈ edgesOf xs := List.mem_map.2 ⟨k, List.mem_range.2 hk, rfl⟩
  rcases hx with rfl | ⟨x, hx, rfl⟩
  · exact hs.2.2.2.1.2.1 _ h1
  · exact List.mem_flatMap.2 ⟨x, hx, h1⟩
theorem ringOf_each {g : List Pt → List Pt} {p : Plan} {ys : List Pt} (h : ringOf (eachP g p) ys) : ∃ xs, ringOf p xs ∧ ys = lst (g xs) := by
  rcases h with rfl | ⟨y, hy, rfl⟩
  · exact ⟨p.outer, .inl rfl, rfl⟩
  · obtain ⟨x, hx, rfl⟩ := each_sound hy
    exact ⟨x.ring, .inr ⟨x, hx, rfl⟩, rfl⟩
theorem seenK_mem {f : List Pt → List Ed} {p : Plan} {e : Ed} {k : Nat} (h : e ∈ seenK f p k) : ∃ xs, ringOf p xs ∧ e ∈ f xs := by
  unfold seenK at h
  rw [List.mem_append, List.mem_flatMap] at h
  rcases h with h | ⟨x, hx, h⟩
  · exact ⟨_, .inl rfl, h⟩
  · exact ⟨_, .inr ⟨x, List.mem_of_mem_take hx, rfl⟩, h⟩
/-- What is beside a corner that was put: an edge that has it within. -/
theorem seen_mark {p : Plan} {q : Pt} (hs : SoundP p) (hq : good q = true) (hno : ∀ xs, ringOf p xs → q ∉ xs) {e : Ed} {k : Nat} (h : e ∈ seenK (clrF q) (eachP (insG q) p) k) : ∃ f, f ∈ allE p.parcels ∧ inS f.a f.b q ∧ e = f.norm := by
  obtain ⟨ys, hy, he⟩ := seenK_mem h
  obtain ⟨xs, hx, rfl⟩ := ringOf_each hy
  obtain ⟨n1, n2, -⟩ := sound_nodup hs hx
  rcases ins_cases (sound_ring hs hx).2.2.2 hq with ⟨h1, -⟩ | ⟨i, hi, h1, h2⟩
  · rw [h1, n2] at he
    rw [(clr_out (hno xs hx)).2] at he
    cases he
  · rw [h2, clrF_mark n1 (hno xs hx) hi, List.mem_singleton] at he
    exact ⟨_, ring_edge hs hx hi, h1, he⟩
theorem norm_on (e : Ed) (q : Pt) : onB e.norm.a e.norm.b q = onB e.a e.b q := by
  unfold Ed.norm Ed.back
  split
  · exact onB_swap _ _ _
  · rfl
theorem mark_back {p : Plan} {q : Pt} (h : markE p q = 0) : clearE (markP p q) q = 0 ∧ clearP (markP p q) q = p := by
  have hP : markP p q = eachP (insG q) p := by unfold markP; rw [if_pos h]
  rw [hP]
  unfold markE at h
  by_cases h1 : planB p = true
  case neg => rw [if_neg h1] at h; cases h
  rw [if_pos h1] at h
  by_cases h2 : good q = true
  case neg => rw [if_neg h2] at h; cases h
  rw [if_pos h2] at h
  by_cases h3 : hasC p.parcels q = true
  case pos => rw [if_pos h3] at h; cases h
  rw [if_neg h3] at h
  by_cases h4 : hasC (eachP (insG q) p).parcels q = true
  case neg => rw [if_neg h4] at h; cases h
  rw [if_pos h4] at h
  by_cases h5 : planB (eachP (insG q) p) = true
  case neg => rw [if_neg h5] at h; cases h
  have hs := planB_sound h1
  have hno : ∀ xs, ringOf p xs → q ∉ xs := fun xs hx hq => by
    rcases hx with rfl | ⟨x, hx, rfl⟩
    · exact h3 (outer_has hs hq)
    · exact h3 (hasC_iff.2 ⟨x, hx, hq⟩)
  have hback : eachP (clrG q) (eachP (insG q) p) = p := each_each fun xs hx => by
    obtain ⟨n1, n2, -⟩ := sound_nodup hs hx
    rcases ins_cases (sound_ring hs hx).2.2.2 h2 with ⟨e, -⟩ | ⟨k, hk, -, e⟩
    · rw [e, n2, (clr_out (hno xs hx)).1, n2]
    · rw [e]
      exact clr_mark n1 n2 (hno xs hx) k
  have hso : seenOK q (seenK (clrF q) (eachP (insG q) p) (eachP (insG q) p).parcels.length) := fun j hj => by
    have h0 : 0 < (seenK (clrF q) (eachP (insG q) p) (eachP (insG q) p).parcels.length).length := by omega
    obtain ⟨f, f1, f2, f3⟩ := seen_mark hs h2 hno (List.getElem_mem hj)
    obtain ⟨g, g1, g2, g3⟩ := seen_mark hs h2 hno (List.getElem_mem h0)
    rw [edAt_lt hj, edAt_lt h0, f3, g3, norm_on]
    exact ⟨f2.1, within_one hs h2 f1 g1 f2 g2⟩
  have hE : clearE (eachP (insG q) p) q = 0 := by
    unfold clearE
    rw [if_pos h5, if_pos h2, if_pos h4, if_pos hso, hback, if_pos h1]
  exact ⟨hE, by unfold clearP; rw [if_pos hE]; exact hback⟩
end Go.Proofs.YtglnklfhgdjccaaGreat

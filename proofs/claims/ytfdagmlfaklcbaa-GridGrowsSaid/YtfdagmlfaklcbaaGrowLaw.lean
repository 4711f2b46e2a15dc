/- Plain law: the cells of a window, by X, then by Y; those of a smaller one are some of them. No condition. -/
import Derived.Test.YtfdagmlfaklcbaaSpanLaw
namespace Go.Proofs.Ytfdagmlfaklcbaa
theorem colL_get (x y0 : Int) (m k : Nat) (h : k < (colL x y0 m).length) : (colL x y0 m)[k] = ⟨x, y0 + (k : Int)⟩ := by simp [colL]
theorem spanR_get (x0 y0 : Int) (m n k : Nat) (h : k < (spanR x0 y0 m n).length) : (spanR x0 y0 m n)[k] = ⟨x0 + ((k / m : Nat) : Int), y0 + ((k % m : Nat) : Int)⟩ := by
  induction n with
  | zero => simp [spanR] at h
  | succ n ih =>
    rw [spanR_length] at h
    have hm : 0 < m := by rcases Nat.eq_zero_or_pos m with h0 | h0; · subst h0; simp at h
                          · exact h0
    simp only [spanR_succ]
    by_cases hk : k < n * m
    · rw [List.getElem_append_left (by rw [spanR_length]; exact hk)]
      exact ih (by rw [spanR_length]; exact hk)
    · rw [List.getElem_append_right (by rw [spanR_length]; omega), colL_get]
      rw [Nat.succ_mul] at h
      obtain ⟨j, hj⟩ : ∃ j, k = n * m + j := ⟨k - n * m, by omega⟩
      subst hj
      have hj : j < m := by omega
      simp only [spanR_length]
      rw [Nat.add_sub_cancel_left]
      have e1 : (n * m + j) / m = n := by rw [Nat.mul_comm, Nat.mul_add_div hm, Nat.div_eq_of_lt hj]; rfl
      have e2 : (n * m + j) % m = j := by rw [Nat.mul_comm, Nat.mul_add_mod, Nat.mod_eq_of_lt hj]
      rw [e1, e2]
theorem spanR_rise (x0 y0 : Int) (m n k : Nat) (h : k + 1 < (spanR x0 y0 m n).length) :
    ((spanR x0 y0 m n)[k]'(by omega)).x < ((spanR x0 y0 m n)[k + 1]).x ∨ ((spanR x0 y0 m n)[k]'(by omega)).x = ((spanR x0 y0 m n)[k + 1]).x ∧ ((spanR x0 y0 m n)[k]'(by omega)).y < ((spanR x0 y0 m n)[k + 1]).y := by
  rw [spanR_get, spanR_get]
  simp only
  have hm : 0 < m := by
    rw [spanR_length] at h
    rcases Nat.eq_zero_or_pos m with h0 | h0
    · subst h0; simp at h
    · exact h0
  have e1 := Nat.div_add_mod k m
  have e2 := Nat.div_add_mod (k + 1) m
  have l1 := Nat.mod_lt k hm
  have l2 := Nat.mod_lt (k + 1) hm
  generalize k / m = q at *
  generalize (k + 1) / m = q' at *
  generalize k % m = r at *
  generalize (k + 1) % m = r' at *
  have hq : q < q' ∨ q = q' ∨ q' < q := by omega
  rcases hq with hq | hq | hq
  · left; omega
  · subst hq; right; exact ⟨rfl, by omega⟩
  · exfalso
    have : m * (q' + 1) ≤ m * q := Nat.mul_le_mul_left m hq
    rw [Nat.mul_succ] at this
    omega
/-- The cells of the smaller window among those of the greater one. -/
def inner (x0 y0 : Int) (m n : Nat) (p : Pt) : Bool := decide (p.x < x0 + (n : Int) ∧ p.y < y0 + (m : Int))
theorem colL_filter (x x0 y0 : Int) (m m' n : Nat) (h : m ≤ m') (hx : x < x0 + (n : Int)) : (colL x y0 m').filter (inner x0 y0 m n) = colL x y0 m := by
  induction m' with
  | zero => obtain rfl : m = 0 := by omega
            simp [colL]
  | succ k ih =>
    rw [colL_succ, List.filter_append]
    by_cases hk : m ≤ k
    · rw [ih hk, List.filter_cons, if_neg]
      · simp
      · unfold inner; simp; omega
    · obtain rfl : m = k + 1 := by omega
      rw [colL_succ]
      congr 1
      · apply List.filter_eq_self.2
        intro p hp
        simp only [colL, List.mem_map, List.mem_range] at hp
        obtain ⟨j, hj, rfl⟩ := hp
        unfold inner; simp; omega
      · rw [List.filter_cons, if_pos]
        · rfl
        · unfold inner; simp; omega
theorem colL_filter_no (x x0 y0 : Int) (m m' n : Nat) (hx : ¬ x < x0 + (n : Int)) : (colL x y0 m').filter (inner x0 y0 m n) = [] := by
  apply List.filter_eq_nil_iff.2
  intro p hp
  simp only [colL, List.mem_map, List.mem_range] at hp
  obtain ⟨j, hj, rfl⟩ := hp
  unfold inner; simp; omega
theorem spanR_filter (x0 y0 : Int) (m m' n n' : Nat) (h : m ≤ m') (hn : n ≤ n') : (spanR x0 y0 m' n').filter (inner x0 y0 m n) = spanR x0 y0 m n := by
  have key : ∀ k, (spanR x0 y0 m' k).filter (inner x0 y0 m n) = spanR x0 y0 m (min k n) := by
    intro k
    induction k with
    | zero => simp [spanR]
    | succ k ih =>
      rw [spanR_succ, List.filter_append, ih]
      by_cases hk : k < n
      · rw [colL_filter _ _ _ _ _ _ h (by omega), show min k n = k from by omega, show min (k + 1) n = k + 1 from by omega, spanR_succ]
      · rw [colL_filter_no _ _ _ _ _ _ (by omega), List.append_nil, show min k n = n from by omega, show min (k + 1) n = n from by omega]
  rw [key, show min n' n = n from by omega]
/-- How many of a filtered list's elements the first i hold. -/
def cnt (P : Pt → Bool) (b : List Pt) (i : Nat) : Nat := ((b.take i).filter P).length
theorem cnt_succ (P : Pt → Bool) (b : List Pt) (i : Nat) (h : i < b.length) : cnt P b (i + 1) = cnt P b i + (if P b[i] = true then 1 else 0) := by
  unfold cnt
  rw [List.take_succ_eq_append_getElem h, List.filter_append, List.length_append, List.filter_cons]
  split <;> simp
theorem cnt_split (P : Pt → Bool) (b : List Pt) (i : Nat) (h : i < b.length) (hP : P b[i] = true) : ∃ hk : cnt P b i < (b.filter P).length, (b.filter P)[cnt P b i] = b[i] := by
  have e : b.filter P = (b.take i).filter P ++ b[i] :: (b.drop (i + 1)).filter P := by
    conv => lhs; rw [← List.take_append_drop i b, List.drop_eq_getElem_cons h]
    rw [List.filter_append, List.filter_cons, if_pos hP]
  have hl : cnt P b i < (b.filter P).length := by rw [e]; unfold cnt; simp
  refine ⟨hl, ?_⟩
  have : (b.filter P)[cnt P b i]? = some b[i] := by
    rw [e]; unfold cnt
    rw [List.getElem?_append_right (Nat.le_refl _)]
    simp
  rw [List.getElem?_eq_getElem hl] at this
  exact Option.some.inj this
theorem cnt_other (P : Pt → Bool) (b : List Pt) (i : Nat) (h : i < b.length) (hP : P b[i] = false) (k : Nat) (hk : k < (b.filter P).length) : (b.filter P)[k] ≠ b[i] := by
  intro e
  have := List.getElem_mem hk
  rw [e] at this
  rw [(List.mem_filter.1 this).2] at hP
  cases hP
theorem cnt_all (P : Pt → Bool) (b : List Pt) : cnt P b b.length = (b.filter P).length := by unfold cnt; rw [List.take_length]
theorem cnt_le (P : Pt → Bool) (b : List Pt) (i : Nat) : cnt P b i ≤ (b.filter P).length := by
  unfold cnt
  exact ((List.take_sublist i b).filter P).length_le
end Go.Proofs.Ytfdagmlfaklcbaa

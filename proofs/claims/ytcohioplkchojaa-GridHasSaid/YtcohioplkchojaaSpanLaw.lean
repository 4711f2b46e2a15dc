/- Plain law: all cells of a window, by X, then by Y. No condition. -/
import Derived.Test.YtcohioplkchojaaPtW
namespace Go.Proofs.Ytcohioplkchojaa
/-- The first m cells of one column, from y0 on. -/
def colL (x y0 : Int) (m : Nat) : List Pt := (List.range m).map fun (j : Nat) => ⟨x, y0 + (j : Int)⟩
/-- The first n columns, each of m cells. -/
def spanR (x0 y0 : Int) (m n : Nat) : List Pt := (List.range n).flatMap fun (i : Nat) => colL (x0 + (i : Int)) y0 m
theorem colL_succ (x y0 : Int) (m : Nat) : colL x y0 (m + 1) = colL x y0 m ++ [⟨x, y0 + (m : Int)⟩] := by simp [colL, List.range_succ]
theorem spanR_succ (x0 y0 : Int) (m n : Nat) : spanR x0 y0 m (n + 1) = spanR x0 y0 m n ++ colL (x0 + (n : Int)) y0 m := by simp [spanR, List.range_succ]
theorem colL_length (x y0 : Int) (m : Nat) : (colL x y0 m).length = m := by simp [colL]
theorem spanR_length (x0 y0 : Int) (m n : Nat) : (spanR x0 y0 m n).length = n * m := by
  induction n with
  | zero => simp [spanR]
  | succ n ih => rw [spanR_succ, List.length_append, ih, colL_length, Nat.succ_mul]
/-- One column as the reference goes through it: of the cells from -4 on those between y0 and y1. -/
def colF (x y0 y1 : Int) (b : Bool) (m : Nat) : List Pt := ((List.range m).filter fun (j : Nat) => b && decide (y0 ≤ -4 + (j : Int) ∧ -4 + (j : Int) ≤ y1)).map fun (j : Nat) => ⟨x, -4 + (j : Int)⟩
def spanF (x0 x1 y0 y1 : Int) (n : Nat) : List Pt := (List.range n).flatMap fun (i : Nat) => colF (-4 + (i : Int)) y0 y1 (decide (x0 ≤ -4 + (i : Int) ∧ -4 + (i : Int) ≤ x1)) 9
theorem colF_succ (x y0 y1 : Int) (b : Bool) (m : Nat) : colF x y0 y1 b (m + 1) = colF x y0 y1 b m ++ (if (b && decide (y0 ≤ -4 + (m : Int) ∧ -4 + (m : Int) ≤ y1)) = true then [⟨x, -4 + (m : Int)⟩] else []) := by
  unfold colF
  rw [List.range_succ, List.filter_append, List.map_append]
  congr 1
  rw [List.filter_cons]
  split <;> simp
theorem spanF_succ (x0 x1 y0 y1 : Int) (n : Nat) : spanF x0 x1 y0 y1 (n + 1) = spanF x0 x1 y0 y1 n ++ colF (-4 + (n : Int)) y0 y1 (decide (x0 ≤ -4 + (n : Int) ∧ -4 + (n : Int) ≤ x1)) 9 := by simp [spanF, List.range_succ]
theorem colF_false (x y0 y1 : Int) (m : Nat) : colF x y0 y1 false m = [] := by simp [colF]
/-- The numbers from a to b, out of the first nine. -/
theorem filt (a b : Nat) (hab : a ≤ b) (hb : b ≤ 8) : ((List.range 9).filter fun j => decide (a ≤ j ∧ j ≤ b)) = (List.range (b - a + 1)).map fun j => a + j := by
  have h : ∀ b, b < 9 → ∀ a, a < 9 → a ≤ b → ((List.range 9).filter fun j => decide (a ≤ j ∧ j ≤ b)) = (List.range (b - a + 1)).map fun j => a + j := by decide
  exact h b (by omega) a (by omega) hab
theorem colF_true (x y0 y1 : Int) (h0 : -4 ≤ y0) (h1 : y1 ≤ 4) (h : y0 ≤ y1) : colF x y0 y1 true 9 = colL x y0 (y1 - y0 + 1).toNat := by
  obtain ⟨a, ha⟩ : ∃ a : Nat, (a : Int) = y0 + 4 := ⟨(y0 + 4).toNat, by omega⟩
  obtain ⟨b, hb⟩ : ∃ b : Nat, (b : Int) = y1 + 4 := ⟨(y1 + 4).toNat, by omega⟩
  have hf := filt a b (by omega) (by omega)
  unfold colF colL
  have e1 : ((List.range 9).filter fun (j : Nat) => true && decide (y0 ≤ -4 + (j : Int) ∧ -4 + (j : Int) ≤ y1)) = (List.range 9).filter fun j => decide (a ≤ j ∧ j ≤ b) := by
    congr 1
    funext j
    rw [Bool.true_and]
    congr 1
    exact propext ⟨fun ⟨p, q⟩ => ⟨by omega, by omega⟩, fun ⟨p, q⟩ => ⟨by omega, by omega⟩⟩
  rw [e1, hf, show (y1 - y0 + 1).toNat = b - a + 1 from by omega, List.map_map]
  congr 1
  funext j
  simp only [Function.comp]
  congr 1
  omega
theorem spanF_eq (x0 x1 y0 y1 : Int) (hx0 : -4 ≤ x0) (hx1 : x1 ≤ 4) (hx : x0 ≤ x1) (hy0 : -4 ≤ y0) (hy1 : y1 ≤ 4) (hy : y0 ≤ y1) : spanF x0 x1 y0 y1 9 = spanR x0 y0 (y1 - y0 + 1).toNat (x1 - x0 + 1).toNat := by
  obtain ⟨a, ha⟩ : ∃ a : Nat, (a : Int) = x0 + 4 := ⟨(x0 + 4).toNat, by omega⟩
  obtain ⟨b, hb⟩ : ∃ b : Nat, (b : Int) = x1 + 4 := ⟨(x1 + 4).toNat, by omega⟩
  have hc := fun x => colF_true x y0 y1 hy0 hy1 hy
  generalize (y1 - y0 + 1).toNat = m at hc ⊢
  rw [show (x1 - x0 + 1).toNat = b - a + 1 from by omega]
  have key : ∀ n, n ≤ 9 → spanF x0 x1 y0 y1 n = spanR x0 y0 m (min n (b + 1) - a) := by
    intro n
    induction n with
    | zero => intro _; simp [spanF, spanR]
    | succ n ih =>
      intro hn
      rw [spanF_succ, ih (by omega)]
      by_cases h1 : n < a
      · rw [decide_eq_false (by omega), colF_false, List.append_nil, show min n (b + 1) - a = 0 from by omega, show min (n + 1) (b + 1) - a = 0 from by omega]
      · by_cases h2 : n ≤ b
        · rw [decide_eq_true (by omega), hc, show min n (b + 1) - a = n - a from by omega, show min (n + 1) (b + 1) - a = (n - a) + 1 from by omega, spanR_succ]
          rw [show x0 + ((n - a : Nat) : Int) = -4 + (n : Int) from by omega]
        · rw [decide_eq_false (by omega), colF_false, List.append_nil, show min n (b + 1) - a = b + 1 - a from by omega, show min (n + 1) (b + 1) - a = b + 1 - a from by omega]
  rw [key 9 (Nat.le_refl _), show min 9 (b + 1) - a = b - a + 1 from by omega]
end Go.Proofs.Ytcohioplkchojaa

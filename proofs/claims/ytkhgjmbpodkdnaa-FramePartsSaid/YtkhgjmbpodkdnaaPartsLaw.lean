/- Plain law: numbers written one behind the other. No condition. -/
import Derived.Test.YtkhgjmbpodkdnaaNums
namespace Go.Proofs.Ytkhgjmbpodkdnaa
def encL (l : List Nat) (s : Nat) : List UInt8 := l.flatMap fun x => beB x s
theorem encL_length (l : List Nat) (s : Nat) : (encL l s).length = l.length * s := by
  induction l with
  | nil => simp [encL]
  | cons x l ih => rw [encL, List.flatMap_cons, List.length_append, beB_length]; rw [encL] at ih; rw [ih, List.length_cons, Nat.succ_mul]; omega
theorem encL_snoc (l : List Nat) (x s : Nat) : encL (l ++ [x]) s = encL l s ++ beB x s := by simp [encL]
theorem encL_take (l : List Nat) (s k : Nat) (h : k < l.length) : encL (l.take (k + 1)) s = encL (l.take k) s ++ beB l[k] s := by
  rw [List.take_succ_eq_append_getElem h, encL_snoc]
theorem encL_mid (a b : List Nat) (x s : Nat) : encL (a ++ x :: b) s = encL a s ++ (beB x s ++ encL b s) := by simp [encL]
theorem encL_at (l : List Nat) (s k : Nat) (h : k < l.length) : ((encL l s).drop (k * s)).take s = beB l[k] s := by
  have e : l.take k ++ (l[k] :: l.drop (k + 1)) = l := by rw [List.getElem_cons_drop, List.take_append_drop]
  have e2 := encL_mid (l.take k) (l.drop (k + 1)) l[k] s
  rw [e] at e2
  have hl : (encL (l.take k) s).length = k * s := by rw [encL_length, List.length_take, Nat.min_eq_left (by omega)]
  rw [e2, List.drop_left' hl, List.take_left' (beB_length _ _)]
theorem pow_ge (s : Nat) (h : 4 ≤ s) : (4294967296 : Nat) ≤ 256 ^ s := by
  have : (256 : Nat) ^ 4 ≤ 256 ^ s := Nat.pow_le_pow_right (by omega) h
  omega
theorem putN_enc (bs : List UInt8) (x s : Nat) (hx : x < 4294967296) (h4 : 4 ≤ s) (h7 : s ≤ 7) : putN bs (x : Int) (s : Int) = bs ++ beB x s := by
  have := pow_ge s h4
  unfold putN
  rw [if_neg]
  · rfl
  · show ¬ (_ ∨ _ ∨ _ ∨ 256 ^ s ≤ x)
    omega
theorem numL_enc (x s : Nat) (hx : x < 4294967296) (h4 : 4 ≤ s) : numL (beB x s) = x := by
  have := pow_ge s h4
  rw [numL_beB, Nat.mod_eq_of_lt (by omega)]
end Go.Proofs.Ytkhgjmbpodkdnaa

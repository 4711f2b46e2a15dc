/- Plain law: numbers as bytes, the highest first. No condition. -/
import Derived.WalkKit
namespace Go.Proofs.Ytkhgjmbpodkdnaa
def beB (n : Nat) : Nat → List UInt8
  | 0 => []
  | s + 1 => beB (n / 256) s ++ [UInt8.ofNat (n % 256)]
def putN (b : List UInt8) (n size : Int) : List UInt8 := if n < 0 ∨ size < 1 ∨ 8 < size ∨ 256 ^ size.toNat ≤ n.toNat then b else b ++ beB n.toNat size.toNat
def numL (l : List UInt8) : Nat := l.foldl (fun n b => n * 256 + b.toNat) 0
def numR (b : List UInt8) (at_ size : Int) : Int × Int :=
  if size < 1 ∨ 7 < size ∨ at_ < 0 then (0, 1) else if (b.length : Int) < at_ ∨ b.length - at_ < size then (0, 14) else (numL ((b.drop at_.toNat).take size.toNat), 0)
theorem numL_snoc (l : List UInt8) (b : UInt8) : numL (l ++ [b]) = numL l * 256 + b.toNat := by simp [numL]
theorem numL_lt (l : List UInt8) : numL l < 256 ^ l.length := by
  suffices h : ∀ (k : Nat) (l : List UInt8), l.length = k → numL l < 256 ^ k from h _ l rfl
  intro k
  induction k with
  | zero => intro l h; obtain rfl := List.eq_nil_of_length_eq_zero h; simp [numL]
  | succ k ih =>
    intro l h
    have hne : l ≠ [] := by rintro rfl; simp at h
    rw [← List.dropLast_concat_getLast hne, numL_snoc]
    have := ih l.dropLast (by simp [h])
    have := (l.getLast hne).toNat_lt
    rw [Nat.pow_succ]; omega
theorem numL_take (l : List UInt8) (k : Nat) (h : k < l.length) : numL (l.take (k + 1)) = numL (l.take k) * 256 + l[k].toNat := by
  rw [List.take_succ_eq_append_getElem h, numL_snoc]
theorem beB_length (n s : Nat) : (beB n s).length = s := by
  induction s generalizing n with
  | zero => rfl
  | succ s ih => simp [beB, ih]
theorem numL_beB (n s : Nat) : numL (beB n s) = n % 256 ^ s := by
  induction s generalizing n with
  | zero => simp [beB, numL, Nat.mod_one]
  | succ s ih =>
    rw [beB, numL_snoc, ih, UInt8.toNat_ofNat']
    have h1 : n % 256 % 2 ^ 8 = n % 256 := by omega
    rw [h1]
    have h2 : (256 : Nat) ^ (s + 1) = 256 * 256 ^ s := by rw [Nat.pow_succ, Nat.mul_comm]
    rw [h2, Nat.mod_mul]
    omega
/-- One byte more: from the number cut to s bytes above byte j + 1 to that above byte j. -/
theorem beB_step (n j s : Nat) : beB (n / 256 ^ j) (s + 1) = beB (n / 256 ^ (j + 1)) s ++ [UInt8.ofNat (n / 256 ^ j % 256)] := by
  rw [beB, Nat.div_div_eq_div_mul, ← Nat.pow_succ]
theorem pow_two56 (j : Nat) : 2 ^ (8 * j) = 256 ^ j := by rw [Nat.pow_mul]
end Go.Proofs.Ytkhgjmbpodkdnaa

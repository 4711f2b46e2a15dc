/- The plain law of CRC-32: four bits at a time by a table is the same as one bit at a time. No condition. -/
import Derived.WalkKit
namespace Go.Proofs.Ytkhgjmbpodkdnaa
def tab (i : Nat) : Nat := [0, 498536548, 997073096, 651767980, 1994146192, 1802195444, 1303535960, 1342533948, 3988292384, 4027552580, 3604390888, 3412177804, 2607071920, 2262029012, 2685067896, 3183342108].getD i 0
def nib (c : Nat) : Nat := (c / 16) ^^^ tab (c % 16)
def byt (c x : Nat) : Nat := nib (nib (c ^^^ x))
def crcF (l : List UInt8) : Nat := l.foldl (fun c b => byt c b.toNat) 4294967295
def bit1 (r b k : Nat) : Nat := (r / 2) ^^^ (if ((b >>> k) ^^^ r) % 2 = 1 then 3988292384 else 0)
def bitsR (r b : Nat) : Nat → Nat
  | 0 => r
  | k + 1 => bit1 (bitsR r b k) b k
def crcR (l : List UInt8) : Nat := l.foldl (fun c b => bitsR c b.toNat 8) 4294967295

theorem tab_lt (i : Nat) : tab i < 4294967296 := by
  unfold tab
  by_cases h : i < 16
  · have : i = 0 ∨ i = 1 ∨ i = 2 ∨ i = 3 ∨ i = 4 ∨ i = 5 ∨ i = 6 ∨ i = 7 ∨ i = 8 ∨ i = 9 ∨ i = 10 ∨ i = 11 ∨ i = 12 ∨ i = 13 ∨ i = 14 ∨ i = 15 := by omega
    rcases this with h | h | h | h | h | h | h | h | h | h | h | h | h | h | h | h <;> subst h <;> decide
  · rw [List.getD_eq_getElem?_getD, List.getElem?_eq_none (by simpa using by omega)]; decide
theorem xor_lt32 {a b : Nat} (ha : a < 4294967296) (hb : b < 4294967296) : a ^^^ b < 4294967296 :=
  Nat.xor_lt_two_pow (n := 32) ha hb
theorem nib_lt {c : Nat} (hc : c < 4294967296) : nib c < 4294967296 := xor_lt32 (by omega) (tab_lt _)
theorem byt_lt {c x : Nat} (hc : c < 4294967296) (hx : x < 256) : byt c x < 4294967296 := nib_lt (nib_lt (xor_lt32 hc (by omega)))
theorem crcF_snoc (l : List UInt8) (b : UInt8) : crcF (l ++ [b]) = byt (crcF l) b.toNat := by simp [crcF]
theorem crcR_snoc (l : List UInt8) (b : UInt8) : crcR (l ++ [b]) = bitsR (crcR l) b.toNat 8 := by simp [crcR]
theorem u8_lt (b : UInt8) : b.toNat < 256 := b.toNat_lt
theorem foldl_lt (l : List UInt8) : ∀ c, c < 4294967296 → l.foldl (fun c b => byt c b.toNat) c < 4294967296 := by
  induction l with
  | nil => intro c h; exact h
  | cons b l ih => intro c h; exact ih _ (byt_lt h (u8_lt b))
theorem crcF_lt (l : List UInt8) : crcF l < 4294967296 := foldl_lt l _ (by omega)
theorem bit1_lt {r b k : Nat} (hr : r < 4294967296) : bit1 r b k < 4294967296 := xor_lt32 (by omega) (by split <;> omega)
theorem bitsR_lt {r b : Nat} (hr : r < 4294967296) (k : Nat) : bitsR r b k < 4294967296 := by
  induction k with
  | zero => exact hr
  | succ k ih => exact bit1_lt ih

def stp (c : Nat) : Nat := (c / 2) ^^^ (if c % 2 = 1 then 3988292384 else 0)
theorem xor_mod2 (a b : Nat) : (a ^^^ b) % 2 = (a % 2 + b % 2) % 2 := by
  have h := Nat.xor_mod_two_pow (a := a) (b := b) (n := 1)
  simp only [Nat.pow_one] at h
  rw [h]
  rcases Nat.mod_two_eq_zero_or_one a with ha | ha <;> rcases Nat.mod_two_eq_zero_or_one b with hb | hb <;> rw [ha, hb] <;> rfl
theorem xor_div2 (a b : Nat) : (a ^^^ b) / 2 = a / 2 ^^^ b / 2 := by
  have := Nat.shiftRight_xor_distrib (a := a) (b := b) (i := 1)
  simpa [Nat.shiftRight_eq_div_pow] using this
theorem xor4 (a b c d : Nat) : (a ^^^ b) ^^^ (c ^^^ d) = (a ^^^ c) ^^^ (b ^^^ d) := by
  rw [Nat.xor_assoc, Nat.xor_assoc, ← Nat.xor_assoc b c d, Nat.xor_comm b c, Nat.xor_assoc c b d]
theorem stp_xor (a b : Nat) : stp (a ^^^ b) = stp a ^^^ stp b := by
  unfold stp
  rw [xor_div2, xor_mod2, xor4]
  congr 1
  rcases Nat.mod_two_eq_zero_or_one a with ha | ha <;> rcases Nat.mod_two_eq_zero_or_one b with hb | hb <;> simp [ha, hb]
theorem stp_two (m : Nat) : stp (2 * m) = m := by
  unfold stp
  rw [if_neg (by omega), Nat.xor_zero]; omega
theorem split16 (c : Nat) : c = (16 * (c / 16)) ^^^ (c % 16) := by
  apply Nat.eq_of_testBit_eq
  intro i
  have h1 : 16 * (c / 16) = (c >>> 4) <<< 4 := by rw [Nat.shiftLeft_eq, Nat.shiftRight_eq_div_pow]; omega
  have h2 : c % 16 = c % 2 ^ 4 := rfl
  rw [Nat.testBit_xor, h1, h2, Nat.testBit_shiftLeft, Nat.testBit_shiftRight, Nat.testBit_mod_two_pow]
  by_cases h : 4 ≤ i
  · have : 4 + (i - 4) = i := by omega
    simp [h, this, show ¬ i < 4 by omega]
  · simp [h, show i < 4 by omega]
theorem stp4_low (r : Nat) (h : r < 16) : stp (stp (stp (stp r))) = tab r := by
  have : r = 0 ∨ r = 1 ∨ r = 2 ∨ r = 3 ∨ r = 4 ∨ r = 5 ∨ r = 6 ∨ r = 7 ∨ r = 8 ∨ r = 9 ∨ r = 10 ∨ r = 11 ∨ r = 12 ∨ r = 13 ∨ r = 14 ∨ r = 15 := by omega
  rcases this with h | h | h | h | h | h | h | h | h | h | h | h | h | h | h | h <;> subst h <;> decide
theorem stp4 (c : Nat) : stp (stp (stp (stp c))) = nib c := by
  conv => lhs; rw [split16 c]
  have h16 : 16 * (c / 16) = 2 * (2 * (2 * (2 * (c / 16)))) := by omega
  rw [stp_xor, stp_xor, stp_xor, stp_xor, stp4_low _ (Nat.mod_lt _ (by omega)), h16, stp_two, stp_two, stp_two, stp_two]
  rfl
def stps (c : Nat) : Nat → Nat
  | 0 => c
  | k + 1 => stp (stps c k)
theorem bitsR_stps (r b k : Nat) : bitsR r b k ^^^ (b >>> k) = stps (r ^^^ b) k := by
  induction k with
  | zero => rfl
  | succ k ih =>
    show bit1 (bitsR r b k) b k ^^^ _ = stp _
    rw [← ih]
    unfold bit1 stp
    rw [xor_div2, Nat.xor_comm (bitsR r b k) (b >>> k), Nat.shiftRight_succ]
    generalize (b >>> k) ^^^ bitsR r b k = m
    rw [Nat.xor_assoc, Nat.xor_assoc, Nat.xor_comm (b >>> k / 2)]
theorem byt_eq {c x : Nat} (hx : x < 256) : byt c x = bitsR c x 8 := by
  have h := bitsR_stps c x 8
  have h0 : x >>> 8 = 0 := by rw [Nat.shiftRight_eq_div_pow]; omega
  rw [h0, Nat.xor_zero] at h
  rw [h]
  unfold byt
  rw [← stp4, ← stp4]
  rfl
theorem crc_eq (l : List UInt8) : crcF l = crcR l := by
  unfold crcF crcR
  congr 1
  funext c b
  exact byt_eq (u8_lt b)
theorem crcF_take (l : List UInt8) (k : Nat) (h : k < l.length) : crcF (l.take (k + 1)) = byt (crcF (l.take k)) l[k].toNat := by
  rw [List.take_succ_eq_append_getElem h, crcF_snoc]
theorem crcR_take (l : List UInt8) (k : Nat) (h : k < l.length) : crcR (l.take (k + 1)) = bitsR (crcR (l.take k)) l[k].toNat 8 := by
  rw [List.take_succ_eq_append_getElem h, crcR_snoc]
end Go.Proofs.Ytkhgjmbpodkdnaa

/- Plain law: a sector of which one byte is another one is told. No condition. -/
import Derived.Test.YtkhgjmbpodkdnaaBackLaw
namespace Go.Proofs.Ytkhgjmbpodkdnaa
theorem numL_inj : ∀ (n : Nat) (a b : List UInt8), a.length = n → b.length = n → numL a = numL b → a = b := by
  intro n
  induction n with
  | zero => intro a b ha hb _; rw [List.eq_nil_of_length_eq_zero ha, List.eq_nil_of_length_eq_zero hb]
  | succ n ih =>
    intro a b ha hb h
    have hna : a ≠ [] := by rintro rfl; simp at ha
    have hnb : b ≠ [] := by rintro rfl; simp at hb
    rw [← List.dropLast_concat_getLast hna, ← List.dropLast_concat_getLast hnb, numL_snoc, numL_snoc] at h
    have h1 := (a.getLast hna).toNat_lt
    have h2 := (b.getLast hnb).toNat_lt
    have e1 : numL a.dropLast = numL b.dropLast := by omega
    have e2 : (a.getLast hna).toNat = (b.getLast hnb).toNat := by omega
    have := ih a.dropLast b.dropLast (by simp [ha]) (by simp [hb]) e1
    rw [← List.dropLast_concat_getLast hna, ← List.dropLast_concat_getLast hnb, this, UInt8.toNat_inj.1 e2]
theorem set_ne (l : List UInt8) (i : Nat) (y : UInt8) (h : i < l.length) (hne : y ≠ l[i]) : l.set i y ≠ l := by
  intro hh
  have : (l.set i y)[i]'(by simpa using h) = l[i] := by simp only [hh]
  rw [List.getElem_set_self] at this
  exact hne this
theorem open_bits (b : UInt8) (d : List UInt8) (h2 : d.length ≤ 505) (i : Nat) (y : UInt8) (hi : i < 512) (hne : y ≠ (sealB b d).getD i 0) :
    openE ((sealB b d).set i y) = 13 ∧ openD ((sealB b d).set i y) = [] := by
  have hl := sealB_length b d h2
  have hs : numL ((sealB b d).take 4) = crcS ((sealB b d).drop 4) := by
    rw [seal_take4, seal_drop4, numL_beB, Nat.mod_eq_of_lt (crcS_lt _)]
  generalize sealB b d = l at hl hs hne ⊢
  have hil : i < l.length := by omega
  rw [List.getD_eq_getElem?_getD, List.getElem?_eq_getElem hil] at hne
  have hne' : y ≠ l[i] := hne
  have hE : openE (l.set i y) = 13 := by
    refine openE_sum (by rw [List.length_set, hl]) ?_
    by_cases h4 : i < 4
    · rw [List.drop_set_of_lt h4, ← hs, List.take_set]
      intro hh
      have hlt : i < (l.take 4).length := by rw [List.length_take]; omega
      exact set_ne (l.take 4) i y hlt (by rw [List.getElem_take]; exact hne') (numL_inj 4 _ _ (by rw [List.length_set, List.length_take]; omega) (by rw [List.length_take]; omega) hh)
    · have ht : (l.set i y).take 4 = l.take 4 := by rw [List.take_set, List.set_eq_of_length_le (by rw [List.length_take]; omega)]
      rw [ht, hs, List.drop_set, if_neg h4]
      intro hh
      exact crcS_set (l.drop 4) (i - 4) y (by rw [List.length_drop]; omega) (by simp only [List.getElem_drop, show 4 + (i - 4) = i by omega]; exact hne') hh.symm
  refine ⟨hE, ?_⟩
  unfold openD
  rw [if_neg (by rw [hE]; omega)]
theorem xor_bit_ne (x m : Nat) : x ^^^ 2 ^ m ≠ x := by
  intro h
  have h2 : (x ^^^ 2 ^ m) ^^^ x = x ^^^ x := by rw [h]
  rw [Nat.xor_comm x, Nat.xor_assoc, Nat.xor_self, Nat.xor_zero] at h2
  have := Nat.two_pow_pos m
  omega
end Go.Proofs.Ytkhgjmbpodkdnaa

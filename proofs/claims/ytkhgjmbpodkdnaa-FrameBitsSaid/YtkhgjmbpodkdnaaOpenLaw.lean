/- Plain law: what was sealed in a sector. No condition. -/
import Derived.Test.YtkhgjmbpodkdnaaSealLaw
import Derived.Test.YtkhgjmbpodkdnaaIdx
namespace Go.Proofs.Ytkhgjmbpodkdnaa
def lenAt (b : List UInt8) : Nat := (b.getD 5 0).toNat * 256 + (b.getD 6 0).toNat
def openE (b : List UInt8) : Int :=
  if b.length ≠ 512 then 14 else if numL (b.take 4) ≠ crcS (b.drop 4) then 13 else if (b.getD 4 0).toNat = 0 ∨ 505 < lenAt b ∨ nz (b.drop (7 + lenAt b)) = true then 11 else 0
def openK (b : List UInt8) : Nat := if openE b = 0 then (b.getD 4 0).toNat else 0
def openD (b : List UInt8) : List UInt8 := if openE b = 0 then (b.drop 7).take (lenAt b) else []
theorem openE_short {b : List UInt8} (h : b.length ≠ 512) : openE b = 14 := by unfold openE; rw [if_pos h]
theorem openE_sum {b : List UInt8} (h : b.length = 512) (h2 : numL (b.take 4) ≠ crcS (b.drop 4)) : openE b = 13 := by unfold openE; rw [if_neg (by omega), if_pos h2]
theorem openE_text {b : List UInt8} (h : b.length = 512) (h2 : numL (b.take 4) = crcS (b.drop 4)) (h3 : (b.getD 4 0).toNat = 0 ∨ 505 < lenAt b ∨ nz (b.drop (7 + lenAt b)) = true) : openE b = 11 := by
  unfold openE; rw [if_neg (by omega), if_neg (by omega), if_pos h3]
theorem openE_ok {b : List UInt8} (h : b.length = 512) (h2 : numL (b.take 4) = crcS (b.drop 4)) (h3 : ¬ ((b.getD 4 0).toNat = 0 ∨ 505 < lenAt b ∨ nz (b.drop (7 + lenAt b)) = true)) : openE b = 0 := by
  unfold openE; rw [if_neg (by omega), if_neg (by omega), if_neg h3]
theorem num_two (b : List UInt8) (h : b.length = 512) : numL ((b.drop 5).take 2) = lenAt b := by
  have e : (b.drop 5).take 2 = [b.getD 5 0, b.getD 6 0] := by
    apply List.ext_getElem
    · simp; omega
    · intro i h1 h2
      have hi : i = 0 ∨ i = 1 := by simp at h2; omega
      rcases hi with rfl | rfl
      · simp [List.getD_eq_getElem?_getD, List.getElem?_eq_getElem (show 5 < b.length by omega)]
      · simp [List.getD_eq_getElem?_getD, List.getElem?_eq_getElem (show 6 < b.length by omega)]
  rw [e]
  simp [numL, lenAt]
end Go.Proofs.Ytkhgjmbpodkdnaa

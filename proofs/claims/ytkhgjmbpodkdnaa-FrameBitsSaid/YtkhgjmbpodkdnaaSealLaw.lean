/- Plain law: which sector data are in. No condition. -/
import Derived.Test.YtkhgjmbpodkdnaaNums
import Derived.Test.YtkhgjmbpodkdnaaCrc
namespace Go.Proofs.Ytkhgjmbpodkdnaa
def restB (b : UInt8) (data : List UInt8) : List UInt8 := [b] ++ beB data.length 2 ++ data ++ List.replicate (505 - data.length) 0
def crcS (l : List UInt8) : Nat := 4294967295 - crcF l
def sealB (b : UInt8) (data : List UInt8) : List UInt8 := beB (crcS (restB b data)) 4 ++ restB b data
def sealE (kind : Int) (data : List UInt8) : Int := if kind < 1 ∨ 255 < kind then 1 else if 505 < data.length then 12 else 0
def sealL (kind : Int) (data : List UInt8) : List UInt8 := if kind < 1 ∨ 255 < kind then [] else if 505 < data.length then [] else sealB (UInt8.ofNat kind.toNat) data
theorem restB_length (b : UInt8) (data : List UInt8) (h : data.length ≤ 505) : (restB b data).length = 508 := by
  simp only [restB, List.length_append, List.length_cons, List.length_nil, beB_length, List.length_replicate]; omega
theorem sealB_length (b : UInt8) (data : List UInt8) (h : data.length ≤ 505) : (sealB b data).length = 512 := by
  simp only [sealB, List.length_append, beB_length, restB_length b data h]
theorem crcS_lt (l : List UInt8) : crcS l < 256 ^ 4 := by
  have : (256 : Nat) ^ 4 = 4294967296 := by decide
  unfold crcS
  omega
theorem putN_two (b : UInt8) (n : Nat) (h : n ≤ 505) : putN [b] (n : Int) 2 = [b] ++ beB n 2 := by
  unfold putN
  rw [if_neg]
  · rfl
  · have : (256 : Nat) ^ (2 : Int).toNat = 65536 := by decide
    rw [this]; omega
theorem putN_sum (l : List UInt8) : putN [] (crcS l : Nat) 4 = beB (crcS l) 4 := by
  have h := crcS_lt l
  unfold putN
  rw [if_neg]
  · rfl
  · have : (256 : Nat) ^ (4 : Int).toNat = 256 ^ 4 := rfl
    rw [this]; omega
theorem sealE_arg {kind : Int} {data : List UInt8} (h : kind < 1 ∨ 255 < kind) : sealE kind data = 1 ∧ sealL kind data = [] := by unfold sealE sealL; rw [if_pos h, if_pos h]; exact ⟨rfl, rfl⟩
theorem sealE_large {kind : Int} {data : List UInt8} (h : ¬ (kind < 1 ∨ 255 < kind)) (h2 : 505 < data.length) : sealE kind data = 12 ∧ sealL kind data = [] := by unfold sealE sealL; rw [if_neg h, if_neg h, if_pos h2, if_pos h2]; exact ⟨rfl, rfl⟩
theorem sealE_ok {b : UInt8} {data : List UInt8} (h : 1 ≤ b.toNat) (h2 : data.length ≤ 505) : sealE (b.toNat : Int) data = 0 ∧ sealL (b.toNat : Int) data = sealB b data := by
  have := b.toNat_lt
  have e : UInt8.ofNat ((b.toNat : Nat) : Int).toNat = b := by simp
  unfold sealE sealL; rw [if_neg (by omega), if_neg (by omega), if_neg (by omega), if_neg (by omega), e]; exact ⟨rfl, rfl⟩
end Go.Proofs.Ytkhgjmbpodkdnaa

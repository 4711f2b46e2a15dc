/- FrameBack: the walk: true, and older memory is as it was. -/
import Derived.Test.YtkhgjmbpodkdnaaAns13
import Derived.Test.YtkhgjmbpodkdnaaOpen2
import Derived.Test.YtkhgjmbpodkdnaaSeal
import Derived.Test.YtkhgjmbpodkdnaaBackLaw
import Derived.Test.YtkhgjmbpodkdnaaStr
namespace Go.Proofs.Ytkhgjmbpodkdnaa
open Go.RowKit
theorem putN_no {xs : List UInt8} {v s : Int} (h : v < 0 ∨ s < 1 ∨ 8 < s ∨ 256 ^ s.toNat ≤ v.toNat) : putN xs v s = xs := by unfold putN; rw [if_pos h]
theorem putN_yes {xs : List UInt8} {v s : Int} (h : ¬ (v < 0 ∨ s < 1 ∨ 8 < s ∨ 256 ^ s.toNat ≤ v.toNat)) : putN xs v s = xs ++ beB v.toNat s.toNat := by unfold putN; rw [if_neg h]
theorem num_back (xs : List UInt8) (v s : Nat) (h1 : 1 ≤ s) (h7 : s ≤ 7) (hv : v < 256 ^ s) : numR (xs ++ beB v s) (xs.length : Nat) (s : Nat) = ((v : Int), 0) := by
  rw [numR_ok h1 h7 (by rw [List.length_append, beB_length]; omega), List.drop_left, List.take_of_length_le (by rw [beB_length]; omega), numL_beB, Nat.mod_eq_of_lt hv]
/-- The seal's answer: it is none, or it is a sector that is opened. -/
theorem seal_cases (kind : Int) (xs : List UInt8) : (sealE kind xs ≠ 0) ∨ (∃ b : UInt8, kind = (b.toNat : Int) ∧ sealE kind xs = 0 ∧ sealL kind xs = sealB b xs ∧ 1 ≤ b.toNat ∧ xs.length ≤ 505) := by
  by_cases h1 : kind < 1 ∨ 255 < kind
  · left; rw [(sealE_arg h1).1]; omega
  by_cases h2 : 505 < xs.length
  · left; rw [(sealE_large h1 h2).1]; omega
  · right
    obtain ⟨k, rfl⟩ := Int.eq_ofNat_of_zero_le (a := kind) (by omega)
    have e : k = (UInt8.ofNat k).toNat := by rw [UInt8.toNat_ofNat']; omega
    refine ⟨UInt8.ofNat k, congrArg Nat.cast e, ?_⟩
    have := sealE_ok (b := UInt8.ofNat k) (data := xs) (by omega) (by omega)
    rw [← e] at this
    exact ⟨this.1, this.2, by omega, by omega⟩
set_option maxRecDepth 100000 in
set_option maxHeartbeats 1600000 in
theorem back_any (xs : List UInt8) (A : Option Addr) (n cap : Nat) (kind v size : Int) (w : World) (hr : Reads w w.heap.size 1 A n (u8s xs)) (hn : n ≤ 140737488351232) (hv : v ≤ 9223372036854775807)
    (hs1 : -9223372036854775808 ≤ size) (hs2 : size ≤ 9223372036854775807) :
    Calls Try.prog 9 #[.int .i64 kind, .slice A n cap, .int .i64 v, .int .i64 size] w fun e w' => e = .returned (.bool true) ∧ Below w.heap.size w w' := by
  have hl := hr.len8
  obtain rfl : n = xs.length := hl.symm
  clear hl
  go_enter Try.func9, Try.ntmps9
  go_wp2_with fail
  refine (own8_any xs _ _ _ _ hr hn).mono ?_
  rintro e w1 ⟨A1, c1, rfl, ho1, hb1⟩
  have hr1 := hr.on hb1
  go_wp2_with fail
  refine (seal_any xs _ _ _ kind _ (Reads.of_own ho1)).mono ?_
  rintro e w2 ⟨A2, c2, rfl, ho2, hb2⟩
  have hr2 := hr1.on hb2
  have hB2 := below_on hb1 (Nat.le_refl _) hb2
  clear ho1 hr1
  go_wp2_with fail
  refine (ans13_any _).mono ?_
  rintro e w3 ⟨rfl, hb3⟩
  have hr3 := hr2.on hb3
  have hx3 := (Reads.of_own ho2).on hb3
  have hcap := own_cap ho2
  have hB3 := below_on hB2 (Nat.le_refl _) hb3
  clear ho2 hr2 hB2 hb1 hb2 hb3 hr
  have hcases : (sealE kind xs ≠ 0) ∨ (∃ b : UInt8, kind = (b.toNat : Int) ∧ sealE kind xs = 0 ∧ sealL kind xs = sealB b xs ∧ 1 ≤ b.toNat ∧ xs.length ≤ 505) := seal_cases kind xs
  rcases hcases with hE | ⟨b, hkb, hE, hLb, hb1, h505⟩
  · have hE0 : (sealE kind xs == 0) = false := by simpa using hE
    clear hE hx3 hcap
    have hr4 := hr3
    have hB4 := hB3
    clear hr3 hB3
    go_wp2_with fail
    refine (own8_any xs _ _ _ _ hr4 hn).mono ?_
    rintro e w5 ⟨A5, c5, rfl, ho5, hb5⟩
    have hB5 := below_on hB4 (Nat.le_refl _) hb5
    have hx5 := Reads.of_own ho5
    clear ho5 hb5 hr4 hB4
    go_wp2_with fail
    refine (putNum_any xs _ _ _ v size _ hx5 (by omega) hv).mono ?_
    rintro e w6 ⟨A6, c6, rfl, ho6, hb6⟩
    have hB6 := below_on hB5 (Nat.le_refl _) hb6
    clear hb6 hx5 hB5
    by_cases hno : v < 0 ∨ size < 1 ∨ 8 < size ∨ 256 ^ size.toNat ≤ v.toNat
    · have hp := putN_no (xs := xs) hno
      rw [hp]
      clear ho6 hp
      have hself : ((xs.length : Int) == (xs.length : Int)) = true := by simp
      have h3 : size = 0 ∨ (size < 0) ∨ (1 ≤ size ∧ size ≤ 8) ∨ 8 < size := by omega
      clear hno
      rcases h3 with rfl | h3 | ⟨h3, h4⟩ | h3
      · go_wp2
        all_goals (go_ret; exact ⟨rfl, hB6⟩)
      · have hd : ((xs.length : Int) != (xs.length : Int) + size) = true := by simp; omega
        go_wp2
        all_goals (go_ret; exact ⟨rfl, hB6⟩)
      · have hd : ((xs.length : Int) != (xs.length : Int) + size) = true := by simp; omega
        go_wp2
        all_goals (go_ret; first | exact ⟨rfl, hB6⟩ | exact ⟨by simp, hB6⟩)
      · have hd : ((xs.length : Int) != wrap64 ((xs.length : Int) + size)) = true := by unfold wrap64; simp; omega
        go_wp2
        all_goals (go_ret; first | exact ⟨rfl, hB6⟩ | exact ⟨by simp, hB6⟩)
    · have hp := putN_yes (xs := xs) hno
      obtain ⟨z, rfl⟩ := Int.eq_ofNat_of_zero_le (a := v) (by omega)
      obtain ⟨s, rfl⟩ := Int.eq_ofNat_of_zero_le (a := size) (by omega)
      have hz : z < 256 ^ s := by
        rcases Nat.lt_or_ge z (256 ^ s) with h | h
        · exact h
        · exact absurd (.inr (.inr (.inr h))) hno
      rw [show ((z : Int)).toNat = z from rfl, show ((s : Int)).toNat = s from rfl] at hp
      have hlp : (putN xs z s).length = xs.length + s := by rw [hp, List.length_append, beB_length]
      have hs8 : 1 ≤ s ∧ s ≤ 8 := by omega
      rw [hlp]
      rw [hlp, hp] at ho6
      clear hno hp hlp
      have hd : (((xs.length + s : Nat) : Int) != (xs.length : Int) + (s : Int)) = false := by simp
      have hd' : ((xs.length : Int) + (s : Int) != (xs.length : Int) + (s : Int)) = false := by simp
      by_cases h7 : s = 8
      · have h71 : (7 : Int) < (s : Int) := by omega
        clear h7
        go_wp2
        go_ret
        exact ⟨by simp, hB6⟩
      · have h72 : (s : Int) ≤ 7 := by omega
        have hcap6 := own_cap ho6
        have HV := Lib.hid (num_back xs z s hs8.1 (by omega) hz)
        clear h7 hz
        go_wp2_with fail
        refine (num_any _ _ _ _ _ _ _ (Reads.of_own ho6) hcap6.1 hcap6.2 (by omega) (by omega)).mono ?_
        rintro e w7 ⟨rfl, rfl⟩
        rw [HV.out]
        go_wp2
        go_ret
        exact ⟨rfl, hB6⟩
  · obtain ⟨hoE, hoK, hoD⟩ := open_seal b xs hb1 h505
    rw [hLb, sealB_length b xs h505] at hx3 hcap ⊢
    rw [hE]
    have HK := Lib.hid hoK
    have HE := Lib.hid hoE
    have HD := Lib.hid hoD
    have HKB := Lib.hid hkb
    clear hoE hoK hoD hE hLb hkb
    go_wp2_with fail
    refine (open_any (sealB b xs) _ _ _ _ hx3 hcap.1 hcap.2).mono ?_
    rintro e w4 ⟨A4, c4, rfl, ho4, hb4⟩
    rw [HK.out, HE.out, HD.out] at *
    have hne : ((b.toNat : Int) != kind) = false := by rw [HKB.out]; simp
    have hr4 := hr3.on hb4
    have hB4 := below_on hB3 (Nat.le_refl _) hb4
    have sx := run_str (c := c4) (Reads.of_own ho4)
    have sy := run_str (c := cap) hr4
    clear ho4 hr3 hB3 hb4 hx3 hcap HK HE HD HKB
    go_wp2_with fail
    clear sx sy hne
    refine (own8_any xs _ _ _ _ hr4 hn).mono ?_
    rintro e w5 ⟨A5, c5, rfl, ho5, hb5⟩
    have hB5 := below_on hB4 (Nat.le_refl _) hb5
    have hx5 := Reads.of_own ho5
    clear ho5 hb5 hr4 hB4
    go_wp2_with fail
    refine (putNum_any xs _ _ _ v size _ hx5 (by omega) hv).mono ?_
    rintro e w6 ⟨A6, c6, rfl, ho6, hb6⟩
    have hB6 := below_on hB5 (Nat.le_refl _) hb6
    clear hb6 hx5 hB5
    by_cases hno : v < 0 ∨ size < 1 ∨ 8 < size ∨ 256 ^ size.toNat ≤ v.toNat
    · have hp := putN_no (xs := xs) hno
      rw [hp]
      clear ho6 hp
      have hself : ((xs.length : Int) == (xs.length : Int)) = true := by simp
      have h3 : size = 0 ∨ (size < 0) ∨ (1 ≤ size ∧ size ≤ 8) ∨ 8 < size := by omega
      clear hno
      rcases h3 with rfl | h3 | ⟨h3, h4⟩ | h3
      · go_wp2
        all_goals (go_ret; exact ⟨rfl, hB6⟩)
      · have hd : ((xs.length : Int) != (xs.length : Int) + size) = true := by simp; omega
        go_wp2
        all_goals (go_ret; exact ⟨rfl, hB6⟩)
      · have hd : ((xs.length : Int) != (xs.length : Int) + size) = true := by simp; omega
        go_wp2
        all_goals (go_ret; first | exact ⟨rfl, hB6⟩ | exact ⟨by simp, hB6⟩)
      · have hd : ((xs.length : Int) != wrap64 ((xs.length : Int) + size)) = true := by unfold wrap64; simp; omega
        go_wp2
        all_goals (go_ret; first | exact ⟨rfl, hB6⟩ | exact ⟨by simp, hB6⟩)
    · have hp := putN_yes (xs := xs) hno
      obtain ⟨z, rfl⟩ := Int.eq_ofNat_of_zero_le (a := v) (by omega)
      obtain ⟨s, rfl⟩ := Int.eq_ofNat_of_zero_le (a := size) (by omega)
      have hz : z < 256 ^ s := by
        rcases Nat.lt_or_ge z (256 ^ s) with h | h
        · exact h
        · exact absurd (.inr (.inr (.inr h))) hno
      rw [show ((z : Int)).toNat = z from rfl, show ((s : Int)).toNat = s from rfl] at hp
      have hlp : (putN xs z s).length = xs.length + s := by rw [hp, List.length_append, beB_length]
      have hs8 : 1 ≤ s ∧ s ≤ 8 := by omega
      rw [hlp]
      rw [hlp, hp] at ho6
      clear hno hp hlp
      have hd : (((xs.length + s : Nat) : Int) != (xs.length : Int) + (s : Int)) = false := by simp
      have hd' : ((xs.length : Int) + (s : Int) != (xs.length : Int) + (s : Int)) = false := by simp
      by_cases h7 : s = 8
      · have h71 : (7 : Int) < (s : Int) := by omega
        clear h7
        go_wp2
        go_ret
        exact ⟨by simp, hB6⟩
      · have h72 : (s : Int) ≤ 7 := by omega
        have hcap6 := own_cap ho6
        have HV := Lib.hid (num_back xs z s hs8.1 (by omega) hz)
        clear h7 hz
        go_wp2_with fail
        refine (num_any _ _ _ _ _ _ _ (Reads.of_own ho6) hcap6.1 hcap6.2 (by omega) (by omega)).mono ?_
        rintro e w7 ⟨rfl, rfl⟩
        rw [HV.out]
        go_wp2
        go_ret
        exact ⟨rfl, hB6⟩
end Go.Proofs.Ytkhgjmbpodkdnaa

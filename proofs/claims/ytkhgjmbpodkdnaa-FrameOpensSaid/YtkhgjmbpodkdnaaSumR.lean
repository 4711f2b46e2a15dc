/- merestoneref01.Sum: the walk: the CRC-32 of the bytes, a bit at a time. -/
import Derived.Test.YtkhgjmbpodkdnaaBase
import Derived.Test.YtkhgjmbpodkdnaaRows
import Derived.Test.YtkhgjmbpodkdnaaSum
namespace Go.Proofs.Ytkhgjmbpodkdnaa
open Go.RowKit

set_option maxHeartbeats 400000 in
theorem sumR_any (xs : List UInt8) (A : Option Addr) (n cap : Nat) (w : World) (hr : Reads w w.heap.size 1 A n (u8s xs)) (hn : n ≤ 9223372036854775807) :
    Calls Try.prog 14 #[.slice A n cap] w fun e w' => e = .returned (.int .u32 (crcS xs : Nat)) ∧ w = w' := by
  have hl := hr.len8
  go_enter Try.func14, Try.ntmps14
  go_wp2
  go_loop [3, 4] (fun c i => ∃ (k cc : Nat), k ≤ n ∧ cc < 4294967296 ∧ Hid (cc = crcR (xs.take k)) ∧ i = .int .i64 k ∧ c = .int .u32 (cc : Int)) (fun _ i => n - (intOf i).toNat)
  case atStart => exact ⟨0, 4294967295, Nat.zero_le _, by omega, rfl, rfl, rfl⟩
  case round =>
    obtain ⟨k, cc, hk, hc, hcc, rfl, rfl⟩ := hrel
    by_cases hlt : k < n
    · obtain ⟨ad, rfl, hb, hkl, hcell⟩ := hr.byte hlt
      have hts := Lib.hid (crcR_take xs k hkl)
      obtain ⟨x, hx⟩ : ∃ x : Nat, x = (xs[k]'hkl).toNat := ⟨_, rfl⟩
      have hxb : x < 256 := by rw [hx]; exact u8_lt _
      rw [← hx] at hcell
      have HX := Lib.hid hx
      clear hx hr
      have e0 : (x : Int) % 4294967296 = (x : Int) := by omega
      go_wp2
      go_loop [3, 5] (fun c i => ∃ (j rr : Nat), j ≤ 8 ∧ rr < 4294967296 ∧ Hid (rr = bitsR cc x j) ∧ i = .int .i64 j ∧ c = .int .u32 (rr : Int)) (fun _ i => 8 - (intOf i).toNat)
      case atStart => exact ⟨0, cc, by omega, hc, rfl, rfl, rfl⟩
      case round =>
        obtain ⟨j, rr, hj, hr1, hrr, rfl, rfl⟩ := hrel
        by_cases hj8 : j < 8
        · have hlt2 := Lib.hid (bit1_lt (b := x) (k := j) hr1)
          obtain ⟨s, s1, s2, s3⟩ : ∃ s, s < 4294967296 ∧ Hid (s = x >>> j) ∧ (x : Int) / 2 ^ j = (s : Int) := by
            refine ⟨x / 2 ^ j, ?_, ?_, ?_⟩
            · have := Nat.div_le_self x (2 ^ j); omega
            · exact (Nat.shiftRight_eq_div_pow x j).symm
            · simp
          obtain ⟨b, b1, b2, b3⟩ := xor32_nat s rr s1 hr1
          obtain ⟨h, h1, h2, h3⟩ : ∃ h, h < 4294967296 ∧ Hid (h = rr / 2) ∧ (rr : Int) / 2 = (h : Int) := ⟨rr / 2, by omega, rfl, by omega⟩
          obtain ⟨g, g1, g2, g30⟩ := xor32_nat h 3988292384 h1 (by omega)
          have g3 : bits .xor .u32 (h : Int) 3988292384 = (g : Int) := g30
          clear g30
          have f := u32_and_nat b 1 b1 (by omega)
          rw [nat_mask1] at f
          have key : bit1 rr x j = h ^^^ (if b % 2 = 1 then 3988292384 else 0) := by unfold bit1; rw [← s2.out, ← b2.out, ← h2.out]
          by_cases hb2 : b % 2 = 1
          · rw [hb2] at f
            have f' : bits .and .u32 (b : Int) 1 = 1 := f
            rw [if_pos hb2] at key
            have KEY := Lib.hid key
            clear f key hb2
            go_wp2
            go_round
            case rel => exact ⟨j + 1, g, by omega, g1, by show g = bit1 _ x j; rw [← hrr.out, KEY.out]; exact g2.out, by go_num, rfl⟩
            case measure => simp [intOf]; omega
          · have hb0 : b % 2 = 0 := by omega
            rw [hb0] at f
            have f' : bits .and .u32 (b : Int) 1 = 0 := f
            rw [if_neg hb2, Nat.xor_zero] at key
            have KEY := Lib.hid key
            clear f key hb2 hb0 g3 g2
            go_wp2
            go_round
            case rel => exact ⟨j + 1, h, by omega, h1, by show h = bit1 _ x j; rw [← hrr.out, KEY.out], by go_num, rfl⟩
            case measure => simp [intOf]; omega
        · have HJ : Hid (j = 8) := by show j = 8; omega
          go_wp2
          go_round
          case rel => exact ⟨k + 1, rr, by omega, hr1, by
            have H := hts.out
            rw [← HX.out, ← hcc.out] at H
            show rr = _
            rw [H, hrr.out, HJ.out], by go_num, rfl⟩
          case measure => simp [intOf]; omega
    · go_wp2
      go_ret
      refine ⟨?_, rfl⟩
      have : k = n := by omega
      subst this
      have H := hcc.out
      rw [List.take_of_length_le (by omega), ← crc_eq] at H
      have e1 : (4294967295 - (cc : Int)) = ((4294967295 - cc : Nat) : Int) := by omega
      show Ending.returned (.int .u32 (4294967295 - (cc : Int))) = _
      rw [e1, H]
      rfl
end Go.Proofs.Ytkhgjmbpodkdnaa

/- FrameBits: the walk: true, and older memory is as it was. -/
import Derived.Test.YtkhgjmbpodkdnaaLawBack
import Derived.Test.YtkhgjmbpodkdnaaBitsLaw
namespace Go.Proofs.Ytkhgjmbpodkdnaa
open Go.RowKit
theorem u8s_set (l : List UInt8) (i : Nat) (y : UInt8) : (u8s l).set i (.int .u8 (y.toNat : Int)) = u8s (l.set i y) := by simp [u8s, List.map_set]
set_option maxRecDepth 100000 in
set_option maxHeartbeats 1600000 in
theorem bits_any (xs : List UInt8) (A : Option Addr) (n cap : Nat) (kind bit : Int) (w : World) (hr : Reads w w.heap.size 1 A n (u8s xs)) (hn : n ≤ 140737488351232) (hb0 : 0 ≤ bit) (hb1 : bit ≤ 65535) :
    Calls Try.prog 10 #[.int .i64 kind, .slice A n cap, .int .u16 bit] w fun e w' => e = .returned (.bool true) ∧ Below w.heap.size w w' := by
  have hl := hr.len8
  obtain rfl : n = xs.length := hl.symm
  clear hl
  obtain ⟨z, rfl⟩ := Int.eq_ofNat_of_zero_le hb0
  go_enter Try.func10, Try.ntmps10
  go_wp2_with fail
  refine (own8_any xs _ _ _ _ hr hn).mono ?_
  rintro e w1 ⟨A1, c1, rfl, ho1, hb1⟩
  go_wp2_with fail
  refine (seal_any xs _ _ _ kind _ (Reads.of_own ho1)).mono ?_
  rintro e w2 ⟨A2, c2, rfl, ho2, hb2⟩
  have hB2 := below_on hb1 (Nat.le_refl _) hb2
  have ho2' := own_mono ho2 hb1.size
  clear ho1 ho2
  go_wp2_with fail
  refine (ans13_any _).mono ?_
  rintro e w3 ⟨rfl, hb3⟩
  have hB3 := below_on hB2 (Nat.le_refl _) hb3
  have ho3 : w3.ownsRow w.heap.size 5 1 (.slice A2 (sealL kind xs).length c2) (sealL kind xs).length (u8s (sealL kind xs)) := by
    refine ⟨ho2'.1, ?_⟩
    rcases ho2'.2 with h0 | ⟨g, cc, cur, h1, h2, h3, h4⟩
    · exact .inl h0
    · exact .inr ⟨g, cc, cur, h1, h2, (hb3.block g (Array.getElem?_eq_some_iff.1 h3).1).trans h3, h4⟩
  clear ho2' hB2 hb2 hb3 hb1 hr
  rcases seal_cases kind xs with hE | ⟨b, hkb, hE, hLb, hb1', h505⟩
  · have hE0 : (sealE kind xs != 0) = true := by simpa using hE
    clear hE ho3
    go_wp2_with fail
    refine (ans13_any _).mono ?_
    rintro e w4 ⟨rfl, hb4⟩
    go_wp2
    go_ret
    exact ⟨rfl, below_on hB3 (Nat.le_refl _) hb4⟩
  · have hlen := sealB_length b xs h505
    rw [hLb, hlen] at ho3 ⊢
    rw [hE]
    have HKB := Lib.hid hkb
    clear hE hLb hkb hb1'
    obtain ⟨g, rfl, hg1, hg2⟩ := own_some ho3 (by omega)
    obtain ⟨k, hk⟩ : ∃ k, k = z % 4096 := ⟨_, rfl⟩
    have hk1 : (z : Int) % 4096 = (k : Int) := by omega
    have hk2 : k < 4096 := by omega
    obtain ⟨i, hi⟩ : ∃ i, i = k / 8 := ⟨_, rfl⟩
    have hi1 : (k : Int) / 8 = (i : Int) := by omega
    have hi2 : i < 512 := by omega
    obtain ⟨m, hm⟩ : ∃ m, m = k % 8 := ⟨_, rfl⟩
    have hm1 : (k : Int) % 8 = (m : Int) := by omega
    have hm2 : m < 8 := by omega
    obtain ⟨x, hx⟩ : ∃ x : Nat, x = ((sealB b xs).getD i 0).toNat := ⟨_, rfl⟩
    have hxb : x < 256 := by rw [hx]; exact UInt8.toNat_lt _
    have hcell : w3.cell? ⟨g, i, none⟩ = some (.int .u8 (x : Int)) := by
      rw [ho3.cellAt i (by omega), hx]
      simp [u8s, List.getD_eq_getElem?_getD, List.getElem?_eq_getElem (show i < (sealB b xs).length by omega)]
    have hfr := ho3.frozenAt i
    obtain ⟨u, hu⟩ : ∃ u : Nat, u = 2 ^ m := ⟨_, rfl⟩
    have hub : u < 256 := by
      rw [hu]
      have : (2 : Nat) ^ m ≤ 2 ^ 7 := Nat.pow_le_pow_right (by omega) (by omega)
      omega
    have hu1 : (2 : Int) ^ m % 256 = (u : Int) := by
      have h1 : ((2 ^ m : Nat) : Int) = (2 : Int) ^ m := by simp
      rw [← h1, ← hu]; omega
    obtain ⟨y, hy⟩ : ∃ y : UInt8, y = UInt8.ofNat (x ^^^ u) := ⟨_, rfl⟩
    have hxu : x ^^^ u < 256 := Nat.xor_lt_two_pow (n := 8) hxb hub
    have hyt : y.toNat = x ^^^ u := by rw [hy, UInt8.toNat_ofNat']; omega
    have hxor : bits .xor .u8 (x : Int) (u : Int) = (y.toNat : Int) := by rw [u8_xor_nat x u hxb hub, hyt]
    have hne : y ≠ (sealB b xs).getD i 0 := by
      intro h
      have h2 : y.toNat = x := by rw [h, hx]
      rw [hyt, hu] at h2
      exact xor_bit_ne x m h2
    obtain ⟨hoE, hoD⟩ := open_bits b xs h505 i y hi2 hne
    have HE := Lib.hid hoE
    have HD := Lib.hid hoD
    clear hk hi hm hx hu hy hyt hne hoE hoD
    go_wp2_with fail
    have hst := ho3.stored i (.int .u8 (y.toNat : Int))
    rw [u8s_set] at hst
    have hB4 := hB3.setCell (p := ⟨g, i, none⟩) hg1 (.int .u8 (y.toNat : Int))
    have hcap := own_cap hst.1
    refine (open_any _ _ _ _ _ (Reads.of_own hst.1) hcap.1 hcap.2).mono ?_
    rintro e w5 ⟨A5, c5, rfl, ho5, hb5⟩
    rw [HE.out, HD.out]
    go_wp2
    go_ret
    exact ⟨rfl, below_on hB4 (by simp) hb5⟩
end Go.Proofs.Ytkhgjmbpodkdnaa

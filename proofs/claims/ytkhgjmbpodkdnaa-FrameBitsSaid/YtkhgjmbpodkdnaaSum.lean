/- frame.Sum: the walk: the CRC-32 of the bytes. -/
import Derived.Test.YtkhgjmbpodkdnaaBase
import Derived.Test.YtkhgjmbpodkdnaaRows
import Derived.Test.YtkhgjmbpodkdnaaCrc
import Derived.Test.YtkhgjmbpodkdnaaSealLaw
namespace Go.Proofs.Ytkhgjmbpodkdnaa
open Go.RowKit
def u8s (l : List UInt8) : List Value := l.map fun b => .int .u8 (b.toNat : Int)
theorem u8s_length (l : List UInt8) : (u8s l).length = l.length := by simp [u8s]
theorem u8s_get {l : List UInt8} {k : Nat} {u : Value} (h : (u8s l)[k]? = some u) : ∃ hk : k < l.length, u = .int .u8 ((l[k]'hk).toNat : Int) := by
  have hk : k < l.length := by
    have := (List.getElem?_eq_some_iff.1 h).1
    rwa [u8s_length] at this
  refine ⟨hk, ?_⟩
  simp only [u8s, List.getElem?_map, List.getElem?_eq_getElem hk, Option.map_some, Option.some.injEq] at h
  exact h.symm
theorem Reads.byte {w : World} {B n : Nat} {A : Option Addr} {l : List UInt8} (h : Reads w B 1 A n (u8s l)) {k : Nat} (hk : k < n) :
    ∃ ad, A = some ad ∧ ad.block < B ∧ ∃ hk' : k < l.length, w.cell? (ad.add k) = some (.int .u8 ((l[k]'hk').toNat : Int)) := by
  obtain ⟨ad, u, e, hb, hu, hc⟩ := h.at_ hk
  obtain ⟨hk', rfl⟩ := u8s_get hu
  exact ⟨ad, e, hb, hk', hc⟩
theorem Reads.len8 {w : World} {B n : Nat} {A : Option Addr} {l : List UInt8} (h : Reads w B 1 A n (u8s l)) : l.length = n := by
  have := h.1
  rw [u8s_length] at this
  omega

theorem xor32_nat (a b : Nat) (ha : a < 4294967296) (hb : b < 4294967296) : ∃ c, c < 4294967296 ∧ Hid (c = a ^^^ b) ∧ bits .xor .u32 (a : Int) (b : Int) = (c : Int) :=
  ⟨a ^^^ b, xor_lt32 ha hb, rfl, u32_xor_nat a b ha hb⟩

theorem and15_nat (a : Nat) (ha : a < 4294967296) : ∃ m, m < 16 ∧ Hid (m = a % 16) ∧ bits .and .u32 (a : Int) 15 = (m : Int) :=
  ⟨a % 16, Nat.mod_lt _ (by omega), rfl, by
    have := u32_and_nat a 15 ha (by omega)
    rw [nat_mask4] at this
    exact this⟩
theorem shr4_nat (a : Nat) (ha : a < 4294967296) : ∃ m, m < 4294967296 ∧ Hid (m = a / 16) ∧ (a : Int) / 16 = (m : Int) :=
  ⟨a / 16, by omega, rfl, by omega⟩
theorem not_xor32 (c : Nat) (h : c < 4294967296) : 4294967295 ^^^ c = 4294967295 - c := by
  have h1 : (BitVec.allOnes 32 ^^^ BitVec.ofNat 32 c).toNat = (~~~ (BitVec.ofNat 32 c)).toNat := by rw [BitVec.allOnes_xor]
  rw [BitVec.toNat_xor, BitVec.toNat_not, BitVec.toNat_ofNat, Nat.mod_eq_of_lt h, BitVec.toNat_allOnes] at h1
  exact h1
theorem not32_nat (c : Nat) (h : c < 4294967296) : bits .xor .u32 IntKind.u32.max (c : Int) = ((4294967295 - c : Nat) : Int) := by
  rw [← not_xor32 c h]
  exact u32_xor_nat 4294967295 c (by omega) h

set_option maxHeartbeats 400000 in
theorem sum_any (xs : List UInt8) (A : Option Addr) (n cap : Nat) (w : World) (hr : Reads w w.heap.size 1 A n (u8s xs)) (hn : n ≤ 9223372036854775807) :
    Calls Try.prog 12 #[.slice A n cap] w fun e w' => e = .returned (.int .u32 (crcS xs : Nat)) ∧ Below w.heap.size w w' := by
  have hl := hr.len8
  go_enter Try.func12, Try.ntmps12
  go_wp2
  generalize hW : World.alloc w _ = W
  have hbel : Below w.heap.size w W := by rw [← hW]; exact (Below.refl _ _).alloc (Nat.le_refl _) _
  have htab : ∀ j, j < 16 → W.cell? ⟨w.heap.size, j, none⟩ = some (.int .u32 (tab j : Nat)) := by
    intro j hj
    rw [← hW, World.cell?_alloc_new]
    have : j = 0 ∨ j = 1 ∨ j = 2 ∨ j = 3 ∨ j = 4 ∨ j = 5 ∨ j = 6 ∨ j = 7 ∨ j = 8 ∨ j = 9 ∨ j = 10 ∨ j = 11 ∨ j = 12 ∨ j = 13 ∨ j = 14 ∨ j = 15 := by omega
    rcases this with h | h | h | h | h | h | h | h | h | h | h | h | h | h | h | h <;> subst h <;> rfl
  have hr' := hr.below hbel
  clear hW hr
  go_loop [4, 10] (fun c i => ∃ (k cc : Nat), k ≤ n ∧ cc < 4294967296 ∧ Hid (cc = crcF (xs.take k)) ∧ i = .int .i64 k ∧ c = .int .u32 (cc : Int)) (fun _ i => n - (intOf i).toNat)
  case atStart => exact ⟨0, 4294967295, Nat.zero_le _, by omega, rfl, rfl, rfl⟩
  case round =>
    obtain ⟨k, cc, hk, hc, hcc, rfl, rfl⟩ := hrel
    by_cases hlt : k < n
    · obtain ⟨ad, rfl, hb, hkl, hcell⟩ := hr'.byte hlt
      have hts := Lib.hid (crcF_take xs k hkl)
      obtain ⟨x, hx⟩ : ∃ x : Nat, x = (xs[k]'hkl).toNat := ⟨_, rfl⟩
      have hxb : x < 256 := by rw [hx]; exact u8_lt _
      rw [← hx] at hcell
      have HX := Lib.hid hx
      clear hx hr'
      have e0 : (x : Int) % 4294967296 = (x : Int) := by omega
      obtain ⟨c1, h1, d1, e1⟩ := xor32_nat cc x hc (by omega)
      obtain ⟨m1, l1, k1, f1⟩ := and15_nat c1 h1
      have t1 := htab _ l1
      obtain ⟨g1, p1, r1, q1⟩ := shr4_nat c1 h1
      obtain ⟨c2, h2, d2, e2⟩ := xor32_nat g1 (tab m1) p1 (tab_lt _)
      obtain ⟨m2, l2, k2, f2⟩ := and15_nat c2 h2
      have t2 := htab _ l2
      obtain ⟨g2, p2, r2, q2⟩ := shr4_nat c2 h2
      obtain ⟨c3, h3, d3, e3⟩ := xor32_nat g2 (tab m2) p2 (tab_lt _)
      clear htab
      go_wp2
      go_round
      case rel => exact ⟨k + 1, c3, by omega, h3, by
        have H := hts.out
        rw [← HX.out, ← hcc.out] at H
        show c3 = _
        rw [H, d3.out, r2.out, k2.out, d2.out, r1.out, k1.out, d1.out]
        rfl, by go_num, rfl⟩
      case measure => simp [intOf]; omega
    · have hnot := not32_nat cc hc
      go_wp2
      go_ret
      refine ⟨?_, hbel⟩
      have : k = n := by omega
      subst this
      show Ending.returned (.int .u32 ((4294967295 - cc : Nat) : Int)) = _
      have H := hcc.out
      rw [List.take_of_length_le (by omega)] at H
      rw [H]
      rfl
end Go.Proofs.Ytkhgjmbpodkdnaa

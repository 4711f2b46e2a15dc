/- wide.Mul: the walk. -/
import Derived.Shelf.Bits.Mul64
import Derived.Shelf.Spec.BitsCarry
import Derived.Test.YtglnklfhgdjccaaGreatWide
namespace Go.Proofs.YtglnklfhgdjccaaGreat
open Go.RowKit Go.Lib
theorem sub64_law (x y b : Int) (hx : 0 ≤ x) (hy : 0 ≤ y) (hb0 : 0 ≤ b) (hb : b ≤ 1) (hy2 : y < 18446744073709551616) (w : World) :
    (callFunc 163 #[.int .u64 x, .int .u64 y, .int .u64 b]).run Tryz.prog w =
      .ok (.value (.tuple #[.int .u64 ((x - y - b) % 18446744073709551616), .int .u64 (if x < y + b then 1 else 0)])) w := by
  obtain ⟨X, rfl⟩ := Int.eq_ofNat_of_zero_le hx
  obtain ⟨Y, rfl⟩ := Int.eq_ofNat_of_zero_le hy
  obtain ⟨B, rfl⟩ := Int.eq_ofNat_of_zero_le hb0
  have e1 : ((((X + 18446744073709551616 - Y - B) % 18446744073709551616 : Nat)) : Int) = ((X : Int) - (Y : Int) - (B : Int)) % 18446744073709551616 := by omega
  have e2 : (((if X < Y + B then 1 else 0 : Nat)) : Int) = if (X : Int) < (Y : Int) + (B : Int) then 1 else 0 := by
    by_cases h : X < Y + B
    · rw [if_pos h, if_pos (by omega)]; rfl
    · rw [if_neg h, if_neg (by omega)]; rfl
  rw [run_callFunc_extern Tryz.func163 (by kernel_rfl) (by kernel_rfl) (by kernel_rfl) (e := sub64Entry) (by kernel_rfl), run_sub64 X Y B (by omega), e1, e2]
  rfl
set_option maxHeartbeats 1000000 in
theorem mul64_any (x y : Nat) (hx : x < 18446744073709551616) (hy : y < 18446744073709551616) (w : World) :
    Calls Tryz.prog 138 #[.int .u64 x, .int .u64 y] w fun e w' => e = .returned (.tuple #[.int .u64 ((x * y / 18446744073709551616 : Nat) : Int), .int .u64 ((x * y % 18446744073709551616 : Nat) : Int)]) ∧ w' = w := by
  obtain ⟨bd, bt, bw, hhi⟩ := Lib.mul64_hi x y hx hy
  have ba := Lib.half_mul_le (a := x / 4294967296) (b := y / 4294967296) (by omega) (by omega)
  have bb := Lib.half_mul_le (a := x / 4294967296) (b := y % 4294967296) (by omega) (by omega)
  have bc := Lib.half_mul_le (a := x % 4294967296) (b := y / 4294967296) (by omega) (by omega)
  have ba' : x / 4294967296 * (y / 4294967296) < 18446744073709551616 := by omega
  have bb' : x / 4294967296 * (y % 4294967296) < 18446744073709551616 := by omega
  have bc' : x % 4294967296 * (y / 4294967296) < 18446744073709551616 := by omega
  have bh1 : x / 4294967296 * (y / 4294967296) + (x / 4294967296 * (y % 4294967296) + x % 4294967296 * (y % 4294967296) / 4294967296) / 4294967296 < 18446744073709551616 := by omega
  have bh : x / 4294967296 * (y / 4294967296) + (x / 4294967296 * (y % 4294967296) + x % 4294967296 * (y % 4294967296) / 4294967296) / 4294967296 + ((x / 4294967296 * (y % 4294967296) + x % 4294967296 * (y % 4294967296) / 4294967296) % 4294967296 + x % 4294967296 * (y / 4294967296)) / 4294967296 < 18446744073709551616 := by omega
  go_enter Tryz.func138, Tryz.ntmps138
  go_wp2
  simp only [Mul64.maskN x hx, Mul64.maskN y hy, Mul64.divN, Mul64.mulN, Mul64.addN, Mul64.wrapN _ bd, Mul64.wrapN _ bb', Mul64.wrapN _ bt, Mul64.maskN _ bt, Mul64.wrapN _ bc', Mul64.wrapN _ bw, Mul64.wrapN _ ba', Mul64.wrapN _ bh1, Mul64.wrapN _ bh, Mul64.wrapM]
  rw [hhi]
  go_ret2
  exact ⟨rfl, rfl⟩
theorem size_any (n : Int) (w : World) (h1 : -9223372036854775808 ≤ n) (h2 : n ≤ 9223372036854775807) :
    Calls Tryz.prog 139 #[.int .i64 n] w fun e w' => e = .returned (.int .u64 (n.natAbs : Int)) ∧ w' = w := by
  by_cases h : n < 0
  · have w1 : IntKind.u64.wrap n = n + 18446744073709551616 := by rw [u64_wrap]; omega
    have w2 : IntKind.u64.wrap (-(n + 18446744073709551616)) = (n.natAbs : Int) := by rw [u64_wrap]; omega
    go_enter Tryz.func139, Tryz.ntmps139
    go_wp2_with fail
    go_ret
    exact ⟨rfl, rfl⟩
  · have w1 : IntKind.u64.wrap n = (n.natAbs : Int) := by rw [u64_wrap]; omega
    go_enter Tryz.func139, Tryz.ntmps139
    go_wp2_with fail
    go_ret
    exact ⟨rfl, rfl⟩
set_option maxRecDepth 100000 in
set_option maxHeartbeats 1600000 in
theorem neg_any (z : Int) (w : World) (h1 : -85070591730234615865843651857942052864 ≤ z) (h2 : z ≤ 85070591730234615865843651857942052864) :
    Calls Tryz.prog 140 #[i128 z] w fun e w' => e = .returned (i128 (-z)) ∧ Below w.heap.size w w' := by
  obtain ⟨xh, hxh⟩ : ∃ t, t = z / 18446744073709551616 := ⟨_, rfl⟩
  obtain ⟨xl, hxl⟩ : ∃ t, t = z % 18446744073709551616 := ⟨_, rfl⟩
  obtain ⟨sh, hsh⟩ : ∃ t, t = (-z) / 18446744073709551616 := ⟨_, rfl⟩
  obtain ⟨sl, hsl⟩ : ∃ t, t = (-z) % 18446744073709551616 := ⟨_, rfl⟩
  have A1 := sub64_law 0 xl 0 (by omega) (by omega) (by omega) (by omega) (by omega)
  have f1 : (0 - xl - 0) % 18446744073709551616 = sl := by omega
  obtain ⟨cc, hcc⟩ : ∃ t : Int, t = if 0 < xl + 0 then 1 else 0 := ⟨_, rfl⟩
  rw [f1, ← hcc] at A1
  have f2 : 0 ≤ cc ∧ cc ≤ 1 := by split at hcc <;> omega
  have A2 := sub64_law 0 (xh % 18446744073709551616) cc (by omega) (by omega) (by omega) (by omega) (by omega)
  obtain ⟨c2, hc2⟩ : ∃ t : Int, t = if 0 < xh % 18446744073709551616 + cc then 1 else 0 := ⟨_, rfl⟩
  obtain ⟨su, hsu⟩ : ∃ t, t = (0 - xh % 18446744073709551616 - cc) % 18446744073709551616 := ⟨_, rfl⟩
  rw [← hsu, ← hc2] at A2
  have w1 : IntKind.u64.wrap xh = xh % 18446744073709551616 := u64_wrap _
  have w3 : IntKind.i64.wrap su = sh := by
    rw [IntKind.wrap_i64]
    by_cases h : 0 < xl + 0
    · rw [if_pos h] at hcc; omega
    · rw [if_neg h] at hcc; omega
  unfold i128
  rw [← hxh, ← hxl, ← hsh, ← hsl]
  obtain ⟨x2, hx2⟩ : ∃ t, t = xh % 18446744073709551616 := ⟨_, rfl⟩
  rw [← hx2] at A2 w1
  clear hxh hxl hsh hsl hcc hc2 hsu hx2 f1 f2 h1 h2
  go_enter Tryz.func140, Tryz.ntmps140
  go_wp2_with fail
  exact bodyPost_ret (v := .agg #[.int .i64 sh, .int .u64 sl]) (by simp [results, Tryz.results140, go_sem]) rfl ⟨rfl, ((Below.refl _ _).alloc (Nat.le_refl _) _).alloc (by simp) _⟩
end Go.Proofs.YtglnklfhgdjccaaGreat

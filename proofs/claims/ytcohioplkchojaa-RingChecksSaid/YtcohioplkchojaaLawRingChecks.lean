/- merestonelaw03.RingChecks: the walk. -/
import Derived.Test.YtcohioplkchojaaLaw03
import Derived.Test.YtcohioplkchojaaCheckR
namespace Go.Proofs.Ytcohioplkchojaa
open Go.RowKit
set_option maxRecDepth 100000 in
set_option maxHeartbeats 1600000 in
theorem ringChecks_any (xs : List Pt) (A : Option Addr) (n cap : Nat) (w : World) (hr : Reads w w.heap.size 2 A n (ptsV xs)) (hn : n ≤ 8796093022208) (hx : ∀ p ∈ xs, p.inI) :
    Calls Try.prog 3 #[.slice A n cap] w fun e w' => e = .returned (.bool true) ∧ Below w.heap.size w w' := by
  have kO : ∀ V, Below w.heap.size w V → Calls Try.prog 16 #[.slice A n cap] V fun e V' => ∃ A' c, e = .returned (.slice A' n c) ∧ Reads V' V'.heap.size 2 A' n (ptsV xs) ∧ Below V.heap.size V V' := fun V hV =>
    (own03_any xs A n cap V ((hr.below hV).more hV.size) hn).mono fun e V' ⟨A', c, h1, h2, h3⟩ => ⟨A', c, h1, Reads.of_own h2, h3⟩
  have kA : ∀ V A' c, Reads V V.heap.size 2 A' n (ptsV xs) → Calls Try.prog 15 #[.slice A' n c] V fun e V' => e = .returned (.tuple #[i128 (areaV xs), .int .i64 (areaE xs)]) ∧ Below V.heap.size V V' := fun V A' c h => area_any xs A' n c V h (by omega) hx
  have kB : ∀ V, Below w.heap.size w V → Calls Try.prog 17 #[.slice A n cap] V fun e V' => e = .returned (.tuple #[i128 (areaV xs), .int .i64 (areaE xs)]) ∧ Below V.heap.size V V' := fun V hV => areaR_any xs A n cap V ((hr.below hV).more hV.size) (by omega) hx
  have kC : ∀ V A' c, Reads V V.heap.size 2 A' n (ptsV xs) → Calls Try.prog 19 #[.slice A' n c] V fun e V' => e = .returned (.int .i64 (checkI xs)) ∧ Below V.heap.size V V' := fun V A' c h => check_any xs A' n c V h (by omega) hx
  have kD : ∀ V, Below w.heap.size w V → Calls Try.prog 20 #[.slice A n cap] V fun e V' => e = .returned (.int .i64 (checkI xs)) ∧ Below V.heap.size V V' := fun V hV => checkR_any xs A n cap V ((hr.below hV).more hV.size) (by omega) hx
  unfold i128 at kA kB
  generalize areaV xs = z at *
  generalize areaE xs = ae at *
  generalize checkI xs = ce at *
  have HK := Lib.hid (And.intro kO (And.intro kA (And.intro kB (And.intro kC kD))))
  clear kO kA kB kC kD hr hx hn
  go_enter Try.func3, Try.ntmps3
  go_wp2_with fail
  with_reducible refine (HK.out.1 _ (Below.refl _ _)).mono ?_
  rintro e w1 ⟨A1, c1, rfl, hr1, hb1⟩
  have H1 := Lib.hid (And.intro hr1 hb1)
  clear hr1 hb1
  go_wp2_with fail
  with_reducible refine (HK.out.2.1 _ _ _ H1.out.1).mono ?_
  rintro e w2 ⟨rfl, hb2⟩
  have hB2 := below_on H1.out.2 (Nat.le_refl _) hb2
  clear hb2 H1
  have hX := Blk.new w2 26 #[.int .i64 (z / 18446744073709551616), .int .u64 (z % 18446744073709551616)]
  have hB3 := hB2.alloc hB2.size (.cells #[.int .i64 (z / 18446744073709551616), .int .u64 (z % 18446744073709551616)] 26)
  go_wp2_with fail
  generalize w2.alloc (.cells #[.int .i64 (z / 18446744073709551616), .int .u64 (z % 18446744073709551616)] 26) = w3 at *
  have H3 := Lib.hid (And.intro hX hB3)
  clear hX hB3 hB2
  with_reducible refine (HK.out.2.2.1 _ H3.out.2).mono ?_
  rintro e w4 ⟨rfl, hb4⟩
  have hX4 := H3.out.1.below hb4 H3.out.1.lt
  have hB4 := below_on H3.out.2 (Nat.le_refl _) hb4
  have hX5 := hX4.alloc (.cells #[.int .i64 (z / 18446744073709551616), .int .u64 (z % 18446744073709551616)] 26)
  have hY5 := Blk.new w4 26 #[.int .i64 (z / 18446744073709551616), .int .u64 (z % 18446744073709551616)]
  have hB5 := hB4.alloc hB4.size (.cells #[.int .i64 (z / 18446744073709551616), .int .u64 (z % 18446744073709551616)] 26)
  clear hb4 H3 hX4 hB4
  go_wp2_with fail
  generalize w4.alloc (.cells #[.int .i64 (z / 18446744073709551616), .int .u64 (z % 18446744073709551616)] 26) = w5 at *
  have H5 := Lib.hid (And.intro hX5 (And.intro hY5 hB5))
  clear hX5 hY5 hB5
  refine (ans03_any _).mono ?_
  rintro e w6 ⟨rfl, hb6⟩
  have hX6 := H5.out.1.below hb6 H5.out.1.lt
  have hY6 := H5.out.2.1.below hb6 H5.out.2.1.lt
  have hB6 := Lib.hid (below_on H5.out.2.2 (Nat.le_refl _) hb6)
  obtain ⟨x1, x2, -, -⟩ := blk_two hX6
  obtain ⟨y1, y2, -, -⟩ := blk_two hY6
  clear hb6 H5 hX6 hY6
  go_wp2_with fail
  with_reducible refine (HK.out.1 _ hB6.out).mono ?_
  rintro e w7 ⟨A7, c7, rfl, hr7, hb7⟩
  have H7 := Lib.hid (And.intro hr7 (below_on hB6.out (Nat.le_refl _) hb7))
  clear hr7 hb7 hB6 x1 x2 y1 y2
  go_wp2_with fail
  with_reducible refine (HK.out.2.2.2.1 _ _ _ H7.out.1).mono ?_
  rintro e w8 ⟨rfl, hb8⟩
  have H8 := Lib.hid (below_on H7.out.2 (Nat.le_refl _) hb8)
  clear hb8 H7
  go_wp2_with fail
  with_reducible refine (HK.out.2.2.2.2 _ H8.out).mono ?_
  rintro e w9 ⟨rfl, hb9⟩
  have hB9 := below_on H8.out (Nat.le_refl _) hb9
  clear hb9 H8
  go_wp2_with fail
  go_ret
  exact ⟨by simp, hB9⟩
end Go.Proofs.Ytcohioplkchojaa

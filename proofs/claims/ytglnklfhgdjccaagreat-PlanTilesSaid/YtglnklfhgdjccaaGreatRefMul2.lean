/- merestoneref01.Mul, of greater numbers: the walk. -/
import Derived.Below
import Derived.Test.YtglnklfhgdjccaaGreatRefAdd
namespace Go.Proofs.YtglnklfhgdjccaaGreat
open Go.RowKit Go.Lib
theorem u64_neg2 (b : Int) (h : b < 0) (h2 : -4398046511104 ≤ b) : IntKind.u64.wrap (-(b % 18446744073709551616)) = -b ∧ (-(b % 18446744073709551616)) % 18446744073709551616 = -b := by
  rw [u64_wrap]
  omega
set_option maxRecDepth 100000 in
set_option maxHeartbeats 3200000 in
/-- The walk at one sign of b. -/
theorem mulR_sign2 (a b lo : Int) (m : Nat) (w : World) (hm2 : m ≤ 4398046511104) (ha1 : -4398046511104 ≤ a) (ha2 : a ≤ 4398046511104) (e2 : IntKind.u64.wrap b = lo) (hsm : small (a * b))
    (hcase : (b < 0 ∧ IntKind.u64.wrap (-lo) = (m : Int) ∧ (-lo) % 18446744073709551616 = (m : Int) ∧ a * b = -(a * (m : Int))) ∨ (0 ≤ b ∧ lo = (m : Int) ∧ a * b = a * (m : Int))) :
    Calls Tryz.prog 83 #[.int .i64 a, .int .i64 b] w fun e w' => e = .returned (.agg #[.int .i64 (a * b / 18446744073709551616), .int .u64 (a * b % 18446744073709551616)]) ∧ Below w.heap.size w w' := by
  have hsa : small a := by unfold small; omega
  obtain ⟨P, hP⟩ : ∃ P, P = a * b := ⟨_, rfl⟩
  rw [← hP] at hsm hcase ⊢
  clear hP
  have k1 : ∀ W, Calls Tryz.prog 118 #[.int .i64 a] W fun e w' => e = .returned (.agg #[.int .i64 (a / 18446744073709551616), .int .u64 (a % 18446744073709551616)]) ∧ Below W.heap.size W w' := fun W => ofR_any a W (by omega) (by omega)
  have k2 := fun W => limbs5 a W hsa
  have k3 := fun W => whole5 P W hsm
  have HK := Lib.hid (And.intro k1 (And.intro k2 k3))
  clear k1 k2 k3 hsm hsa ha1 ha2
  have HC := Lib.hid hcase
  rcases hcase with ⟨hb, e5, e6, -⟩ | ⟨hb, rfl, -⟩
  all_goals
    go_enter Tryz.func83, Tryz.ntmps83
    go_wp2_with fail
    refine (HK.out.1 _).mono ?_
    rintro e w1 ⟨rfl, hb1'⟩
    have hB1 := below_on ((Below.refl w.heap.size w).alloc (Nat.le_refl _) (.cells #[.int .i64 0, .int .u64 0] 66)) (Nat.le_refl _) hb1'
    have hR1 := (Blk.new w 66 #[.int .i64 0, .int .u64 0]).below hb1' (by simp)
    clear hb1'
    go_wp2_with fail
    refine (HK.out.2.1 _).mono ?_
    rintro e w2 ⟨rfl, hb2'⟩
    have hB2 := below_on hB1 (Nat.le_refl _) hb2'
    have hR2 := hR1.below hb2' hR1.lt
    clear hb2' hB1 hR1
    go_wp2_with fail
    have hsz2 := hB2.size
    have hX0 := (Blk.new w2 103 #[.int .u32 (lI a 0), .int .u32 (lI a 1), .int .u32 (lI a 2), .int .u32 (lI a 3), .int .u32 (lI a 4)]).alloc (.cells #[.int .u32 0, .int .u32 0, .int .u32 0, .int .u32 0, .int .u32 0] 103)
    have hS0 := Blk.new (w2.alloc (.cells #[.int .u32 (lI a 0), .int .u32 (lI a 1), .int .u32 (lI a 2), .int .u32 (lI a 3), .int .u32 (lI a 4)] 103)) 103 #[.int .u32 0, .int .u32 0, .int .u32 0, .int .u32 0, .int .u32 0]
    rw [World.size_alloc] at hS0
    have hR0 := (hR2.alloc (.cells #[.int .u32 (lI a 0), .int .u32 (lI a 1), .int .u32 (lI a 2), .int .u32 (lI a 3), .int .u32 (lI a 4)] 103)).alloc (.cells #[.int .u32 0, .int .u32 0, .int .u32 0, .int .u32 0, .int .u32 0] 103)
    have hB0 := (hB2.alloc hB2.size (.cells #[.int .u32 (lI a 0), .int .u32 (lI a 1), .int .u32 (lI a 2), .int .u32 (lI a 3), .int .u32 (lI a 4)] 103)).alloc (by have := hB2.size; simp; omega) (.cells #[.int .u32 0, .int .u32 0, .int .u32 0, .int .u32 0, .int .u32 0] 103)
    have hlt2 := hR2.lt
    clear hR2 hB2
    generalize (w2.alloc (.cells #[.int .u32 (lI a 0), .int .u32 (lI a 1), .int .u32 (lI a 2), .int .u32 (lI a 3), .int .u32 (lI a 4)] 103)).alloc (.cells #[.int .u32 0, .int .u32 0, .int .u32 0, .int .u32 0, .int .u32 0] 103) = w0 at *
    go_loopw [8] (fun i wr => ∃ k : Nat, k ≤ 64 ∧ i = .int .i64 (k : Int) ∧ Blk wr w2.heap.size 103 #[.int .u32 (lI (a * ((2 ^ k : Nat) : Int)) 0), .int .u32 (lI (a * ((2 ^ k : Nat) : Int)) 1), .int .u32 (lI (a * ((2 ^ k : Nat) : Int)) 2), .int .u32 (lI (a * ((2 ^ k : Nat) : Int)) 3), .int .u32 (lI (a * ((2 ^ k : Nat) : Int)) 4)] ∧ Blk wr (w2.heap.size + 1) 103 #[.int .u32 (lI (a * ((m % 2 ^ k : Nat) : Int)) 0), .int .u32 (lI (a * ((m % 2 ^ k : Nat) : Int)) 1), .int .u32 (lI (a * ((m % 2 ^ k : Nat) : Int)) 2), .int .u32 (lI (a * ((m % 2 ^ k : Nat) : Int)) 3), .int .u32 (lI (a * ((m % 2 ^ k : Nat) : Int)) 4)] ∧ Blk wr w.heap.size 66 #[.int .i64 0, .int .u64 0] ∧ Below w.heap.size w wr) (fun i _ => 64 - (intOf i).toNat)
    case atStart =>
      refine ⟨0, by omega, rfl, ?_, ?_, hR0, hB0⟩
      · rw [Nat.pow_zero, Int.natCast_one, Int.mul_one]
        exact hX0
      · rw [Nat.pow_zero, Nat.mod_one, Int.natCast_zero, Int.mul_zero, lI_zero.1, lI_zero.2.1, lI_zero.2.2.1, lI_zero.2.2.2.1, lI_zero.2.2.2.2]
        exact hS0
    case round =>
      clear hX0 hS0 hR0 hB0
      obtain ⟨k, hk, rfl, hX, hS, hR, hbel⟩ := hrel
      by_cases hlt : k < 64
      · obtain ⟨s, s1, s2, s3⟩ : ∃ s : Nat, s < 18446744073709551616 ∧ Hid (s = m / 2 ^ k) ∧ (m : Int) / 2 ^ k = (s : Int) := by
          refine ⟨m / 2 ^ k, ?_, rfl, ?_⟩
          · have := Nat.div_le_self m (2 ^ k); omega
          · simp
        have f := u64_and_nat s 1 s1 (by omega)
        rw [nat_mask1] at f
        obtain ⟨t1, t0, t2⟩ := mul_step a m k
        rw [← s2.out] at t1 t0
        obtain ⟨X, hXe⟩ : ∃ X, X = a * ((2 ^ k : Nat) : Int) := ⟨_, rfl⟩
        obtain ⟨Y, hYe⟩ : ∃ Y, Y = a * ((m % 2 ^ k : Nat) : Int) := ⟨_, rfl⟩
        rw [← hXe] at hX t1 t2
        rw [← hYe] at hS t1 t0
        clear hXe hYe
        have H2 := Lib.hid t2
        by_cases hbit : s % 2 = 1
        · rw [hbit] at f
          have f' : bits .and .u64 (s : Int) 1 = 1 := f
          have H1 := Lib.hid (t1 hbit)
          clear f hbit t1 t0 t2
          obtain ⟨c0, c1, c2, c3, c4⟩ := blk5 hX
          obtain ⟨d0, d1, d2, d3, d4⟩ := blk5 hS
          go_wp2_with fail
          refine (plus5 Y X _).mono ?_
          rintro e w3 ⟨rfl, hb3⟩
          rw [H1.out]
          obtain ⟨Z, hZ⟩ : ∃ Z, Z = a * ((m % 2 ^ (k + 1) : Nat) : Int) := ⟨_, rfl⟩
          rw [← hZ]
          have HZ := Lib.hid hZ
          clear hZ H1
          have hX3 := hX.below hb3 hX.lt
          have hS3 := hS.below hb3 hS.lt
          have hR3 := hR.below hb3 hR.lt
          have hB3 := below_on hbel (Nat.le_refl _) hb3
          clear hb3 hX hS hR hbel c0 c1 c2 c3 c4 d0 d1 d2 d3 d4
          obtain ⟨d0, d1, d2, d3, d4⟩ := blk5 hS3
          have g0 := hS3.frozen 0
          have g1 := hS3.frozen 1
          have g2 := hS3.frozen 2
          have g3 := hS3.frozen 3
          have g4 := hS3.frozen 4
          obtain ⟨c0, c1, c2, c3, c4⟩ := blk5 hX3
          go_wp2_with fail
          refine (plus5 X X _).mono ?_
          rintro e w4 ⟨rfl, hb4⟩
          rw [H2.out]
          obtain ⟨X', hX'⟩ : ∃ X', X' = a * ((2 ^ (k + 1) : Nat) : Int) := ⟨_, rfl⟩
          rw [← hX']
          have HX' := Lib.hid hX'
          clear hX' H2 c0 c1 c2 c3 c4 d0 d1 d2 d3 d4 g0 g1 g2 g3 g4
          have hX4 := (far5 hX3 (k := w2.heap.size + 1) (by omega) (.int .u32 (lI Z 0)) (.int .u32 (lI Z 1)) (.int .u32 (lI Z 2)) (.int .u32 (lI Z 3)) (.int .u32 (lI Z 4))).below hb4 (by have := hX3.lt; simp only [World.size_setCell]; exact this)
          have hS4 := (blk_put5 hS3 (.int .u32 (lI Z 0)) (.int .u32 (lI Z 1)) (.int .u32 (lI Z 2)) (.int .u32 (lI Z 3)) (.int .u32 (lI Z 4))).below hb4 (by have := hS3.lt; simp only [World.size_setCell]; exact this)
          have hR4 := (far5 hR3 (k := w2.heap.size + 1) (by omega) (.int .u32 (lI Z 0)) (.int .u32 (lI Z 1)) (.int .u32 (lI Z 2)) (.int .u32 (lI Z 3)) (.int .u32 (lI Z 4))).below hb4 (by have := hR3.lt; simp only [World.size_setCell]; exact this)
          have hB4 := below_on (below_put5 hB3 (k := w2.heap.size + 1) (by omega) (.int .u32 (lI Z 0)) (.int .u32 (lI Z 1)) (.int .u32 (lI Z 2)) (.int .u32 (lI Z 3)) (.int .u32 (lI Z 4))) (Nat.le_refl _) hb4
          clear hb4 hX3 hS3 hR3 hB3
          obtain ⟨d0, d1, d2, d3, d4⟩ := blk5 hX4
          have g0 := hX4.frozen 0
          have g1 := hX4.frozen 1
          have g2 := hX4.frozen 2
          have g3 := hX4.frozen 3
          have g4 := hX4.frozen 4
          go_wp2_with fail
          go_roundw
          case rel =>
            refine ⟨k + 1, by omega, by go_num, ?_, ?_, far5 hR4 (by omega) _ _ _ _ _, below_put5 hB4 (by omega) _ _ _ _ _⟩
            · rw [← HX'.out]
              exact blk_put5 hX4 _ _ _ _ _
            · rw [← HZ.out]
              exact far5 hS4 (by omega) _ _ _ _ _
          case measure => simp [intOf]; omega
        · have hbit0 : s % 2 = 0 := by omega
          rw [hbit0] at f
          have f' : bits .and .u64 (s : Int) 1 = 0 := f
          have H1 := Lib.hid (t0 hbit0)
          clear f hbit hbit0 t1 t0 t2
          obtain ⟨c0, c1, c2, c3, c4⟩ := blk5 hX
          go_wp2_with fail
          refine (plus5 X X _).mono ?_
          rintro e w3 ⟨rfl, hb3⟩
          rw [H2.out]
          rw [H1.out] at hS
          obtain ⟨Z, hZ⟩ : ∃ Z, Z = a * ((2 ^ (k + 1) : Nat) : Int) := ⟨_, rfl⟩
          rw [← hZ]
          have HZ := Lib.hid hZ
          obtain ⟨V, hV⟩ : ∃ V, V = a * ((m % 2 ^ (k + 1) : Nat) : Int) := ⟨_, rfl⟩
          rw [← hV] at hS
          have HV := Lib.hid hV
          clear hZ hV H1 H2
          have hX3 := hX.below hb3 hX.lt
          have hS3 := hS.below hb3 hS.lt
          have hR3 := hR.below hb3 hR.lt
          have hB3 := below_on hbel (Nat.le_refl _) hb3
          clear hb3 hX hS hR hbel c0 c1 c2 c3 c4
          obtain ⟨d0, d1, d2, d3, d4⟩ := blk5 hX3
          have g0 := hX3.frozen 0
          have g1 := hX3.frozen 1
          have g2 := hX3.frozen 2
          have g3 := hX3.frozen 3
          have g4 := hX3.frozen 4
          go_wp2_with fail
          go_roundw
          case rel =>
            refine ⟨k + 1, by omega, by go_num, ?_, ?_, far5 hR3 (by omega) _ _ _ _ _, below_put5 hB3 (by omega) _ _ _ _ _⟩
            · rw [← HZ.out]
              exact blk_put5 hX3 _ _ _ _ _
            · rw [← HV.out]
              exact far5 hS3 (by omega) _ _ _ _ _
          case measure => simp [intOf]; omega
      · have hk64 : k = 64 := by omega
        subst hk64
        have hm64 : m % 2 ^ 64 = m := Nat.mod_eq_of_lt (by omega)
        rw [hm64] at hS
        clear hm64 hX
        obtain ⟨Y, hY⟩ : ∃ Y, Y = a * (m : Int) := ⟨_, rfl⟩
        rw [← hY] at hS
        have HY := Lib.hid hY
        clear hY
        obtain ⟨d0, d1, d2, d3, d4⟩ := blk5 hS
        have g0 := hS.frozen 0
        have g1 := hS.frozen 1
        have g2 := hS.frozen 2
        have g3 := hS.frozen 3
        have g4 := hS.frozen 4
        obtain ⟨r0, r1, r2, r3⟩ := blk_two hR
        by_cases hneg : b < 0
        · first
          | (exfalso; omega)
          | (have hPY : -Y = P := by
               rcases HC.out with ⟨_, _, _, e⟩ | ⟨h, _, _⟩
               · rw [e, HY.out]
               · omega
             have HPY := Lib.hid hPY
             clear hPY
             go_wp2_with fail
             refine (minus5 Y _).mono ?_
             rintro e w3 ⟨rfl, hb3⟩
             rw [HPY.out]
             have hS3 := hS.below hb3 hS.lt
             have hR3 := hR.below hb3 hR.lt
             have hB3 := below_on hbel (Nat.le_refl _) hb3
             clear hb3 d0 d1 d2 d3 d4 g0 g1 g2 g3 g4 hS hR hbel r0 r1 r2 r3
             obtain ⟨d0, d1, d2, d3, d4⟩ := blk5 hS3
             have g0 := hS3.frozen 0
             have g1 := hS3.frozen 1
             have g2 := hS3.frozen 2
             have g3 := hS3.frozen 3
             have g4 := hS3.frozen 4
             go_wp2_with fail
             with_reducible refine (HK.out.2.2 _).mono ?_
             rintro e w4 ⟨rfl, hb4⟩
             have hR3' := far5 hR3 (k := w2.heap.size + 1) (by omega) (.int .u32 (lI P 0)) (.int .u32 (lI P 1)) (.int .u32 (lI P 2)) (.int .u32 (lI P 3)) (.int .u32 (lI P 4))
             have hB3' := below_put5 hB3 (k := w2.heap.size + 1) (by omega) (.int .u32 (lI P 0)) (.int .u32 (lI P 1)) (.int .u32 (lI P 2)) (.int .u32 (lI P 3)) (.int .u32 (lI P 4))
             clear d0 d1 d2 d3 d4 g0 g1 g2 g3 g4 hS3 hR3 hB3
             have hR5 := (Blk.alloc (hR3'.below hb4 hR3'.lt) (.cells #[.int .i64 (P / 18446744073709551616), .int .u64 (P % 18446744073709551616)] 66))
             have hB4 := below_on hB3' (Nat.le_refl _) hb4
             have hB5 := hB4.alloc hB4.size (.cells #[.int .i64 (P / 18446744073709551616), .int .u64 (P % 18446744073709551616)] 66)
             obtain ⟨q0, q1, q2, q3⟩ := blk_two hR5
             obtain ⟨p0, p1, _, _⟩ := put_two hR5 (.int .i64 (P / 18446744073709551616)) (.int .u64 (P % 18446744073709551616))
             go_wp2_with fail
             exact bodyPost_ret (v := .agg #[.int .i64 (P / 18446744073709551616), .int .u64 (P % 18446744073709551616)]) (by simp [results, Tryz.results83, go_sem, p0, p1]) rfl ⟨rfl, (hB5.setCell (p := ⟨w.heap.size, 0, none⟩) (Nat.le_refl _) _).setCell (p := ⟨w.heap.size, 1, none⟩) (Nat.le_refl _) _⟩)
        · first
          | (exfalso; omega)
          | (have hPY : Y = P := by
               rcases HC.out with ⟨h, _, _, _⟩ | ⟨_, _, e⟩
               · omega
               · rw [e, HY.out]
             clear HY
             subst hPY
             go_wp2_with fail
             with_reducible refine (HK.out.2.2 _).mono ?_
             rintro e w4 ⟨rfl, hb4⟩
             clear d0 d1 d2 d3 d4 g0 g1 g2 g3 g4 hS r0 r1 r2 r3
             have hR5 := (Blk.alloc (hR.below hb4 hR.lt) (.cells #[.int .i64 (Y / 18446744073709551616), .int .u64 (Y % 18446744073709551616)] 66))
             have hB4 := below_on hbel (Nat.le_refl _) hb4
             have hB5 := hB4.alloc hB4.size (.cells #[.int .i64 (Y / 18446744073709551616), .int .u64 (Y % 18446744073709551616)] 66)
             obtain ⟨q0, q1, q2, q3⟩ := blk_two hR5
             obtain ⟨p0, p1, _, _⟩ := put_two hR5 (.int .i64 (Y / 18446744073709551616)) (.int .u64 (Y % 18446744073709551616))
             go_wp2_with fail
             exact bodyPost_ret (v := .agg #[.int .i64 (Y / 18446744073709551616), .int .u64 (Y % 18446744073709551616)]) (by simp [results, Tryz.results83, go_sem, p0, p1]) rfl ⟨rfl, (hB5.setCell (p := ⟨w.heap.size, 0, none⟩) (Nat.le_refl _) _).setCell (p := ⟨w.heap.size, 1, none⟩) (Nat.le_refl _) _⟩)
theorem mulR_any2 (a b : Int) (w : World) (ha1 : -4398046511104 ≤ a) (ha2 : a ≤ 4398046511104) (hb1 : -4398046511104 ≤ b) (hb2 : b ≤ 4398046511104) :
    Calls Tryz.prog 83 #[.int .i64 a, .int .i64 b] w fun e w' => e = .returned (i128 (a * b)) ∧ Below w.heap.size w w' := by
  have hsm : small (a * b) := by 
    have h1 : a.natAbs * b.natAbs ≤ 4398046511104 * 4398046511104 := Nat.mul_le_mul (by omega) (by omega)
    have h2 : (a * b).natAbs = a.natAbs * b.natAbs := Int.natAbs_mul a b
    unfold small
    omega
  refine mulR_sign2 a b (b % 18446744073709551616) b.natAbs w (by omega) ha1 ha2 (u64_wrap b) hsm ?_
  by_cases h : b < 0
  · have hm : (b.natAbs : Int) = -b := by omega
    refine .inl ⟨h, ?_, ?_, ?_⟩
    · rw [hm]; exact (u64_neg2 b h hb1).1
    · rw [hm]; exact (u64_neg2 b h hb1).2
    · rw [hm, Int.mul_neg, Int.neg_neg]
  · have hm : (b.natAbs : Int) = b := by omega
    refine .inr ⟨by omega, ?_, ?_⟩
    · rw [hm]; omega
    · rw [hm]
end Go.Proofs.YtglnklfhgdjccaaGreat

/- merestoneref05.Cover: the walk. -/
import Derived.Deep.DeepCutAuto
import Derived.Test.YtglnklfhgdjccaaGreatInner
import Derived.Test.YtglnklfhgdjccaaGreatRefMul2
import Derived.Test.YtglnklfhgdjccaaGreatRefCmp
namespace Go.Proofs.YtglnklfhgdjccaaGreat
open Go.RowKit Go.Lib
theorem blk2_facts {W : World} {g : Nat} {t : TypeId} {a b : Value} (hk : Blk W g t #[a, b]) : W.cell? ⟨g, 0, none⟩ = some a ∧ W.cell? ⟨g, 1, none⟩ = some b ∧ W.frozen? ⟨g, 0, none⟩ = false ∧ W.frozen? ⟨g, 1, none⟩ = false := ⟨Blk.cell hk 0, Blk.cell hk 1, Blk.frozen hk 0, Blk.frozen hk 1⟩
theorem mul_lt_iff {m : Int} (hm : 1 ≤ m) (x y : Int) : x * m < y * m ↔ x < y := ⟨fun h => Int.lt_of_mul_lt_mul_right h (by omega), fun h => Int.mul_lt_mul_of_pos_right h (by omega)⟩
theorem mul_le_iff {m : Int} (hm : 1 ≤ m) (x y : Int) : x * m ≤ y * m ↔ x ≤ y := by
  have := mul_lt_iff hm y x
  omega
/-- The edge in parts, from its lower end up. -/
theorem cov_edge (a b p : Pt) (m : Int) (hm : 1 ≤ m) (lo hi : Pt) (hlo : lo = if b.y < a.y then b else a) (hhi : hi = if b.y < a.y then a else b) :
    crB (scP m a) (scP m b) p = (decide (lo.y * m ≤ p.y) && (decide (p.y < hi.y * m) && decide (0 < sgn (cr (scP m lo) (scP m hi) p)))) ∧
    ∀ L H : Int, L = (if hi.x < lo.x then hi.x else lo.x) → H = (if hi.x < lo.x then lo.x else hi.x) →
      onB (scP m a) (scP m b) p = (decide (sgn (cr (scP m lo) (scP m hi) p) = 0) && (decide (L * m ≤ p.x) && (decide (p.x ≤ H * m) && (decide (lo.y * m ≤ p.y) && decide (p.y ≤ hi.y * m))))) := by
  have key : ∀ c d : Pt, c.y ≤ d.y → ∀ L H : Int, L = (if d.x < c.x then d.x else c.x) → H = (if d.x < c.x then c.x else d.x) → onB (scP m c) (scP m d) p = (decide (sgn (cr (scP m c) (scP m d) p) = 0) && (decide (L * m ≤ p.x) && (decide (p.x ≤ H * m) && (decide (c.y * m ≤ p.y) && decide (p.y ≤ d.y * m))))) := by
    intro c d hcd L H hL hH
    have e1 := (mul_le_iff hm c.y d.y).2 hcd
    have e2 := mul_lt_iff hm d.x c.x
    rw [Bool.eq_iff_iff, onB_iff]
    simp only [Bool.and_eq_true, decide_eq_true_eq, sgn_eq]
    show cr (scP m c) (scP m d) p = 0 ∧ ((c.x * m ≤ p.x ∧ p.x ≤ d.x * m) ∨ (d.x * m ≤ p.x ∧ p.x ≤ c.x * m)) ∧ ((c.y * m ≤ p.y ∧ p.y ≤ d.y * m) ∨ (d.y * m ≤ p.y ∧ p.y ≤ c.y * m)) ↔ _
    by_cases h : d.x < c.x
    · rw [if_pos h] at hL hH
      subst hL hH
      have := e2.2 h
      generalize cr (scP m c) (scP m d) p = z
      omega
    · rw [if_neg h] at hL hH
      subst hL hH
      have : ¬ d.x * m < c.x * m := fun k => h (e2.1 k)
      generalize cr (scP m c) (scP m d) p = z
      omega
  have e3 := mul_lt_iff hm b.y a.y
  by_cases h : b.y < a.y
  · rw [if_pos h] at hlo hhi
    subst hlo hhi
    refine ⟨?_, fun L H hL hH => ?_⟩
    · unfold crB
      rw [if_pos (show (scP m hi).y > (scP m lo).y from e3.2 h), decide_eq_decide.mpr (sgn_gt (z := cr (scP m lo) (scP m hi) p))]
      rfl
    · rw [onB_swap]
      exact key lo hi (by omega) L H hL hH
  · rw [if_neg h] at hlo hhi
    subst hlo hhi
    refine ⟨?_, fun L H hL hH => key lo hi (by omega) L H hL hH⟩
    unfold crB
    rw [if_neg (show ¬ (scP m hi).y < (scP m lo).y from fun k => h (e3.1 k)), decide_eq_decide.mpr (sgn_gt (z := cr (scP m lo) (scP m hi) p))]
    rfl
set_option maxRecDepth 100000 in
set_option maxHeartbeats 6400000 in
theorem coverR_any (xs : List Pt) (p : Pt) (m : Int) (A : Option Addr) (n cap : Nat) (w : World) (hr : Reads w w.heap.size 2 A n (ptsV xs)) (hn : n ≤ 128) (hg : goodL xs = true) (hm1 : 1 ≤ m) (hm2 : m ≤ 1024) (hp : -(1073741824 * m) ≤ p.x ∧ p.x ≤ 1073741824 * m ∧ -(1073741824 * m) ≤ p.y ∧ p.y ≤ 1073741824 * m) :
    Calls Tryz.prog 46 #[.slice A n cap, .int .i64 p.x, .int .i64 p.y, .int .i64 m] w fun e w' => e = .returned (.int .i64 (sideI (scL m xs) p)) ∧ Below w.heap.size w w' := by
  have hl : xs.length = n := hr.lenPt
  obtain ⟨zs, hzs⟩ : ∃ zs, zs = scL m xs := ⟨_, rfl⟩
  rw [← hzs]
  obtain ⟨res, hres⟩ : ∃ r, r = sideI zs p := ⟨_, rfl⟩
  rw [← hres]
  have HR := Lib.hid hres
  have HL := Lib.hid hl
  have HZL : Hid (zs.length = n) := by show _ = _; rw [hzs, sc_len, hl]
  have HG := Lib.hid (And.intro hg (And.intro hm1 (And.intro hm2 hp)))
  have HRD := Lib.hid hr
  have HZ := Lib.hid hzs
  clear hres hg hp hl hr hm1 hm2 hzs
  go_enter Tryz.func46, Tryz.ntmps46
  go_wp2_with fail
  go_loopw [9, 10] (fun o i wr => ∃ k : Nat, k ≤ n ∧ Hid (noneN zs p k) ∧ o = .bool (oddN zs p k) ∧ i = .int .i64 (k : Int) ∧ Below w.heap.size w wr) (fun _ i _ => n - (intOf i).toNat)
  case atStart => exact ⟨0, Nat.zero_le _, (fun i hi => absurd hi (by omega)), rfl, rfl, Below.refl _ _⟩
  case round =>
    obtain ⟨k, hk, hnone, rfl, rfl, hbel⟩ := hrel
    by_cases hlt : k < n
    · have hA := HRD.out.below hbel
      obtain ⟨ad, rfl, hbd, -, -, -⟩ := hA.pt hlt
      obtain ⟨j, hj⟩ : ∃ j, j = (k + 1) % n := ⟨_, rfl⟩
      have hl1 : j < n := by rw [hj]; exact Nat.mod_lt _ (by omega)
      have ht1 : ((k : Int) + 1).tmod (n : Int) = (j : Int) := by rw [mod_tmod, ← hj]
      have hw1 : IntKind.i64.wrap ((k : Int) + 1) = (k : Int) + 1 := by rw [IntKind.wrap_i64]; omega
      have hl1' : (j : Int) < (n : Int) := by omega
      have hlt' : (k : Int) < (n : Int) := by omega
      obtain ⟨-, p1, p2⟩ := hA.ptA hlt
      obtain ⟨-, q1, q2⟩ := (HRD.out.below (hbel.alloc hbel.size (.cells #[.int .i64 (ptAt xs k).x, .int .i64 (ptAt xs k).y] 43))).ptA hl1
      have hpg := ptAt_good HG.out.1 k
      have hqg := ptAt_good HG.out.1 j
      have hon : onE zs p k = onB (scP m (ptAt xs k)) (scP m (ptAt xs j)) p := by unfold onE; rw [HZ.out, sc_len, HL.out, ptAt_sc, ptAt_sc, ← hj]
      have hcr : crE zs p k = crB (scP m (ptAt xs k)) (scP m (ptAt xs j)) p := by unfold crE; rw [HZ.out, sc_len, HL.out, ptAt_sc, ptAt_sc, ← hj]
      have hodd : oddN zs p (k + 1) = xor (oddN zs p k) (crE zs p k) := rfl
      rw [hcr] at hodd
      have HO := Lib.hid (And.intro hon hodd)
      have hbds : ad.block < wr.heap.size := Nat.lt_of_lt_of_le hbd hbel.size
      have HN := Lib.hid hnone
      clear hon hodd hcr hj hA hnone hbd
      obtain ⟨a, ha⟩ : ∃ a, a = ptAt xs k := ⟨_, rfl⟩
      obtain ⟨b, hb⟩ : ∃ b, b = ptAt xs j := ⟨_, rfl⟩
      rw [← ha] at p1 p2 q1 q2 hpg HO
      rw [← hb] at q1 q2 hqg HO
      clear ha hb
      have HPQ := Lib.hid (And.intro hpg hqg)
      have hA1 := PtK.new wr a
      have hB1 := PtK.new (wr.alloc (.cells #[.int .i64 a.x, .int .i64 a.y] 43)) b
      have HAB := Lib.hid (And.intro ((hA1).alloc (.cells #[.int .i64 b.x, .int .i64 b.y] 43)) (And.intro hB1 ((hbel.alloc hbel.size (.cells #[.int .i64 a.x, .int .i64 a.y] 43)).alloc (by have := hbel.size; simp; omega) (.cells #[.int .i64 b.x, .int .i64 b.y] 43))))
      have hlt2 : w.heap.size ≤ wr.heap.size := hbel.size
      clear hA1 hB1 hpg hqg hbel
      generalize hodd0 : oddN zs p k = o at *
      clear hodd0
      go_upto_region 7 with fail
      obtain ⟨kA, kB, kW⟩ := HAB.out
      rw [World.size_alloc] at kB
      clear HAB p1 p2 q1 q2
      generalize (wr.alloc (.cells #[.int .i64 a.x, .int .i64 a.y] 43)).alloc (.cells #[.int .i64 b.x, .int .i64 b.y] 43) = W at *
      obtain ⟨lo, hlo⟩ : ∃ l, l = if b.y < a.y then b else a := ⟨_, rfl⟩
      obtain ⟨hi, hhi⟩ : ∃ l, l = if b.y < a.y then a else b := ⟨_, rfl⟩
      have HLH := Lib.hid (And.intro hlo hhi)
      have HK := Lib.hid (And.intro kA (And.intro kB kW))
      clear hlo hhi
      obtain ⟨a1, a2, -, -, a3⟩ := kA.facts
      obtain ⟨b1, b2, -, -, b3⟩ := kB.facts
      go_upto_if 41 with fail
      clear a1 a2 a3 b1 b2 b3 kA kB kW
      go_cut [13] (fun s13 wx => PtK wx wr.heap.size lo ∧ PtK wx (wr.heap.size + 1) hi ∧ Below w.heap.size w wx)
      case first =>
        by_cases hsw : b.y < a.y
        · have hl1 : Hid (lo = b ∧ hi = a) := ⟨by rw [HLH.out.1, if_pos hsw], by rw [HLH.out.2, if_pos hsw]⟩
          clear HLH
          obtain ⟨kA, kB, kW⟩ := HK.out
          obtain ⟨a1, a2, a4, a5, a3⟩ := kA.facts
          obtain ⟨b1, b2, b4, b5, b3⟩ := kB.facts
          have kz : wr.heap.size + 1 < W.heap.size := Blk.lt kB
          clear kA kB kW
          go_wp2_with fail
          go_meet
          obtain ⟨kA, kB, kW⟩ := HK.out
          rw [hl1.out.1, hl1.out.2]
          refine ⟨PtK.alloc (((kA.put b).far (by simp only; omega) _).far (by simp only; omega) _) _, PtK.alloc (((kB.far (by simp only; omega) _).far (by simp only; omega) _).put a) _, (below_put2 (below_put2 kW (by omega) _ _) (by omega) _ _).alloc (by simp; omega) _⟩
        · have hl1 : Hid (lo = a ∧ hi = b) := ⟨by rw [HLH.out.1, if_neg hsw], by rw [HLH.out.2, if_neg hsw]⟩
          clear HLH
          go_wp2_with fail
          go_meet
          rw [hl1.out.1, hl1.out.2]
          exact HK.out
      case rest =>
        obtain ⟨kA, kB, kW⟩ := hcut
        rename World => W3
        have hgl : good lo = true := by rw [HLH.out.1]; split; exact HPQ.out.2; exact HPQ.out.1
        have hgh : good hi = true := by rw [HLH.out.2]; split; exact HPQ.out.1; exact HPQ.out.2
        rw [good_iff] at hgl hgh
        obtain ⟨g1, g2, g3, g4, g5, g6, g7⟩ := HG.out
        obtain ⟨d1, d2⟩ := cov_edge a b p m g2 lo hi HLH.out.1 HLH.out.2
        obtain ⟨L, hL⟩ : ∃ L, L = if hi.x < lo.x then hi.x else lo.x := ⟨_, rfl⟩
        obtain ⟨H, hH⟩ : ∃ L, L = if hi.x < lo.x then lo.x else hi.x := ⟨_, rfl⟩
        have d3 := d2 L H hL hH
        clear d2
        have hLb : -1073741824 ≤ L ∧ L ≤ 1073741824 := by rw [hL]; split <;> omega
        have hHb : -1073741824 ≤ H ∧ H ≤ 1073741824 := by rw [hH]; split <;> omega
        have m1 := mul_bd (t := lo.x) (by omega) (by omega) g2 g3
        have m2 := mul_bd (t := lo.y) (by omega) (by omega) g2 g3
        have m3 := mul_bd (t := hi.x) (by omega) (by omega) g2 g3
        have m4 := mul_bd (t := hi.y) (by omega) (by omega) g2 g3
        have m5 := mul_bd (t := L) (by omega) (by omega) g2 g3
        have m6 := mul_bd (t := H) (by omega) (by omega) g2 g3
        obtain ⟨t, ht⟩ : ∃ t, t = sgn (cr (scP m lo) (scP m hi) p) := ⟨_, rfl⟩
        have hcrm : cr (scP m lo) (scP m hi) p = (hi.x * m - lo.x * m) * (p.y - lo.y * m) - (hi.y * m - lo.y * m) * (p.x - lo.x * m) := rfl
        rw [← ht] at d1 d3
        rw [hcrm] at ht
        clear hcrm
        have s1 : (hi.x - lo.x) * m = hi.x * m - lo.x * m := Int.sub_mul _ _ _
        have s2 : (hi.y - lo.y) * m = hi.y * m - lo.y * m := Int.sub_mul _ _ _
        obtain ⟨X1, hX1⟩ : ∃ t, t = lo.x * m := ⟨_, rfl⟩
        obtain ⟨Y1, hY1⟩ : ∃ t, t = lo.y * m := ⟨_, rfl⟩
        obtain ⟨X2, hX2⟩ : ∃ t, t = hi.x * m := ⟨_, rfl⟩
        obtain ⟨Y2, hY2⟩ : ∃ t, t = hi.y * m := ⟨_, rfl⟩
        obtain ⟨LM, hLM⟩ : ∃ t, t = L * m := ⟨_, rfl⟩
        obtain ⟨HM, hHM⟩ : ∃ t, t = H * m := ⟨_, rfl⟩
        rw [← hX1] at m1 s1 ht
        rw [← hY1] at m2 s2 ht d1 d3
        rw [← hX2] at m3 s1 ht
        rw [← hY2] at m4 s2 ht d1 d3
        rw [← hLM] at m5 d3
        rw [← hHM] at m6 d3
        have u1 : IntKind.i64.wrap (hi.x - lo.x) = hi.x - lo.x := by rw [IntKind.wrap_i64]; omega
        have u2 : IntKind.i64.wrap ((hi.x - lo.x) * m) = X2 - X1 := by rw [s1, IntKind.wrap_i64]; omega
        have u3 : IntKind.i64.wrap (lo.y * m) = Y1 := by rw [← hY1, IntKind.wrap_i64]; omega
        have u4 : IntKind.i64.wrap (p.y - Y1) = p.y - Y1 := by rw [IntKind.wrap_i64]; omega
        have u5 : IntKind.i64.wrap (hi.y - lo.y) = hi.y - lo.y := by rw [IntKind.wrap_i64]; omega
        have u6 : IntKind.i64.wrap ((hi.y - lo.y) * m) = Y2 - Y1 := by rw [s2, IntKind.wrap_i64]; omega
        have u7 : IntKind.i64.wrap (lo.x * m) = X1 := by rw [← hX1, IntKind.wrap_i64]; omega
        have u8 : IntKind.i64.wrap (p.x - X1) = p.x - X1 := by rw [IntKind.wrap_i64]; omega
        have u9 : IntKind.i64.wrap (L * m) = LM := by rw [← hLM, IntKind.wrap_i64]; omega
        have u10 : IntKind.i64.wrap (H * m) = HM := by rw [← hHM, IntKind.wrap_i64]; omega
        have u11 : IntKind.i64.wrap (hi.y * m) = Y2 := by rw [← hY2, IntKind.wrap_i64]; omega
        have HU := Lib.hid (And.intro u9 (And.intro u10 (And.intro u11 u3)))
        obtain ⟨lm, hlm⟩ : ∃ z, z = (X2 - X1) * (p.y - Y1) := ⟨_, rfl⟩
        obtain ⟨rm, hrm⟩ : ∃ z, z = (Y2 - Y1) * (p.x - X1) := ⟨_, rfl⟩
        have kM1 : ∀ V, Calls Tryz.prog 83 #[.int .i64 (X2 - X1), .int .i64 (p.y - Y1)] V fun e w' => e = .returned (.agg #[.int .i64 (lm / 18446744073709551616), .int .u64 (lm % 18446744073709551616)]) ∧ Below V.heap.size V w' := fun V => by rw [hlm]; exact mulR_any2 _ _ V (by omega) (by omega) (by omega) (by omega)
        have kM2 : ∀ V, Calls Tryz.prog 83 #[.int .i64 (Y2 - Y1), .int .i64 (p.x - X1)] V fun e w' => e = .returned (.agg #[.int .i64 (rm / 18446744073709551616), .int .u64 (rm % 18446744073709551616)]) ∧ Below V.heap.size V w' := fun V => by rw [hrm]; exact mulR_any2 _ _ V (by omega) (by omega) (by omega) (by omega)
        rw [← hlm, ← hrm, ← sgn_sub] at ht
        have kC : ∀ V, Calls Tryz.prog 88 #[.agg #[.int .i64 (lm / 18446744073709551616), .int .u64 (lm % 18446744073709551616)], .agg #[.int .i64 (rm / 18446744073709551616), .int .u64 (rm % 18446744073709551616)]] V fun e w' => e = .returned (.int .i64 t) ∧ Below V.heap.size V w' := fun V => by rw [ht]; exact rcompare_any lm rm V
        have HC := Lib.hid kC
        have HX := Lib.hid (And.intro d3 (And.intro d1 HO.out.2))
        have HOn : Hid (onE zs p k = onB (scP m a) (scP m b) p) := HO.out.1
        have HLX := Lib.hid (And.intro hL hH)
        have HK3 := Lib.hid (And.intro kA (And.intro kB kW))
        clear HLH HPQ HO HK g1 g2 g3 g4 g5 g6 g7 hgl hgh d1 d3 hL hH hLb hHb m1 m2 m3 m4 m5 m6 ht s1 s2 hX1 hY1 hX2 hY2 hLM hHM hlm hrm kC u9 u10 u11
        have kz : wr.heap.size + 1 < W3.heap.size := Blk.lt kB
        obtain ⟨a1, a2, -, -, -⟩ := kA.facts
        obtain ⟨b1, b2, -, -, -⟩ := kB.facts
        clear kA kB kW
        go_upto_region 11 with fail
        go_cut [14] (fun s14 wx => ∃ B14, s14 = .pointer (some ⟨B14, 0, none⟩) ∧ W3.heap.size ≤ B14 ∧ Blk wx B14 66 #[.int .i64 (lm / 18446744073709551616), .int .u64 (lm % 18446744073709551616)] ∧ Below W3.heap.size W3 wx)
        case first =>
          go_wp2_with fail
          with_reducible refine (kM1 _).mono ?_
          rintro e w5 ⟨rfl, hb'⟩
          go_wp2_with fail
          go_meet
          exact ⟨_, rfl, hb'.size, Blk.new w5 _ _, hb'.alloc hb'.size _⟩
        case rest =>
          obtain ⟨B14, rfl, hB14, kL, kW⟩ := hcut
          rename World => W4
          clear a1 a2 b1 b2 kM1
          have kA := HK3.out.1.on kW
          have kB := HK3.out.2.1.on kW
          have kz4 : wr.heap.size + 1 < W4.heap.size := Blk.lt kB
          obtain ⟨a1, a2, -, -, -⟩ := kA.facts
          obtain ⟨b1, b2, -, -, -⟩ := kB.facts
          have HK4 := Lib.hid (And.intro kL (And.intro (And.intro kA kB) (below_on HK3.out.2.2 (Nat.le_refl _) kW)))
          clear kA kB kL kW HK3
          go_upto_region 12 with fail
          go_cut [15] (fun s15 wx => ∃ B15, s15 = .pointer (some ⟨B15, 0, none⟩) ∧ W4.heap.size ≤ B15 ∧ Blk wx B15 66 #[.int .i64 (rm / 18446744073709551616), .int .u64 (rm % 18446744073709551616)] ∧ Below W4.heap.size W4 wx)
          case first =>
            go_wp2_with fail
            with_reducible refine (kM2 _).mono ?_
            rintro e w5 ⟨rfl, hb'⟩
            go_wp2_with fail
            go_meet
            exact ⟨_, rfl, hb'.size, Blk.new w5 _ _, hb'.alloc hb'.size _⟩
          case rest =>
            obtain ⟨B15, rfl, hB15, kR, kW⟩ := hcut
            rename World => W5
            clear a1 a2 b1 b2 kM2
            obtain ⟨l1, l2, -, -⟩ := blk2_facts (Blk.below HK4.out.1 kW (Blk.lt HK4.out.1))
            obtain ⟨r1, r2, -, -⟩ := blk2_facts kR
            have kA : PtK W5 wr.heap.size lo := HK4.out.2.1.1.on kW
            have kB : PtK W5 (wr.heap.size + 1) hi := HK4.out.2.1.2.on kW
            have kW5 := below_on HK4.out.2.2 (Nat.le_refl _) kW
            have HK5 := Lib.hid (And.intro kA (And.intro kB kW5))
            clear HK4 kA kB kW5 kW kR
            go_wp2_with fail
            with_reducible refine (HC.out _).mono ?_
            rintro e W6 ⟨rfl, hb6⟩
            have kA : PtK W6 wr.heap.size lo := HK5.out.1.on hb6
            have kB : PtK W6 (wr.heap.size + 1) hi := HK5.out.2.1.on hb6
            have HK6 := Lib.hid (below_on HK5.out.2.2 (Nat.le_refl _) hb6)
            clear HC HK5 hb6 l1 l2 r1 r2
            obtain ⟨a1, a2, -, -, -⟩ := kA.facts
            obtain ⟨b1, b2, -, -, -⟩ := kB.facts
            clear kA kB
            clear u1 u2 u3 u4 u5 u6 u7 u8
            go_upto_if 82 with fail
            go_cut [17, 18] (fun s17 s18 wx => s17 = .int .i64 L ∧ s18 = .int .i64 H ∧ wx = W6)
            case first =>
              by_cases hsw : hi.x < lo.x
              · have e1 : Hid (L = hi.x ∧ H = lo.x) := ⟨by rw [HLX.out.1, if_pos hsw], by rw [HLX.out.2, if_pos hsw]⟩
                clear HLX
                go_wp2_with fail
                go_meet
                exact ⟨by rw [e1.out.1], by rw [e1.out.2], rfl⟩
              · have e1 : Hid (L = lo.x ∧ H = hi.x) := ⟨by rw [HLX.out.1, if_neg hsw], by rw [HLX.out.2, if_neg hsw]⟩
                clear HLX
                go_wp2_with fail
                go_meet
                exact ⟨by rw [e1.out.1], by rw [e1.out.2], rfl⟩
            case rest =>
              obtain ⟨rfl, rfl, rfl⟩ := hcut
              rename World => W7
              clear HLX
              obtain ⟨u9, u10, u11, u3⟩ := HU.out
              clear HU
              obtain ⟨ob, hob⟩ : ∃ ob, ob = onB (scP m a) (scP m b) p := ⟨_, rfl⟩
              have HO : Hid (ob = _) := hob.trans HX.out.1
              have HOb : Hid (onE zs p k = ob) := HOn.out.trans hob.symm
              clear hob HOn
              go_upto_region 19 with fail
              go_cut [118] (fun s wx => s = .bool ob ∧ wx = W7)
              case first =>
                by_cases ht0 : t = 0
                · have ht1 : (t == 0) = true := by simpa using ht0
                  by_cases c0 : LM ≤ p.x
                  · by_cases c1 : p.x ≤ HM
                    · by_cases c2 : Y1 ≤ p.y
                      · by_cases c3 : p.y ≤ Y2
                        · have ex : Hid (ob = true) := by show _ = _; rw [HO.out]; simp [ht0, c0, c1, c2, c3]
                          clear HO ht0
                          go_wp2_with fail
                          go_meet
                          exact ⟨by rw [ex.out], rfl⟩
                        · have ex : Hid (ob = false) := by show _ = _; rw [HO.out]; simp [ht0, c0, c1, c2, c3]
                          clear HO ht0
                          go_wp2_with fail
                          go_meet
                          exact ⟨by rw [ex.out], rfl⟩
                      · have ex : Hid (ob = false) := by show _ = _; rw [HO.out]; simp [ht0, c0, c1, c2]
                        clear HO ht0
                        go_wp2_with fail
                        go_meet
                        exact ⟨by rw [ex.out], rfl⟩
                    · have ex : Hid (ob = false) := by show _ = _; rw [HO.out]; simp [ht0, c0, c1]
                      clear HO ht0
                      go_wp2_with fail
                      go_meet
                      exact ⟨by rw [ex.out], rfl⟩
                  · have ex : Hid (ob = false) := by show _ = _; rw [HO.out]; simp [ht0, c0]
                    clear HO ht0
                    go_wp2_with fail
                    go_meet
                    exact ⟨by rw [ex.out], rfl⟩
                · have ht1 : (t == 0) = false := by simpa using ht0
                  have ex : Hid (ob = false) := by show _ = _; rw [HO.out]; simp [ht0]
                  clear HO ht0
                  go_wp2_with fail
                  go_meet
                  exact ⟨by rw [ex.out], rfl⟩
              case rest =>
                obtain ⟨rfl, rfl⟩ := hcut
                rename World => W8
                clear HO u9 u10
                rcases ob with _ | _
                · have HN1 : Hid (noneN zs p (k + 1)) := noneN_succ HN.out.out (by rw [HOb.out])
                  clear HN HOb
                  by_cases c0 : Y1 ≤ p.y
                  · by_cases c1 : p.y < Y2
                    · by_cases c2 : 0 < t
                      · have ho : Hid (oddN zs p (k + 1) = !o) := by show _ = _; rw [HX.out.2.2, HX.out.2.1]; simp [c0, c1, c2]
                        have hw9 := hw1
                        go_wp2_with fail
                        go_roundw
                        case rel => exact ⟨k + 1, by omega, HN1, by rw [ho.out], by go_num, HK6.out⟩
                        case measure => simp [intOf]; omega
                      · have ho : Hid (oddN zs p (k + 1) = o) := by show _ = _; rw [HX.out.2.2, HX.out.2.1]; simp [c0, c1, c2]
                        go_wp2_with fail
                        go_roundw
                        case rel => exact ⟨k + 1, by omega, HN1, by rw [ho.out], by go_num, HK6.out⟩
                        case measure => simp [intOf]; omega
                    · have ho : Hid (oddN zs p (k + 1) = o) := by show _ = _; rw [HX.out.2.2, HX.out.2.1]; simp [c0, c1]
                      go_wp2_with fail
                      go_roundw
                      case rel => exact ⟨k + 1, by omega, HN1, by rw [ho.out], by go_num, HK6.out⟩
                      case measure => simp [intOf]; omega
                  · have ho : Hid (oddN zs p (k + 1) = o) := by show _ = _; rw [HX.out.2.2, HX.out.2.1]; simp [c0]
                    go_wp2_with fail
                    go_roundw
                    case rel => exact ⟨k + 1, by omega, HN1, by rw [ho.out], by go_num, HK6.out⟩
                    case measure => simp [intOf]; omega
                · have H4 : Hid (res = 0) := by show _ = _; rw [HR.out]; exact sideI_on (by rw [HZL.out]; exact hlt) (by rw [HOb.out])
                  go_wp2_with fail
                  go_ret
                  exact ⟨by rw [H4.out]; rfl, HK6.out⟩
    · have hkn : k = n := by omega
      subst hkn
      have HN := Lib.hid hnone
      clear hnone
      rcases hod : oddN zs p k with _ | _
      · have H4 : Hid (res = -1) := by show _ = _; rw [HR.out, sideI_off (by rw [HZL.out]; exact HN.out), HZL.out, hod]; rfl
        clear hod
        go_wp2_with fail
        go_ret
        exact ⟨by rw [H4.out]; rfl, hbel⟩
      · have H4 : Hid (res = 1) := by show _ = _; rw [HR.out, sideI_off (by rw [HZL.out]; exact HN.out), HZL.out, hod]; rfl
        clear hod
        go_wp2_with fail
        go_ret
        exact ⟨by rw [H4.out]; rfl, hbel⟩
end Go.Proofs.YtglnklfhgdjccaaGreat

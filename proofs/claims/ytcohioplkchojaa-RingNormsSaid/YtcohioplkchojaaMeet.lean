/- geo.Meet: the walk. -/
import Derived.Test.YtcohioplkchojaaLine
import Derived.Deep.DeepCutAuto
import Derived.Deep.RegionHeld3
import Derived.IntWalk
namespace Go.Proofs.Ytcohioplkchojaa
open Go.RowKit
theorem reads_four (w : World) (a b c d : Pt) (k : Nat) (hk : k = w.heap.size) : Reads (w.alloc (.cells #[.int .i64 a.x, .int .i64 a.y, .int .i64 b.x, .int .i64 b.y, .int .i64 c.x, .int .i64 c.y, .int .i64 d.x, .int .i64 d.y] 35)) (w.alloc (.cells #[.int .i64 a.x, .int .i64 a.y, .int .i64 b.x, .int .i64 b.y, .int .i64 c.x, .int .i64 c.y, .int .i64 d.x, .int .i64 d.y] 35)).heap.size 2 (some ⟨k, 0, none⟩) 4 (ptsV [a, b, c, d]) := by
  subst hk
  exact Reads.made w _ _ _ 2 4 _ rfl rfl
theorem good_in {p : Pt} (h : good p = true) : p.inI := by
  rw [good_iff] at h
  unfold Pt.inI
  omega
theorem unit_mul {x y : Int} (hx : -1 ≤ x ∧ x ≤ 1) (hy : -1 ≤ y ∧ y ≤ 1) : -1 ≤ x * y ∧ x * y ≤ 1 := by
  have h : x = -1 ∨ x = 0 ∨ x = 1 := by omega
  rcases h with rfl | rfl | rfl <;> omega
theorem turn6 (x y x' y' x'' y'' : Int) (w : World) (ha : good ⟨x, y⟩ = true) (hb : good ⟨x', y'⟩ = true) (hc : good ⟨x'', y''⟩ = true) :
    Calls Try.prog 99 #[.agg #[.int .i64 x, .int .i64 y], .agg #[.int .i64 x', .int .i64 y'], .agg #[.int .i64 x'', .int .i64 y'']] w fun e w' => e = .returned (.int .i64 (sgn (cr ⟨x, y⟩ ⟨x', y'⟩ ⟨x'', y''⟩))) ∧ Below w.heap.size w w' := turn_any _ _ _ w ha hb hc
theorem held4 {w W W' : World} {p q r s : Int} {p' q' r' s' : Int} (h : W.cell? ⟨w.heap.size, 0, none⟩ = some (.int .i64 p) ∧ W.cell? ⟨w.heap.size, 1, none⟩ = some (.int .i64 p') ∧ W.cell? ⟨w.heap.size + 1, 0, none⟩ = some (.int .i64 q) ∧ W.cell? ⟨w.heap.size + 1, 1, none⟩ = some (.int .i64 q') ∧ W.cell? ⟨w.heap.size + 1 + 1, 0, none⟩ = some (.int .i64 r) ∧ W.cell? ⟨w.heap.size + 1 + 1, 1, none⟩ = some (.int .i64 r') ∧ W.cell? ⟨w.heap.size + 1 + 1 + 1, 0, none⟩ = some (.int .i64 s) ∧ W.cell? ⟨w.heap.size + 1 + 1 + 1, 1, none⟩ = some (.int .i64 s') ∧ w.heap.size + 1 + 1 + 1 < W.heap.size ∧ Below w.heap.size w W) (hb : Below W.heap.size W W') :
    W'.cell? ⟨w.heap.size, 0, none⟩ = some (.int .i64 p) ∧ W'.cell? ⟨w.heap.size, 1, none⟩ = some (.int .i64 p') ∧ W'.cell? ⟨w.heap.size + 1, 0, none⟩ = some (.int .i64 q) ∧ W'.cell? ⟨w.heap.size + 1, 1, none⟩ = some (.int .i64 q') ∧ W'.cell? ⟨w.heap.size + 1 + 1, 0, none⟩ = some (.int .i64 r) ∧ W'.cell? ⟨w.heap.size + 1 + 1, 1, none⟩ = some (.int .i64 r') ∧ W'.cell? ⟨w.heap.size + 1 + 1 + 1, 0, none⟩ = some (.int .i64 s) ∧ W'.cell? ⟨w.heap.size + 1 + 1 + 1, 1, none⟩ = some (.int .i64 s') ∧ w.heap.size + 1 + 1 + 1 < W'.heap.size ∧ Below w.heap.size w W' := by
  obtain ⟨h1, h2, h3, h4, h5, h6, h7, h8, h9, h10⟩ := h
  exact ⟨(hb.cell (p := ⟨_, 0, none⟩) (by simp only; omega)).trans h1, (hb.cell (p := ⟨_, 1, none⟩) (by simp only; omega)).trans h2, (hb.cell (p := ⟨_, 0, none⟩) (by simp only; omega)).trans h3, (hb.cell (p := ⟨_, 1, none⟩) (by simp only; omega)).trans h4, (hb.cell (p := ⟨_, 0, none⟩) (by simp only; omega)).trans h5, (hb.cell (p := ⟨_, 1, none⟩) (by simp only; omega)).trans h6, (hb.cell (p := ⟨_, 0, none⟩) (by simp only; omega)).trans h7, (hb.cell (p := ⟨_, 1, none⟩) (by simp only; omega)).trans h8, Nat.lt_of_lt_of_le h9 hb.size, below_on h10 (Nat.le_refl _) hb⟩
set_option maxRecDepth 100000 in
set_option maxHeartbeats 6400000 in
theorem meet_any (a b c d : Pt) (w : World) (ha : good a = true) (hb : good b = true) (hc : good c = true) (hd : good d = true) :
    Calls Try.prog 86 #[ptV a, ptV b, ptV c, ptV d] w fun e w' => e = .returned (.tuple #[.int .i64 (meetP a b c d), .int .i64 0]) ∧ Below w.heap.size w w' := by
  have hnew := four_new w a b c d
  have HG := Lib.hid (And.intro ha (And.intro hb (And.intro hc hd)))
  clear ha hb hc hd
  obtain ⟨X1, hX1⟩ : ∃ X, (if a.x < b.x then b.x else a.x) = X := ⟨_, rfl⟩
  obtain ⟨X2, hX2⟩ : ∃ X, (if d.x < c.x then d.x else c.x) = X := ⟨_, rfl⟩
  obtain ⟨X3, hX3⟩ : ∃ X, (if c.x < d.x then d.x else c.x) = X := ⟨_, rfl⟩
  obtain ⟨X4, hX4⟩ : ∃ X, (if b.x < a.x then b.x else a.x) = X := ⟨_, rfl⟩
  obtain ⟨Y1, hY1⟩ : ∃ X, (if a.y < b.y then b.y else a.y) = X := ⟨_, rfl⟩
  obtain ⟨Y2, hY2⟩ : ∃ X, (if d.y < c.y then d.y else c.y) = X := ⟨_, rfl⟩
  obtain ⟨Y3, hY3⟩ : ∃ X, (if c.y < d.y then d.y else c.y) = X := ⟨_, rfl⟩
  obtain ⟨Y4, hY4⟩ : ∃ X, (if b.y < a.y then b.y else a.y) = X := ⟨_, rfl⟩
  have hap : apB a b c d = decide (X1 < X2 ∨ X3 < X4 ∨ Y1 < Y2 ∨ Y3 < Y4) := by
    unfold apB mx mn
    rw [hX1, hX2, hX3, hX4, hY1, hY2, hY3, hY4]
  have HX := Lib.hid (And.intro hX1 (And.intro hX2 (And.intro hX3 (And.intro hX4 (And.intro hY1 (And.intro hY2 (And.intro hY3 hY4)))))))
  clear hX1 hX2 hX3 hX4 hY1 hY2 hY3 hY4
  obtain ⟨r, hr⟩ : ∃ r, r = meetP a b c d := ⟨_, rfl⟩
  rw [← hr]
  have HA := Lib.hid (And.intro hap hr)
  clear hap hr
  unfold ptV
  go_enter Try.func86, Try.ntmps86
  have HN := Lib.hid hnew
  clear hnew
  go_upto_region 1 with fail
  refine wp_named fun W hW => ?_
  obtain ⟨kA, kB, kC, kD, kW, kz⟩ := HN.out W hW
  clear hW HN kz
  obtain ⟨a1, a2, a3⟩ := kA.pt
  obtain ⟨b1, b2, b3⟩ := kB.pt
  obtain ⟨c1, c2, c3⟩ := kC.pt
  obtain ⟨d1, d2, d3⟩ := kD.pt
  go_wp2_with fail
  refine (good_any [a, b, c, d] _ 4 4 _ ?hq (by omega) ?hin).mono ?_
  case hq => exact reads_four W a b c d _ rfl
  case hin =>
    intro p hp
    have := HG.out
    simp at hp
    rcases hp with rfl | rfl | rfl | rfl
    · exact good_in this.1
    · exact good_in this.2.1
    · exact good_in this.2.2.1
    · exact good_in this.2.2.2
  rintro e w1 ⟨rfl, hb1⟩
  have hgl : goodL [a, b, c, d] = true := by simp [goodL, HG.out]
  rw [hgl]
  replace kA := (kA.alloc _).on hb1
  replace kB := (kB.alloc _).on hb1
  replace kC := (kC.alloc _).on hb1
  replace kD := (kD.alloc _).on hb1
  replace kW := (kW.alloc kW.size _).trans (hb1.mono (by simp; have := kW.size; omega))
  clear hgl hb1 a1 a2 a3 b1 b2 b3 c1 c2 c3 d1 d2 d3
  obtain ⟨a1, a2, a3⟩ := kA.pt
  obtain ⟨b1, b2, b3⟩ := kB.pt
  obtain ⟨c1, c2, c3⟩ := kC.pt
  obtain ⟨d1, d2, d3⟩ := kD.pt
  go_upto_region 3 with fail
  obtain ⟨bx, hbx⟩ : ∃ bx, bx = decide (X1 < X2 ∨ X3 < X4 ∨ Y1 < Y2 ∨ Y3 < Y4) := ⟨_, rfl⟩
  have HB := Lib.hid hbx
  clear hbx
  go_cut [70] (fun s wx => s = .bool bx ∧ wx = w1)
  case first =>
    obtain ⟨hX1, hX2, hX3, hX4, hY1, hY2, hY3, hY4⟩ := HX.out
    have h5 : (X1 < X2) ∨ (X2 ≤ X1 ∧ X3 < X4) ∨ (X2 ≤ X1 ∧ X4 ≤ X3 ∧ Y1 < Y2) ∨ (X2 ≤ X1 ∧ X4 ≤ X3 ∧ Y2 ≤ Y1 ∧ Y3 < Y4) ∨ (X2 ≤ X1 ∧ X4 ≤ X3 ∧ Y2 ≤ Y1 ∧ Y4 ≤ Y3) := by omega
    have HB5 := HB.out
    rcases h5 with h | ⟨h, h2⟩ | ⟨h, h2, h3⟩ | ⟨h, h2, h3, h4⟩ | ⟨h, h2, h3, h4⟩
    all_goals
      first
      | (rw [decide_eq_true (by omega)] at HB5)
      | (rw [decide_eq_false (by omega)] at HB5)
      have HB6 := Lib.hid HB5
      clear HB5
      go_wp2_with fail
      go_meet
      exact ⟨by first | (rw [HB6.out]; done) | (rw [HB6.out]; congr 1; simp; omega), rfl⟩
  case rest =>
    obtain ⟨rfl, rfl⟩ := hcut
    clear HX
    have hap := HA.out.1
    rw [← HB.out] at hap
    have hrr := HA.out.2
    unfold meetP at hrr
    rw [hap] at hrr
    clear hap HA HB
    rcases bx with _ | _
    · rw [if_neg (by decide)] at hrr
      obtain ⟨zB, hz⟩ : ∃ z, z = zeB a b c d := ⟨_, rfl⟩
      obtain ⟨pB, hp⟩ : ∃ z, z = prB a b c d := ⟨_, rfl⟩
      obtain ⟨oB, ho⟩ : ∃ z, z = oeB a b c d := ⟨_, rfl⟩
      rw [← hz, ← hp, ← ho] at hrr
      have HR := Lib.hid hrr
      unfold zeB at hz
      unfold prB at hp
      unfold oeB at ho
      have HO := Lib.hid ho
      clear hrr ho
      obtain ⟨t1, ht1⟩ : ∃ t, t = sgn (cr a b c) := ⟨_, rfl⟩
      obtain ⟨t2, ht2⟩ : ∃ t, t = sgn (cr a b d) := ⟨_, rfl⟩
      obtain ⟨t3, ht3⟩ : ∃ t, t = sgn (cr c d a) := ⟨_, rfl⟩
      obtain ⟨t4, ht4⟩ : ∃ t, t = sgn (cr c d b) := ⟨_, rfl⟩
      rw [← ht1, ← ht2, ← ht3, ← ht4] at hz hp
      have hbd : (-1 ≤ t1 ∧ t1 ≤ 1) ∧ (-1 ≤ t2 ∧ t2 ≤ 1) ∧ (-1 ≤ t3 ∧ t3 ≤ 1) ∧ (-1 ≤ t4 ∧ t4 ≤ 1) := by rw [ht1, ht2, ht3, ht4]; exact ⟨sgn_bd _, sgn_bd _, sgn_bd _, sgn_bd _⟩
      have HT := Lib.hid (And.intro ht1 (And.intro ht2 (And.intro ht3 ht4)))
      have HZ := Lib.hid (And.intro hz hp)
      have HD := Lib.hid hbd
      clear hz hp ht1 ht2 ht3 ht4 hbd
      go_upto_region 5 with fail
      go_cut [10, 11, 12, 13] (fun s1 s2 s3 s4 wx => s1 = .int .i64 t1 ∧ s2 = .int .i64 t2 ∧ s3 = .int .i64 t3 ∧ s4 = .int .i64 t4 ∧ HasPt wx w.heap.size a ∧ HasPt wx (w.heap.size + 1) b ∧ HasPt wx (w.heap.size + 1 + 1) c ∧ HasPt wx (w.heap.size + 1 + 1 + 1) d ∧ Below w.heap.size w wx)
      case first =>
        go_region_held3 (fun W => W.cell? ⟨w.heap.size, 0, none⟩ = some (.int .i64 a.x) ∧ W.cell? ⟨w.heap.size, 1, none⟩ = some (.int .i64 a.y) ∧ W.cell? ⟨w.heap.size + 1, 0, none⟩ = some (.int .i64 b.x) ∧ W.cell? ⟨w.heap.size + 1, 1, none⟩ = some (.int .i64 b.y) ∧ W.cell? ⟨w.heap.size + 1 + 1, 0, none⟩ = some (.int .i64 c.x) ∧ W.cell? ⟨w.heap.size + 1 + 1, 1, none⟩ = some (.int .i64 c.y) ∧ W.cell? ⟨w.heap.size + 1 + 1 + 1, 0, none⟩ = some (.int .i64 d.x) ∧ W.cell? ⟨w.heap.size + 1 + 1 + 1, 1, none⟩ = some (.int .i64 d.y) ∧ w.heap.size + 1 + 1 + 1 < W.heap.size ∧ Below w.heap.size w W)
          (first | exact ⟨a1, a2, b1, b2, c1, c2, d1, d2, d3, kW.drew⟩ | exact held4 (by assumption) (by assumption))
          (first
            | (go_simp; go_at_call 99; (with_reducible refine (turn6 _ _ _ _ _ _ _ ?_ ?_ ?_).mono ?_); (first | exact HG.out.1 | exact HG.out.2.1 | exact HG.out.2.2.1 | exact HG.out.2.2.2); (first | exact HG.out.1 | exact HG.out.2.1 | exact HG.out.2.2.1 | exact HG.out.2.2.2); (first | exact HG.out.1 | exact HG.out.2.1 | exact HG.out.2.2.1 | exact HG.out.2.2.2); rintro e w' ⟨rfl, hb'⟩))
        rename_i hH
        obtain ⟨h1, h2, h3, h4, h5, h6, h7, h8, h9, h10⟩ := hH
        go_wp2_with fail
        go_meet
        exact ⟨by rw [HT.out.1], by rw [HT.out.2.1], by rw [HT.out.2.2.1], by rw [HT.out.2.2.2], ⟨h1, h2, by omega⟩, ⟨h3, h4, by omega⟩, ⟨h5, h6, by omega⟩, ⟨h7, h8, by omega⟩, h10⟩
      case rest =>
        clear kA kB kC kD kW a1 a2 a3 b1 b2 b3 c1 c2 c3 d1 d2 d3
        obtain ⟨rfl, rfl, rfl, rfl, kA, kB, kC, kD, kW⟩ := hcut
        obtain ⟨w1, rfl⟩ : ∃ w1, w1 = wc := ⟨_, rfl⟩
        go_upto_region 6 with fail
        go_cut [87] (fun s wx => s = .bool zB ∧ wx = w1)
        case first =>
          have h5 : t1 ≠ 0 ∨ (t1 = 0 ∧ t2 ≠ 0) ∨ (t1 = 0 ∧ t2 = 0 ∧ t3 ≠ 0) ∨ (t1 = 0 ∧ t2 = 0 ∧ t3 = 0 ∧ t4 ≠ 0) ∨ (t1 = 0 ∧ t2 = 0 ∧ t3 = 0 ∧ t4 = 0) := by omega
          have hz := HZ.out.1
          have HZ2 := Lib.hid hz
          clear hz
          rcases h5 with h | ⟨h, h2⟩ | ⟨h, h2, h3⟩ | ⟨h, h2, h3, h4⟩ | ⟨h, h2, h3, h4⟩
          all_goals
            first
            | (have g1 : (t1 == 0) = false := by simpa using h)
            | (have g1 : (t1 == 0) = true := by simpa using h
               first
               | (have g2 : (t2 == 0) = false := by simpa using h2)
               | (have g2 : (t2 == 0) = true := by simpa using h2
                  first
                  | (have g3 : (t3 == 0) = false := by simpa using h3)
                  | (have g3 : (t3 == 0) = true := by simpa using h3
                     first
                     | (have g4 : (t4 == 0) = false := by simpa using h4)
                     | (have g4 : (t4 == 0) = true := by simpa using h4))))
            first
            | (have HZ3 : Hid (zB = true) := by show _ = _; rw [HZ2.out]; exact decide_eq_true (by omega))
            | (have HZ3 : Hid (zB = false) := by show _ = _; rw [HZ2.out]; exact decide_eq_false (by omega))
            clear HZ2
            go_wp2_with fail
            go_meet
            exact ⟨by first | (rw [HZ3.out]; done) | (rw [HZ3.out]; rfl), rfl⟩
        case rest =>
          obtain ⟨rfl, rfl⟩ := hcut
          rcases zB with _ | _
          · have HR2 : Hid (r = if pB = true then 2 else if oB = true then 1 else 0) := by show _ = _; rw [HR.out, if_neg (by decide)]
            have hp := HZ.out.2
            have hbd := HD.out
            have H3 : Hid ((¬ t1 * t2 < 0 ∧ pB = false) ∨ (t1 * t2 < 0 ∧ ¬ t3 * t4 < 0 ∧ pB = false) ∨ (t1 * t2 < 0 ∧ t3 * t4 < 0 ∧ pB = true)) := by
              show _ ∨ _
              rw [hp]
              by_cases q1 : t1 * t2 < 0
              · by_cases q2 : t3 * t4 < 0
                · exact .inr (.inr ⟨q1, q2, decide_eq_true ⟨q1, q2⟩⟩)
                · exact .inr (.inl ⟨q1, q2, decide_eq_false (fun h => q2 h.2)⟩)
              · exact .inl ⟨q1, decide_eq_false (fun h => q1 h.1)⟩
            have hm : (-1 ≤ t1 * t2 ∧ t1 * t2 ≤ 1) ∧ (-1 ≤ t3 * t4 ∧ t3 * t4 ≤ 1) := ⟨unit_mul hbd.1 hbd.2.1, unit_mul hbd.2.2.1 hbd.2.2.2⟩
            obtain ⟨m1, hm1⟩ : ∃ m, m = t1 * t2 := ⟨_, rfl⟩
            obtain ⟨m2, hm2⟩ : ∃ m, m = t3 * t4 := ⟨_, rfl⟩
            rw [← hm1, ← hm2] at hm H3
            have hw1 : IntKind.i64.wrap (t1 * t2) = m1 := by rw [← hm1]; exact IntWalk.i64_in _ (by omega)
            have hw2 : IntKind.i64.wrap (t3 * t4) = m2 := by rw [← hm2]; exact IntWalk.i64_in _ (by omega)
            have hw3 : wrap64 (t1 * t2) = m1 := by rw [← hm1]; unfold wrap64; omega
            have hw4 : wrap64 (t3 * t4) = m2 := by rw [← hm2]; unfold wrap64; omega
            clear hp hbd hm1 hm2 hm HZ HD HR
            obtain ⟨w1, rfl⟩ : ∃ w1, w1 = wc := ⟨_, rfl⟩
            go_upto_region 8 with fail
            go_cut [107] (fun s wx => s = .bool pB ∧ wx = w1)
            case first =>
              rcases H3.out with ⟨q1, e⟩ | ⟨q1, q2, e⟩ | ⟨q1, q2, e⟩
              all_goals
                have HE := Lib.hid e
                clear e
                go_wp2_with fail
                go_meet
                exact ⟨by first | (rw [HE.out]; done) | (rw [HE.out]; rfl), rfl⟩
            case rest =>
              obtain ⟨rfl, rfl⟩ := hcut
              clear hw1 hw2 hw3 hw4 H3
              rcases pB with _ | _
              · have HR3 : Hid (r = if oB = true then 1 else 0) := by show _ = _; rw [HR2.out, if_neg (by decide)]
                have ho := HO.out
                have H5 : Hid ((onP a b c = true ∧ oB = true) ∨ (onP a b c = false ∧ onP a b d = true ∧ oB = true) ∨ (onP a b c = false ∧ onP a b d = false ∧ onP c d a = true ∧ oB = true) ∨ (onP a b c = false ∧ onP a b d = false ∧ onP c d a = false ∧ onP c d b = true ∧ oB = true) ∨ (onP a b c = false ∧ onP a b d = false ∧ onP c d a = false ∧ onP c d b = false ∧ oB = false)) := by
                  show _ ∨ _
                  rw [ho]
                  cases onP a b c <;> cases onP a b d <;> cases onP c d a <;> cases onP c d b <;> simp
                clear ho
                obtain ⟨w1, rfl⟩ : ∃ w1, w1 = wc := ⟨_, rfl⟩
                go_upto_region 10 with fail
                go_cut [118] (fun s wx => s = .bool oB ∧ Below w.heap.size w wx)
                case first =>
                  obtain ⟨a1, a2, a3⟩ := kA
                  obtain ⟨b1, b2, b3⟩ := kB
                  obtain ⟨c1, c2, c3⟩ := kC
                  obtain ⟨d1, d2, d3⟩ := kD
                  go_wp2_with fail
                  refine (on_any a b c _ HG.out.1 HG.out.2.1 HG.out.2.2.1).mono ?_
                  rintro e w2 ⟨rfl, hb2⟩
                  replace kW := below_on kW (Nat.le_refl _) hb2
                  obtain ⟨a1, a2, a3⟩ := HasPt.on ⟨a1, a2, a3⟩ hb2
                  obtain ⟨b1, b2, b3⟩ := HasPt.on ⟨b1, b2, b3⟩ hb2
                  obtain ⟨c1, c2, c3⟩ := HasPt.on ⟨c1, c2, c3⟩ hb2
                  obtain ⟨d1, d2, d3⟩ := HasPt.on ⟨d1, d2, d3⟩ hb2
                  clear hb2
                  rcases H5.out with ⟨e1, rfl⟩ | H5
                  · rw [e1]
                    go_wp2_with fail
                    go_meet
                    exact ⟨rfl, kW⟩
                  · have HH := Lib.hid H5
                    have e1 : onP a b c = false := by rcases H5 with ⟨e, _⟩ | ⟨e, _⟩ | ⟨e, _⟩ | ⟨e, _⟩ <;> exact e
                    rw [e1]
                    clear H5 e1
                    go_wp2_with fail
                    refine (on_any a b d _ HG.out.1 HG.out.2.1 HG.out.2.2.2).mono ?_
                    rintro e w3 ⟨rfl, hb3⟩
                    replace kW := below_on kW (Nat.le_refl _) hb3
                    obtain ⟨a1, a2, a3⟩ := HasPt.on ⟨a1, a2, a3⟩ hb3
                    obtain ⟨b1, b2, b3⟩ := HasPt.on ⟨b1, b2, b3⟩ hb3
                    obtain ⟨c1, c2, c3⟩ := HasPt.on ⟨c1, c2, c3⟩ hb3
                    obtain ⟨d1, d2, d3⟩ := HasPt.on ⟨d1, d2, d3⟩ hb3
                    clear hb3
                    rcases HH.out with ⟨_, e2, rfl⟩ | HH
                    · rw [e2]
                      go_wp2_with fail
                      go_meet
                      exact ⟨rfl, kW⟩
                    · have HI := Lib.hid HH
                      have e2 : onP a b d = false := by rcases HH with ⟨_, e, _⟩ | ⟨_, e, _⟩ | ⟨_, e, _⟩ <;> exact e
                      rw [e2]
                      clear HH e2
                      go_wp2_with fail
                      refine (on_any c d a _ HG.out.2.2.1 HG.out.2.2.2 HG.out.1).mono ?_
                      rintro e w4 ⟨rfl, hb4⟩
                      replace kW := below_on kW (Nat.le_refl _) hb4
                      obtain ⟨b1, b2, b3⟩ := HasPt.on ⟨b1, b2, b3⟩ hb4
                      obtain ⟨c1, c2, c3⟩ := HasPt.on ⟨c1, c2, c3⟩ hb4
                      obtain ⟨d1, d2, d3⟩ := HasPt.on ⟨d1, d2, d3⟩ hb4
                      clear hb4
                      rcases HI.out with ⟨_, _, e3, rfl⟩ | HI
                      · rw [e3]
                        go_wp2_with fail
                        go_meet
                        exact ⟨rfl, kW⟩
                      · have HJ := Lib.hid HI
                        have e3 : onP c d a = false := by rcases HI with ⟨_, _, e, _⟩ | ⟨_, _, e, _⟩ <;> exact e
                        rw [e3]
                        clear HI e3
                        go_wp2_with fail
                        refine (on_any c d b _ HG.out.2.2.1 HG.out.2.2.2 HG.out.2.1).mono ?_
                        rintro e w5 ⟨rfl, hb5⟩
                        replace kW := below_on kW (Nat.le_refl _) hb5
                        clear hb5
                        rcases HJ.out with ⟨_, _, _, e4, rfl⟩ | ⟨_, _, _, e4, rfl⟩
                        all_goals
                          rw [e4]
                          go_wp2_with fail
                          go_meet
                          exact ⟨rfl, kW⟩
                case rest =>
                  obtain ⟨rfl, kW⟩ := hcut
                  rcases oB with _ | _
                  · have hr0 := HR3.out
                    rw [if_neg (by decide)] at hr0
                    clear HR3 HR2 HO H5
                    subst hr0
                    go_wp2
                    go_ret2
                    exact ⟨rfl, kW⟩
                  · have hr0 := HR3.out
                    rw [if_pos rfl] at hr0
                    clear HR3 HR2 HO H5
                    subst hr0
                    go_wp2
                    go_ret2
                    exact ⟨rfl, kW⟩
              · have hr0 := HR2.out
                rw [if_pos rfl] at hr0
                clear HR2
                subst hr0
                go_wp2
                go_ret2
                exact ⟨rfl, kW⟩
          · have HR2 : Hid (r = lineI a b c d) := by show _ = _; rw [HR.out, if_pos rfl]
            obtain ⟨a1, a2, a3⟩ := kA
            obtain ⟨b1, b2, b3⟩ := kB
            obtain ⟨c1, c2, c3⟩ := kC
            obtain ⟨d1, d2, d3⟩ := kD
            go_wp2_with fail
            refine (line_any a b c d _).mono ?_
            rintro e w2 ⟨rfl, hb2⟩
            rw [← HR2.out]
            go_wp2
            go_ret2
            exact ⟨rfl, below_on kW (Nat.le_refl _) hb2⟩
    · have hr0 : r = 0 := by rw [hrr, if_pos rfl]
      clear hrr
      subst hr0
      go_wp2
      go_ret2
      exact ⟨rfl, kW⟩
end Go.Proofs.Ytcohioplkchojaa

/- GridGrows: the walk: true, and older memory is as it was. -/
import Derived.Test.YtfdagmlfaklcbaaGrowLaw
import Derived.Test.YtfdagmlfaklcbaaLawGridSpans
namespace Go.Proofs.Ytfdagmlfaklcbaa
open Go.RowKit
theorem wrap64_in (z : Int) : -9223372036854775808 ≤ wrap64 z ∧ wrap64 z ≤ 9223372036854775807 := by unfold wrap64; omega
/-- A window's cells and a greater one's. -/
theorem grow_list {v u : Win} (h : winE v = 0) (h' : winE u = 0) (e1 : u.lx = v.lx) (e2 : u.ly = v.ly) (h1 : v.hx ≤ u.hx) (h2 : v.hy ≤ u.hy) :
    ∃ P, spanC v = (spanC u).filter P := by
  refine ⟨inner (u.lx / 268435456) (u.ly / 268435456) (nRow v) (nCol v), ?_⟩
  unfold spanC
  rw [if_pos h, if_pos h']
  unfold spanW
  rw [spanR_filter _ _ _ _ _ _ (by unfold nRow; omega) (by unfold nCol; omega), e1, e2]
theorem grow_rise {u : Win} (h' : winE u = 0) (k : Nat) (h : k + 1 < (spanC u).length) :
    ((spanC u)[k]'(by omega)).x < ((spanC u)[k + 1]).x ∨ ((spanC u)[k]'(by omega)).x = ((spanC u)[k + 1]).x ∧ ((spanC u)[k]'(by omega)).y < ((spanC u)[k + 1]).y := by
  have e : spanC u = spanR (u.lx / 268435456) (u.ly / 268435456) (nRow u) (nCol u) := by unfold spanC; rw [if_pos h']; rfl
  simp only [e] at h ⊢
  exact spanR_rise _ _ _ _ _ h
theorem span_pos {u : Win} (h' : winE u = 0) : 0 < (spanC u).length := by
  obtain ⟨⟨g1, g2, g3⟩, g4, g5, g6⟩ := win_good h'
  unfold spanC
  rw [if_pos h']
  unfold spanW
  rw [spanR_length]
  exact Nat.mul_pos (by unfold nCol; omega) (by unfold nRow; omega)
set_option maxRecDepth 100000 in
set_option maxHeartbeats 1600000 in
theorem gridGrows_any (v : Win) (dx dy : Int) (w : World) (hv : v.inI) (hx0 : 0 ≤ dx) (hx1 : dx ≤ 4294967295) (hy0 : 0 ≤ dy) (hy1 : dy ≤ 4294967295) :
    Calls Try.prog 7 #[winV v, .int .u32 dx, .int .u32 dy] w fun e w' => e = .returned (.bool true) ∧ Below w.heap.size w w' := by
  obtain ⟨X, hX⟩ : ∃ X, X = wrap64 (v.hx + dx) := ⟨_, rfl⟩
  obtain ⟨Y, hY⟩ : ∃ Y, Y = wrap64 (v.hy + dy) := ⟨_, rfl⟩
  obtain ⟨u, hu⟩ : ∃ u : Win, u = ⟨v.lx, v.ly, X, Y⟩ := ⟨_, rfl⟩
  have huI : u.inI := by
    subst hu hX hY
    exact ⟨hv.1, wrap64_in _, wrap64_in _⟩
  have hlist : winE v = 0 → winE u = 0 → ∃ P, spanC v = (spanC u).filter P := by
    intro h h'
    obtain ⟨⟨g1, g2, g3⟩, g4, g5, g6⟩ := win_good h
    obtain ⟨⟨j1, j2, j3⟩, j4, j5, j6⟩ := win_good h'
    subst hu
    refine grow_list h h' rfl rfl ?_ ?_
    · simp only; rw [hX]; unfold wrap64; omega
    · simp only; rw [hY]; unfold wrap64; omega
  have HL := Lib.hid hlist
  have HX := Lib.hid (And.intro hX hY)
  have hW := HasWin.new w v 36
  have hU := HasWin.new (w.alloc (.cells #[.int .i64 v.lx, .int .i64 v.ly, .int .i64 v.hx, .int .i64 v.hy] 36)) u 36
  have hW := hW.alloc (.cells #[.int .i64 u.lx, .int .i64 u.ly, .int .i64 u.hx, .int .i64 u.hy] 36)
  have hB : Below w.heap.size w ((w.alloc (.cells #[.int .i64 v.lx, .int .i64 v.ly, .int .i64 v.hx, .int .i64 v.hy] 36)).alloc (.cells #[.int .i64 u.lx, .int .i64 u.ly, .int .i64 u.hx, .int .i64 u.hy] 36)) := ((Below.refl _ _).alloc (Nat.le_refl _) _).alloc (by simp) _
  rw [World.size_alloc] at hU
  clear hlist hX hY
  unfold winV
  go_enter Try.func7, Try.ntmps7
  go_wp2_with fail
  go_region
  rw [← HX.out.1, ← HX.out.2]
  have eu : Obj.cells #[.int .i64 v.lx, .int .i64 v.ly, .int .i64 X, .int .i64 Y] 36 = Obj.cells #[.int .i64 u.lx, .int .i64 u.ly, .int .i64 u.hx, .int .i64 u.hy] 36 := by rw [hu]
  rw [eu]
  clear eu
  obtain ⟨w0, hw0⟩ : ∃ w0, w0 = ((w.alloc (.cells #[.int .i64 v.lx, .int .i64 v.ly, .int .i64 v.hx, .int .i64 v.hy] 36)).alloc (.cells #[.int .i64 u.lx, .int .i64 u.ly, .int .i64 u.hx, .int .i64 u.hy] 36)).drew := ⟨_, rfl⟩
  have hW0 : HasWin w0 w.heap.size v := by rw [hw0]; exact hW
  have hU0 : HasWin w0 (w.heap.size + 1) u := by rw [hw0]; exact hU
  have hB0 : Below w.heap.size w w0 := by rw [hw0]; exact hB.drew
  rw [← hw0]
  have HU := Lib.hid hu
  clear hw0 hW hU hB hu
  obtain ⟨k1, k2, k3, k4, k5⟩ := hW0
  have hW0 : HasWin w0 w.heap.size v := ⟨k1, k2, k3, k4, k5⟩
  go_wp2_with fail
  refine (span_any v _ hv).mono ?_
  rintro e w1 ⟨A, c, rfl, ho1, hb1⟩
  have hU1 := hU0.on hb1
  have hB1 := below_on hB0 (Nat.le_refl _) hb1
  have hr1 := Reads.of_own ho1
  have hc1 := own_cap ho1
  clear ho1 hb1 k1 k2 k3 k4 k5 hW0 hU0 hB0
  obtain ⟨k1, k2, k3, k4, k5⟩ := hU1
  go_wp2_with fail
  refine (span_any u _ huI).mono ?_
  rintro e w2 ⟨A2, c2, rfl, ho2, hb2⟩
  have hB2 := below_on hB1 (Nat.le_refl _) hb2
  have hr2 := hr1.on hb2
  have hq2 := Reads.of_own ho2
  have hc2 := own_cap ho2
  clear ho2 hb2 k1 k2 k3 k4 k5 hB1 hr1
  go_wp2_with fail
  refine (ans09_any _).mono ?_
  rintro e w3 ⟨rfl, hb3⟩
  have hB3 := below_on hB2 (Nat.le_refl _) hb3
  have hr3 := hr2.on hb3
  have hq3 := hq2.on hb3
  clear hb3 hB2 hr2 hq2
  by_cases hE : winE v = 0
  · by_cases hE' : winE u = 0
    · obtain ⟨P, hP⟩ := HL.out hE hE'
      have hpos := span_pos hE'
      have hpos' := span_pos hE
      have h0 : (winE v != 0) = false := by rw [hE]; rfl
      have h1 : (winE u != 0) = false := by rw [hE']; rfl
      obtain ⟨a, ha⟩ : ∃ a, a = spanC v := ⟨_, rfl⟩
      obtain ⟨b, hb⟩ : ∃ b, b = spanC u := ⟨_, rfl⟩
      rw [← ha] at hP hr3 hc1 hpos'
      have hrise : ∀ (k : Nat) (h : k + 1 < b.length), (b[k]'(by omega)).x < (b[k + 1]).x ∨ (b[k]'(by omega)).x = (b[k + 1]).x ∧ (b[k]'(by omega)).y < (b[k + 1]).y := by
        rw [hb]
        exact grow_rise hE'
      rw [← hb] at hP hpos hq3 hc2
      rw [← ha, ← hb]
      clear ha hb hE hE'
      obtain ⟨n, hn⟩ : ∃ n, n = a.length := ⟨_, rfl⟩
      obtain ⟨m, hm⟩ : ∃ m, m = b.length := ⟨_, rfl⟩
      rw [← hn] at hr3 hc1 hpos'
      rw [← hm] at hpos hq3 hc2
      rw [← hn, ← hm]
      have HP := Lib.hid hP
      have HN := Lib.hid (And.intro hn hm)
      have HR := Lib.hid hrise
      clear hP hn hm hrise
      go_wp2
      go_loopw [12] (fun i wr => ∃ k : Nat, k < m ∧ i = .int .i64 ((k : Int) + 1) ∧ Below w3.heap.size w3 wr) (fun i _ => m + 1 - (intOf i).toNat)
      case atStart => exact ⟨0, hpos, by simp, Below.refl _ _⟩
      case round =>
        obtain ⟨k, hk, rfl, hbel⟩ := hrel
        by_cases hlt : k + 1 < m
        · obtain ⟨ad, rfl, hbd, hkl, hcx, hcy⟩ := (hq3.below hbel).pt hk
          obtain ⟨ad', e', hbd', hkl', hcx', hcy'⟩ := (hq3.below hbel).pt hlt
          obtain rfl : ad = ad' := by simpa using e'
          have hrs := HR.out k hkl'
          obtain ⟨⟨x, y⟩, hp⟩ : ∃ p, p = b[k] := ⟨_, rfl⟩
          obtain ⟨⟨x', y'⟩, hq⟩ : ∃ p, p = b[k + 1] := ⟨_, rfl⟩
          rw [← hp] at hcx hcy hrs
          rw [← hq] at hcx' hcy' hrs
          simp only at hcx hcy hcx' hcy' hrs
          have hw0 : IntKind.i64.wrap (k : Int) = (k : Int) := IntWalk.i64_in _ (by omega)
          have hw1 : IntKind.i64.wrap ((k : Int) + 1 - 1) = (k : Int) := by rw [IntWalk.i64_in _ (by omega)]; omega
          have hw2 : ((k : Int) + 1).toNat = k + 1 := by omega
          have hw3 : (k : Int) + 1 < (m : Int) := by omega
          have hw4 : IntKind.i64.wrap ((k : Int) + 1 + 1) = (k : Int) + 1 + 1 := IntWalk.i64_in _ (by omega)
          clear e' hp hq
          rcases hrs with h | ⟨h, h'⟩
          · have g1 : decide (x' < x) = false := decide_eq_false (by omega)
            have g2 : (x == x') = false := by simp; omega
            go_wp2
            go_quiet (fail)
            go_wp2
            go_roundw
            case rel => exact ⟨k + 1, by omega, by go_num, below_drewN hbel _⟩
            case measure => simp [intOf]; omega
          · subst h
            have g1 : decide (x < x) = false := decide_eq_false (by omega)
            have g2 : decide (y' ≤ y) = false := decide_eq_false (by omega)
            go_wp2
            go_quiet (fail)
            go_wp2
            go_roundw
            case rel => exact ⟨k + 1, by omega, by go_num, below_drewN hbel _⟩
            case measure => simp [intOf]; omega
        · have hkm : k + 1 = m := by omega
          have hlt' : ¬ (k : Int) + 1 < (m : Int) := by omega
          have HC : Hid (∀ i, cnt P b i ≤ n) := fun i => by have := cnt_le P b i; rw [← HP.out, ← HN.out.1] at this; exact this
          go_wp2
          obtain ⟨wo, rfl⟩ : ∃ wo : World, wo = wr := ⟨_, rfl⟩
          go_loopw [13, 14] (fun j i wr => ∃ i' q : Nat, i' ≤ m ∧ Hid (q = cnt P b i') ∧ j = .int .i64 (q : Int) ∧ i = .int .i64 (i' : Int) ∧ Below w3.heap.size w3 wr) (fun _ i _ => m - (intOf i).toNat)
          case atStart => exact ⟨0, 0, Nat.zero_le _, by show 0 = _; simp [cnt], rfl, rfl, hbel⟩
          case round =>
            clear hbel
            obtain ⟨i, q, hi, hq, rfl, rfl, hbel⟩ := hrel
            have hqn : q ≤ n := by rw [hq.out]; exact HC.out i
            by_cases hlt : i < m
            · by_cases hqlt : q < n
              · obtain ⟨ad, rfl, hbd, hil, hcx, hcy⟩ := (hq3.below hbel).pt hlt
                obtain ⟨bd, rfl, hbd', hql, hdx, hdy⟩ := (hr3.below hbel).pt hqlt
                have hs := cnt_succ P b i hil
                rw [← hq.out] at hs
                have HD : Hid (P b[i] = true ∧ a[q] = b[i] ∨ P b[i] = false ∧ a[q] ≠ b[i]) := by
                  have key : ∀ a', a' = b.filter P → ∀ q', q' = cnt P b i → ∀ h : q' < a'.length, P b[i] = true ∧ a'[q'] = b[i] ∨ P b[i] = false ∧ a'[q'] ≠ b[i] := by
                    rintro a' rfl q' rfl h
                    rcases hPb : P b[i] with _ | _
                    · exact .inr ⟨rfl, cnt_other P b i hil hPb _ h⟩
                    · obtain ⟨_, e⟩ := cnt_split P b i hil hPb
                      exact .inl ⟨rfl, e⟩
                  exact key a HP.out q hq.out hql
                have HS := Lib.hid hs
                clear hs
                obtain ⟨⟨x, y⟩, hp⟩ : ∃ p, p = b[i] := ⟨_, rfl⟩
                obtain ⟨⟨x', y'⟩, hp'⟩ : ∃ p, p = a[q] := ⟨_, rfl⟩
                rw [← hp] at hcx hcy
                rw [← hp'] at hdx hdy
                simp only at hcx hcy hdx hdy
                have hiw : IntKind.i64.wrap ((i : Int) + 1) = (i : Int) + 1 := IntWalk.i64_in _ (by omega)
                have hqw : IntKind.i64.wrap ((q : Int) + 1) = (q : Int) + 1 := IntWalk.i64_in _ (by omega)
                have HQ := Lib.hid (And.intro hp hp')
                clear hp hp'
                have hcase : (x = x' ∧ y = y' ∧ Hid (q + 1 = cnt P b (i + 1))) ∨ ((x ≠ x' ∨ x = x' ∧ y ≠ y') ∧ Hid (q = cnt P b (i + 1))) := by
                  rcases HD.out with ⟨e1, e2⟩ | ⟨e1, e2⟩
                  · rw [← HQ.out.1, ← HQ.out.2] at e2
                    injection e2 with f1 f2
                    left
                    refine ⟨f1.symm, f2.symm, ?_⟩
                    show _ = _
                    rw [HS.out, if_pos e1]
                  · right
                    refine ⟨?_, ?_⟩
                    · rw [← HQ.out.1, ← HQ.out.2] at e2
                      by_cases f1 : x = x'
                      · refine .inr ⟨f1, fun f2 => e2 (by rw [f1, f2])⟩
                      · exact .inl f1
                    · show _ = _
                      rw [HS.out, if_neg (by rw [e1]; decide)]
                      rfl
                clear HD HQ HS
                rcases hcase with ⟨rfl, rfl, hq'⟩ | ⟨hne | ⟨rfl, hne⟩, hq'⟩
                · go_wp2
                  go_quiet (fail)
                  go_wp2
                  go_roundw
                  case rel => exact ⟨i + 1, q + 1, by omega, hq', by go_num, by go_num, below_drewN hbel _⟩
                  case measure => simp [intOf]; omega
                · have g1 : (x == x') = false := by simpa using hne
                  go_wp2
                  go_quiet (fail)
                  go_wp2
                  go_roundw
                  case rel => exact ⟨i + 1, q, by omega, hq', rfl, by go_num, below_drewN hbel _⟩
                  case measure => simp [intOf]; omega
                · have g1 : (y == y') = false := by simpa using hne
                  go_wp2
                  go_quiet (fail)
                  go_wp2
                  go_roundw
                  case rel => exact ⟨i + 1, q, by omega, hq', rfl, by go_num, below_drewN hbel _⟩
                  case measure => simp [intOf]; omega
              · have hqn' : q = n := by omega
                subst hqn'
                have h0n : (0 : Int) < (q : Int) := by omega
                have hB4 := below_on hB3 (Nat.le_refl _) hbel
                go_wp2
                go_ret
                exact ⟨rfl, hB4⟩
            · have hqn' : q = n := by
                have := hq.out
                obtain rfl : i = m := by omega
                rw [HN.out.2, cnt_all, ← HP.out, ← HN.out.1] at this
                exact this
              subst hqn'
              have h0n : (0 : Int) < (q : Int) := by omega
              have hB4 := below_on hB3 (Nat.le_refl _) hbel
              go_wp2
              go_ret
              exact ⟨rfl, hB4⟩
    · have h0 : (winE v != 0) = false := by rw [hE]; rfl
      have h1 : (winE u != 0) = true := by simpa using hE'
      clear hE hE' hr3 hq3
      go_wp2_with fail
      refine (ans09_any _).mono ?_
      rintro e w4 ⟨rfl, hb4⟩
      have hB4 := below_on hB3 (Nat.le_refl _) hb4
      go_wp2
      go_ret
      exact ⟨rfl, hB4⟩
  · have h1 : (winE v != 0) = true := by simpa using hE
    clear hE hr3 hq3
    go_wp2_with fail
    refine (ans09_any _).mono ?_
    rintro e w4 ⟨rfl, hb4⟩
    have hB4 := below_on hB3 (Nat.le_refl _) hb4
    go_wp2
    go_ret
    exact ⟨rfl, hB4⟩
end Go.Proofs.Ytfdagmlfaklcbaa

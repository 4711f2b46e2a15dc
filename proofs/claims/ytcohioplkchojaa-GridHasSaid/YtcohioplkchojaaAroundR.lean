/- merestoneref02.Around: the walk; grid.Cells: the walk. -/
import Derived.Test.YtcohioplkchojaaAround
import Derived.Test.YtcohioplkchojaaCheck
import Derived.Test.YtcohioplkchojaaSpanR
namespace Go.Proofs.Ytcohioplkchojaa
open Go.RowKit
def aroV (xs : List Pt) (k : Nat) : Win := if k = 0 then ⟨0, 0, 0, 0⟩ else aroW xs k
theorem aroW_one (xs : List Pt) : aroW xs 1 = ⟨(ptAt xs 0).x, (ptAt xs 0).y, (ptAt xs 0).x, (ptAt xs 0).y⟩ := by
  show (⟨mn (ptAt xs 0).x (ptAt xs 0).x, mn (ptAt xs 0).y (ptAt xs 0).y, mx (ptAt xs 0).x (ptAt xs 0).x, mx (ptAt xs 0).y (ptAt xs 0).y⟩ : Win) = _
  unfold mn mx
  simp
theorem aroV_succ (xs : List Pt) (k : Nat) : aroV xs (k + 1) = ⟨if k = 0 ∨ (ptAt xs k).x < (aroV xs k).lx then (ptAt xs k).x else (aroV xs k).lx, if k = 0 ∨ (ptAt xs k).y < (aroV xs k).ly then (ptAt xs k).y else (aroV xs k).ly,
    if k = 0 ∨ (aroV xs k).hx < (ptAt xs k).x then (ptAt xs k).x else (aroV xs k).hx, if k = 0 ∨ (aroV xs k).hy < (ptAt xs k).y then (ptAt xs k).y else (aroV xs k).hy⟩ := by
  unfold aroV
  rw [if_neg (by omega)]
  by_cases h : k = 0
  · subst h
    rw [aroW_one]
    simp
  · rw [if_neg h]
    simp only [h, false_or]
    rfl
set_option maxRecDepth 100000 in
set_option maxHeartbeats 3200000 in
theorem aroundR_any (xs : List Pt) (A : Option Addr) (n cap : Nat) (w : World) (hr : Reads w w.heap.size 2 A n (ptsV xs)) (hn : n ≤ 128) :
    Calls Try.prog 30 #[.slice A n cap] w fun e w' => e = .returned (winV (aroV xs n)) ∧ Below w.heap.size w w' := by
  have hB0 := ((Below.refl w.heap.size w).alloc (Nat.le_refl _) (.cells #[.int .i64 0, .int .i64 0, .int .i64 0, .int .i64 0] 52)).alloc (by simp) (.cells #[.int .i64 0, .int .i64 0, .int .i64 0, .int .i64 0] 52)
  have hR0 : WinK ((w.alloc (.cells #[.int .i64 0, .int .i64 0, .int .i64 0, .int .i64 0] 52)).alloc (.cells #[.int .i64 0, .int .i64 0, .int .i64 0, .int .i64 0] 52)) w.heap.size ⟨0, 0, 0, 0⟩ := Blk.alloc (Blk.new w _ _) _
  have hV0 : WinK ((w.alloc (.cells #[.int .i64 0, .int .i64 0, .int .i64 0, .int .i64 0] 52)).alloc (.cells #[.int .i64 0, .int .i64 0, .int .i64 0, .int .i64 0] 52)) (w.heap.size + 1) (aroV xs 0) := by
    have := Blk.new (w.alloc (.cells #[.int .i64 0, .int .i64 0, .int .i64 0, .int .i64 0] 52)) 52 #[.int .i64 0, .int .i64 0, .int .i64 0, .int .i64 0]
    rw [World.size_alloc] at this
    exact this
  have HRD := Lib.hid hr
  clear hr
  go_enter Try.func30, Try.ntmps30
  go_wp2_with fail
  go_loopw [4] (fun i wr => ∃ k : Nat, k ≤ n ∧ i = .int .i64 (k : Int) ∧ Below w.heap.size w wr ∧ WinK wr w.heap.size ⟨0, 0, 0, 0⟩ ∧ WinK wr (w.heap.size + 1) (aroV xs k)) (fun i _ => n - (intOf i).toNat)
  case atStart => exact ⟨0, Nat.zero_le _, rfl, hB0, hR0, hV0⟩
  case round =>
    clear hB0 hR0 hV0
    obtain ⟨k, hk, rfl, hbel, hR, hV⟩ := hrel
    by_cases hlt : k < n
    · have hlt' : (k : Int) < (n : Int) := by omega
      have hw1 : IntKind.i64.wrap ((k : Int) + 1) = (k : Int) + 1 := by rw [IntKind.wrap_i64]; omega
      obtain ⟨ad, rfl, hbd, -, -, -⟩ := (HRD.out.below hbel).pt hlt
      have hst := aroV_succ xs k
      have HP := Lib.hid (fun (V : World) (hV : Below w.heap.size w V) => (HRD.out.below hV).ptA hlt)
      generalize aroV xs k = v0 at *
      generalize (ptAt xs k).x = px at *
      generalize (ptAt xs k).y = py at *
      obtain ⟨X0, hX0⟩ : ∃ X, X = (if k = 0 ∨ px < v0.lx then px else v0.lx) := ⟨_, rfl⟩
      obtain ⟨X1, hX1⟩ : ∃ X, X = (if k = 0 ∨ py < v0.ly then py else v0.ly) := ⟨_, rfl⟩
      obtain ⟨X2, hX2⟩ : ∃ X, X = (if k = 0 ∨ v0.hx < px then px else v0.hx) := ⟨_, rfl⟩
      obtain ⟨X3, hX3⟩ : ∃ X, X = (if k = 0 ∨ v0.hy < py then py else v0.hy) := ⟨_, rfl⟩
      rw [← hX0, ← hX1, ← hX2, ← hX3] at hst
      have HX := Lib.hid (And.intro hst (And.intro hX0 (And.intro hX1 (And.intro hX2 hX3))))
      have HB := Lib.hid (And.intro hbel (And.intro hR hV))
      clear hst hX0 hX1 hX2 hX3 hbel hR hV
      -- the lx
      have hp := HP.out wr HB.out.1
      obtain ⟨⟨v1, v2, v3, v4⟩, ⟨f1, f2, f3, f4⟩, hgl⟩ := (show WinK wr (w.heap.size + 1) ⟨v0.lx, v0.ly, v0.hx, v0.hy⟩ from HB.out.2.2).facts
      obtain ⟨-, p1, p2⟩ := hp
      go_wp2_with fail
      go_cut [24] (fun s wx => s = .bool (decide (k = 0 ∨ px < v0.lx)) ∧ ∃ q, wx = wr.drewN q)
      case first =>
        by_cases h0 : k = 0
        · have e0 : ((k : Int) == 0) = true := beq_iff_eq.mpr (by omega)
          have ex : Hid (decide (k = 0 ∨ px < v0.lx) = true) := decide_eq_true (.inl h0)
          clear h0
          go_quiet (fail)
          go_wp2_with fail
          go_meet
          exact ⟨by rw [ex.out], _, rfl⟩
        · have e0 : ((k : Int) == 0) = false := beq_eq_false_iff_ne.mpr (by omega)
          rcases hd : decide (px < v0.lx) with _ | _
          · have ex : Hid (decide (k = 0 ∨ px < v0.lx) = false) := decide_eq_false (by rw [decide_eq_false_iff_not] at hd; omega)
            clear h0
            go_quiet (fail)
            go_wp2_with fail
            go_meet
            exact ⟨by rw [ex.out], _, rfl⟩
          · have ex : Hid (decide (k = 0 ∨ px < v0.lx) = true) := decide_eq_true (by rw [decide_eq_true_iff] at hd; exact .inr hd)
            clear h0
            go_quiet (fail)
            go_wp2_with fail
            go_meet
            exact ⟨by rw [ex.out], _, rfl⟩
      case rest =>
        obtain ⟨rfl, q, rfl⟩ := hcut
        clear v1 v2 v3 v4 f1 f2 f3 f4 hgl p1 p2
        have HB := Lib.hid (And.intro (below_drewN HB.out.1 q) (And.intro (Blk.drewN HB.out.2.1 q) (show WinK (wr.drewN q) (w.heap.size + 1) ⟨v0.lx, v0.ly, v0.hx, v0.hy⟩ from Blk.drewN HB.out.2.2 q)))
        generalize wr.drewN q = V0 at *
        go_upto_if 24 with fail
        go_cut [] (fun wx => Below w.heap.size w wx ∧ WinK wx w.heap.size ⟨0, 0, 0, 0⟩ ∧ WinK wx (w.heap.size + 1) ⟨X0, v0.ly, v0.hx, v0.hy⟩)
        case first =>
          by_cases hc : k = 0 ∨ px < v0.lx
          · have hd : decide (k = 0 ∨ px < v0.lx) = true := decide_eq_true hc
            have ex : Hid (X0 = px) := by show _ = _; rw [HX.out.2.1, if_pos hc]
            rw [hd]
            obtain ⟨⟨v1, v2, v3, v4⟩, ⟨f1, f2, f3, f4⟩, hgl⟩ := (show WinK V0 (w.heap.size + 1) ⟨v0.lx, v0.ly, v0.hx, v0.hy⟩ from HB.out.2.2).facts
            obtain ⟨-, p1, p2⟩ := HP.out V0 HB.out.1
            clear hd hc
            go_wp2_with fail
            go_meet
            rw [ex.out]
            exact ⟨HB.out.1.setCell (p := ⟨w.heap.size + 1, 0, none⟩) (by simp) _, Blk.far HB.out.2.1 (by simp only; omega) _, Blk.set_ HB.out.2.2 0 _⟩
          · have hd : decide (k = 0 ∨ px < v0.lx) = false := decide_eq_false hc
            have ex : Hid (X0 = v0.lx) := by show _ = _; rw [HX.out.2.1, if_neg hc]
            rw [hd]
            clear hd hc
            go_wp2_with fail
            go_meet
            rw [ex.out]
            exact HB.out
        case rest =>
          have HB := Lib.hid hcut
          clear hcut
          -- the ly
          have hp := HP.out wc HB.out.1
          obtain ⟨⟨v1, v2, v3, v4⟩, ⟨f1, f2, f3, f4⟩, hgl⟩ := (show WinK wc (w.heap.size + 1) ⟨X0, v0.ly, v0.hx, v0.hy⟩ from HB.out.2.2).facts
          obtain ⟨-, p1, p2⟩ := hp
          go_wp2_with fail
          go_cut [44] (fun s wx => s = .bool (decide (k = 0 ∨ py < v0.ly)) ∧ ∃ q, wx = wc.drewN q)
          case first =>
            by_cases h0 : k = 0
            · have e0 : ((k : Int) == 0) = true := beq_iff_eq.mpr (by omega)
              have ex : Hid (decide (k = 0 ∨ py < v0.ly) = true) := decide_eq_true (.inl h0)
              clear h0
              go_quiet (fail)
              go_wp2_with fail
              go_meet
              exact ⟨by rw [ex.out], _, rfl⟩
            · have e0 : ((k : Int) == 0) = false := beq_eq_false_iff_ne.mpr (by omega)
              rcases hd : decide (py < v0.ly) with _ | _
              · have ex : Hid (decide (k = 0 ∨ py < v0.ly) = false) := decide_eq_false (by rw [decide_eq_false_iff_not] at hd; omega)
                clear h0
                go_quiet (fail)
                go_wp2_with fail
                go_meet
                exact ⟨by rw [ex.out], _, rfl⟩
              · have ex : Hid (decide (k = 0 ∨ py < v0.ly) = true) := decide_eq_true (by rw [decide_eq_true_iff] at hd; exact .inr hd)
                clear h0
                go_quiet (fail)
                go_wp2_with fail
                go_meet
                exact ⟨by rw [ex.out], _, rfl⟩
          case rest =>
            obtain ⟨rfl, q, rfl⟩ := hcut
            clear v1 v2 v3 v4 f1 f2 f3 f4 hgl p1 p2
            have HB := Lib.hid (And.intro (below_drewN HB.out.1 q) (And.intro (Blk.drewN HB.out.2.1 q) (show WinK (wc.drewN q) (w.heap.size + 1) ⟨X0, v0.ly, v0.hx, v0.hy⟩ from Blk.drewN HB.out.2.2 q)))
            generalize wc.drewN q = V1 at *
            go_upto_if 44 with fail
            go_cut [] (fun wx => Below w.heap.size w wx ∧ WinK wx w.heap.size ⟨0, 0, 0, 0⟩ ∧ WinK wx (w.heap.size + 1) ⟨X0, X1, v0.hx, v0.hy⟩)
            case first =>
              by_cases hc : k = 0 ∨ py < v0.ly
              · have hd : decide (k = 0 ∨ py < v0.ly) = true := decide_eq_true hc
                have ex : Hid (X1 = py) := by show _ = _; rw [HX.out.2.2.1, if_pos hc]
                rw [hd]
                obtain ⟨⟨v1, v2, v3, v4⟩, ⟨f1, f2, f3, f4⟩, hgl⟩ := (show WinK V1 (w.heap.size + 1) ⟨X0, v0.ly, v0.hx, v0.hy⟩ from HB.out.2.2).facts
                obtain ⟨-, p1, p2⟩ := HP.out V1 HB.out.1
                clear hd hc
                go_wp2_with fail
                go_meet
                rw [ex.out]
                exact ⟨HB.out.1.setCell (p := ⟨w.heap.size + 1, 1, none⟩) (by simp) _, Blk.far HB.out.2.1 (by simp only; omega) _, Blk.set_ HB.out.2.2 1 _⟩
              · have hd : decide (k = 0 ∨ py < v0.ly) = false := decide_eq_false hc
                have ex : Hid (X1 = v0.ly) := by show _ = _; rw [HX.out.2.2.1, if_neg hc]
                rw [hd]
                clear hd hc
                go_wp2_with fail
                go_meet
                rw [ex.out]
                exact HB.out
            case rest =>
              have HB := Lib.hid hcut
              clear hcut
              -- the hx
              have hp := HP.out wc HB.out.1
              obtain ⟨⟨v1, v2, v3, v4⟩, ⟨f1, f2, f3, f4⟩, hgl⟩ := (show WinK wc (w.heap.size + 1) ⟨X0, X1, v0.hx, v0.hy⟩ from HB.out.2.2).facts
              obtain ⟨-, p1, p2⟩ := hp
              go_wp2_with fail
              go_cut [64] (fun s wx => s = .bool (decide (k = 0 ∨ v0.hx < px)) ∧ ∃ q, wx = wc.drewN q)
              case first =>
                by_cases h0 : k = 0
                · have e0 : ((k : Int) == 0) = true := beq_iff_eq.mpr (by omega)
                  have ex : Hid (decide (k = 0 ∨ v0.hx < px) = true) := decide_eq_true (.inl h0)
                  clear h0
                  go_quiet (fail)
                  go_wp2_with fail
                  go_meet
                  exact ⟨by rw [ex.out], _, rfl⟩
                · have e0 : ((k : Int) == 0) = false := beq_eq_false_iff_ne.mpr (by omega)
                  rcases hd : decide (v0.hx < px) with _ | _
                  · have ex : Hid (decide (k = 0 ∨ v0.hx < px) = false) := decide_eq_false (by rw [decide_eq_false_iff_not] at hd; omega)
                    clear h0
                    go_quiet (fail)
                    go_wp2_with fail
                    go_meet
                    exact ⟨by rw [ex.out], _, rfl⟩
                  · have ex : Hid (decide (k = 0 ∨ v0.hx < px) = true) := decide_eq_true (by rw [decide_eq_true_iff] at hd; exact .inr hd)
                    clear h0
                    go_quiet (fail)
                    go_wp2_with fail
                    go_meet
                    exact ⟨by rw [ex.out], _, rfl⟩
              case rest =>
                obtain ⟨rfl, q, rfl⟩ := hcut
                clear v1 v2 v3 v4 f1 f2 f3 f4 hgl p1 p2
                have HB := Lib.hid (And.intro (below_drewN HB.out.1 q) (And.intro (Blk.drewN HB.out.2.1 q) (show WinK (wc.drewN q) (w.heap.size + 1) ⟨X0, X1, v0.hx, v0.hy⟩ from Blk.drewN HB.out.2.2 q)))
                generalize wc.drewN q = V2 at *
                go_upto_if 64 with fail
                go_cut [] (fun wx => Below w.heap.size w wx ∧ WinK wx w.heap.size ⟨0, 0, 0, 0⟩ ∧ WinK wx (w.heap.size + 1) ⟨X0, X1, X2, v0.hy⟩)
                case first =>
                  by_cases hc : k = 0 ∨ v0.hx < px
                  · have hd : decide (k = 0 ∨ v0.hx < px) = true := decide_eq_true hc
                    have ex : Hid (X2 = px) := by show _ = _; rw [HX.out.2.2.2.1, if_pos hc]
                    rw [hd]
                    obtain ⟨⟨v1, v2, v3, v4⟩, ⟨f1, f2, f3, f4⟩, hgl⟩ := (show WinK V2 (w.heap.size + 1) ⟨X0, X1, v0.hx, v0.hy⟩ from HB.out.2.2).facts
                    obtain ⟨-, p1, p2⟩ := HP.out V2 HB.out.1
                    clear hd hc
                    go_wp2_with fail
                    go_meet
                    rw [ex.out]
                    exact ⟨HB.out.1.setCell (p := ⟨w.heap.size + 1, 2, none⟩) (by simp) _, Blk.far HB.out.2.1 (by simp only; omega) _, Blk.set_ HB.out.2.2 2 _⟩
                  · have hd : decide (k = 0 ∨ v0.hx < px) = false := decide_eq_false hc
                    have ex : Hid (X2 = v0.hx) := by show _ = _; rw [HX.out.2.2.2.1, if_neg hc]
                    rw [hd]
                    clear hd hc
                    go_wp2_with fail
                    go_meet
                    rw [ex.out]
                    exact HB.out
                case rest =>
                  have HB := Lib.hid hcut
                  clear hcut
                  -- the hy
                  have hp := HP.out wc HB.out.1
                  obtain ⟨⟨v1, v2, v3, v4⟩, ⟨f1, f2, f3, f4⟩, hgl⟩ := (show WinK wc (w.heap.size + 1) ⟨X0, X1, X2, v0.hy⟩ from HB.out.2.2).facts
                  obtain ⟨-, p1, p2⟩ := hp
                  go_wp2_with fail
                  go_cut [84] (fun s wx => s = .bool (decide (k = 0 ∨ v0.hy < py)) ∧ ∃ q, wx = wc.drewN q)
                  case first =>
                    by_cases h0 : k = 0
                    · have e0 : ((k : Int) == 0) = true := beq_iff_eq.mpr (by omega)
                      have ex : Hid (decide (k = 0 ∨ v0.hy < py) = true) := decide_eq_true (.inl h0)
                      clear h0
                      go_quiet (fail)
                      go_wp2_with fail
                      go_meet
                      exact ⟨by rw [ex.out], _, rfl⟩
                    · have e0 : ((k : Int) == 0) = false := beq_eq_false_iff_ne.mpr (by omega)
                      rcases hd : decide (v0.hy < py) with _ | _
                      · have ex : Hid (decide (k = 0 ∨ v0.hy < py) = false) := decide_eq_false (by rw [decide_eq_false_iff_not] at hd; omega)
                        clear h0
                        go_quiet (fail)
                        go_wp2_with fail
                        go_meet
                        exact ⟨by rw [ex.out], _, rfl⟩
                      · have ex : Hid (decide (k = 0 ∨ v0.hy < py) = true) := decide_eq_true (by rw [decide_eq_true_iff] at hd; exact .inr hd)
                        clear h0
                        go_quiet (fail)
                        go_wp2_with fail
                        go_meet
                        exact ⟨by rw [ex.out], _, rfl⟩
                  case rest =>
                    obtain ⟨rfl, q, rfl⟩ := hcut
                    clear v1 v2 v3 v4 f1 f2 f3 f4 hgl p1 p2
                    have HB := Lib.hid (And.intro (below_drewN HB.out.1 q) (And.intro (Blk.drewN HB.out.2.1 q) (show WinK (wc.drewN q) (w.heap.size + 1) ⟨X0, X1, X2, v0.hy⟩ from Blk.drewN HB.out.2.2 q)))
                    generalize wc.drewN q = V3 at *
                    go_upto_if 84 with fail
                    by_cases hc : k = 0 ∨ v0.hy < py
                    · have hd : decide (k = 0 ∨ v0.hy < py) = true := decide_eq_true hc
                      have ex : Hid (X3 = py) := by show _ = _; rw [HX.out.2.2.2.2, if_pos hc]
                      rw [hd]
                      obtain ⟨⟨v1, v2, v3, v4⟩, ⟨f1, f2, f3, f4⟩, hgl⟩ := (show WinK V3 (w.heap.size + 1) ⟨X0, X1, X2, v0.hy⟩ from HB.out.2.2).facts
                      obtain ⟨-, p1, p2⟩ := HP.out V3 HB.out.1
                      clear hd hc
                      go_wp2_with fail
                      go_roundw
                      case rel => exact ⟨k + 1, by omega, by go_num, HB.out.1.setCell (p := ⟨w.heap.size + 1, 3, none⟩) (by simp) _, Blk.far HB.out.2.1 (by simp only; omega) _, by rw [HX.out.1, ex.out]; exact Blk.set_ HB.out.2.2 3 _⟩
                      case measure => simp [intOf]; omega
                    · have hd : decide (k = 0 ∨ v0.hy < py) = false := decide_eq_false hc
                      have ex : Hid (X3 = v0.hy) := by show _ = _; rw [HX.out.2.2.2.2, if_neg hc]
                      rw [hd]
                      clear hd hc
                      go_wp2_with fail
                      go_roundw
                      case rel => exact ⟨k + 1, by omega, by go_num, HB.out.1, HB.out.2.1, by rw [HX.out.1, ex.out]; exact HB.out.2.2⟩
                      case measure => simp [intOf]; omega
    · have hkn : k = n := by omega
      subst hkn
      obtain ⟨v, hvv⟩ : ∃ v, v = aroV xs k := ⟨_, rfl⟩
      rw [← hvv] at hV
      have HVV := Lib.hid hvv
      clear hvv
      obtain ⟨⟨v1, v2, v3, v4⟩, ⟨f1, f2, f3, f4⟩, hgl⟩ := hV.facts
      obtain ⟨⟨u1, u2, u3, u4⟩, ⟨e1, e2, e3, e4⟩, hrl⟩ := hR.facts
      obtain ⟨⟨q1, q2, q3, q4⟩, -, -⟩ := (hR.put v).facts
      have HB := Lib.hid (And.intro hbel hR)
      clear hbel hR hV
      go_wp2_with fail
      exact bodyPost_ret (v := winV v) (by unfold winV; simp [results, Try.results30, go_sem, q1, q2, q3, q4]) rfl ⟨by rw [HVV.out], below_put4 HB.out.1 (Nat.le_refl _) _ _ _ _⟩
end Go.Proofs.Ytcohioplkchojaa

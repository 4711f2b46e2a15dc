/- ref Span: the walk. -/
import Derived.Test.YtcohioplkchojaaSpan
namespace Go.Proofs.Ytcohioplkchojaa
open Go.RowKit
def refW (v : Win) (i : Nat) : List Pt := spanF (v.lx / 268435456) (v.hx / 268435456) (v.ly / 268435456) (v.hy / 268435456) i
def refC (v : Win) (i j : Nat) : List Pt := colF (-4 + (i : Int)) (v.ly / 268435456) (v.hy / 268435456) (decide (v.lx / 268435456 ≤ -4 + (i : Int) ∧ -4 + (i : Int) ≤ v.hx / 268435456)) j
/-- What stands at a loop's head: so many columns, and so many rows of the next one. -/
def RefRel (v : Win) (w : World) (i j : Nat) (out : Value) (wr : World) : Prop :=
  ∃ (n c : Nat) (A : Option Addr), out = .slice A n c ∧ n ≤ 9 * i + j ∧ wr.ownsRow w.heap.size 54 2 (.slice A n c) n (ptsV (refW v i ++ refC v i j)) ∧ Below w.heap.size w wr
theorem RefRel.next {v : Win} {w w2 : World} {i : Nat} {out : Value} (h : RefRel v w i 9 out w2) : RefRel v w (i + 1) 0 out w2 := by
  obtain ⟨n, c, A, rfl, hn, ho, hb⟩ := h
  refine ⟨n, c, A, rfl, by omega, ?_, hb⟩
  have e : refW v (i + 1) ++ refC v (i + 1) 0 = refW v i ++ refC v i 9 := by
    unfold refW refC
    rw [spanF_succ]
    simp [colF]
  rw [e]
  exact ho
theorem RefRel.skip {v : Win} {w w2 : World} {i j : Nat} {out : Value} (h : RefRel v w i j out w2)
    (hn : ¬ ((v.lx / 268435456 ≤ -4 + (i : Int) ∧ -4 + (i : Int) ≤ v.hx / 268435456) ∧ v.ly / 268435456 ≤ -4 + (j : Int) ∧ -4 + (j : Int) ≤ v.hy / 268435456)) : RefRel v w i (j + 1) out w2 := by
  obtain ⟨n, c, A, rfl, hn', ho, hb⟩ := h
  refine ⟨n, c, A, rfl, by omega, ?_, hb⟩
  have e : refC v i (j + 1) = refC v i j := by
    unfold refC
    rw [colF_succ, if_neg, List.append_nil]
    rw [← Bool.decide_and, decide_eq_true_iff]
    exact hn
  rw [e]
  exact ho
theorem RefRel.step {v : Win} {w w2 : World} {i j n : Nat} {v2 : Value} (hn' : n ≤ 9 * i + j)
    (hn : (v.lx / 268435456 ≤ -4 + (i : Int) ∧ -4 + (i : Int) ≤ v.hx / 268435456) ∧ v.ly / 268435456 ≤ -4 + (j : Int) ∧ -4 + (j : Int) ≤ v.hy / 268435456)
    (ho : w2.ownsRow w.heap.size 54 2 v2 (n + 1) (ptsV (refW v i ++ refC v i j) ++ [.int .i64 (-4 + (i : Int)), .int .i64 (-4 + (j : Int))])) (hb : Below w.heap.size w w2) :
    RefRel v w i (j + 1) v2 w2 := by
  obtain ⟨A, c, rfl⟩ := own_form ho
  have e : ptsV (refW v i ++ refC v i j) ++ [.int .i64 (-4 + (i : Int)), .int .i64 (-4 + (j : Int))] = ptsV (refW v i ++ refC v i (j + 1)) := by
    unfold refC
    rw [colF_succ, if_pos, ← List.append_assoc, ptsV_append _ [_]]
    · rfl
    · rw [← Bool.decide_and, decide_eq_true_iff]
      exact hn
  rw [e] at ho
  exact ⟨n + 1, c, A, rfl, by omega, ho, hb⟩
/-- In which way one cell is asked. -/
theorem ref_cases (x0 x1 y0 y1 X Y : Int) : (X < x0) ∨ (x0 ≤ X ∧ x1 < X) ∨ (x0 ≤ X ∧ X ≤ x1 ∧ Y < y0) ∨ (x0 ≤ X ∧ X ≤ x1 ∧ y0 ≤ Y ∧ y1 < Y) ∨ (x0 ≤ X ∧ X ≤ x1 ∧ y0 ≤ Y ∧ Y ≤ y1) := by omega
def RefPost (v : Win) (w : World) (e : Ending) (w' : World) : Prop :=
  ∃ A c, e = .returned (.slice A (refW v 9).length c) ∧ w'.ownsRow w.heap.size 54 2 (.slice A (refW v 9).length c) (refW v 9).length (ptsV (refW v 9)) ∧ Below w.heap.size w w'
set_option maxRecDepth 100000 in
set_option maxHeartbeats 1600000 in
theorem refSpan_any (v : Win) (w : World) (hv : v.inI) :
    Calls Try.prog 29 #[winV v] w (RefPost v w) := by
  obtain ⟨i0, hi0, hz0, hz1, hz2⟩ := info_parts info_cell
  obtain ⟨⟨⟨b1, b2⟩, b3, b4⟩, ⟨b5, b6⟩, b7, b8⟩ := hv
  simp only [Win.low, Win.high] at b1 b2 b3 b4 b5 b6 b7 b8
  have hW := HasWin.new w v 52
  obtain ⟨x0, hx0⟩ : ∃ x0, x0 = v.lx / 268435456 := ⟨_, rfl⟩
  obtain ⟨x1, hx1⟩ : ∃ x1, x1 = v.hx / 268435456 := ⟨_, rfl⟩
  obtain ⟨y0, hy0⟩ : ∃ y0, y0 = v.ly / 268435456 := ⟨_, rfl⟩
  obtain ⟨y1, hy1⟩ : ∃ y1, y1 = v.hy / 268435456 := ⟨_, rfl⟩
  have hx0' : v.lx / 268435456 = x0 := hx0.symm
  have hx1' : v.hx / 268435456 = x1 := hx1.symm
  have hy0' : v.ly / 268435456 = y0 := hy0.symm
  have hy1' : v.hy / 268435456 = y1 := hy1.symm
  have HX := Lib.hid (And.intro hx0' (And.intro hx1' (And.intro hy0' hy1')))
  clear hx0 hx1 hy0 hy1
  unfold winV
  go_enter Try.func29, Try.ntmps29
  go_wp2_with fail
  obtain ⟨w1, hw1⟩ : ∃ w1 : World, w1 = w.alloc (.cells #[.int .i64 v.lx, .int .i64 v.ly, .int .i64 v.hx, .int .i64 v.hy] 52) := ⟨_, rfl⟩
  have hB1 : Below w.heap.size w w1 := by rw [hw1]; exact (Below.refl _ _).alloc (Nat.le_refl _) _
  rw [← hw1] at hW
  rw [← hw1]
  have hsz1 : w.heap.size < w1.heap.size := by rw [hw1]; simp
  clear hw1
  go_loopw [3, 4] (fun out x wr => ∃ i : Nat, i ≤ 9 ∧ x = .int .i64 (-4 + (i : Int)) ∧ RefRel v w1 i 0 out wr) (fun _ x _ => (5 - intOf x).toNat)
  case atStart => exact ⟨0, Nat.zero_le _, by simp, 0, 0, none, rfl, by omega, World.ownsRow_nil _ _ _ _, Below.refl _ _⟩
  case round =>
    obtain ⟨i, hi, rfl, n, c, A, rfl, hn, hown, hbel⟩ := hrel
    by_cases hlt : i < 9
    · have hle : -4 + (i : Int) ≤ 4 := by omega
      go_wp2
      obtain ⟨wo, rfl⟩ : ∃ wo : World, wo = wr := ⟨_, rfl⟩
      have hj0 : RefRel v w1 i 0 (.slice A n c) wo := ⟨n, c, A, rfl, hn, hown, hbel⟩
      clear hown hbel
      go_loopw [3, 5] (fun out y wr => ∃ j : Nat, j ≤ 9 ∧ y = .int .i64 (-4 + (j : Int)) ∧ RefRel v w1 i j out wr) (fun _ y _ => (5 - intOf y).toNat)
      case atStart => exact ⟨0, Nat.zero_le _, by simp, hj0⟩
      case round =>
        obtain ⟨j, hj, rfl, n, c, A, rfl, hn, hown, hbel⟩ := hrel
        obtain ⟨k1, k2, k3, k4, k5'⟩ := hW.on hbel
        by_cases hlt2 : j < 9
        · have hle2 : -4 + (j : Int) ≤ 4 := by omega
          have hyw : IntKind.i64.wrap (-4 + (j : Int) + 1) = -4 + (j : Int) + 1 := IntWalk.i64_in _ (by omega)
          obtain ⟨e1, e2, e3, e4⟩ := HX.out
          rcases ref_cases x0 x1 y0 y1 (-4 + (i : Int)) (-4 + (j : Int)) with g | ⟨g, g2⟩ | ⟨g, g2, g3⟩ | ⟨g, g2, g3, g4⟩ | ⟨g, g2, g3, g4⟩
          case inr.inr.inr.inr =>
            have hin : (v.lx / 268435456 ≤ -4 + (i : Int) ∧ -4 + (i : Int) ≤ v.hx / 268435456) ∧ v.ly / 268435456 ≤ -4 + (j : Int) ∧ -4 + (j : Int) ≤ v.hy / 268435456 := by rw [e1, e2, e3, e4]; omega
            have HIN := Lib.hid hin
            clear hin
            go_wp2_with (first
              | (go_at_call 63; refine (cellR_any _ _ (by assumption) (by assumption)).mono ?_; rintro e w' ⟨rfl, rfl⟩)
              | (at_builtin; refine wpList_append_any _ rfl (.tmp 44) (.tmp 48) _ rfl w1.heap.size 54 i0 _ 2 16 Try.underlying46 hi0 hz0 hz1 hz2 rfl (by omega) (.slice A n c) n _ rfl (hown.alloc _) (wr.heap.size + 1) (some ⟨wr.heap.size, 0, none⟩) 1 1 _ rfl (new_cell wr (-4 + (i : Int)) (-4 + (j : Int))) (by simp [Value.oneCell']) (by simp only [maxLen]; omega) (by omega) (by simp; have := hbel.size; omega) ?_
                 intro v3 w3 hown3 hg3 hat3))
            have hB3 : Below w1.heap.size w1 w3 := (hbel.alloc hbel.size _).grown hg3 (by simp; have := hbel.size; omega) (fun k hk => (hown.lt k hk).1)
            have hrel2 := Lib.hid (RefRel.step hn HIN.out hown3 hB3)
            obtain ⟨A3, c3, rfl⟩ := own_form hown3
            clear hown3 hg3 hat3 hB3 hown hbel e1 e2 e3 e4
            go_wp2
            go_roundw
            case rel => exact ⟨j + 1, by omega, by simp [Int.add_assoc], hrel2.out⟩
            case measure => simp [intOf]; omega
          all_goals
            have hout : ¬ ((v.lx / 268435456 ≤ -4 + (i : Int) ∧ -4 + (i : Int) ≤ v.hx / 268435456) ∧ v.ly / 268435456 ≤ -4 + (j : Int) ∧ -4 + (j : Int) ≤ v.hy / 268435456) := by rw [e1, e2, e3, e4]; omega
            have hrel2 := Lib.hid (RefRel.skip ⟨n, c, A, rfl, hn, hown, hbel⟩ hout)
            clear hown hbel hout
            go_wp2_with (first
              | (go_at_call 63; refine (cellR_any _ _ (by assumption) (by assumption)).mono ?_; rintro e w' ⟨rfl, rfl⟩))
            go_roundw
            case rel => exact ⟨j + 1, by omega, by simp [Int.add_assoc], hrel2.out⟩
            case measure => simp [intOf]; omega
        · have hjn : j = 9 := by omega
          subst hjn
          have hrel3 := Lib.hid (RefRel.next ⟨n, c, A, rfl, hn, hown, hbel⟩)
          have hxw : IntKind.i64.wrap (-4 + (i : Int) + 1) = -4 + (i : Int) + 1 := IntWalk.i64_in _ (by omega)
          clear hown hbel k1 k2 k3 k4 k5'
          go_wp2
          go_roundw
          case rel => exact ⟨i + 1, by omega, by simp [Int.add_assoc], hrel3.out⟩
          case measure => simp [intOf]; omega
    · have hin : i = 9 := by omega
      subst hin
      have hown2 : wr.ownsRow w1.heap.size 54 2 (.slice A n c) n (ptsV (refW v 9)) := by
        have e : refC v 9 0 = [] := by simp [refC, colF]
        rw [e, List.append_nil] at hown
        exact hown
      have hlen : n = (refW v 9).length := by
        have := hown2.1
        rw [ptsV_length] at this
        omega
      have hB2 := hB1.trans (hbel.mono hB1.size)
      have HO := Lib.hid hown2
      have HL := Lib.hid hlen
      clear hown hown2 hlen hn
      go_wp2
      go_ret
      unfold RefPost
      have := HL.out
      subst this
      exact ⟨A, c, rfl, own_mono HO.out hB1.size, hB2⟩
end Go.Proofs.Ytcohioplkchojaa

/- grid.Span: the walk. -/
import Derived.Test.YtcohioplkchojaaSpanLaw
import Derived.Test.YtcohioplkchojaaWinHas
import Derived.Test.YtcohioplkchojaaCell
namespace Go.Proofs.Ytcohioplkchojaa
open Go.RowKit
theorem info_cell : (Try.prog.info? 54).map (fun i => (i.zero, i.size, i.bytes)) = some (some (.agg #[.int .i64 0, .int .i64 0]), 2, 16) := by kernel_rfl
/-- All cells of a sound window, and how many columns and rows there are. -/
def nCol (v : Win) : Nat := (v.hx / 268435456 - v.lx / 268435456 + 1).toNat
def nRow (v : Win) : Nat := (v.hy / 268435456 - v.ly / 268435456 + 1).toNat
def spanW (v : Win) : List Pt := spanR (v.lx / 268435456) (v.ly / 268435456) (nRow v) (nCol v)
def spanC (v : Win) : List Pt := if winE v = 0 then spanW v else []
theorem win_good {v : Win} (h : winE v = 0) : (-1073741824 ≤ v.lx ∧ v.lx ≤ v.hx ∧ v.hx ≤ 1073741824) ∧ (-1073741824 ≤ v.ly ∧ v.ly ≤ v.hy ∧ v.hy ≤ 1073741824) := by
  unfold winE at h
  split at h
  · rename_i hg
    simp only [goodL, List.all_cons, List.all_nil, Bool.and_true, Bool.and_eq_true, good_iff, Win.low, Win.high] at hg
    split at h
    · omega
    · omega
  · omega
/-- What stands at a loop's head: so many columns, and so many cells of the next one. -/
def SpanRel (v : Win) (w : World) (i j : Nat) (out : Value) (wr : World) : Prop :=
  ∃ (n c : Nat) (A : Option Addr), out = .slice A n c ∧ n ≤ 1000 ∧ wr.ownsRow w.heap.size 54 2 (.slice A n c) n (ptsV (spanR (v.lx / 268435456) (v.ly / 268435456) (nRow v) i ++ colL (v.lx / 268435456 + (i : Int)) (v.ly / 268435456) j)) ∧ Below w.heap.size w wr
theorem SpanRel.step {v : Win} {w w2 : World} {i j n : Nat} {v2 : Value} {x y : Int} (hi : i < 9) (hj : j < 9) (hr : nRow v ≤ 9) (hx : x = v.lx / 268435456 + (i : Int)) (hy : y = v.ly / 268435456 + (j : Int))
    (ho : w2.ownsRow w.heap.size 54 2 v2 (n + 1) (ptsV (spanR (v.lx / 268435456) (v.ly / 268435456) (nRow v) i ++ colL (v.lx / 268435456 + (i : Int)) (v.ly / 268435456) j) ++ [.int .i64 x, .int .i64 y])) (hb : Below w.heap.size w w2) :
    SpanRel v w i (j + 1) v2 w2 := by
  obtain ⟨A, c, rfl⟩ := own_form ho
  have e : ptsV (spanR (v.lx / 268435456) (v.ly / 268435456) (nRow v) i ++ colL (v.lx / 268435456 + (i : Int)) (v.ly / 268435456) j) ++ [.int .i64 x, .int .i64 y] = ptsV (spanR (v.lx / 268435456) (v.ly / 268435456) (nRow v) i ++ colL (v.lx / 268435456 + (i : Int)) (v.ly / 268435456) (j + 1)) := by
    rw [colL_succ, ← List.append_assoc, ptsV_append _ [_], hx, hy]; rfl
  rw [e] at ho
  have hl := ho.1
  rw [ptsV_length, List.length_append, spanR_length, colL_length] at hl
  have : i * nRow v ≤ 8 * 9 := Nat.mul_le_mul (by omega) hr
  exact ⟨n + 1, c, A, rfl, by omega, ho, hb⟩
theorem SpanRel.next {v : Win} {w w2 : World} {i : Nat} {out : Value} (h : SpanRel v w i (nRow v) out w2) : SpanRel v w (i + 1) 0 out w2 := by
  obtain ⟨n, c, A, rfl, hn, ho, hb⟩ := h
  refine ⟨n, c, A, rfl, hn, ?_, hb⟩
  rw [spanR_succ]
  simpa [colL] using ho
theorem new_cell (w : World) (x y : Int) : Reads (w.alloc (.cells #[.int .i64 x, .int .i64 y] 54)) (w.heap.size + 1) 2 (some ⟨w.heap.size, 0, none⟩) 1 [.int .i64 x, .int .i64 y] := by
  have := Reads.made w #[.int .i64 x, .int .i64 y] 54 (0, 0) 2 1 _ rfl rfl
  simpa using this
def SpanPost (v : Win) (w : World) (e : Ending) (w' : World) : Prop :=
  ∃ A c, e = .returned (.tuple #[.slice A (spanC v).length c, .int .i64 (winE v)]) ∧ w'.ownsRow w.heap.size 54 2 (.slice A (spanC v).length c) (spanC v).length (ptsV (spanC v)) ∧ Below w.heap.size w w'
set_option maxHeartbeats 400000 in
theorem span_no (v : Win) (w : World) (hv : v.inI) (hE : winE v ≠ 0) :
    Calls Try.prog 33 #[winV v] w (SpanPost v w) := by
  have h0 : (winE v != 0) = true := by simpa using hE
  have hc : spanC v = [] := by unfold spanC; rw [if_neg hE]
  have HC := Lib.hid hc
  clear hc hE
  unfold winV
  go_enter Try.func33, Try.ntmps33
  go_wp2_with fail
  refine (wcheck_any v _ hv).mono ?_
  rintro e w1 ⟨rfl, hb1⟩
  go_wp2_with fail
  go_ret2
  unfold SpanPost
  rw [HC.out]
  exact ⟨none, 0, rfl, World.ownsRow_nil _ _ _ _, ((Below.refl w.heap.size w).alloc (Nat.le_refl _) _).trans (hb1.mono (by simp))⟩
set_option maxRecDepth 100000 in
set_option maxHeartbeats 1600000 in
theorem span_yes (v : Win) (w : World) (hv : v.inI) (hE : winE v = 0) :
    Calls Try.prog 33 #[winV v] w (SpanPost v w) := by
  obtain ⟨i0, hi0, hz0, hz1, hz2⟩ := info_parts info_cell
  have h0 : (winE v != 0) = false := by rw [hE]; rfl
  obtain ⟨⟨g1, g2, g3⟩, g4, g5, g6⟩ := win_good hE
  have hc : spanC v = spanW v := by unfold spanC; rw [if_pos hE]
  have hW := HasWin.new w v 52
  have HC := Lib.hid hc
  have HE := Lib.hid hE
  obtain ⟨x0, hx0⟩ : ∃ x0, x0 = v.lx / 268435456 := ⟨_, rfl⟩
  obtain ⟨x1, hx1⟩ : ∃ x1, x1 = v.hx / 268435456 := ⟨_, rfl⟩
  obtain ⟨y0, hy0⟩ : ∃ y0, y0 = v.ly / 268435456 := ⟨_, rfl⟩
  obtain ⟨y1, hy1⟩ : ∃ y1, y1 = v.hy / 268435456 := ⟨_, rfl⟩
  have b1 : -4 ≤ x0 ∧ x0 ≤ x1 ∧ x1 ≤ 4 := by omega
  have b2 : -4 ≤ y0 ∧ y0 ≤ y1 ∧ y1 ≤ 4 := by omega
  have hm : (nRow v : Int) = y1 - y0 + 1 := by unfold nRow; omega
  have hk : (nCol v : Int) = x1 - x0 + 1 := by unfold nCol; omega
  have hx0' : v.lx / 268435456 = x0 := hx0.symm
  have hx1' : v.hx / 268435456 = x1 := hx1.symm
  have hy0' : v.ly / 268435456 = y0 := hy0.symm
  have hy1' : v.hy / 268435456 = y1 := hy1.symm
  have HX := Lib.hid (And.intro hx0' hy0')
  clear hx0 hx1 hy0 hy1 hc hE
  obtain ⟨c1, c2, c3⟩ := b1
  obtain ⟨d1, d2, d3⟩ := b2
  unfold winV
  go_enter Try.func33, Try.ntmps33
  go_wp2_with fail
  refine (wcheck_any v _ hv).mono ?_
  rintro e w1 ⟨rfl, hb1⟩
  have hw1 := hW.on hb1
  have hB1 := ((Below.refl w.heap.size w).alloc (Nat.le_refl _) (.cells #[.int .i64 v.lx, .int .i64 v.ly, .int .i64 v.hx, .int .i64 v.hy] 52)).trans (hb1.mono (by simp))
  obtain ⟨k1, k2, k3, k4, k5⟩ := hw1
  have hw1 := hW.on hb1
  clear hb1 hW
  go_wp2_with (go_at_call 64; refine (cell_any _ _).mono ?_; rintro e w' ⟨rfl, rfl⟩)
  clear k1 k2 k3 k4
  go_loopw [5, 6] (fun out x wr => ∃ i : Nat, i ≤ nCol v ∧ x = .int .i64 (x0 + (i : Int)) ∧ SpanRel v w1 i 0 out wr) (fun _ x _ => (x1 + 1 - intOf x).toNat)
  case atStart => exact ⟨0, Nat.zero_le _, by simp, 0, 0, none, rfl, by omega, World.ownsRow_nil _ _ _ _, Below.refl _ _⟩
  case round =>
    obtain ⟨i, hi, rfl, n, c, A, rfl, hn, hown, hbel⟩ := hrel
    obtain ⟨k1, k2, k3, k4, k5'⟩ := hw1.on hbel
    by_cases hlt : i < nCol v
    · have hle : x0 + (i : Int) ≤ x1 := by omega
      go_wp2_with (go_at_call 64; refine (cell_any _ _).mono ?_; rintro e w' ⟨rfl, rfl⟩)
      obtain ⟨wo, rfl⟩ : ∃ wo : World, wo = wr := ⟨_, rfl⟩
      have hj0 : SpanRel v w1 i 0 (.slice A n c) wo := ⟨n, c, A, rfl, hn, hown, hbel⟩
      clear hown hbel k1 k2 k3 k4 k5'
      go_loopw [5, 7] (fun out y wr => ∃ j : Nat, j ≤ nRow v ∧ y = .int .i64 (y0 + (j : Int)) ∧ SpanRel v w1 i j out wr) (fun _ y _ => (y1 + 1 - intOf y).toNat)
      case atStart => exact ⟨0, Nat.zero_le _, by simp, hj0⟩
      case round =>
        obtain ⟨j, hj, rfl, n, c, A, rfl, hn, hown, hbel⟩ := hrel
        obtain ⟨k1, k2, k3, k4, k5'⟩ := hw1.on hbel
        by_cases hlt2 : j < nRow v
        · have hle2 : y0 + (j : Int) ≤ y1 := by omega
          go_wp2_with (first
            | (go_at_call 64; refine (cell_any _ _).mono ?_; rintro e w' ⟨rfl, rfl⟩)
            | (at_builtin; refine wpList_append_any _ rfl (.tmp 37) (.tmp 41) _ rfl w1.heap.size 54 i0 _ 2 16 Try.underlying46 hi0 hz0 hz1 hz2 rfl (by omega) (.slice A n c) n _ rfl (hown.alloc _) (wr.heap.size + 1) (some ⟨wr.heap.size, 0, none⟩) 1 1 _ rfl (new_cell wr (x0 + (i : Int)) (y0 + (j : Int))) (by simp [Value.oneCell']) (by simp only [maxLen]; omega) (by omega) (by simp; have := hbel.size; omega) ?_
               intro v3 w3 hown3 hg3 hat3))
          have hB3 : Below w1.heap.size w1 w3 := (hbel.alloc hbel.size _).grown hg3 (by simp; have := hbel.size; omega) (fun k hk => (hown.lt k hk).1)
          have hrel2 := Lib.hid (SpanRel.step (by omega) (by omega) (by omega) (by rw [HX.out.1]) (by rw [HX.out.2]) hown3 hB3)
          obtain ⟨A3, c3, rfl⟩ := own_form hown3
          have hyw : IntKind.i64.wrap (y0 + (j : Int) + 1) = y0 + (j : Int) + 1 := IntWalk.i64_in _ (by omega)
          clear hown3 hg3 hat3 hB3 hown hbel
          go_wp2
          go_roundw
          case rel => exact ⟨j + 1, by omega, by simp [Int.add_assoc], hrel2.out⟩
          case measure => simp [intOf]; omega
        · have hjn : j = nRow v := by omega
          subst hjn
          have hrel3 := Lib.hid (SpanRel.next ⟨n, c, A, rfl, hn, hown, hbel⟩)
          have hxw : IntKind.i64.wrap (x0 + (i : Int) + 1) = x0 + (i : Int) + 1 := IntWalk.i64_in _ (by omega)
          have hyl : ¬ (y0 + (nRow v : Int) ≤ y1) := by omega
          clear hown hbel
          go_wp2_with (go_at_call 64; refine (cell_any _ _).mono ?_; rintro e w' ⟨rfl, rfl⟩)
          go_roundw
          case rel => exact ⟨i + 1, by omega, by simp [Int.add_assoc], hrel3.out⟩
          case measure => simp [intOf]; omega
    · have hin : i = nCol v := by omega
      subst hin
      have hxl : ¬ (x0 + (nCol v : Int) ≤ x1) := by omega
      have hlen : n = (spanW v).length := by
        have := hown.1
        rw [ptsV_length, List.length_append, colL_length] at this
        unfold spanW
        omega
      have hown2 : wr.ownsRow w1.heap.size 54 2 (.slice A n c) n (ptsV (spanW v)) := by
        unfold spanW
        simpa [colL] using hown
      have hB2 := hB1.trans (hbel.mono hB1.size)
      have hE := HE.out
      go_wp2_with (go_at_call 64; refine (cell_any _ _).mono ?_; rintro e w' ⟨rfl, rfl⟩)
      go_ret2
      unfold SpanPost
      rw [HC.out, HE.out]
      subst hlen
      exact ⟨A, c, rfl, own_mono hown2 hB1.size, hB2⟩
theorem span_any (v : Win) (w : World) (hv : v.inI) :
    Calls Try.prog 33 #[winV v] w (SpanPost v w) := by
  by_cases hE : winE v = 0
  · exact span_yes v w hv hE
  · exact span_no v w hv hE
end Go.Proofs.Ytcohioplkchojaa

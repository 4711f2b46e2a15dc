/- geo.Cross of points of the grid: the walk. -/
/- geo.On and geo.Turn of points of the grid: the walks. -/
import Derived.Test.YtcohioplkchojaaWide
import Derived.Test.YtcohioplkchojaaLine
import Derived.Test.YtcohioplkchojaaGeoLaw
namespace Go.Proofs.Ytcohioplkchojaa
open Go.RowKit
theorem reads_three (w : World) (a b c : Pt) (k : Nat) (hk : k = w.heap.size) : Reads (w.alloc (.cells #[.int .i64 a.x, .int .i64 a.y, .int .i64 b.x, .int .i64 b.y, .int .i64 c.x, .int .i64 c.y] 35)) (w.alloc (.cells #[.int .i64 a.x, .int .i64 a.y, .int .i64 b.x, .int .i64 b.y, .int .i64 c.x, .int .i64 c.y] 35)).heap.size 2 (some ⟨k, 0, none⟩) 3 (ptsV [a, b, c]) := by
  subst hk
  exact Reads.made w _ _ _ 2 3 _ rfl rfl
theorem good_in' {p : Pt} (h : good p = true) : p.inI := by
  rw [good_iff] at h
  unfold Pt.inI
  omega
set_option maxHeartbeats 800000 in
theorem crossW_any (a b c : Pt) (w : World) (ha : good a = true) (hb : good b = true) (hc : good c = true) :
    Calls Try.prog 49 #[ptV a, ptV b, ptV c] w fun e w' => e = .returned (.tuple #[i128 (cr a b c), .int .i64 0]) ∧ Below w.heap.size w w' := by
  have hbd := cr_bd ha hb hc
  have HG := Lib.hid (And.intro ha (And.intro hb (And.intro hc hbd)))
  clear ha hb hc hbd
  obtain ⟨hA, hC, hD, hB⟩ := three_new w a b c 35
  have HN := Lib.hid (And.intro hA (And.intro hC (And.intro hD hB)))
  clear hA hC hD hB
  obtain ⟨r, hr⟩ : ∃ r, r = cr a b c := ⟨_, rfl⟩
  have HR := Lib.hid hr
  clear hr
  unfold ptV
  go_enter Try.func49, Try.ntmps49
  go_wp2_with fail
  obtain ⟨hA, hC, hD, hB⟩ := HN.out
  clear HN
  generalize hW0 : (((w.alloc (.cells #[.int .i64 a.x, .int .i64 a.y] 35)).alloc (.cells #[.int .i64 b.x, .int .i64 b.y] 35)).alloc (.cells #[.int .i64 c.x, .int .i64 c.y] 35)) = w0 at *
  have hz0 : w0.heap.size = w.heap.size + 1 + 1 + 1 := by rw [← hW0]; simp
  clear hW0
  have hQ : WdB (w0.alloc (.cells #[.int .i64 0, .int .u64 0] 26)) w0.heap.size 0 := Blk.new w0 _ _
  rw [hz0] at hQ
  replace hA := hA.alloc (.cells #[.int .i64 0, .int .u64 0] 26)
  replace hC := hC.alloc (.cells #[.int .i64 0, .int .u64 0] 26)
  replace hD := hD.alloc (.cells #[.int .i64 0, .int .u64 0] 26)
  replace hB := hB.alloc hB.size (.cells #[.int .i64 0, .int .u64 0] 26)
  have hz1 : (w0.alloc (.cells #[.int .i64 0, .int .u64 0] 26)).heap.size = w.heap.size + 1 + 1 + 1 + 1 := by rw [World.size_alloc, hz0]
  generalize w0.alloc (.cells #[.int .i64 0, .int .u64 0] 26) = w1 at *
  refine (good_any [a, b, c] _ 3 3 _ ?hq (by omega) ?hin).mono ?_
  case hq => exact reads_three w1 a b c _ hz1.symm
  case hin =>
    intro p hp
    have := HG.out
    simp at hp
    rcases hp with rfl | rfl | rfl
    · exact good_in' this.1
    · exact good_in' this.2.1
    · exact good_in' this.2.2.1
  rintro e w2 ⟨rfl, hb2⟩
  have hgl : goodL [a, b, c] = true := by simp [goodL, HG.out]
  rw [hgl]
  replace hA := (hA.alloc _).on hb2
  replace hC := (hC.alloc _).on hb2
  replace hD := (hD.alloc _).on hb2
  replace hQ := (hQ.alloc _).on hb2
  replace hB := (hB.alloc hB.size _).trans (hb2.mono (by simp; have := hB.size; omega))
  clear hgl hb2
  obtain ⟨a1, a2, a3⟩ := hA
  obtain ⟨b1, b2, b3⟩ := hC
  obtain ⟨c1, c2, c3⟩ := hD
  go_wp2_with fail
  refine (cross_any a b c _ HG.out.1 HG.out.2.1 HG.out.2.2.1).mono ?_
  rintro e w3 ⟨rfl, hb3⟩
  rw [← HR.out]
  replace hQ := hQ.on hb3
  replace hB := below_on hB (Nat.le_refl _) hb3
  clear hb3 a1 a2 a3 b1 b2 b3 c1 c2 c3
  go_wp2_with fail
  refine (of_any r _ (by rw [HR.out]; have := HG.out.2.2.2; omega) (by rw [HR.out]; have := HG.out.2.2.2; omega)).mono ?_
  rintro e w4 ⟨rfl, hb4⟩
  replace hQ := hQ.on hb4
  replace hB := below_on hB (Nat.le_refl _) hb4
  clear hb4
  have hQp := hQ.put r
  obtain ⟨q1, q2, q3, q4, q5⟩ := hQ.facts
  obtain ⟨p1, p2, p3, p4, p5⟩ := hQp.facts
  unfold i128
  go_wp2
  exact bodyPost_ret (v := .tuple #[.agg #[.int .i64 (r / 18446744073709551616), .int .u64 (r % 18446744073709551616)], .int .i64 0]) (by simp [results, Try.results49, go_sem, p1, p2]) rfl ⟨by rw [← HR.out]; rfl, below_put hB (by omega) _ _⟩
end Go.Proofs.Ytcohioplkchojaa
namespace Go.Proofs.Ytcohioplkchojaa
open Go.RowKit
set_option maxHeartbeats 800000 in
theorem turnW_any (a b c : Pt) (w : World) (ha : good a = true) (hb : good b = true) (hc : good c = true) :
    Calls Try.prog 88 #[ptV a, ptV b, ptV c] w fun e w' => e = .returned (.tuple #[.int .i64 (sgn (cr a b c)), .int .i64 0]) ∧ Below w.heap.size w w' := by
  have HG := Lib.hid (And.intro ha (And.intro hb hc))
  clear ha hb hc
  obtain ⟨hA, hC, hD, hB⟩ := three_new w a b c 35
  have HN := Lib.hid (And.intro hA (And.intro hC (And.intro hD hB)))
  clear hA hC hD hB
  obtain ⟨r, hr⟩ : ∃ r, r = sgn (cr a b c) := ⟨_, rfl⟩
  have HR := Lib.hid hr
  rw [← hr]
  clear hr
  unfold ptV
  go_enter Try.func88, Try.ntmps88
  go_wp2_with fail
  obtain ⟨hA, hC, hD, hB⟩ := HN.out
  clear HN
  have hz0 : (((w.alloc (.cells #[.int .i64 a.x, .int .i64 a.y] 35)).alloc (.cells #[.int .i64 b.x, .int .i64 b.y] 35)).alloc (.cells #[.int .i64 c.x, .int .i64 c.y] 35)).heap.size = w.heap.size + 1 + 1 + 1 := by simp
  generalize (((w.alloc (.cells #[.int .i64 a.x, .int .i64 a.y] 35)).alloc (.cells #[.int .i64 b.x, .int .i64 b.y] 35)).alloc (.cells #[.int .i64 c.x, .int .i64 c.y] 35)) = w1 at *
  refine (good_any [a, b, c] _ 3 3 _ ?hq (by omega) ?hin).mono ?_
  case hq => exact reads_three w1 a b c _ hz0.symm
  case hin =>
    intro p hp
    have := HG.out
    simp at hp
    rcases hp with rfl | rfl | rfl
    · exact good_in' this.1
    · exact good_in' this.2.1
    · exact good_in' this.2.2
  rintro e w2 ⟨rfl, hb2⟩
  have hgl : goodL [a, b, c] = true := by simp [goodL, HG.out]
  rw [hgl]
  replace hA := (hA.alloc _).on hb2
  replace hC := (hC.alloc _).on hb2
  replace hD := (hD.alloc _).on hb2
  replace hB := (hB.alloc hB.size _).trans (hb2.mono (by simp; have := hB.size; omega))
  clear hgl hb2
  obtain ⟨a1, a2, a3⟩ := hA
  obtain ⟨b1, b2, b3⟩ := hC
  obtain ⟨c1, c2, c3⟩ := hD
  go_wp2_with fail
  refine (turn_any a b c _ HG.out.1 HG.out.2.1 HG.out.2.2).mono ?_
  rintro e w3 ⟨rfl, hb3⟩
  rw [← HR.out]
  replace hB := below_on hB (Nat.le_refl _) hb3
  clear hb3 a1 a2 a3 b1 b2 b3 c1 c2 c3
  go_wp2_with fail
  exact bodyPost_ret (v := .tuple #[.int .i64 r, .int .i64 0]) (by simp [results, Try.results88, go_sem]) rfl ⟨rfl, hB⟩
set_option maxHeartbeats 800000 in
theorem onW_any (a b c : Pt) (w : World) (ha : good a = true) (hb : good b = true) (hc : good c = true) :
    Calls Try.prog 87 #[ptV a, ptV b, ptV c] w fun e w' => e = .returned (.tuple #[.bool (onB a b c), .int .i64 0]) ∧ Below w.heap.size w w' := by
  have HG := Lib.hid (And.intro ha (And.intro hb hc))
  clear ha hb hc
  obtain ⟨hA, hC, hD, hB⟩ := three_new w a b c 35
  have HN := Lib.hid (And.intro hA (And.intro hC (And.intro hD hB)))
  clear hA hC hD hB
  obtain ⟨r, hr⟩ : ∃ r, r = onB a b c := ⟨_, rfl⟩
  have HR := Lib.hid hr
  rw [← hr]
  clear hr
  unfold ptV
  go_enter Try.func87, Try.ntmps87
  go_wp2_with fail
  obtain ⟨hA, hC, hD, hB⟩ := HN.out
  clear HN
  have hz0 : (((w.alloc (.cells #[.int .i64 a.x, .int .i64 a.y] 35)).alloc (.cells #[.int .i64 b.x, .int .i64 b.y] 35)).alloc (.cells #[.int .i64 c.x, .int .i64 c.y] 35)).heap.size = w.heap.size + 1 + 1 + 1 := by simp
  generalize (((w.alloc (.cells #[.int .i64 a.x, .int .i64 a.y] 35)).alloc (.cells #[.int .i64 b.x, .int .i64 b.y] 35)).alloc (.cells #[.int .i64 c.x, .int .i64 c.y] 35)) = w1 at *
  refine (good_any [a, b, c] _ 3 3 _ ?hq (by omega) ?hin).mono ?_
  case hq => exact reads_three w1 a b c _ hz0.symm
  case hin =>
    intro p hp
    have := HG.out
    simp at hp
    rcases hp with rfl | rfl | rfl
    · exact good_in' this.1
    · exact good_in' this.2.1
    · exact good_in' this.2.2
  rintro e w2 ⟨rfl, hb2⟩
  have hgl : goodL [a, b, c] = true := by simp [goodL, HG.out]
  rw [hgl]
  replace hA := (hA.alloc _).on hb2
  replace hC := (hC.alloc _).on hb2
  replace hD := (hD.alloc _).on hb2
  replace hB := (hB.alloc hB.size _).trans (hb2.mono (by simp; have := hB.size; omega))
  clear hgl hb2
  obtain ⟨a1, a2, a3⟩ := hA
  obtain ⟨b1, b2, b3⟩ := hC
  obtain ⟨c1, c2, c3⟩ := hD
  go_wp2_with fail
  refine (on_any a b c _ HG.out.1 HG.out.2.1 HG.out.2.2).mono ?_
  rintro e w3 ⟨rfl, hb3⟩
  rw [onP_eq HG.out.1 HG.out.2.1 HG.out.2.2]
  rw [← HR.out]
  replace hB := below_on hB (Nat.le_refl _) hb3
  clear hb3 a1 a2 a3 b1 b2 b3 c1 c2 c3
  go_wp2_with fail
  exact bodyPost_ret (v := .tuple #[.bool r, .int .i64 0]) (by simp [results, Try.results87, go_sem]) rfl ⟨rfl, hB⟩
end Go.Proofs.Ytcohioplkchojaa

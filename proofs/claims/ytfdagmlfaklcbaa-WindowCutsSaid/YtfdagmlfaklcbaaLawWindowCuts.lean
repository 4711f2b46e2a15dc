/- WindowCuts: the walk: true, and older memory is as it was. -/
import Derived.Test.YtfdagmlfaklcbaaCutsR
namespace Go.Proofs.Ytfdagmlfaklcbaa
open Go.RowKit
set_option maxHeartbeats 3200000 in
theorem windowCuts_any (v : Win) (a b : Pt) (w : World) (hv : v.inI) (ha : a.inI) (hb : b.inI) :
    Calls Try.prog 8 #[winV v, ptV a, ptV b] w fun e w' => e = .returned (.bool true) ∧ Below w.heap.size w w' := by
  have HN := Lib.hid (wpp_new w v a b)
  have HI := Lib.hid (And.intro ha hb)
  clear ha hb
  have hcase := cut_cases v a b
  have HK := Lib.hid hcase
  clear hcase
  unfold winV ptV
  go_enter Try.func8, Try.ntmps8
  go_wp2_with fail
  refine calls_named fun W hW => ?_
  obtain ⟨kW, kA, kB, hB⟩ := HN.out W hW
  clear hW HN
  refine (winOK_any v _ hv).mono ?_
  rintro e w1 ⟨rfl, hb1⟩
  obtain ⟨k1, k2, k3, k4, k5⟩ := kW.on hb1
  obtain ⟨a1, a2, a3⟩ := kA.on hb1
  obtain ⟨b1, b2, b3⟩ := kB.on hb1
  replace hB := below_on hB (Nat.le_refl _) hb1
  clear hb1 kW kA kB
  rcases HK.out with ⟨hE, e1, e2⟩ | ⟨hE, hg, e1, e2⟩ | ⟨hE, hg, e1, e2⟩
  · have h0 : (winE v == 0) = false := by simpa using hE
    have hself : (winE v == winE v) = true := by simp
    have HE := Lib.hid (And.intro e1 e2)
    clear hE e1 e2 HK
    go_wp2_with fail
    refine (cuts_any v a b _ hv HI.out.1 HI.out.2).mono ?_
    rintro e w2 ⟨rfl, hb2⟩
    replace hB := below_on hB (Nat.le_refl _) hb2
    rw [HE.out.1, HE.out.2]
    clear hb2 k1 k2 k3 k4 k5 a1 a2 a3 b1 b2 b3
    go_wp2_with fail
    refine (ans04_any _).mono ?_
    rintro e w3 ⟨rfl, hb3⟩
    replace hB := below_on hB (Nat.le_refl _) hb3
    clear hb3
    go_wp2
    go_ret
    exact ⟨rfl, hB⟩
  all_goals
    have HE := Lib.hid (And.intro e1 e2)
    have HG := Lib.hid hg
    have HZ := Lib.hid hE
    rw [hE]
    clear hE e1 e2 hg HK
    go_wp2_with fail
    refine (goodR_any [a, b] _ 2 2 _ ?hq (by omega) (by simpa using HI.out)).mono ?_
    case hq => exact reads_pts2 _ a b _ rfl
    rintro e w2 ⟨rfl, hb2⟩
    rw [HG.out]
    obtain ⟨k1, k2, k3, k4, k5⟩ := HasWin.on (HasWin.alloc ⟨k1, k2, k3, k4, k5⟩ (.cells #[.int .i64 a.x, .int .i64 a.y, .int .i64 b.x, .int .i64 b.y] 23)) hb2
    obtain ⟨a1, a2, a3⟩ := HasPt.on (HasPt.alloc ⟨a1, a2, a3⟩ (.cells #[.int .i64 a.x, .int .i64 a.y, .int .i64 b.x, .int .i64 b.y] 23)) hb2
    obtain ⟨b1, b2, b3⟩ := HasPt.on (HasPt.alloc ⟨b1, b2, b3⟩ (.cells #[.int .i64 a.x, .int .i64 a.y, .int .i64 b.x, .int .i64 b.y] 23)) hb2
    replace hB := (hB.alloc hB.size (.cells #[.int .i64 a.x, .int .i64 a.y, .int .i64 b.x, .int .i64 b.y] 23)).trans (hb2.mono (by simp; have := hB.size; omega))
    clear hb2
    go_wp2_with fail
    refine (cuts_any v a b _ hv HI.out.1 HI.out.2).mono ?_
    rintro e w3 ⟨rfl, hb3⟩
    obtain ⟨k1, k2, k3, k4, k5⟩ := HasWin.on ⟨k1, k2, k3, k4, k5⟩ hb3
    obtain ⟨a1, a2, a3⟩ := HasPt.on ⟨a1, a2, a3⟩ hb3
    obtain ⟨b1, b2, b3⟩ := HasPt.on ⟨b1, b2, b3⟩ hb3
    replace hB := below_on hB (Nat.le_refl _) hb3
    rw [HE.out.1, HE.out.2]
    clear hb3
    go_wp2_with fail
    refine (ans04_any _).mono ?_
    rintro e w4 ⟨rfl, hb4⟩
    obtain ⟨k1, k2, k3, k4, k5⟩ := HasWin.on ⟨k1, k2, k3, k4, k5⟩ hb4
    obtain ⟨a1, a2, a3⟩ := HasPt.on ⟨a1, a2, a3⟩ hb4
    obtain ⟨b1, b2, b3⟩ := HasPt.on ⟨b1, b2, b3⟩ hb4
    replace hB := below_on hB (Nat.le_refl _) hb4
    clear hb4
    go_wp2_with fail
  · go_ret
    exact ⟨rfl, hB⟩
  · have hg2 : good a = true ∧ good b = true := by simpa [goodL] using HG.out
    refine (cutsR_any v a b _ HZ.out hg2.1 hg2.2).mono ?_
    rintro e w5 ⟨rfl, hb5⟩
    have hself : (cutsR v a b == cutsR v a b) = true := by simp
    replace hB := below_on hB (Nat.le_refl _) hb5
    clear hb5 hg2
    go_wp2
    go_ret
    exact ⟨rfl, hB⟩
end Go.Proofs.Ytfdagmlfaklcbaa

/- window.Has, merestonelaw04.answers and WindowHas: the walks. -/
import Derived.Test.YtcohioplkchojaaWin
namespace Go.Proofs.Ytcohioplkchojaa
open Go.RowKit
def hasE (v : Win) (p : Pt) : Int := if winE v = 0 then (if good p = true then 0 else 3) else winE v
def hasR (v : Win) (p : Pt) : Bool := if hasE v p = 0 then hasB v p else false
set_option maxHeartbeats 800000 in
theorem has_any (v : Win) (p : Pt) (w : World) (hv : v.inI) (hp : p.inI) :
    Calls Try.prog 42 #[winV v, ptV p] w fun e w' => e = .returned (.tuple #[.bool (hasR v p), .int .i64 (hasE v p)]) ∧ Below w.heap.size w w' := by
  have hW := (HasWin.new w v 52).alloc (.cells #[.int .i64 p.x, .int .i64 p.y] 35)
  have hP := HasPt.new (w.alloc (.cells #[.int .i64 v.lx, .int .i64 v.ly, .int .i64 v.hx, .int .i64 v.hy] 52)) p 35
  rw [World.size_alloc] at hP
  have hB : Below w.heap.size w ((w.alloc (.cells #[.int .i64 v.lx, .int .i64 v.ly, .int .i64 v.hx, .int .i64 v.hy] 52)).alloc (.cells #[.int .i64 p.x, .int .i64 p.y] 35)) := ((Below.refl _ _).alloc (Nat.le_refl _) _).alloc (by simp) _
  by_cases hE : winE v = 0
  · have h0 : (winE v != 0) = false := by rw [hE]; rfl
    rcases hg : good p with _ | _
    · have e1 : hasE v p = 3 := by unfold hasE; rw [if_pos hE, if_neg (by rw [hg]; decide)]
      have e2 : hasR v p = false := by unfold hasR; rw [if_neg (by rw [e1]; decide)]
      have hgl : goodL [p] = false := by simp [goodL, hg]
      rw [e1, e2]
      have HG := Lib.hid hgl
      clear hg hgl e1 e2 hE
      unfold winV ptV
      go_enter Try.func42, Try.ntmps42
      go_wp2_with fail
      refine (wcheck_any v _ hv).mono ?_
      rintro e w1 ⟨rfl, hb1⟩
      have hp1 := hP.on hb1
      have hB1 := hB.trans (hb1.mono hB.size)
      have hx := hp1.1
      have hy := hp1.2.1
      clear hb1 hP hW hB
      go_wp2_with fail
      refine (good_any [p] _ 1 1 _ ?hq (by omega) (by simpa using hp)).mono ?_
      case hq => exact Reads.new_pt' _ p.x p.y _ _ _ rfl
      rintro e w2 ⟨rfl, hb2⟩
      rw [HG.out]
      go_wp2_with fail
      go_ret2
      exact ⟨rfl, (hB1.alloc hB1.size _).trans (hb2.mono (by simp; have := hB1.size; omega))⟩
    · have e1 : hasE v p = 0 := by unfold hasE; rw [if_pos hE, if_pos hg]
      have e2 : hasR v p = hasB v p := by unfold hasR; rw [if_pos e1]
      have hgl : goodL [p] = true := by simp [goodL, hg]
      rw [e1, e2]
      have HG := Lib.hid hgl
      clear hg hgl e1 e2 hE
      unfold winV ptV
      go_enter Try.func42, Try.ntmps42
      go_wp2_with fail
      refine (wcheck_any v _ hv).mono ?_
      rintro e w1 ⟨rfl, hb1⟩
      have hp1 := hP.on hb1
      have hw1 := hW.on hb1
      have hB1 := hB.trans (hb1.mono hB.size)
      have hx := hp1.1
      have hy := hp1.2.1
      clear hb1 hP hW hB
      go_wp2_with fail
      refine (good_any [p] _ 1 1 _ ?hq (by omega) (by simpa using hp)).mono ?_
      case hq => exact Reads.new_pt' _ p.x p.y _ _ _ rfl
      rintro e w2 ⟨rfl, hb2⟩
      rw [HG.out]
      have hp2 := (hp1.alloc _).on hb2
      obtain ⟨k1, k2, k3, k4, k5⟩ := (hw1.alloc _).on hb2
      have hx2 := hp2.1
      have hy2 := hp2.2.1
      have hB2 := (hB1.alloc hB1.size _).trans (hb2.mono (by simp; have := hB1.size; omega))
      clear hb2 hB1 hx hy hp1 hw1 hp2
      go_wp2_with fail
      refine (fhas_any v p _).mono ?_
      rintro e w3 ⟨rfl, hb3⟩
      go_wp2_with fail
      go_ret2
      exact ⟨rfl, hB2.trans (hb3.mono hB2.size)⟩
  · have h0 : (winE v != 0) = true := by simpa using hE
    have e1 : hasE v p = winE v := by unfold hasE; rw [if_neg hE]
    have e2 : hasR v p = false := by unfold hasR; rw [if_neg (by rw [e1]; exact hE)]
    rw [e1, e2]
    clear e1 e2 hE
    unfold winV ptV
    go_enter Try.func42, Try.ntmps42
    go_wp2_with fail
    refine (wcheck_any v _ hv).mono ?_
    rintro e w1 ⟨rfl, hb1⟩
    go_wp2_with fail
    go_ret2
    exact ⟨rfl, hB.trans (hb1.mono hB.size)⟩
theorem has_ans : hasE ⟨0, 0, 2, 2⟩ ⟨1, 2⟩ = 0 ∧ hasR ⟨0, 0, 2, 2⟩ ⟨1, 2⟩ = true := by decide
theorem ans04_any (w : World) :
    Calls Try.prog 40 #[] w fun e w' => e = .returned (.bool true) ∧ Below w.heap.size w w' := by
  have H := Lib.hid has_ans
  go_enter Try.func40, Try.ntmps40
  go_wp2_with fail
  refine (has_any ⟨0, 0, 2, 2⟩ ⟨1, 2⟩ _ (by unfold Win.inI Win.low Win.high Pt.inI; simp) (by unfold Pt.inI; simp)).mono ?_
  rintro e w1 ⟨rfl, hb1⟩
  rw [H.out.1, H.out.2]
  go_wp2_with fail
  go_ret
  exact ⟨rfl, hb1⟩
end Go.Proofs.Ytcohioplkchojaa

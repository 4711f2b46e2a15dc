/- grid.At, merestoneref02.At: the walks. -/
import Derived.Test.YtcohioplkchojaaCell
import Derived.Deep.RegionHeld3
import Derived.StillTailTactics
namespace Go.Proofs.Ytcohioplkchojaa
open Go.RowKit
/-- The cell of a point. -/
def cellOf (p : Pt) : Pt := ⟨p.x / 268435456, p.y / 268435456⟩
def atV (p : Pt) : Pt × Int := if good p = true then (cellOf p, 0) else (⟨0, 0⟩, 3)
set_option maxHeartbeats 800000 in
theorem at_any (p : Pt) (w : World) (hp : p.inI) :
    Calls Try.prog 31 #[ptV p] w fun e w' => e = .returned (.tuple #[ptV (atV p).1, .int .i64 (atV p).2]) ∧ Below w.heap.size w w' := by
  have hpI := hp
  obtain ⟨x, y⟩ := p
  obtain ⟨⟨i1, i2⟩, i3, i4⟩ := hp
  simp only at i1 i2 i3 i4
  have hgl : goodL [⟨x, y⟩] = good ⟨x, y⟩ := by simp [goodL]
  rcases hg : good ⟨x, y⟩ with _ | _
  · have hv : atV ⟨x, y⟩ = (⟨0, 0⟩, 3) := by unfold atV; rw [if_neg (by rw [hg]; decide)]
    rw [hv]
    rw [hg] at hgl
    have HG := Lib.hid hgl
    clear hg hgl hv
    unfold ptV
    go_enter Try.func31, Try.ntmps31
    go_wp2_with fail
    refine (good_any [⟨x, y⟩] _ 1 1 _ ?hq (by omega) (by simpa using hpI)).mono ?_
    case hq => exact Reads.new_pt' _ x y _ _ _ (by simp)
    rintro e w1 ⟨rfl, hb1⟩
    rw [HG.out]
    obtain ⟨hc, hf⟩ := bcell hb1
    have hz := hb1.size
    simp only [World.size_alloc] at hz
    have HB := Lib.hid hb1
    clear hb1
    go_wp2_with fail
    refine bodyPost_ret (v := .tuple #[.agg #[.int .i64 0, .int .i64 0], .int .i64 3]) (by simp [results, Try.results31, go_sem, hc]) rfl ⟨rfl, ?_⟩
    have hB := (((Below.refl w.heap.size w).alloc (Nat.le_refl _) _).alloc (by simp) _).alloc (by simp; omega) _ |>.trans (HB.out.mono (by simp; omega))
    exact ((hB.setCell (p := ⟨w.heap.size + 1, 0, none⟩) (by simp) _).setCell (p := ⟨w.heap.size + 1, 1, none⟩) (by simp) _)
  · have hv : atV ⟨x, y⟩ = (cellOf ⟨x, y⟩, 0) := by unfold atV; rw [if_pos hg]
    rw [hv]
    rw [hg] at hgl
    have HG := Lib.hid hgl
    clear hg hgl hv
    unfold ptV cellOf
    go_enter Try.func31, Try.ntmps31
    go_wp2_with fail
    refine (good_any [⟨x, y⟩] _ 1 1 _ ?hq (by omega) (by simpa using hpI)).mono ?_
    case hq => exact Reads.new_pt' _ x y _ _ _ (by simp)
    rintro e w1 ⟨rfl, hb1⟩
    rw [HG.out]
    obtain ⟨hc, hf⟩ := bcell hb1
    have hz := hb1.size
    simp only [World.size_alloc] at hz
    have HB := Lib.hid hb1
    clear hb1
    have hx1 : w1.cell? ⟨w.heap.size, 0, none⟩ = some (.int .i64 x) := (hc _ _ (by simp; omega)).trans (by simp [go_sem, World.cell?_alloc_past])
    have hy1 : w1.cell? ⟨w.heap.size, 1, none⟩ = some (.int .i64 y) := (hc _ _ (by simp; omega)).trans (by simp [go_sem, World.cell?_alloc_past])
    go_wp2_with fail
    go_region_held3 (fun W => W.cell? ⟨w.heap.size, 0, none⟩ = some (.int .i64 x) ∧ W.cell? ⟨w.heap.size, 1, none⟩ = some (.int .i64 y)) (first | exact ⟨hx1, hy1⟩ | exact ⟨keep2 hx1 (by simp) (by simp), keep2 hy1 (by simp) (by simp)⟩)
      (first
        | (go_simp; go_at_call 64; refine (cell_any _ _).mono ?_; rintro e w' ⟨rfl, rfl⟩))
    go_wp2_with fail
    refine bodyPost_ret (v := .tuple #[.agg #[.int .i64 (x / 268435456), .int .i64 (y / 268435456)], .int .i64 0]) (by simp [results, Try.results31, go_sem, hc]) rfl ⟨rfl, ?_⟩
    have hB := (((Below.refl w.heap.size w).alloc (Nat.le_refl _) _).alloc (by simp) _).alloc (by simp; omega) _ |>.trans (HB.out.mono (by simp; omega))
    exact ((hB.setCell (p := ⟨w.heap.size + 1, 0, none⟩) (by simp) _).setCell (p := ⟨w.heap.size + 1, 1, none⟩) (by simp) _).drew
end Go.Proofs.Ytcohioplkchojaa

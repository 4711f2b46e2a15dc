/- grid.At, merestoneref02.At: the walks. -/
import Derived.Test.YtfdagmlfaklcbaaCell
import Derived.Deep.RegionHeld3
import Derived.StillTailTactics
namespace Go.Proofs.Ytfdagmlfaklcbaa
open Go.RowKit
theorem Reads.new_pt (w : World) (x y : Int) (e : TypeId) (fr : Nat × Nat) : Reads (w.alloc (.cells #[.int .i64 x, .int .i64 y] e fr)) (w.alloc (.cells #[.int .i64 x, .int .i64 y] e fr)).heap.size 2 (some ⟨w.heap.size, 0, none⟩) 1 (ptsV [⟨x, y⟩]) :=
  Reads.made w _ _ _ 2 1 _ rfl rfl
theorem Reads.new_pt' (w : World) (x y : Int) (e : TypeId) (fr : Nat × Nat) (b : Nat) (hb : b = w.heap.size) : Reads (w.alloc (.cells #[.int .i64 x, .int .i64 y] e fr)) (w.alloc (.cells #[.int .i64 x, .int .i64 y] e fr)).heap.size 2 (some ⟨b, 0, none⟩) 1 (ptsV [⟨x, y⟩]) := by
  subst hb
  exact Reads.new_pt w x y e fr
theorem keep2 {W : World} {p q a : Addr} {u v z : Value} (h : W.cell? a = some z) (hp : a.block ≠ p.block) (hq : a.block ≠ q.block) : ((W.setCell p u).setCell q v).drew.cell? a = some z := by
  show ((W.setCell p u).setCell q v).cell? a = some z
  rw [World.cell?_setCell_other _ _ _ _ (fun e => hq (by rw [e])), World.cell?_setCell_other _ _ _ _ (fun e => hp (by rw [e]))]
  exact h
/-- The cell of a point. -/
def cellOf (p : Pt) : Pt := ⟨p.x / 268435456, p.y / 268435456⟩
set_option maxHeartbeats 800000 in
theorem atR_any (p : Pt) (w : World) (hp : p.inI) :
    Calls Try.prog 12 #[ptV p] w fun e w' => e = .returned (ptV (cellOf p)) ∧ Below w.heap.size w w' := by
  obtain ⟨x, y⟩ := p
  obtain ⟨⟨i1, i2⟩, i3, i4⟩ := hp
  simp only at i1 i2 i3 i4
  unfold ptV cellOf
  go_enter Try.func12, Try.ntmps12
  go_wp2_with fail
  go_region_held3 (fun W => W.cell? ⟨w.heap.size, 0, none⟩ = some (.int .i64 x) ∧ W.cell? ⟨w.heap.size, 1, none⟩ = some (.int .i64 y)) (simp [go_sem, World.cell?_alloc_past])
    (first
      | (go_simp; go_at_call 25; refine (cellR_any _ _ ?_ ?_).mono ?_; omega; omega; rintro e w' ⟨rfl, rfl⟩))
  go_wp2
  exact bodyPost_ret (v := .agg #[.int .i64 (x / 268435456), .int .i64 (y / 268435456)]) (by simp [results, Try.results12, go_sem]) rfl ⟨rfl, (((Below.refl _ _).alloc (Nat.le_refl _) _).alloc (by simp) _).drew⟩
def atV (p : Pt) : Pt × Int := if good p = true then (cellOf p, 0) else (⟨0, 0⟩, 3)
set_option maxHeartbeats 800000 in
theorem at_any (p : Pt) (w : World) (hp : p.inI) :
    Calls Try.prog 9 #[ptV p] w fun e w' => e = .returned (.tuple #[ptV (atV p).1, .int .i64 (atV p).2]) ∧ Below w.heap.size w w' := by
  have hpI := hp
  obtain ⟨x, y⟩ := p
  obtain ⟨⟨i1, i2⟩, i3, i4⟩ := hp
  simp only at i1 i2 i3 i4
  have hgl : goodL [⟨x, y⟩] = good ⟨x, y⟩ := by simp [goodL]
  rcases hg : good ⟨x, y⟩ with _ | _
  · have hv : atV ⟨x, y⟩ = (⟨0, 0⟩, 3) := by unfold atV; rw [if_neg (by rw [hg]; decide)]
    rw [hv]
    rw [hg] at hgl
    have HG := Lib.hid hgl
    clear hg hgl hv
    unfold ptV
    go_enter Try.func9, Try.ntmps9
    go_wp2_with fail
    refine (good_any [⟨x, y⟩] _ 1 1 _ ?hq (by omega) (by simpa using hpI)).mono ?_
    case hq => exact Reads.new_pt' _ x y _ _ _ (by simp)
    rintro e w1 ⟨rfl, hb1⟩
    rw [HG.out]
    obtain ⟨hc, hf⟩ := bcell hb1
    have hz := hb1.size
    simp only [World.size_alloc] at hz
    have HB := Lib.hid hb1
    clear hb1
    go_wp2_with fail
    refine bodyPost_ret (v := .tuple #[.agg #[.int .i64 0, .int .i64 0], .int .i64 3]) (by simp [results, Try.results9, go_sem, hc]) rfl ⟨rfl, ?_⟩
    have hB := (((Below.refl w.heap.size w).alloc (Nat.le_refl _) _).alloc (by simp) _).alloc (by simp; omega) _ |>.trans (HB.out.mono (by simp; omega))
    exact ((hB.setCell (p := ⟨w.heap.size + 1, 0, none⟩) (by simp) _).setCell (p := ⟨w.heap.size + 1, 1, none⟩) (by simp) _)
  · have hv : atV ⟨x, y⟩ = (cellOf ⟨x, y⟩, 0) := by unfold atV; rw [if_pos hg]
    rw [hv]
    rw [hg] at hgl
    have HG := Lib.hid hgl
    clear hg hgl hv
    unfold ptV cellOf
    go_enter Try.func9, Try.ntmps9
    go_wp2_with fail
    refine (good_any [⟨x, y⟩] _ 1 1 _ ?hq (by omega) (by simpa using hpI)).mono ?_
    case hq => exact Reads.new_pt' _ x y _ _ _ (by simp)
    rintro e w1 ⟨rfl, hb1⟩
    rw [HG.out]
    obtain ⟨hc, hf⟩ := bcell hb1
    have hz := hb1.size
    simp only [World.size_alloc] at hz
    have HB := Lib.hid hb1
    clear hb1
    have hx1 : w1.cell? ⟨w.heap.size, 0, none⟩ = some (.int .i64 x) := (hc _ _ (by simp; omega)).trans (by simp [go_sem, World.cell?_alloc_past])
    have hy1 : w1.cell? ⟨w.heap.size, 1, none⟩ = some (.int .i64 y) := (hc _ _ (by simp; omega)).trans (by simp [go_sem, World.cell?_alloc_past])
    go_wp2_with fail
    go_region_held3 (fun W => W.cell? ⟨w.heap.size, 0, none⟩ = some (.int .i64 x) ∧ W.cell? ⟨w.heap.size, 1, none⟩ = some (.int .i64 y)) (first | exact ⟨hx1, hy1⟩ | exact ⟨keep2 hx1 (by simp) (by simp), keep2 hy1 (by simp) (by simp)⟩)
      (first
        | (go_simp; go_at_call 24; refine (cell_any _ _).mono ?_; rintro e w' ⟨rfl, rfl⟩))
    go_wp2_with fail
    refine bodyPost_ret (v := .tuple #[.agg #[.int .i64 (x / 268435456), .int .i64 (y / 268435456)], .int .i64 0]) (by simp [results, Try.results9, go_sem, hc]) rfl ⟨rfl, ?_⟩
    have hB := (((Below.refl w.heap.size w).alloc (Nat.le_refl _) _).alloc (by simp) _).alloc (by simp; omega) _ |>.trans (HB.out.mono (by simp; omega))
    exact ((hB.setCell (p := ⟨w.heap.size + 1, 0, none⟩) (by simp) _).setCell (p := ⟨w.heap.size + 1, 1, none⟩) (by simp) _).drew
end Go.Proofs.Ytfdagmlfaklcbaa

/- GridAt: the walk: true, and older memory is as it was. -/
import Derived.Test.YtfdagmlfaklcbaaAns09
namespace Go.Proofs.Ytfdagmlfaklcbaa
open Go.RowKit
/-- A block that holds a point's two cells. -/
def HasPt (w : World) (g : Nat) (p : Pt) : Prop := w.cell? ⟨g, 0, none⟩ = some (.int .i64 p.x) ∧ w.cell? ⟨g, 1, none⟩ = some (.int .i64 p.y) ∧ g < w.heap.size
theorem HasPt.new (w : World) (p : Pt) (e : TypeId) : HasPt (w.alloc (.cells #[.int .i64 p.x, .int .i64 p.y] e)) w.heap.size p := ⟨by simp, by simp, by simp⟩
theorem HasPt.on {w w' : World} {g : Nat} {p : Pt} (h : HasPt w g p) (hb : Below w.heap.size w w') : HasPt w' g p :=
  ⟨(hb.cell (p := ⟨g, 0, none⟩) h.2.2).trans h.1, (hb.cell (p := ⟨g, 1, none⟩) h.2.2).trans h.2.1, Nat.lt_of_lt_of_le h.2.2 hb.size⟩
theorem HasPt.alloc {w : World} {g : Nat} {p : Pt} (h : HasPt w g p) (o : Obj) : HasPt (w.alloc o) g p := h.on ((Below.refl _ _).alloc (Nat.le_refl _) o)
theorem HasPt.drew {w : World} {g : Nat} {p : Pt} (h : HasPt w g p) : HasPt w.drew g p := h
set_option maxHeartbeats 800000 in
theorem gridAt_any (p : Pt) (w : World) (hp : p.inI) :
    Calls Try.prog 3 #[ptV p] w fun e w' => e = .returned (.bool true) ∧ Below w.heap.size w w' := by
  have hpI := hp
  have hgl : goodL [p] = good p := by simp [goodL]
  have hA := HasPt.new w p 23
  rcases hg : good p with _ | _
  · have hv : atV p = (⟨0, 0⟩, 3) := by unfold atV; rw [if_neg (by rw [hg]; decide)]
    rw [hg] at hgl
    have HG := Lib.hid hgl
    have HV := Lib.hid hv
    clear hg hgl hv
    unfold ptV
    go_enter Try.func3, Try.ntmps3
    go_wp2_with fail
    refine (at_any p _ hpI).mono ?_
    rintro e w1 ⟨rfl, hb1⟩
    rw [HV.out]
    have hp1 := hA.on hb1
    have hB1 := ((Below.refl w.heap.size w).alloc (Nat.le_refl _) _).trans (hb1.mono (by simp))
    have hx1 := hp1.1
    have hy1 := hp1.2.1
    have hlt1 := hp1.2.2
    have hQ := HasPt.new w1 ⟨0, 0⟩ 24
    unfold ptV
    clear hA hb1
    go_wp2_with fail
    refine (goodR_any [p] _ 1 1 _ ?hq (by omega) (by simpa using hpI)).mono ?_
    case hq => exact Reads.new_pt' _ p.x p.y _ _ _ (by simp)
    rintro e w2 ⟨rfl, hb2⟩
    rw [HG.out]
    have hq2 := (hQ.alloc (.cells #[.int .i64 p.x, .int .i64 p.y] 23)).on hb2
    have hB2 := ((hB1.alloc hB1.size _).alloc (by simp; have := hB1.size; omega) _).trans (hb2.mono (by simp; have := hB1.size; omega))
    clear hb2 hQ hx1 hy1 hp1 hB1
    go_wp2_with fail
    refine (ans09_any _).mono ?_
    rintro e w3 ⟨rfl, hb3⟩
    have hq3 := hq2.on hb3
    have hqx := hq3.1
    have hqy := hq3.2.1
    have hB3 := hB2.trans (hb3.mono hB2.size)
    simp only at hqx hqy
    clear hb3 hq2 hq3 hB2
    go_wp2
    go_ret
    exact ⟨rfl, hB3⟩
  · have hv : atV p = (cellOf p, 0) := by unfold atV; rw [if_pos hg]
    rw [hg] at hgl
    have HG := Lib.hid hgl
    have HV := Lib.hid hv
    clear hg hgl hv
    unfold ptV
    go_enter Try.func3, Try.ntmps3
    go_wp2_with fail
    refine (at_any p _ hpI).mono ?_
    rintro e w1 ⟨rfl, hb1⟩
    rw [HV.out]
    have hp1 := hA.on hb1
    have hB1 := ((Below.refl w.heap.size w).alloc (Nat.le_refl _) _).trans (hb1.mono (by simp))
    have hx1 := hp1.1
    have hy1 := hp1.2.1
    have hlt1 := hp1.2.2
    obtain ⟨c, hcc⟩ : ∃ c, c = cellOf p := ⟨_, rfl⟩
    rw [← hcc]
    have HC := Lib.hid hcc
    clear hcc
    have hQ := HasPt.new w1 c 24
    unfold ptV
    clear hA hb1
    go_wp2_with fail
    refine (goodR_any [p] _ 1 1 _ ?hq (by omega) (by simpa using hpI)).mono ?_
    case hq => exact Reads.new_pt' _ p.x p.y _ _ _ (by simp)
    rintro e w2 ⟨rfl, hb2⟩
    rw [HG.out]
    have hq2 := ((hQ.alloc (.cells #[.int .i64 p.x, .int .i64 p.y] 23)).on hb2).drew
    have hp2 := (((hp1.alloc (.cells #[.int .i64 c.x, .int .i64 c.y] 24)).alloc (.cells #[.int .i64 p.x, .int .i64 p.y] 23)).on hb2).drew
    have hB2 := (((hB1.alloc hB1.size _).alloc (by simp; have := hB1.size; omega) _).trans (hb2.mono (by simp; have := hB1.size; omega))).drew
    clear hb2 hQ hx1 hy1 hp1 hB1
    go_wp2_with fail
    go_region_held3 (fun W => W.cell? ⟨w.heap.size, 0, none⟩ = some (.int .i64 p.x) ∧ W.cell? ⟨w.heap.size, 1, none⟩ = some (.int .i64 p.y) ∧ W.cell? ⟨w1.heap.size, 0, none⟩ = some (.int .i64 c.x) ∧ W.cell? ⟨w1.heap.size, 1, none⟩ = some (.int .i64 c.y))
      (first | exact ⟨hp2.1, hp2.2.1, hq2.1, hq2.2.1⟩ | exact ⟨hp3.1, hp3.2.1, hq3.1, hq3.2.1⟩ | exact ⟨hp4.1, hp4.2.1, hq4.1, hq4.2.1⟩)
      (first
        | (go_simp; go_at_call 11; refine (ans09_any _).mono ?_; rintro e w3 ⟨rfl, hb3⟩
           have hp3 := hp2.on hb3
           have hq3 := hq2.on hb3
           have hB3 := hB2.trans (hb3.mono hB2.size))
        | (go_simp; go_at_call 12; refine (atR_any p _ hpI).mono ?_; rw [← HC.out]; unfold ptV; rintro e w4 ⟨rfl, hb4⟩
           have hp4 := hp3.on hb4
           have hq4 := hq3.on hb4
           have hB4 := hB3.trans (hb4.mono hB3.size)))
    go_wp2
    go_ret
    exact ⟨rfl, hB4⟩
end Go.Proofs.Ytfdagmlfaklcbaa

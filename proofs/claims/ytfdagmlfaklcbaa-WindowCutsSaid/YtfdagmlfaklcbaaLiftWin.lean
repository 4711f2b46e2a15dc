/- A window argument opened. -/
import Derived.Test.YtfdagmlfaklcbaaLiftPt
import Derived.Test.YtfdagmlfaklcbaaHas
namespace Go.Proofs.Ytfdagmlfaklcbaa
open Go.RowKit Go.WideShapes Go.ChangeShapes Go.Deep Go.ChangeAt Go.Joins
theorem Try.cells_window : Try.prog.cellsOf 36 = 4 := by kernel_rfl
section
variable {H : Type} {enc : TypeId × Value → H}
theorem open_pt_cells {W : World} {n : Nat} {a b : Value} {y : DataW H × List MemPlace} (h : DataW.trod enc Try.prog W 0 (fun _ => true) true n 23 [a, b] = some y) :
    ∃ p : Pt, a = .int .i64 p.x ∧ b = .int .i64 p.y ∧ p.inI := by
  obtain ⟨ys, m, _, _, _, hlen, hg⟩ := DataW.trod_struct Try.underlying23 h
  match ys, hlen with
  | [y0, y1], _ =>
    have g0 : DataW.trod enc Try.prog W 0 (fun _ => true) true m 3 [a] = some y0 := by
      have := hg 0 _ rfl
      simpa [show Try.prog.cellsOf 3 = 1 from by kernel_rfl] using this
    have g1 : DataW.trod enc Try.prog W 0 (fun _ => true) true m 3 [b] = some y1 := by
      have := hg 1 _ rfl
      simpa [show Try.prog.cellsOf 3 = 1 from by kernel_rfl] using this
    obtain ⟨x, e0, _, wa⟩ := DataW.trod_int Try.underlying3 g0
    obtain ⟨z, e1, _, wb⟩ := DataW.trod_int Try.underlying3 g1
    simp at e0 e1
    exact ⟨⟨x, z⟩, e0, e1, bounds_i64 wa, bounds_i64 wb⟩
theorem open_window {W : World} {base : Nat} {v : Value} {d : DataW H} {ps : List MemPlace} (hv : Value.okWide Try.prog W .any base 36 v) (h : DataW.Trod enc Try.prog W 0 (fun _ => true) true 36 v d ps) :
    ∃ u : Win, v = winV u ∧ u.inI := by
  obtain ⟨cs, rfl, hsz⟩ := okWide_struct Try.underlying36 hv
  obtain ⟨l⟩ := cs
  match l, hsz.trans Try.cells_window with
  | [c0, c1, c2, c3], _ =>
    obtain ⟨fuel, hf⟩ := h
    obtain ⟨xs, n, _, hx, _, hlen, hg⟩ := DataW.trod_struct Try.underlying36 hf
    match xs, hlen with
    | [y0, y1], _ =>
      have g0 : DataW.trod enc Try.prog W 0 (fun _ => true) true n 23 [c0, c1] = some y0 := by
        have := hg 0 _ rfl
        simpa [Try.cells_point, Value.cells] using this
      have g1 : DataW.trod enc Try.prog W 0 (fun _ => true) true n 23 [c2, c3] = some y1 := by
        have := hg 1 _ rfl
        simpa [Try.cells_point, Value.cells] using this
      obtain ⟨p, rfl, rfl, hp⟩ := open_pt_cells g0
      obtain ⟨q, rfl, rfl, hq⟩ := open_pt_cells g1
      exact ⟨⟨p.x, p.y, q.x, q.y⟩, rfl, hp, hq⟩
end
end Go.Proofs.Ytfdagmlfaklcbaa

/- Arguments that are points or windows, opened. -/
import Derived.Test.YtfdagmlfaklcbaaLift
import Derived.Test.YtfdagmlfaklcbaaPts
namespace Go.Proofs.Ytfdagmlfaklcbaa
open Go.RowKit Go.WideShapes Go.ChangeShapes Go.Deep Go.ChangeAt Go.Joins
theorem Try.cells_point : Try.prog.cellsOf 23 = 2 := by kernel_rfl
section
variable {H : Type} {enc : TypeId × Value → H}
theorem open_point {W : World} {base : Nat} {v : Value} {d : DataW H} {ps : List MemPlace} (hv : Value.okWide Try.prog W .any base 23 v) (h : DataW.Trod enc Try.prog W 0 (fun _ => true) true 23 v d ps) :
    ∃ p : Pt, v = ptV p ∧ p.inI := by
  obtain ⟨c0, c1, y0, y1, m, rfl, rfl, rfl, hy0, hy1⟩ := open_agg2 Try.underlying23 (by kernel_rfl) Try.cells_point hv h
  obtain ⟨a, e0, rfl, wa⟩ := DataW.trod_int Try.underlying3 hy0
  obtain ⟨b, e1, rfl, wb⟩ := DataW.trod_int Try.underlying3 hy1
  simp at e0 e1
  subst e0 e1
  exact ⟨⟨a, b⟩, rfl, bounds_i64 wa, bounds_i64 wb⟩
end
end Go.Proofs.Ytfdagmlfaklcbaa

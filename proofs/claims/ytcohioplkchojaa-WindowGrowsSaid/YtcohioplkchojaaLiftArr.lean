/- An argument that is an array of four bytes, opened. -/
import Derived.Test.YtcohioplkchojaaLifts
import Derived.Laws.IdiomArrays
namespace Go.Proofs.Ytcohioplkchojaa
open Go.RowKit Go.WideShapes Go.ChangeShapes Go.Deep Go.ChangeAt Go.Joins
section
variable {H : Type} {enc : TypeId × Value → H}
set_option maxRecDepth 100000 in
theorem open_u8x4 {W : World} {base : Nat} {v : Value} {d : DataW H} {ps : List MemPlace} (hv : Value.okWide Try.prog W .any base 69 v) (h : DataW.Trod enc Try.prog W 0 (fun _ => true) true 69 v d ps) :
    ∃ a b c e : Int, v = .agg #[.int .u8 a, .int .u8 b, .int .u8 c, .int .u8 e] ∧ (0 ≤ a ∧ a ≤ 255) ∧ (0 ≤ b ∧ b ≤ 255) ∧ (0 ≤ c ∧ c ≤ 255) ∧ (0 ≤ e ∧ e ≤ 255) := by
  have hcs : ∃ cs : Array Value, v = .agg cs ∧ cs.size = Try.prog.cellsOf 69 := by
    simp only [Value.okWide, Try.underlying69] at hv
    obtain ⟨cs, h1, h2, _⟩ := hv
    exact ⟨cs, h1, h2⟩
  obtain ⟨cs, rfl, hsz⟩ := hcs
  obtain ⟨l⟩ := cs
  match l, hsz.trans (show Try.prog.cellsOf 69 = 4 by kernel_rfl) with
  | [c0, c1, c2, c3], _ =>
    obtain ⟨fuel, hf⟩ := h
    obtain ⟨y0, y1, y2, y3, n, _, g0, g1, g2, g3⟩ := trod_array4 Try.underlying69 (by kernel_rfl) hf
    obtain ⟨a, e0, _, wa⟩ := DataW.trod_int Try.underlying5 g0
    obtain ⟨b, e1, _, wb⟩ := DataW.trod_int Try.underlying5 g1
    obtain ⟨c, e2, _, wc⟩ := DataW.trod_int Try.underlying5 g2
    obtain ⟨e, e3, _, we⟩ := DataW.trod_int Try.underlying5 g3
    simp at e0 e1 e2 e3
    subst e0 e1 e2 e3
    exact ⟨a, b, c, e, rfl, bounds_u8 wa, bounds_u8 wb, bounds_u8 wc, bounds_u8 we⟩
end
end Go.Proofs.Ytcohioplkchojaa

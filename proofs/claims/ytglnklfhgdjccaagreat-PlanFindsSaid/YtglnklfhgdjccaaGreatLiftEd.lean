/- An edge argument opened. -/
import Derived.Test.YtglnklfhgdjccaaGreatPlanIn
namespace Go.Proofs.YtglnklfhgdjccaaGreat
open Go.RowKit Go.WideShapes Go.ChangeShapes Go.Deep Go.ChangeAt Go.Joins
section
variable {H : Type} {enc : TypeId × Value → H}
set_option maxRecDepth 100000 in
theorem open_edge {W : World} {base : Nat} {v : Value} {d : DataW H} {ps : List MemPlace} (hv : Value.okWide Tryz.prog W .any base 45 v) (h : DataW.Trod enc Tryz.prog W 0 (fun _ => true) true 45 v d ps) :
    ∃ e : Ed, v = .agg #[.int .i64 e.a.x, .int .i64 e.a.y, .int .i64 e.b.x, .int .i64 e.b.y] ∧ e.a.inI ∧ e.b.inI := by
  obtain ⟨cs, rfl, hsz⟩ := okWide_struct Tryz.underlying45 hv
  obtain ⟨l⟩ := cs
  match l, hsz.trans (show Tryz.prog.cellsOf 45 = 4 by kernel_rfl) with
  | [c0, c1, c2, c3], _ =>
    obtain ⟨fuel, hf⟩ := h
    obtain ⟨xs, n, _, hx, _, hlen, hg⟩ := DataW.trod_struct Tryz.underlying45 hf
    match xs, hlen with
    | [y0, y1], _ =>
      have g0 : DataW.trod enc Tryz.prog W 0 (fun _ => true) true n 43 [c0, c1] = some y0 := by
        have := hg 0 _ rfl
        simpa [Tryz.cells_point, Value.cells] using this
      have g1 : DataW.trod enc Tryz.prog W 0 (fun _ => true) true n 43 [c2, c3] = some y1 := by
        have := hg 1 _ rfl
        simpa [Tryz.cells_point, Value.cells] using this
      obtain ⟨p, rfl, rfl, hp⟩ := open_pt_cells g0
      obtain ⟨q, rfl, rfl, hq⟩ := open_pt_cells g1
      exact ⟨⟨p, q⟩, rfl, hp, hq⟩
end
end Go.Proofs.YtglnklfhgdjccaaGreat

/- merestoneref02.Check: the walk. -/
/- merestoneref02.Side: the walk. -/
import Derived.Deep.DeepCutAuto
import Derived.Test.YtgkcenhopmjmlaaRefArea
import Derived.Test.YtgkcenhopmjmlaaMeetR
namespace Go.Proofs.Ytgkcenhopmjmlaa
open Go.RowKit
/-- Eight cells below W's end, as they are in V; and V is W but for new blocks. -/
abbrev Hold8 (W V : World) (p q r s : Addr) (px py qx qy rx ry sx sy : Int) : Prop :=
  V.cell? p = some (.int .i64 px) ∧ V.cell? ⟨p.block, p.off + 1, none⟩ = some (.int .i64 py) ∧ V.cell? q = some (.int .i64 qx) ∧ V.cell? ⟨q.block, q.off + 1, none⟩ = some (.int .i64 qy) ∧
  V.cell? r = some (.int .i64 rx) ∧ V.cell? ⟨r.block, r.off + 1, none⟩ = some (.int .i64 ry) ∧ V.cell? s = some (.int .i64 sx) ∧ V.cell? ⟨s.block, s.off + 1, none⟩ = some (.int .i64 sy) ∧ Below W.heap.size W V
theorem hold8 {W V V' : World} {p q r s : Addr} {px py qx qy rx ry sx sy : Int} (hp : p.block < W.heap.size ∧ q.block < W.heap.size ∧ r.block < W.heap.size ∧ s.block < W.heap.size) (h : Hold8 W V p q r s px py qx qy rx ry sx sy) (hb : Below V.heap.size V V') : Hold8 W V' p q r s px py qx qy rx ry sx sy := by
  obtain ⟨h1, h2, h3, h4, h5, h6, h7, h8, h9⟩ := h
  have := h9.size
  exact ⟨(hb.cell (by omega)).trans h1, (hb.cell (by simp only; omega)).trans h2, (hb.cell (by omega)).trans h3, (hb.cell (by simp only; omega)).trans h4, (hb.cell (by omega)).trans h5, (hb.cell (by simp only; omega)).trans h6, (hb.cell (by omega)).trans h7, (hb.cell (by simp only; omega)).trans h8, below_on h9 (Nat.le_refl _) hb⟩
theorem pt_ext (p q : Pt) : decide (p ≠ q) = decide (¬ (p.x = q.x ∧ p.y = q.y)) := by
  obtain ⟨a, b⟩ := p
  obtain ⟨c, d⟩ := q
  simp
theorem signN {z : Int} (h : 0 < z) : sgI z = 1 := by unfold sgI; rw [if_neg (by omega), if_neg (by omega)]
end Go.Proofs.Ytgkcenhopmjmlaa
namespace Go.Proofs.Ytgkcenhopmjmlaa
open Go.RowKit
end Go.Proofs.Ytgkcenhopmjmlaa

/- merestoneref02.Meet: the walk. -/
import Derived.BigRegion
import Derived.Deep.DeepCutAuto
import Derived.Test.YtgkcenhopmjmlaaTk
import Derived.Test.YtgkcenhopmjmlaaArea
import Derived.Test.YtgkcenhopmjmlaaRefAdd
namespace Go.Proofs.Ytgkcenhopmjmlaa
open Go.RowKit
theorem info_point : (Try.prog.info? 39).map (fun i => (i.zero, i.size, i.bytes)) = some (some (.agg #[.int .i64 0, .int .i64 0]), 2, 16) := by kernel_rfl
theorem new_point (w : World) (x y : Int) : Reads (w.alloc (.cells #[.int .i64 x, .int .i64 y] 39)) (w.heap.size + 1) 2 (some ⟨w.heap.size, 0, none⟩) 1 [.int .i64 x, .int .i64 y] := by
  have := Reads.made w #[.int .i64 x, .int .i64 y] 39 (0, 0) 2 1 _ rfl rfl
  simpa using this
/-- What stands ahead of a test: so many ends have come. -/
def MeetRel (N : Nat) (W : World) (es : List Pt) (s : Value) (wx : World) : Prop :=
  ∃ (n c : Nat) (A : Option Addr), s = .slice A n c ∧ n = es.length ∧ n ≤ N ∧ wx.ownsRow W.heap.size 39 2 (.slice A n c) n (ptsV es) ∧ Below W.heap.size W wx
theorem MeetRel.none_ {W wx : World} (h : Below W.heap.size W wx) : MeetRel 0 W [] (.slice none 0 0) wx := ⟨0, 0, none, rfl, rfl, by omega, World.ownsRow_nil _ _ _ _, h⟩
theorem MeetRel.skip {N : Nat} {W wx w1 : World} {es : List Pt} {s : Value} (h : MeetRel N W es s wx) (hb : Below wx.heap.size wx w1) : MeetRel (N + 1) W (es ++ []) s w1 := by
  obtain ⟨n, c, A, rfl, h1, h2, h3, h4⟩ := h
  rw [List.append_nil]
  exact ⟨n, c, A, rfl, h1, by omega, own_below h3 hb, below_on h4 (Nat.le_refl _) hb⟩
theorem MeetRel.step {N : Nat} {W w2 : World} {es : List Pt} {v : Value} {n : Nat} {x y : Int} (hn : n = es.length) (h4 : n ≤ N) (ho : w2.ownsRow W.heap.size 39 2 v (n + 1) (ptsV es ++ [.int .i64 x, .int .i64 y])) (hb : Below W.heap.size W w2) : MeetRel (N + 1) W (es ++ [⟨x, y⟩]) v w2 := by
  obtain ⟨A, c, rfl⟩ := own_form ho
  refine ⟨n + 1, c, A, rfl, by rw [hn, List.length_append]; rfl, by omega, ?_, hb⟩
  rw [ptsV_append]
  exact ho
/-- The four corners in their boxes. -/
abbrev Box4 (w V : World) (ax ay bx by_ cx cy dx dy : Int) : Prop :=
  V.cell? ⟨w.heap.size, 0, none⟩ = some (.int .i64 ax) ∧ V.cell? ⟨w.heap.size, 1, none⟩ = some (.int .i64 ay) ∧ V.cell? ⟨w.heap.size + 1, 0, none⟩ = some (.int .i64 bx) ∧ V.cell? ⟨w.heap.size + 1, 1, none⟩ = some (.int .i64 by_) ∧
  V.cell? ⟨w.heap.size + 1 + 1, 0, none⟩ = some (.int .i64 cx) ∧ V.cell? ⟨w.heap.size + 1 + 1, 1, none⟩ = some (.int .i64 cy) ∧ V.cell? ⟨w.heap.size + 1 + 1 + 1, 0, none⟩ = some (.int .i64 dx) ∧ V.cell? ⟨w.heap.size + 1 + 1 + 1, 1, none⟩ = some (.int .i64 dy)
theorem Box4.on {w W V : World} {ax ay bx by_ cx cy dx dy : Int} (h : Box4 w W ax ay bx by_ cx cy dx dy) (hl : w.heap.size + 1 + 1 + 1 < W.heap.size) (hb : Below W.heap.size W V) : Box4 w V ax ay bx by_ cx cy dx dy := by
  obtain ⟨h1, h2, h3, h4, h5, h6, h7, h8⟩ := h
  exact ⟨(hb.cell (by simp only; omega)).trans h1, (hb.cell (by simp only; omega)).trans h2, (hb.cell (by simp only; omega)).trans h3, (hb.cell (by simp only; omega)).trans h4, (hb.cell (by simp only; omega)).trans h5, (hb.cell (by simp only; omega)).trans h6, (hb.cell (by simp only; omega)).trans h7, (hb.cell (by simp only; omega)).trans h8⟩
theorem difB_of {es : List Pt} {k : Nat} (hk : k < es.length) (h0 : 0 < es.length) (hne : es[k] ≠ es[0]) : difB es = true := by
  rcases es with _ | ⟨e, t⟩
  · cases h0
  · rcases k with _ | k
    · exact absurd rfl hne
    · simp only [difB, List.any_eq_true, decide_eq_true_eq]
      exact ⟨t[k]'(by simp at hk; omega), List.getElem_mem _, hne⟩
theorem difB_not {es : List Pt} (h : ∀ i (hi : i < es.length), es[i] = es[0]'(by omega)) : difB es = false := by
  rcases es with _ | ⟨e, t⟩
  · rfl
  · simp only [difB, List.any_eq_false, decide_eq_true_eq]
    intro p hp hne
    obtain ⟨i, hi, rfl⟩ := List.getElem_of_mem hp
    exact hne (h (i + 1) (by simp; omega))
theorem sgn_prod {x y : Int} (hx : -1 ≤ x ∧ x ≤ 1) (hy : -1 ≤ y ∧ y ≤ 1) : IntKind.i64.wrap (x * y) = x * y := by
  have h1 : x = -1 ∨ x = 0 ∨ x = 1 := by omega
  have h2 : y = -1 ∨ y = 0 ∨ y = 1 := by omega
  rcases h1 with rfl | rfl | rfl <;> rcases h2 with rfl | rfl | rfl <;> rfl
theorem heldM {w W V V' : World} {ax ay bx by_ cx cy dx dy : Int} (hl : w.heap.size + 1 + 1 + 1 < W.heap.size) (h : V.cell? ⟨w.heap.size, 0, none⟩ = some (.int .i64 ax) ∧ V.cell? ⟨w.heap.size, 1, none⟩ = some (.int .i64 ay) ∧ V.cell? ⟨w.heap.size + 1, 0, none⟩ = some (.int .i64 bx) ∧ V.cell? ⟨w.heap.size + 1, 1, none⟩ = some (.int .i64 by_) ∧ V.cell? ⟨w.heap.size + 1 + 1, 0, none⟩ = some (.int .i64 cx) ∧ V.cell? ⟨w.heap.size + 1 + 1, 1, none⟩ = some (.int .i64 cy) ∧ V.cell? ⟨w.heap.size + 1 + 1 + 1, 0, none⟩ = some (.int .i64 dx) ∧ V.cell? ⟨w.heap.size + 1 + 1 + 1, 1, none⟩ = some (.int .i64 dy) ∧ Below W.heap.size W V) (hb : Below V.heap.size V V') : V'.cell? ⟨w.heap.size, 0, none⟩ = some (.int .i64 ax) ∧ V'.cell? ⟨w.heap.size, 1, none⟩ = some (.int .i64 ay) ∧ V'.cell? ⟨w.heap.size + 1, 0, none⟩ = some (.int .i64 bx) ∧ V'.cell? ⟨w.heap.size + 1, 1, none⟩ = some (.int .i64 by_) ∧ V'.cell? ⟨w.heap.size + 1 + 1, 0, none⟩ = some (.int .i64 cx) ∧ V'.cell? ⟨w.heap.size + 1 + 1, 1, none⟩ = some (.int .i64 cy) ∧ V'.cell? ⟨w.heap.size + 1 + 1 + 1, 0, none⟩ = some (.int .i64 dx) ∧ V'.cell? ⟨w.heap.size + 1 + 1 + 1, 1, none⟩ = some (.int .i64 dy) ∧ Below W.heap.size W V' := by
  obtain ⟨h1, h2, h3, h4, h5, h6, h7, h8, h9⟩ := h
  have := h9.size
  obtain ⟨g1, g2, g3, g4, g5, g6, g7, g8⟩ := Box4.on ⟨h1, h2, h3, h4, h5, h6, h7, h8⟩ (by omega) hb
  exact ⟨g1, g2, g3, g4, g5, g6, g7, g8, below_on h9 (Nat.le_refl _) hb⟩
end Go.Proofs.Ytgkcenhopmjmlaa

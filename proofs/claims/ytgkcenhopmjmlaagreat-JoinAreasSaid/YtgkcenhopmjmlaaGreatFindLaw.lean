/- What plan.Find, Corner and Left answer of a sound plan: the plain law; words for the walks of the laws of it. -/
import Derived.Laws.IdiomCopy
import Derived.Laws.IdiomStrings
import Derived.Lib.EndianMore
import Derived.Test.YtgkcenhopmjmlaaGreatPlanIn
import Derived.Test.YtgkcenhopmjmlaaGreatSortEd
namespace Go.Proofs.YtgkcenhopmjmlaaGreat
open Go.RowKit
def FB (p : Plan) (q : Pt) (ed : Ed) (A : Option Addr) (n c : Nat) (A' : Option Addr) (n' c' : Nat) (w W : World) : Prop := Below w.heap.size w W ∧ PlK W w.heap.size A n c A' n' c' ∧ PtK W (w.heap.size + 1) q ∧ Blk W (w.heap.size + 1 + 1) 74 #[.int .i64 ed.a.x, .int .i64 ed.a.y, .int .i64 ed.b.x, .int .i64 ed.b.y] ∧ PlanAt W W.heap.size A n c A' n' c' p
theorem FB.on {p : Plan} {q : Pt} {ed : Ed} {A A' : Option Addr} {n c n' c' : Nat} {w W W' : World} (h : FB p q ed A n c A' n' c' w W) (hb : Below W.heap.size W W') : FB p q ed A n c A' n' c' w W' :=
  ⟨below_on h.1 (Nat.le_refl _) hb, h.2.1.on hb, Blk.below h.2.2.1 hb (Blk.lt h.2.2.1), Blk.below h.2.2.2.1 hb (Blk.lt h.2.2.2.1), h.2.2.2.2.on hb⟩
theorem FB.plan {p : Plan} {q : Pt} {ed : Ed} {A A' : Option Addr} {n c n' c' : Nat} {w W : World} (h : FB p q ed A n c A' n' c' w W) : W.cell? ⟨w.heap.size, 0, none⟩ = some (.slice A n c) ∧ W.cell? ⟨w.heap.size, 1, none⟩ = some (.slice A' n' c') := ⟨h.2.1.facts.1, h.2.1.facts.2.1⟩
theorem FB.pt {p : Plan} {q : Pt} {ed : Ed} {A A' : Option Addr} {n c n' c' : Nat} {w W : World} (h : FB p q ed A n c A' n' c' w W) : W.cell? ⟨w.heap.size + 1, 0, none⟩ = some (.int .i64 q.x) ∧ W.cell? ⟨w.heap.size + 1, 1, none⟩ = some (.int .i64 q.y) := ⟨h.2.2.1.facts.1, h.2.2.1.facts.2.1⟩
theorem FB.edge {p : Plan} {q : Pt} {ed : Ed} {A A' : Option Addr} {n c n' c' : Nat} {w W : World} (h : FB p q ed A n c A' n' c' w W) : W.cell? ⟨w.heap.size + 1 + 1, 0, none⟩ = some (.int .i64 ed.a.x) ∧ W.cell? ⟨w.heap.size + 1 + 1, 1, none⟩ = some (.int .i64 ed.a.y) ∧ W.cell? ⟨w.heap.size + 1 + 1, 2, none⟩ = some (.int .i64 ed.b.x) ∧ W.cell? ⟨w.heap.size + 1 + 1, 3, none⟩ = some (.int .i64 ed.b.y) :=
  ⟨by rw [Blk.cell h.2.2.2.1 0]; rfl, by rw [Blk.cell h.2.2.2.1 1]; rfl, by rw [Blk.cell h.2.2.2.1 2]; rfl, by rw [Blk.cell h.2.2.2.1 3]; rfl⟩
theorem planB_of {p : Plan} (h : SoundP p) : planB p = true := by unfold planB; simpa using h
theorem hld4 {W V V' : World} {a0 a1 a2 a3 : Addr} {v0 v1 v2 v3 : Value} (hh : a0.block < W.heap.size ∧ a1.block < W.heap.size ∧ a2.block < W.heap.size ∧ a3.block < W.heap.size) (hs : V.cell? a0 = some v0 ∧ V.cell? a1 = some v1 ∧ V.cell? a2 = some v2 ∧ V.cell? a3 = some v3 ∧ Below W.heap.size W V) (hb : Below V.heap.size V V') :
    V'.cell? a0 = some v0 ∧ V'.cell? a1 = some v1 ∧ V'.cell? a2 = some v2 ∧ V'.cell? a3 = some v3 ∧ Below W.heap.size W V' := by
  obtain ⟨h0, h1, h2, h3⟩ := hh
  obtain ⟨c0, c1, c2, c3, cb⟩ := hs
  have := cb.size
  have k : ∀ {a : Addr} {v : Value}, a.block < W.heap.size → V.cell? a = some v → V'.cell? a = some v := fun {a v} ha hv => (hb.cell (p := a) (by omega)).trans hv
  exact ⟨k h0 c0, k h1 c1, k h2 c2, k h3 c3, below_on cb (Nat.le_refl _) hb⟩
end Go.Proofs.YtgkcenhopmjmlaaGreat

/- Words for regions that draw their order, with calls, an alloc and its store: what is held of four cells; the block that the region makes. -/
/- merestoneref02.Area: the walk. -/
import Derived.Test.YtgkcenhopmjmlaaArea
import Derived.Test.YtgkcenhopmjmlaaRefAdd
namespace Go.Proofs.Ytgkcenhopmjmlaa
open Go.RowKit
/-- Four cells that lie below W's end, as they are in V; and V is W but for new blocks. -/
abbrev HoldC (W V : World) (p q r s : Addr) (vp vq vr vs : Value) : Prop := V.cell? p = some vp ∧ V.cell? q = some vq ∧ V.cell? r = some vr ∧ V.cell? s = some vs ∧ Below W.heap.size W V
theorem heldC {W V V' : World} {p q r s : Addr} {vp vq vr vs : Value} (hp : p.block < W.heap.size ∧ q.block < W.heap.size ∧ r.block < W.heap.size ∧ s.block < W.heap.size) (h : HoldC W V p q r s vp vq vr vs) (hb : Below V.heap.size V V') : HoldC W V' p q r s vp vq vr vs := by
  obtain ⟨h1, h2, h3, h4, h5⟩ := h
  have hl := h5.size
  exact ⟨(hb.cell (by omega)).trans h1, (hb.cell (by omega)).trans h2, (hb.cell (by omega)).trans h3, (hb.cell (by omega)).trans h4, h5.trans (hb.mono hl)⟩
theorem newA {N : Nat} {V V' : World} {t : TypeId} {cs : Array Value} (h : N ≤ V.heap.size) (hb : Below (V.alloc (.cells cs t)).heap.size (V.alloc (.cells cs t)) V') : Blk V' V.heap.size t cs ∧ N ≤ V.heap.size := ⟨(Blk.new V t cs).below hb (by simp), h⟩
theorem newD {N : Nat} {V V' : World} {t : TypeId} {cs : Array Value} (h : N ≤ V.heap.size) (hb : Below (V.alloc (.cells cs t)).drew.heap.size (V.alloc (.cells cs t)).drew V') : Blk V' V.heap.size t cs ∧ N ≤ V.heap.size :=
  ⟨(Blk.new V t cs).drew.below hb (by rw [World.size_drew, World.size_alloc]; omega), h⟩
theorem newB {N : Nat} {V V' : World} {t : TypeId} {cs : Array Value} {a : Nat} (h : Blk V a t cs ∧ N ≤ a) (hb : Below V.heap.size V V') : Blk V' a t cs ∧ N ≤ a := ⟨h.1.below hb h.1.lt, h.2⟩
theorem cell_set2 (V : World) (a : Nat) (p : Addr) (u v : Value) (hk : p.block ≠ a) : ((V.setCell ⟨a, 0, none⟩ u).setCell ⟨a, 1, none⟩ v).cell? p = V.cell? p := by
  rw [World.cell?_setCell_other _ _ _ _ (fun e => hk (by cases e; rfl)), World.cell?_setCell_other _ _ _ _ (fun e => hk (by cases e; rfl))]
theorem heldCS {W V : World} {p q r s : Addr} {vp vq vr vs : Value} {t : TypeId} {cs : Array Value} {a : Nat} (hp : p.block < W.heap.size ∧ q.block < W.heap.size ∧ r.block < W.heap.size ∧ s.block < W.heap.size) (h : HoldC W V p q r s vp vq vr vs) (hf : Blk V a t cs ∧ W.heap.size ≤ a) (u v : Value) : HoldC W ((V.setCell ⟨a, 0, none⟩ u).setCell ⟨a, 1, none⟩ v) p q r s vp vq vr vs := by
  obtain ⟨h1, h2, h3, h4, h5⟩ := h
  have hg := hf.2
  exact ⟨(cell_set2 V a _ u v (by omega)).trans h1, (cell_set2 V a _ u v (by omega)).trans h2, (cell_set2 V a _ u v (by omega)).trans h3, (cell_set2 V a _ u v (by omega)).trans h4, (h5.setCell (p := ⟨a, 0, none⟩) hg u).setCell (p := ⟨a, 1, none⟩) hg v⟩
theorem heldCT {W V : World} {p q r s : Addr} {vp vq vr vs : Value} {o o' : Obj} (hp : p.block < W.heap.size ∧ q.block < W.heap.size ∧ r.block < W.heap.size ∧ s.block < W.heap.size) (hg : W.heap.size ≤ V.heap.size) (h : HoldC W (V.alloc o) p q r s vp vq vr vs) : HoldC W (V.alloc o') p q r s vp vq vr vs := by
  obtain ⟨h1, h2, h3, h4, h6⟩ := h
  have hn : ∀ (p : Addr), p.block < V.heap.size → (V.alloc o').cell? p = (V.alloc o).cell? p := fun p hk => by
    rw [World.cell?_alloc_lt V o' p hk, World.cell?_alloc_lt V o p hk]
  refine ⟨(hn _ (by omega)).trans h1, (hn _ (by omega)).trans h2, (hn _ (by omega)).trans h3, (hn _ (by omega)).trans h4, ?_⟩
  exact ⟨h6.os, h6.tape, h6.output, by rw [World.size_alloc]; omega, fun k hk => (Below.heap_alloc V o' k (by omega)).trans ((Below.heap_alloc V o k (by omega)).symm.trans (h6.block k hk))⟩
end Go.Proofs.Ytgkcenhopmjmlaa
namespace Go.Proofs.Ytgkcenhopmjmlaa
open Go.RowKit
theorem areaK_parts (xs : List Pt) (k : Nat) : areaK xs k = (ptAt xs k).x * (ptAt xs ((k + 1) % xs.length)).y - (ptAt xs k).y * (ptAt xs ((k + 1) % xs.length)).x := by
  unfold areaK cr
  simp only
  grind
/-- The sum of the first k shares. -/
def areaS (xs : List Pt) (k : Nat) : Int := sumL ((List.range k).map (areaK xs))
theorem areaS_zero (xs : List Pt) : areaS xs 0 = 0 := rfl
theorem areaS_succ (xs : List Pt) (k : Nat) : areaS xs (k + 1) = areaS xs k + areaK xs k := by
  unfold areaS sumL
  rw [List.range_succ, List.map_append, List.foldl_append]
  rfl
theorem areaS_all (xs : List Pt) : areaS xs xs.length = areaZ xs := rfl
theorem areaK_bd {xs : List Pt} (h : goodL xs = true) (k : Nat) : -4611686018427387904 ≤ areaK xs k ∧ areaK xs k ≤ 4611686018427387904 := cr_bd (a := ⟨0, 0⟩) (by decide) (ptAt_good h k) (ptAt_good h _)
theorem areaS_bd {xs : List Pt} (h : goodL xs = true) (k : Nat) : -(4611686018427387904 * (k : Int)) ≤ areaS xs k ∧ areaS xs k ≤ 4611686018427387904 * (k : Int) := by
  induction k with
  | zero => simp [areaS_zero]
  | succ k ih =>
    rw [areaS_succ]
    have := areaK_bd h k
    omega
end Go.Proofs.Ytgkcenhopmjmlaa

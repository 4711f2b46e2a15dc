/- Words for points and windows in memory. -/
import Derived.Test.YtfdagmlfaklcbaaPts
namespace Go.Proofs.Ytfdagmlfaklcbaa
open Go.RowKit
/-- A block that holds a point's two cells. -/
def HasPt (w : World) (g : Nat) (p : Pt) : Prop := w.cell? ⟨g, 0, none⟩ = some (.int .i64 p.x) ∧ w.cell? ⟨g, 1, none⟩ = some (.int .i64 p.y) ∧ g < w.heap.size
theorem HasPt.new (w : World) (p : Pt) (e : TypeId) : HasPt (w.alloc (.cells #[.int .i64 p.x, .int .i64 p.y] e)) w.heap.size p := ⟨by simp, by simp, by simp⟩
theorem HasPt.on {w w' : World} {g : Nat} {p : Pt} (h : HasPt w g p) (hb : Below w.heap.size w w') : HasPt w' g p :=
  ⟨(hb.cell (p := ⟨g, 0, none⟩) h.2.2).trans h.1, (hb.cell (p := ⟨g, 1, none⟩) h.2.2).trans h.2.1, Nat.lt_of_lt_of_le h.2.2 hb.size⟩
theorem HasPt.alloc {w : World} {g : Nat} {p : Pt} (h : HasPt w g p) (o : Obj) : HasPt (w.alloc o) g p := h.on ((Below.refl _ _).alloc (Nat.le_refl _) o)
theorem HasPt.drew {w : World} {g : Nat} {p : Pt} (h : HasPt w g p) : HasPt w.drew g p := h
structure Win where
  lx : Int
  ly : Int
  hx : Int
  hy : Int
  deriving DecidableEq
def winV (w : Win) : Value := .agg #[.int .i64 w.lx, .int .i64 w.ly, .int .i64 w.hx, .int .i64 w.hy]
def Win.low (w : Win) : Pt := ⟨w.lx, w.ly⟩
def Win.high (w : Win) : Pt := ⟨w.hx, w.hy⟩
def Win.inI (w : Win) : Prop := w.low.inI ∧ w.high.inI
def hasB (w : Win) (p : Pt) : Bool := decide (w.lx ≤ p.x ∧ p.x ≤ w.hx ∧ w.ly ≤ p.y ∧ p.y ≤ w.hy)
def winE (w : Win) : Int := if goodL [w.low, w.high] = true then (if w.hx < w.lx ∨ w.hy < w.ly then 1 else 0) else 3
theorem reads_two (W : World) (a b c d : Int) (e : TypeId) (k : Nat) (hk : k = W.heap.size) : Reads (W.alloc (.cells #[.int .i64 a, .int .i64 b, .int .i64 c, .int .i64 d] e)) (W.alloc (.cells #[.int .i64 a, .int .i64 b, .int .i64 c, .int .i64 d] e)).heap.size 2 (some ⟨k, 0, none⟩) 2 (ptsV [⟨a, b⟩, ⟨c, d⟩]) := by
  subst hk
  exact Reads.made W _ _ _ 2 2 _ rfl rfl
/-- A block that holds a window's four cells. -/
def HasWin (w : World) (g : Nat) (v : Win) : Prop := w.cell? ⟨g, 0, none⟩ = some (.int .i64 v.lx) ∧ w.cell? ⟨g, 1, none⟩ = some (.int .i64 v.ly) ∧ w.cell? ⟨g, 2, none⟩ = some (.int .i64 v.hx) ∧ w.cell? ⟨g, 3, none⟩ = some (.int .i64 v.hy) ∧ g < w.heap.size
theorem HasWin.new (w : World) (v : Win) (e : TypeId) : HasWin (w.alloc (.cells #[.int .i64 v.lx, .int .i64 v.ly, .int .i64 v.hx, .int .i64 v.hy] e)) w.heap.size v := ⟨by simp, by simp, by simp, by simp, by simp⟩
theorem HasWin.on {w w' : World} {g : Nat} {v : Win} (h : HasWin w g v) (hb : Below w.heap.size w w') : HasWin w' g v :=
  ⟨(hb.cell (p := ⟨g, 0, none⟩) h.2.2.2.2).trans h.1, (hb.cell (p := ⟨g, 1, none⟩) h.2.2.2.2).trans h.2.1, (hb.cell (p := ⟨g, 2, none⟩) h.2.2.2.2).trans h.2.2.1, (hb.cell (p := ⟨g, 3, none⟩) h.2.2.2.2).trans h.2.2.2.1, Nat.lt_of_lt_of_le h.2.2.2.2 hb.size⟩
theorem HasWin.alloc {w : World} {g : Nat} {v : Win} (h : HasWin w g v) (o : Obj) : HasWin (w.alloc o) g v := h.on ((Below.refl _ _).alloc (Nat.le_refl _) o)
theorem Reads.new_pt (w : World) (x y : Int) (e : TypeId) (fr : Nat × Nat) : Reads (w.alloc (.cells #[.int .i64 x, .int .i64 y] e fr)) (w.alloc (.cells #[.int .i64 x, .int .i64 y] e fr)).heap.size 2 (some ⟨w.heap.size, 0, none⟩) 1 (ptsV [⟨x, y⟩]) :=
  Reads.made w _ _ _ 2 1 _ rfl rfl
theorem Reads.new_pt' (w : World) (x y : Int) (e : TypeId) (fr : Nat × Nat) (b : Nat) (hb : b = w.heap.size) : Reads (w.alloc (.cells #[.int .i64 x, .int .i64 y] e fr)) (w.alloc (.cells #[.int .i64 x, .int .i64 y] e fr)).heap.size 2 (some ⟨b, 0, none⟩) 1 (ptsV [⟨x, y⟩]) := by
  subst hb
  exact Reads.new_pt w x y e fr
theorem keep2 {W : World} {p q a : Addr} {u v z : Value} (h : W.cell? a = some z) (hp : a.block ≠ p.block) (hq : a.block ≠ q.block) : ((W.setCell p u).setCell q v).drew.cell? a = some z := by
  show ((W.setCell p u).setCell q v).cell? a = some z
  rw [World.cell?_setCell_other _ _ _ _ (fun e => hq (by rw [e])), World.cell?_setCell_other _ _ _ _ (fun e => hp (by rw [e]))]
  exact h
theorem own_form {w : World} {base : Nat} {e : TypeId} {size n : Nat} {v : Value} {xs : List Value} (h : w.ownsRow base e size v n xs) : ∃ A c, v = .slice A n c := by
  rcases h.2 with ⟨rfl, rfl⟩ | ⟨g, c, cur, rfl, _⟩
  · exact ⟨none, 0, rfl⟩
  · exact ⟨_, c, rfl⟩
theorem ptsV_one (l : List Pt) : ∀ u ∈ ptsV l, u.oneCell' = true := by
  intro u hu
  simp only [ptsV, List.mem_flatMap] at hu
  obtain ⟨p, _, hp⟩ := hu
  simp at hp
  rcases hp with rfl | rfl <;> rfl
theorem ptsV_append (a b : List Pt) : ptsV (a ++ b) = ptsV a ++ ptsV b := by simp [ptsV]
end Go.Proofs.Ytfdagmlfaklcbaa

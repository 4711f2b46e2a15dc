/- More words: rows that were just made read as their cells. -/
/- Words for points: a slice of points that reads as a list. -/
/- Words for points and windows in memory. -/
import Derived.Test.YtcohioplkchojaaBase
import Derived.Test.YtcohioplkchojaaRows
namespace Go.Proofs.Ytcohioplkchojaa
open Go.RowKit
theorem add_row (b j : Nat) : (⟨b, 0, none⟩ : Addr).add j = ⟨b, j, none⟩ := by
  unfold Addr.add
  by_cases h : j = 0
  · subst h; rfl
  · simp [h]
theorem add_off (b k j : Nat) : (⟨b, k, none⟩ : Addr).add j = ⟨b, k + j, none⟩ := by
  unfold Addr.add
  by_cases h : j = 0
  · subst h; rfl
  · simp [h]
theorem Reads.made (w : World) (C : Array Value) (e : TypeId) (fr : Nat × Nat) (size n : Nat) (xs : List Value) (hx : C.toList = xs) (hl : xs.length = n * size) :
    Reads (w.alloc (.cells C e fr)) (w.alloc (.cells C e fr)).heap.size size (some ⟨w.heap.size, 0, none⟩) n xs := by
  refine ⟨hl, fun _ => ⟨_, rfl, by simp, ?_⟩⟩
  intro j u hu
  rw [add_row, World.cell?_alloc_mark, ← Array.getElem?_toList, hx]
  exact hu
theorem Reads.on {w w' : World} {n size : Nat} {A : Option Addr} {xs : List Value} (h : Reads w w.heap.size size A n xs) (hb : Below w.heap.size w w') : Reads w' w'.heap.size size A n xs := (h.below hb).more hb.size
theorem below_on {B : Nat} {w w1 w2 : World} (h : Below B w w1) (hB : B ≤ w.heap.size) (hb : Below w1.heap.size w1 w2) : Below B w w2 := h.trans (hb.mono (Nat.le_trans hB h.size))
theorem own_cap {w : World} {base n c : Nat} {e : TypeId} {size : Nat} {A : Option Addr} {xs : List Value} (h : w.ownsRow base e size (.slice A n c) n xs) : n ≤ c ∧ c ≤ 9223372036854775807 := by
  rcases h.2 with ⟨h1, h2⟩ | ⟨g, cap, cur, h1, _, _, h2, h3, _⟩
  · injection h1 with _ h3 h4; omega
  · injection h1 with _ h4 h5
    subst h5
    exact ⟨h2, h3⟩
theorem own_mono {w : World} {base base' : Nat} {e : TypeId} {size n : Nat} {v : Value} {xs : List Value} (h : w.ownsRow base e size v n xs) (hb : base' ≤ base) : w.ownsRow base' e size v n xs := by
  refine ⟨h.1, ?_⟩
  rcases h.2 with h0 | ⟨g, c, cur, h1, h2, h3⟩
  · exact .inl h0
  · exact .inr ⟨g, c, cur, h1, by omega, h3⟩
theorem own_some {w : World} {base n c : Nat} {e : TypeId} {size : Nat} {A : Option Addr} {xs : List Value} (h : w.ownsRow base e size (.slice A n c) n xs) (hn : 0 < n) : ∃ g, A = some ⟨g, 0, none⟩ ∧ base ≤ g ∧ g < w.heap.size := by
  rcases h.2 with ⟨_, h2⟩ | ⟨g, cap, cur, h1, h2, h3, _⟩
  · omega
  · injection h1 with h1
    exact ⟨g, h1, h2, (Array.getElem?_eq_some_iff.1 h3).1⟩
end Go.Proofs.Ytcohioplkchojaa
namespace Go.Proofs.Ytcohioplkchojaa
open Go.RowKit
/-- A point: its two coordinates. -/
structure Pt where
  x : Int
  y : Int
  deriving DecidableEq
def ptV (p : Pt) : Value := .agg #[.int .i64 p.x, .int .i64 p.y]
def ptsV (l : List Pt) : List Value := l.flatMap fun p => [.int .i64 p.x, .int .i64 p.y]
def inI (z : Int) : Prop := -9223372036854775808 ≤ z ∧ z ≤ 9223372036854775807
def Pt.inI (p : Pt) : Prop := (-9223372036854775808 ≤ p.x ∧ p.x ≤ 9223372036854775807) ∧ (-9223372036854775808 ≤ p.y ∧ p.y ≤ 9223372036854775807)
theorem ptsV_length (l : List Pt) : (ptsV l).length = l.length * 2 := by
  induction l with
  | nil => rfl
  | cons p l ih => rw [ptsV, List.flatMap_cons, List.length_append]; rw [ptsV] at ih; rw [ih]; simp; omega
theorem ptsV_get (l : List Pt) (k : Nat) (h : k < l.length) : (ptsV l)[k * 2]? = some (.int .i64 l[k].x) ∧ (ptsV l)[k * 2 + 1]? = some (.int .i64 l[k].y) := by
  induction l generalizing k with
  | nil => simp at h
  | cons p l ih =>
    rcases k with _ | k
    · exact ⟨rfl, rfl⟩
    · have := ih k (by simpa using h)
      rw [ptsV, List.flatMap_cons]
      rw [ptsV] at this
      rw [Nat.succ_mul, Nat.add_right_comm]
      exact this
theorem add_next (ad : Addr) (m : Nat) : (⟨(ad.add m).block, (ad.add m).off + 1, none⟩ : Addr) = ad.add (m + 1) := by
  unfold Addr.add
  by_cases h : m = 0 <;> simp [h, Nat.add_assoc]
theorem Reads.pt {w : World} {B n : Nat} {A : Option Addr} {l : List Pt} (h : Reads w B 2 A n (ptsV l)) {k : Nat} (hk : k < n) :
    ∃ ad, A = some ad ∧ ad.block < B ∧ ∃ hk' : k < l.length, w.cell? (ad.add (k * 2)) = some (.int .i64 (l[k]'hk').x) ∧ w.cell? ⟨(ad.add (k * 2)).block, (ad.add (k * 2)).off + 1, none⟩ = some (.int .i64 (l[k]'hk').y) := by
  obtain ⟨ad, e, hb, hc⟩ := h.2 (by omega)
  have hk' : k < l.length := by have := h.1; rw [ptsV_length] at this; omega
  exact ⟨ad, e, hb, hk', hc _ _ (ptsV_get l k hk').1, by rw [add_next]; exact hc _ _ (ptsV_get l k hk').2⟩
theorem Reads.lenPt {w : World} {B n : Nat} {A : Option Addr} {l : List Pt} (h : Reads w B 2 A n (ptsV l)) : l.length = n := by
  have := h.1
  rw [ptsV_length] at this
  omega
theorem bcell {W w1 : World} (hb : Below W.heap.size W w1) : (∀ b o, b < W.heap.size → w1.cell? ⟨b, o, none⟩ = W.cell? ⟨b, o, none⟩) ∧ (∀ b o, b < W.heap.size → w1.frozen? ⟨b, o, none⟩ = W.frozen? ⟨b, o, none⟩) :=
  ⟨fun b o h => hb.cell (p := ⟨b, o, none⟩) h, fun b o h => hb.frozen (p := ⟨b, o, none⟩) h⟩
def good (p : Pt) : Bool := decide (-1073741824 ≤ p.x ∧ p.x ≤ 1073741824 ∧ -1073741824 ≤ p.y ∧ p.y ≤ 1073741824)
def goodL (l : List Pt) : Bool := l.all good
theorem goodL_take (l : List Pt) (k : Nat) (h : k < l.length) : goodL (l.take (k + 1)) = (goodL (l.take k) && good l[k]) := by
  unfold goodL
  rw [List.take_succ_eq_append_getElem h, List.all_append]
  simp only [List.all_cons, List.all_nil, Bool.and_true]
theorem goodL_false (l : List Pt) (k : Nat) (h : k < l.length) (hg : good l[k] = false) : goodL l = false := by
  unfold goodL
  rw [List.all_eq_false]
  exact ⟨l[k], List.getElem_mem h, by rw [hg]; decide⟩
theorem good_iff (p : Pt) : good p = true ↔ (-1073741824 ≤ p.x ∧ p.x ≤ 1073741824 ∧ -1073741824 ≤ p.y ∧ p.y ≤ 1073741824) := by unfold good; exact decide_eq_true_iff
end Go.Proofs.Ytcohioplkchojaa
namespace Go.Proofs.Ytcohioplkchojaa
open Go.RowKit
/-- A block that holds a point's two cells. -/
def HasPt (w : World) (g : Nat) (p : Pt) : Prop := w.cell? ⟨g, 0, none⟩ = some (.int .i64 p.x) ∧ w.cell? ⟨g, 1, none⟩ = some (.int .i64 p.y) ∧ g < w.heap.size
theorem HasPt.new (w : World) (p : Pt) (e : TypeId) : HasPt (w.alloc (.cells #[.int .i64 p.x, .int .i64 p.y] e)) w.heap.size p := ⟨by simp, by simp, by simp⟩
theorem HasPt.on {w w' : World} {g : Nat} {p : Pt} (h : HasPt w g p) (hb : Below w.heap.size w w') : HasPt w' g p :=
  ⟨(hb.cell (p := ⟨g, 0, none⟩) h.2.2).trans h.1, (hb.cell (p := ⟨g, 1, none⟩) h.2.2).trans h.2.1, Nat.lt_of_lt_of_le h.2.2 hb.size⟩
theorem HasPt.alloc {w : World} {g : Nat} {p : Pt} (h : HasPt w g p) (o : Obj) : HasPt (w.alloc o) g p := h.on ((Below.refl _ _).alloc (Nat.le_refl _) o)
theorem HasPt.drew {w : World} {g : Nat} {p : Pt} (h : HasPt w g p) : HasPt w.drew g p := h
structure Win where
  lx : Int
  ly : Int
  hx : Int
  hy : Int
  deriving DecidableEq
def winV (w : Win) : Value := .agg #[.int .i64 w.lx, .int .i64 w.ly, .int .i64 w.hx, .int .i64 w.hy]
def Win.low (w : Win) : Pt := ⟨w.lx, w.ly⟩
def Win.high (w : Win) : Pt := ⟨w.hx, w.hy⟩
def Win.inI (w : Win) : Prop := w.low.inI ∧ w.high.inI
def hasB (w : Win) (p : Pt) : Bool := decide (w.lx ≤ p.x ∧ p.x ≤ w.hx ∧ w.ly ≤ p.y ∧ p.y ≤ w.hy)
def winE (w : Win) : Int := if goodL [w.low, w.high] = true then (if w.hx < w.lx ∨ w.hy < w.ly then 1 else 0) else 3
theorem reads_two (W : World) (a b c d : Int) (e : TypeId) (k : Nat) (hk : k = W.heap.size) : Reads (W.alloc (.cells #[.int .i64 a, .int .i64 b, .int .i64 c, .int .i64 d] e)) (W.alloc (.cells #[.int .i64 a, .int .i64 b, .int .i64 c, .int .i64 d] e)).heap.size 2 (some ⟨k, 0, none⟩) 2 (ptsV [⟨a, b⟩, ⟨c, d⟩]) := by
  subst hk
  exact Reads.made W _ _ _ 2 2 _ rfl rfl
/-- A block that holds a window's four cells. -/
def HasWin (w : World) (g : Nat) (v : Win) : Prop := w.cell? ⟨g, 0, none⟩ = some (.int .i64 v.lx) ∧ w.cell? ⟨g, 1, none⟩ = some (.int .i64 v.ly) ∧ w.cell? ⟨g, 2, none⟩ = some (.int .i64 v.hx) ∧ w.cell? ⟨g, 3, none⟩ = some (.int .i64 v.hy) ∧ g < w.heap.size
theorem HasWin.new (w : World) (v : Win) (e : TypeId) : HasWin (w.alloc (.cells #[.int .i64 v.lx, .int .i64 v.ly, .int .i64 v.hx, .int .i64 v.hy] e)) w.heap.size v := ⟨by simp, by simp, by simp, by simp, by simp⟩
theorem HasWin.on {w w' : World} {g : Nat} {v : Win} (h : HasWin w g v) (hb : Below w.heap.size w w') : HasWin w' g v :=
  ⟨(hb.cell (p := ⟨g, 0, none⟩) h.2.2.2.2).trans h.1, (hb.cell (p := ⟨g, 1, none⟩) h.2.2.2.2).trans h.2.1, (hb.cell (p := ⟨g, 2, none⟩) h.2.2.2.2).trans h.2.2.1, (hb.cell (p := ⟨g, 3, none⟩) h.2.2.2.2).trans h.2.2.2.1, Nat.lt_of_lt_of_le h.2.2.2.2 hb.size⟩
theorem HasWin.alloc {w : World} {g : Nat} {v : Win} (h : HasWin w g v) (o : Obj) : HasWin (w.alloc o) g v := h.on ((Below.refl _ _).alloc (Nat.le_refl _) o)
theorem Reads.new_pt (w : World) (x y : Int) (e : TypeId) (fr : Nat × Nat) : Reads (w.alloc (.cells #[.int .i64 x, .int .i64 y] e fr)) (w.alloc (.cells #[.int .i64 x, .int .i64 y] e fr)).heap.size 2 (some ⟨w.heap.size, 0, none⟩) 1 (ptsV [⟨x, y⟩]) :=
  Reads.made w _ _ _ 2 1 _ rfl rfl
theorem Reads.new_pt' (w : World) (x y : Int) (e : TypeId) (fr : Nat × Nat) (b : Nat) (hb : b = w.heap.size) : Reads (w.alloc (.cells #[.int .i64 x, .int .i64 y] e fr)) (w.alloc (.cells #[.int .i64 x, .int .i64 y] e fr)).heap.size 2 (some ⟨b, 0, none⟩) 1 (ptsV [⟨x, y⟩]) := by
  subst hb
  exact Reads.new_pt w x y e fr
theorem keep2 {W : World} {p q a : Addr} {u v z : Value} (h : W.cell? a = some z) (hp : a.block ≠ p.block) (hq : a.block ≠ q.block) : ((W.setCell p u).setCell q v).drew.cell? a = some z := by
  show ((W.setCell p u).setCell q v).cell? a = some z
  rw [World.cell?_setCell_other _ _ _ _ (fun e => hq (by rw [e])), World.cell?_setCell_other _ _ _ _ (fun e => hp (by rw [e]))]
  exact h
theorem own_form {w : World} {base : Nat} {e : TypeId} {size n : Nat} {v : Value} {xs : List Value} (h : w.ownsRow base e size v n xs) : ∃ A c, v = .slice A n c := by
  rcases h.2 with ⟨rfl, rfl⟩ | ⟨g, c, cur, rfl, _⟩
  · exact ⟨none, 0, rfl⟩
  · exact ⟨_, c, rfl⟩
theorem ptsV_one (l : List Pt) : ∀ u ∈ ptsV l, u.oneCell' = true := by
  intro u hu
  simp only [ptsV, List.mem_flatMap] at hu
  obtain ⟨p, _, hp⟩ := hu
  simp at hp
  rcases hp with rfl | rfl <;> rfl
theorem ptsV_append (a b : List Pt) : ptsV (a ++ b) = ptsV a ++ ptsV b := by simp [ptsV]
end Go.Proofs.Ytcohioplkchojaa

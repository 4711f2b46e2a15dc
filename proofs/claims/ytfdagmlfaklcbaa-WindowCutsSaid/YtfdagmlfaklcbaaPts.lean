/- Words for points: a slice of points that reads as a list. -/
import Derived.Test.YtfdagmlfaklcbaaWords
import Derived.Test.YtfdagmlfaklcbaaRows
namespace Go.Proofs.Ytfdagmlfaklcbaa
open Go.RowKit
/-- A point: its two coordinates. -/
structure Pt where
  x : Int
  y : Int
  deriving DecidableEq
def ptV (p : Pt) : Value := .agg #[.int .i64 p.x, .int .i64 p.y]
def ptsV (l : List Pt) : List Value := l.flatMap fun p => [.int .i64 p.x, .int .i64 p.y]
def inI (z : Int) : Prop := -9223372036854775808 ≤ z ∧ z ≤ 9223372036854775807
def Pt.inI (p : Pt) : Prop := (-9223372036854775808 ≤ p.x ∧ p.x ≤ 9223372036854775807) ∧ (-9223372036854775808 ≤ p.y ∧ p.y ≤ 9223372036854775807)
theorem ptsV_length (l : List Pt) : (ptsV l).length = l.length * 2 := by
  induction l with
  | nil => rfl
  | cons p l ih => rw [ptsV, List.flatMap_cons, List.length_append]; rw [ptsV] at ih; rw [ih]; simp; omega
theorem ptsV_get (l : List Pt) (k : Nat) (h : k < l.length) : (ptsV l)[k * 2]? = some (.int .i64 l[k].x) ∧ (ptsV l)[k * 2 + 1]? = some (.int .i64 l[k].y) := by
  induction l generalizing k with
  | nil => simp at h
  | cons p l ih =>
    rcases k with _ | k
    · exact ⟨rfl, rfl⟩
    · have := ih k (by simpa using h)
      rw [ptsV, List.flatMap_cons]
      rw [ptsV] at this
      rw [Nat.succ_mul, Nat.add_right_comm]
      exact this
theorem add_next (ad : Addr) (m : Nat) : (⟨(ad.add m).block, (ad.add m).off + 1, none⟩ : Addr) = ad.add (m + 1) := by
  unfold Addr.add
  by_cases h : m = 0 <;> simp [h, Nat.add_assoc]
theorem Reads.pt {w : World} {B n : Nat} {A : Option Addr} {l : List Pt} (h : Reads w B 2 A n (ptsV l)) {k : Nat} (hk : k < n) :
    ∃ ad, A = some ad ∧ ad.block < B ∧ ∃ hk' : k < l.length, w.cell? (ad.add (k * 2)) = some (.int .i64 (l[k]'hk').x) ∧ w.cell? ⟨(ad.add (k * 2)).block, (ad.add (k * 2)).off + 1, none⟩ = some (.int .i64 (l[k]'hk').y) := by
  obtain ⟨ad, e, hb, hc⟩ := h.2 (by omega)
  have hk' : k < l.length := by have := h.1; rw [ptsV_length] at this; omega
  exact ⟨ad, e, hb, hk', hc _ _ (ptsV_get l k hk').1, by rw [add_next]; exact hc _ _ (ptsV_get l k hk').2⟩
theorem Reads.lenPt {w : World} {B n : Nat} {A : Option Addr} {l : List Pt} (h : Reads w B 2 A n (ptsV l)) : l.length = n := by
  have := h.1
  rw [ptsV_length] at this
  omega
theorem bcell {W w1 : World} (hb : Below W.heap.size W w1) : (∀ b o, b < W.heap.size → w1.cell? ⟨b, o, none⟩ = W.cell? ⟨b, o, none⟩) ∧ (∀ b o, b < W.heap.size → w1.frozen? ⟨b, o, none⟩ = W.frozen? ⟨b, o, none⟩) :=
  ⟨fun b o h => hb.cell (p := ⟨b, o, none⟩) h, fun b o h => hb.frozen (p := ⟨b, o, none⟩) h⟩
def good (p : Pt) : Bool := decide (-1073741824 ≤ p.x ∧ p.x ≤ 1073741824 ∧ -1073741824 ≤ p.y ∧ p.y ≤ 1073741824)
def goodL (l : List Pt) : Bool := l.all good
theorem goodL_take (l : List Pt) (k : Nat) (h : k < l.length) : goodL (l.take (k + 1)) = (goodL (l.take k) && good l[k]) := by
  unfold goodL
  rw [List.take_succ_eq_append_getElem h, List.all_append]
  simp only [List.all_cons, List.all_nil, Bool.and_true]
theorem goodL_false (l : List Pt) (k : Nat) (h : k < l.length) (hg : good l[k] = false) : goodL l = false := by
  unfold goodL
  rw [List.all_eq_false]
  exact ⟨l[k], List.getElem_mem h, by rw [hg]; decide⟩
theorem good_iff (p : Pt) : good p = true ↔ (-1073741824 ≤ p.x ∧ p.x ≤ 1073741824 ∧ -1073741824 ≤ p.y ∧ p.y ≤ 1073741824) := by unfold good; exact decide_eq_true_iff
end Go.Proofs.Ytfdagmlfaklcbaa

/- What lies beside PtW; What has to be put, and what goes, to come from some items to others: the plain law of RecordDelta. -/
import Derived.Test.YtnpjggcgnbgkjaaGreatK01
import Derived.Test.YtnpjggcgnbgkjaaGreatK02
namespace Go.Proofs.YtnpjggcgnbgkjaaGreat
open Go.RowKit
section
variable {w w' : World} {B B' size n : Nat} {A : Option Addr} {xs : List Value}
end

section
variable {w w' : World} {g : Nat} {t : TypeId} {cs : Array Value}
end

section
variable {P : Program} (w : World)

end

end Go.Proofs.YtnpjggcgnbgkjaaGreat
namespace Go.Proofs.YtnpjggcgnbgkjaaGreat
open Go.RowKit
end Go.Proofs.YtnpjggcgnbgkjaaGreat
namespace Go.Proofs.YtnpjggcgnbgkjaaGreat
open Go.RowKit
end Go.Proofs.YtnpjggcgnbgkjaaGreat
namespace Go.Proofs.YtnpjggcgnbgkjaaGreat
open Go.RowKit
def winV (w : Win) : Value := .agg #[.int .i64 w.lx, .int .i64 w.ly, .int .i64 w.hx, .int .i64 w.hy]
def winE (w : Win) : Int := if goodL [w.low, w.high] = true then (if w.hx < w.lx ∨ w.hy < w.ly then 1 else 0) else 3
theorem reads_two (W : World) (a b c d : Int) (e : TypeId) (k : Nat) (hk : k = W.heap.size) : Reads (W.alloc (.cells #[.int .i64 a, .int .i64 b, .int .i64 c, .int .i64 d] e)) (W.alloc (.cells #[.int .i64 a, .int .i64 b, .int .i64 c, .int .i64 d] e)).heap.size 2 (some ⟨k, 0, none⟩) 2 (ptsV [⟨a, b⟩, ⟨c, d⟩]) := by
  subst hk
  exact Reads.made W _ _ _ 2 2 _ rfl rfl
end Go.Proofs.YtnpjggcgnbgkjaaGreat
namespace Go.Proofs.YtnpjggcgnbgkjaaGreat
open Go.RowKit
end Go.Proofs.YtnpjggcgnbgkjaaGreat
namespace Go.Proofs.YtnpjggcgnbgkjaaGreat
open Go.RowKit
end Go.Proofs.YtnpjggcgnbgkjaaGreat
namespace Go.Proofs.YtnpjggcgnbgkjaaGreat
open Go.RowKit
end Go.Proofs.YtnpjggcgnbgkjaaGreat
namespace Go.Proofs.YtnpjggcgnbgkjaaGreat
open Go.RowKit
end Go.Proofs.YtnpjggcgnbgkjaaGreat
namespace Go.Proofs.YtnpjggcgnbgkjaaGreat
open Go.RowKit Go.WideShapes Go.ChangeShapes Go.Deep
section
variable {H : Type} {enc : TypeId × Value → H} {P : Program} {w : World} {base : Nat} {spare : Nat → Bool} {held : Bool}
end

section
variable {H : Type} {enc : TypeId × Value → H} {P : Program}
end
end Go.Proofs.YtnpjggcgnbgkjaaGreat
namespace Go.Proofs.YtnpjggcgnbgkjaaGreat
open Go.RowKit Go.WideShapes Go.ChangeShapes Go.Deep Go.ChangeAt
section
variable {H : Type} {enc : TypeId × Value → H} {P : Program}
end
end Go.Proofs.YtnpjggcgnbgkjaaGreat
namespace Go.Proofs.YtnpjggcgnbgkjaaGreat
open Go.RowKit Go.WideShapes Go.ChangeShapes Go.Deep Go.ChangeAt Go.Joins
section
variable {H : Type} {enc : TypeId × Value → H}
end
end Go.Proofs.YtnpjggcgnbgkjaaGreat
namespace Go.Proofs.YtnpjggcgnbgkjaaGreat
open Go.RowKit Go.WideShapes Go.ChangeShapes Go.Deep Go.ChangeAt Go.Joins
section
variable {H : Type} {enc : TypeId × Value → H}
end
end Go.Proofs.YtnpjggcgnbgkjaaGreat
namespace Go.Proofs.YtnpjggcgnbgkjaaGreat
open Go.RowKit Go.WideShapes Go.ChangeShapes Go.Deep Go.ChangeAt Go.Joins
section
variable {H : Type} {enc : TypeId × Value → H}
end
end Go.Proofs.YtnpjggcgnbgkjaaGreat
namespace Go.Proofs.YtnpjggcgnbgkjaaGreat
def itAt (l : List It) (k : Nat) : It := (l[k]?).getD ⟨[], []⟩
theorem itAt_lt {l : List It} {k : Nat} (h : k < l.length) : itAt l k = l[k] := by unfold itAt; rw [List.getElem?_eq_getElem h]; rfl
theorem itAt_mem {l : List It} {k : Nat} (h : k < l.length) : itAt l k ∈ l := by rw [itAt_lt h]; exact List.getElem_mem _
/-- The last place, among the first n, of an item with a key; -1: none. -/
def findN (l : List It) (k : List UInt8) : Nat → Int
  | 0 => -1
  | n + 1 => if (itAt l n).k = k then (n : Int) else findN l k n
def findI (l : List It) (k : List UInt8) : Int := findN l k l.length
theorem findN_cases (l : List It) (k : List UInt8) : ∀ n : Nat, (findN l k n = -1 ∧ ∀ j, j < n → (itAt l j).k ≠ k) ∨ ∃ i : Nat, i < n ∧ findN l k n = (i : Int) ∧ (itAt l i).k = k ∧ ∀ j, i < j → j < n → (itAt l j).k ≠ k
  | 0 => .inl ⟨rfl, fun j h => absurd h (Nat.not_lt_zero _)⟩
  | n + 1 => by
    unfold findN
    by_cases h : (itAt l n).k = k
    · rw [if_pos h]
      exact .inr ⟨n, by omega, rfl, h, fun j h1 h2 => by omega⟩
    · rw [if_neg h]
      rcases findN_cases l k n with ⟨e, h1⟩ | ⟨i, hi, e, h1, h2⟩
      · exact .inl ⟨e, fun j hj => by
          by_cases ej : j = n
          · rw [ej]; exact h
          · exact h1 j (by omega)⟩
      · exact .inr ⟨i, by omega, e, h1, fun j h3 h4 => by
          by_cases ej : j = n
          · rw [ej]; exact h
          · exact h2 j h3 (by omega)⟩
theorem findI_cases (l : List It) (k : List UInt8) : (findI l k = -1 ∧ ∀ x ∈ l, x.k ≠ k) ∨ ∃ i : Nat, i < l.length ∧ findI l k = (i : Int) ∧ (itAt l i).k = k ∧ ∀ j, i < j → j < l.length → (itAt l j).k ≠ k := by
  rcases findN_cases l k l.length with ⟨e, h⟩ | h
  · refine .inl ⟨e, fun x hx => ?_⟩
    obtain ⟨j, hj, rfl⟩ := List.mem_iff_getElem.1 hx
    rw [← itAt_lt hj]
    exact h j hj
  · exact .inr h
end Go.Proofs.YtnpjggcgnbgkjaaGreat

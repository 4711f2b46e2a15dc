/- More words: rows that were just made read as their cells. -/
import Derived.Test.YtfdagmlfaklcbaaBase
namespace Go.Proofs.Ytfdagmlfaklcbaa
open Go.RowKit
theorem add_row (b j : Nat) : (⟨b, 0, none⟩ : Addr).add j = ⟨b, j, none⟩ := by
  unfold Addr.add
  by_cases h : j = 0
  · subst h; rfl
  · simp [h]
theorem add_off (b k j : Nat) : (⟨b, k, none⟩ : Addr).add j = ⟨b, k + j, none⟩ := by
  unfold Addr.add
  by_cases h : j = 0
  · subst h; rfl
  · simp [h]
theorem Reads.made (w : World) (C : Array Value) (e : TypeId) (fr : Nat × Nat) (size n : Nat) (xs : List Value) (hx : C.toList = xs) (hl : xs.length = n * size) :
    Reads (w.alloc (.cells C e fr)) (w.alloc (.cells C e fr)).heap.size size (some ⟨w.heap.size, 0, none⟩) n xs := by
  refine ⟨hl, fun _ => ⟨_, rfl, by simp, ?_⟩⟩
  intro j u hu
  rw [add_row, World.cell?_alloc_mark, ← Array.getElem?_toList, hx]
  exact hu
theorem Reads.on {w w' : World} {n size : Nat} {A : Option Addr} {xs : List Value} (h : Reads w w.heap.size size A n xs) (hb : Below w.heap.size w w') : Reads w' w'.heap.size size A n xs := (h.below hb).more hb.size
theorem below_on {B : Nat} {w w1 w2 : World} (h : Below B w w1) (hB : B ≤ w.heap.size) (hb : Below w1.heap.size w1 w2) : Below B w w2 := h.trans (hb.mono (Nat.le_trans hB h.size))
theorem own_cap {w : World} {base n c : Nat} {e : TypeId} {size : Nat} {A : Option Addr} {xs : List Value} (h : w.ownsRow base e size (.slice A n c) n xs) : n ≤ c ∧ c ≤ 9223372036854775807 := by
  rcases h.2 with ⟨h1, h2⟩ | ⟨g, cap, cur, h1, _, _, h2, h3, _⟩
  · injection h1 with _ h3 h4; omega
  · injection h1 with _ h4 h5
    subst h5
    exact ⟨h2, h3⟩
theorem own_mono {w : World} {base base' : Nat} {e : TypeId} {size n : Nat} {v : Value} {xs : List Value} (h : w.ownsRow base e size v n xs) (hb : base' ≤ base) : w.ownsRow base' e size v n xs := by
  refine ⟨h.1, ?_⟩
  rcases h.2 with h0 | ⟨g, c, cur, h1, h2, h3⟩
  · exact .inl h0
  · exact .inr ⟨g, c, cur, h1, by omega, h3⟩
theorem own_some {w : World} {base n c : Nat} {e : TypeId} {size : Nat} {A : Option Addr} {xs : List Value} (h : w.ownsRow base e size (.slice A n c) n xs) (hn : 0 < n) : ∃ g, A = some ⟨g, 0, none⟩ ∧ base ≤ g ∧ g < w.heap.size := by
  rcases h.2 with ⟨_, h2⟩ | ⟨g, cap, cur, h1, h2, h3, _⟩
  · omega
  · injection h1 with h1
    exact ⟨g, h1, h2, (Array.getElem?_eq_some_iff.1 h3).1⟩
end Go.Proofs.Ytfdagmlfaklcbaa

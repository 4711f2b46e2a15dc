/- More words: rows that were just made read as their cells. -/
import Derived.Test.YtkhgjmbpodkdnaaBase
namespace Go.Proofs.Ytkhgjmbpodkdnaa
open Go.RowKit
theorem add_row (b j : Nat) : (⟨b, 0, none⟩ : Addr).add j = ⟨b, j, none⟩ := by
  unfold Addr.add
  by_cases h : j = 0
  · subst h; rfl
  · simp [h]
theorem add_off (b k j : Nat) : (⟨b, k, none⟩ : Addr).add j = ⟨b, k + j, none⟩ := by
  unfold Addr.add
  by_cases h : j = 0
  · subst h; rfl
  · simp [h]
theorem Reads.made (w : World) (C : Array Value) (e : TypeId) (fr : Nat × Nat) (size n : Nat) (xs : List Value) (hx : C.toList = xs) (hl : xs.length = n * size) :
    Reads (w.alloc (.cells C e fr)) (w.alloc (.cells C e fr)).heap.size size (some ⟨w.heap.size, 0, none⟩) n xs := by
  refine ⟨hl, fun _ => ⟨_, rfl, by simp, ?_⟩⟩
  intro j u hu
  rw [add_row, World.cell?_alloc_mark, ← Array.getElem?_toList, hx]
  exact hu
end Go.Proofs.Ytkhgjmbpodkdnaa

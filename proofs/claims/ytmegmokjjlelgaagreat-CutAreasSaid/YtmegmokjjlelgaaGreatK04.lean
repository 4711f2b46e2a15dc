/- What lies beside PtW. -/
import Derived.Test.YtmegmokjjlelgaaGreatK01
namespace Go.Proofs.YtmegmokjjlelgaaGreat
open Go.RowKit
section
variable {w w' : World} {B B' size n : Nat} {A : Option Addr} {xs : List Value}
end

section
variable {w w' : World} {g : Nat} {t : TypeId} {cs : Array Value}
end

section
variable {P : Program} (w : World)

end

end Go.Proofs.YtmegmokjjlelgaaGreat
namespace Go.Proofs.YtmegmokjjlelgaaGreat
open Go.RowKit
end Go.Proofs.YtmegmokjjlelgaaGreat
namespace Go.Proofs.YtmegmokjjlelgaaGreat
open Go.RowKit
end Go.Proofs.YtmegmokjjlelgaaGreat
namespace Go.Proofs.YtmegmokjjlelgaaGreat
open Go.RowKit
end Go.Proofs.YtmegmokjjlelgaaGreat
namespace Go.Proofs.YtmegmokjjlelgaaGreat
open Go.RowKit
end Go.Proofs.YtmegmokjjlelgaaGreat
namespace Go.Proofs.YtmegmokjjlelgaaGreat
open Go.RowKit
end Go.Proofs.YtmegmokjjlelgaaGreat
namespace Go.Proofs.YtmegmokjjlelgaaGreat
open Go.RowKit
end Go.Proofs.YtmegmokjjlelgaaGreat
namespace Go.Proofs.YtmegmokjjlelgaaGreat
open Go.RowKit
end Go.Proofs.YtmegmokjjlelgaaGreat
namespace Go.Proofs.YtmegmokjjlelgaaGreat
open Go.RowKit Go.WideShapes Go.ChangeShapes Go.Deep
section
variable {H : Type} {enc : TypeId × Value → H} {P : Program} {w : World} {base : Nat} {spare : Nat → Bool} {held : Bool}
end

section
variable {H : Type} {enc : TypeId × Value → H} {P : Program}
end
end Go.Proofs.YtmegmokjjlelgaaGreat
namespace Go.Proofs.YtmegmokjjlelgaaGreat
open Go.RowKit Go.WideShapes Go.ChangeShapes Go.Deep Go.ChangeAt
section
variable {H : Type} {enc : TypeId × Value → H} {P : Program}
end
end Go.Proofs.YtmegmokjjlelgaaGreat
namespace Go.Proofs.YtmegmokjjlelgaaGreat
open Go.RowKit Go.WideShapes Go.ChangeShapes Go.Deep Go.ChangeAt Go.Joins
section
variable {H : Type} {enc : TypeId × Value → H}
end
end Go.Proofs.YtmegmokjjlelgaaGreat
namespace Go.Proofs.YtmegmokjjlelgaaGreat
open Go.RowKit Go.WideShapes Go.ChangeShapes Go.Deep Go.ChangeAt Go.Joins
section
variable {H : Type} {enc : TypeId × Value → H}
end
end Go.Proofs.YtmegmokjjlelgaaGreat
namespace Go.Proofs.YtmegmokjjlelgaaGreat
open Go.RowKit Go.WideShapes Go.ChangeShapes Go.Deep Go.ChangeAt Go.Joins
section
variable {H : Type} {enc : TypeId × Value → H}
set_option maxRecDepth 100000 in
theorem open_ring {W : World} {base : Nat} {v : Value} {d : DataW H} {ps : List MemPlace} (hv : Value.okWide Tryz.prog W .any base 23 v) (h : DataW.Trod enc Tryz.prog W 0 (fun _ => true) true 23 v d ps)
    (hs : ∀ elems spare : List (DataW H), d = .slice elems spare → (elems.length + spare.length) * Tryz.prog.bytesOf 44 ≤ reachBytes) :
    ∃ (xs : List Pt) (A : Option Addr) (cap : Nat), v = .slice A xs.length cap ∧ Reads W W.heap.size 2 A xs.length (ptsV xs) ∧ xs.length ≤ 8796093022208 ∧ xs.length ≤ cap ∧ cap ≤ 9223372036854775807 ∧ ∀ p ∈ xs, p.inI := by
  obtain ⟨a0, len, cap, rfl⟩ := okWide_slice Tryz.underlying23 hv
  obtain ⟨fuel, hf⟩ := h
  rcases open_slice_pairs Tryz.underlying23 Tryz.underlying44 (by kernel_rfl) (by kernel_rfl) (by kernel_rfl) (by kernel_rfl) (by kernel_rfl) hf with ⟨hcs, hx⟩ | ⟨a, len', cap', m, n, V0, V1, D0, D1, P0, P1, hcs, _, hl, hm, hmm, hx, hcell⟩
  · simp [Value.cells] at hcs
    obtain ⟨rfl, rfl, rfl⟩ := hcs
    exact ⟨[], none, 0, rfl, Reads.none_, by simp, by simp, by simp, by simp⟩
  · simp [Value.cells] at hcs
    obtain ⟨rfl, rfl, rfl⟩ := hcs
    simp only [Prod.mk.injEq] at hx
    have hlm : len ≤ m := by rw [hmm]; split <;> omega
    have each : ∀ i, i < len → ∃ p : Pt, W.cell? (a.add (i * 2)) = some (.int .i64 p.x) ∧ W.cell? (a.add (i * 2 + 1)) = some (.int .i64 p.y) ∧ p.inI := by
      intro i hi
      obtain ⟨h0, h1, h2, h3⟩ := hcell i (by omega)
      obtain ⟨x, e0, _, wa⟩ := DataW.trod_int Tryz.underlying3 h2
      obtain ⟨z, e1, _, wb⟩ := DataW.trod_int Tryz.underlying3 h3
      simp at e0 e1
      rw [e0] at h0
      rw [e1] at h1
      exact ⟨⟨x, z⟩, h0, h1, bounds_i64 wa, bounds_i64 wb⟩
    have hall : ∃ f : Nat → Pt, ∀ i, i < len → W.cell? (a.add (i * 2)) = some (.int .i64 (f i).x) ∧ W.cell? (a.add (i * 2 + 1)) = some (.int .i64 (f i).y) ∧ (f i).inI := by
      refine ⟨fun i => if hi : i < len then (each i hi).choose else ⟨0, 0⟩, fun i hi => ?_⟩
      simp only [dif_pos hi]
      exact (each i hi).choose_spec
    obtain ⟨f, hff⟩ := hall
    have hlen : ((List.range len).map f).length = len := by simp
    refine ⟨(List.range len).map f, some a, cap, by rw [hlen], ⟨ptsV_length _, fun hn => ⟨a, rfl, ?_, ?_⟩⟩, ?_, by rw [hlen]; exact hl, hm, ?_⟩
    · rw [hlen] at hn
      have := cell_lt (hff 0 hn).1
      rwa [block_of_add] at this
    · intro j u hu
      have hj : j < ((List.range len).map f).length * 2 := by rw [← ptsV_length]; exact (List.getElem?_eq_some_iff.1 hu).1
      have hj2 : j / 2 < ((List.range len).map f).length := by omega
      have hg := ptsV_get _ (j / 2) hj2
      have hfj := hff (j / 2) (by rw [← hlen]; exact hj2)
      simp only [List.getElem_map, List.getElem_range] at hg
      have hm2 : j % 2 = 0 ∨ j % 2 = 1 := by omega
      rcases hm2 with hm2 | hm2
      · have e : j / 2 * 2 = j := by omega
        rw [e] at hg hfj
        rw [hfj.1, ← hg.1, hu]
      · have e : j / 2 * 2 + 1 = j := by omega
        rw [e] at hg hfj
        rw [hfj.2.1, ← hg.2, hu]
    · rw [hlen]
      have := hs _ _ hx.1
      rw [show Tryz.prog.bytesOf 44 = 16 from by kernel_rfl] at this
      simp only [List.length_map, List.length_range, reachBytes] at this
      omega
    · intro p hp
      simp only [List.mem_map, List.mem_range] at hp
      obtain ⟨i, hi, rfl⟩ := hp
      exact (hff i hi).2.2
end
end Go.Proofs.YtmegmokjjlelgaaGreat

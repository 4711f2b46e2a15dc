/- What lies beside PtW; Sorting by insertion: the words about a row of numbers (split off XChanged). -/
import Derived.Test.YtnpjggcgnbgkjaaGreatK01
namespace Go.Proofs.YtnpjggcgnbgkjaaGreat
open Go.RowKit
section
variable {w w' : World} {B B' size n : Nat} {A : Option Addr} {xs : List Value}
end

section
variable {w w' : World} {g : Nat} {t : TypeId} {cs : Array Value}
end

section
variable {P : Program} (w : World)

end

end Go.Proofs.YtnpjggcgnbgkjaaGreat
namespace Go.Proofs.YtnpjggcgnbgkjaaGreat
open Go.RowKit
end Go.Proofs.YtnpjggcgnbgkjaaGreat
namespace Go.Proofs.YtnpjggcgnbgkjaaGreat
open Go.RowKit
end Go.Proofs.YtnpjggcgnbgkjaaGreat
namespace Go.Proofs.YtnpjggcgnbgkjaaGreat
open Go.RowKit
end Go.Proofs.YtnpjggcgnbgkjaaGreat
namespace Go.Proofs.YtnpjggcgnbgkjaaGreat
open Go.RowKit
end Go.Proofs.YtnpjggcgnbgkjaaGreat
namespace Go.Proofs.YtnpjggcgnbgkjaaGreat
open Go.RowKit
end Go.Proofs.YtnpjggcgnbgkjaaGreat
namespace Go.Proofs.YtnpjggcgnbgkjaaGreat
open Go.RowKit
end Go.Proofs.YtnpjggcgnbgkjaaGreat
namespace Go.Proofs.YtnpjggcgnbgkjaaGreat
open Go.RowKit
end Go.Proofs.YtnpjggcgnbgkjaaGreat
namespace Go.Proofs.YtnpjggcgnbgkjaaGreat
open Go.RowKit Go.WideShapes Go.ChangeShapes Go.Deep
section
variable {H : Type} {enc : TypeId × Value → H} {P : Program} {w : World} {base : Nat} {spare : Nat → Bool} {held : Bool}
end

section
variable {H : Type} {enc : TypeId × Value → H} {P : Program}
end
end Go.Proofs.YtnpjggcgnbgkjaaGreat
namespace Go.Proofs.YtnpjggcgnbgkjaaGreat
open Go.RowKit Go.WideShapes Go.ChangeShapes Go.Deep Go.ChangeAt
section
variable {H : Type} {enc : TypeId × Value → H} {P : Program}
end
end Go.Proofs.YtnpjggcgnbgkjaaGreat
namespace Go.Proofs.YtnpjggcgnbgkjaaGreat
open Go.RowKit Go.WideShapes Go.ChangeShapes Go.Deep Go.ChangeAt Go.Joins
section
variable {H : Type} {enc : TypeId × Value → H}
end
end Go.Proofs.YtnpjggcgnbgkjaaGreat
namespace Go.Proofs.YtnpjggcgnbgkjaaGreat
open Go.RowKit Go.WideShapes Go.ChangeShapes Go.Deep Go.ChangeAt Go.Joins
section
variable {H : Type} {enc : TypeId × Value → H}
end
end Go.Proofs.YtnpjggcgnbgkjaaGreat
namespace Go.Proofs.YtnpjggcgnbgkjaaGreat
open Go.RowKit Go.WideShapes Go.ChangeShapes Go.Deep Go.ChangeAt Go.Joins
section
variable {H : Type} {enc : TypeId × Value → H}
set_option maxRecDepth 100000 in
theorem open_ring {W : World} {base : Nat} {v : Value} {d : DataW H} {ps : List MemPlace} (hv : Value.okWide Tryz.prog W .any base 23 v) (h : DataW.Trod enc Tryz.prog W 0 (fun _ => true) true 23 v d ps)
    (hs : ∀ elems spare : List (DataW H), d = .slice elems spare → (elems.length + spare.length) * Tryz.prog.bytesOf 35 ≤ reachBytes) :
    ∃ (xs : List Pt) (A : Option Addr) (cap : Nat), v = .slice A xs.length cap ∧ Reads W W.heap.size 2 A xs.length (ptsV xs) ∧ xs.length ≤ 8796093022208 ∧ xs.length ≤ cap ∧ cap ≤ 9223372036854775807 ∧ ∀ p ∈ xs, p.inI := by
  obtain ⟨a0, len, cap, rfl⟩ := okWide_slice Tryz.underlying23 hv
  obtain ⟨fuel, hf⟩ := h
  rcases open_slice_pairs Tryz.underlying23 Tryz.underlying35 (by kernel_rfl) (by kernel_rfl) (by kernel_rfl) (by kernel_rfl) (by kernel_rfl) hf with ⟨hcs, hx⟩ | ⟨a, len', cap', m, n, V0, V1, D0, D1, P0, P1, hcs, _, hl, hm, hmm, hx, hcell⟩
  · simp [Value.cells] at hcs
    obtain ⟨rfl, rfl, rfl⟩ := hcs
    exact ⟨[], none, 0, rfl, Reads.none_, by simp, by simp, by simp, by simp⟩
  · simp [Value.cells] at hcs
    obtain ⟨rfl, rfl, rfl⟩ := hcs
    simp only [Prod.mk.injEq] at hx
    have hlm : len ≤ m := by rw [hmm]; split <;> omega
    have each : ∀ i, i < len → ∃ p : Pt, W.cell? (a.add (i * 2)) = some (.int .i64 p.x) ∧ W.cell? (a.add (i * 2 + 1)) = some (.int .i64 p.y) ∧ p.inI := by
      intro i hi
      obtain ⟨h0, h1, h2, h3⟩ := hcell i (by omega)
      obtain ⟨x, e0, _, wa⟩ := DataW.trod_int Tryz.underlying3 h2
      obtain ⟨z, e1, _, wb⟩ := DataW.trod_int Tryz.underlying3 h3
      simp at e0 e1
      rw [e0] at h0
      rw [e1] at h1
      exact ⟨⟨x, z⟩, h0, h1, bounds_i64 wa, bounds_i64 wb⟩
    have hall : ∃ f : Nat → Pt, ∀ i, i < len → W.cell? (a.add (i * 2)) = some (.int .i64 (f i).x) ∧ W.cell? (a.add (i * 2 + 1)) = some (.int .i64 (f i).y) ∧ (f i).inI := by
      refine ⟨fun i => if hi : i < len then (each i hi).choose else ⟨0, 0⟩, fun i hi => ?_⟩
      simp only [dif_pos hi]
      exact (each i hi).choose_spec
    obtain ⟨f, hff⟩ := hall
    have hlen : ((List.range len).map f).length = len := by simp
    refine ⟨(List.range len).map f, some a, cap, by rw [hlen], ⟨ptsV_length _, fun hn => ⟨a, rfl, ?_, ?_⟩⟩, ?_, by rw [hlen]; exact hl, hm, ?_⟩
    · rw [hlen] at hn
      have := cell_lt (hff 0 hn).1
      rwa [block_of_add] at this
    · intro j u hu
      have hj : j < ((List.range len).map f).length * 2 := by rw [← ptsV_length]; exact (List.getElem?_eq_some_iff.1 hu).1
      have hj2 : j / 2 < ((List.range len).map f).length := by omega
      have hg := ptsV_get _ (j / 2) hj2
      have hfj := hff (j / 2) (by rw [← hlen]; exact hj2)
      simp only [List.getElem_map, List.getElem_range] at hg
      have hm2 : j % 2 = 0 ∨ j % 2 = 1 := by omega
      rcases hm2 with hm2 | hm2
      · have e : j / 2 * 2 = j := by omega
        rw [e] at hg hfj
        rw [hfj.1, ← hg.1, hu]
      · have e : j / 2 * 2 + 1 = j := by omega
        rw [e] at hg hfj
        rw [hfj.2.1, ← hg.2, hu]
    · rw [hlen]
      have := hs _ _ hx.1
      rw [show Tryz.prog.bytesOf 35 = 16 from by kernel_rfl] at this
      simp only [List.length_map, List.length_range, reachBytes] at this
      omega
    · intro p hp
      simp only [List.mem_map, List.mem_range] at hp
      obtain ⟨i, hi, rfl⟩ := hp
      exact (hff i hi).2.2
end
end Go.Proofs.YtnpjggcgnbgkjaaGreat
namespace Go.Proofs.YtnpjggcgnbgkjaaGreat
open Go.RowKit Go.Lib
theorem getD_put {L : List Int} {j : Nat} (hj : j < L.length) (v : Int) (a : Nat) : (L.set j v).getD a 0 = if a = j then v else L.getD a 0 := by
  simp only [List.getD_eq_getElem?_getD, List.getElem?_set]
  by_cases h : a = j
  · subst h; simp [hj]
  · simp [h, Ne.symm h]
def SrtP (L : List Int) (k : Nat) : Prop := ∀ a b, a < b → b < k → L.getD a 0 ≤ L.getD b 0
def SrtJ (L : List Int) (i j : Nat) : Prop := ∀ a b, a < b → b ≤ i → b ≠ j → L.getD a 0 ≤ L.getD b 0
def swI (L : List Int) (j : Nat) : List Int := (L.set j (L.getD (j - 1) 0)).set (j - 1) (L.getD j 0)
theorem srt_start {L : List Int} {k : Nat} (h : SrtP L k) : SrtJ L k k := fun a b hab hb hne => h a b hab (by omega)
theorem srt_swap {L : List Int} {i j : Nat} (hj : 0 < j) (hi : i < L.length) (hji : j ≤ i) (h : SrtJ L i j) (hgt : L.getD j 0 < L.getD (j - 1) 0) : SrtJ (swI L j) i (j - 1) := by
  intro a b hab hb hne
  have e : ∀ c, (swI L j).getD c 0 = if c = j - 1 then L.getD j 0 else if c = j then L.getD (j - 1) 0 else L.getD c 0 := fun c => by
    unfold swI
    rw [getD_put (by simp; omega), getD_put (by omega)]
  rw [e, e]
  by_cases c1 : b = j
  · subst c1
    by_cases c2 : a = b - 1
    · rw [if_pos c2, if_neg hne, if_pos rfl]; omega
    · have := h a (b - 1) (by omega) (by omega) (by omega)
      rw [if_neg c2, if_neg (show a ≠ b by omega), if_neg hne, if_pos rfl]
      exact this
  · rw [if_neg hne, if_neg c1]
    by_cases c2 : a = j - 1
    · rw [if_pos c2]; exact h j b (by omega) hb c1
    · rw [if_neg c2]
      by_cases c3 : a = j
      · rw [if_pos c3]; exact h (j - 1) b (by omega) hb c1
      · rw [if_neg c3]; exact h a b hab hb c1
theorem srt_end {L : List Int} {i j : Nat} (hji : j ≤ i) (h : SrtJ L i j) (hgt : j = 0 ∨ L.getD (j - 1) 0 ≤ L.getD j 0) : SrtP L (i + 1) := by
  intro a b hab hb
  by_cases c : b = j
  · subst c
    rcases hgt with h0 | h1
    · omega
    · by_cases c2 : a = b - 1
      · rw [c2]; exact h1
      · exact Int.le_trans (h a (b - 1) (by omega) (by omega) (by omega)) h1
  · exact h a b hab (by omega) c
theorem srt_pair {L : List Int} (h : SrtP L L.length) : L.Pairwise (· ≤ ·) := by
  rw [List.pairwise_iff_getElem]
  intro i j hi hj hij
  have := h i j hij hj
  rwa [List.getD_eq_getElem?_getD, List.getD_eq_getElem?_getD, List.getElem?_eq_getElem hi, List.getElem?_eq_getElem hj] at this
theorem at_g {V : World} {g j : Nat} {u : Value} (h : V.cell? (Addr.add ⟨g, 0, none⟩ j) = some u) : V.cell? ⟨g, j, none⟩ = some u := by
  have e : Addr.add ⟨g, 0, none⟩ j = ⟨g, j, none⟩ := by unfold Addr.add; split <;> simp_all
  rwa [e] at h
end Go.Proofs.YtnpjggcgnbgkjaaGreat

/- A []uint32 argument opened as a list of numbers. -/
import Derived.Test.YtkhgjmbpodkdnaaLift
import Derived.Test.YtkhgjmbpodkdnaaLawParts
namespace Go.Proofs.Ytkhgjmbpodkdnaa
open Go.RowKit Go.WideShapes Go.ChangeShapes Go.Deep Go.ChangeAt
section
variable {H : Type} {enc : TypeId × Value → H} {P : Program}
theorem open_u32s {t e : TypeId} {W : World} {base : Nat} {v : Value} {d : DataW H} {ps : List MemPlace} (ht : P.underlying t = some (.slice e)) (he : P.underlying e = some (.int .u32)) (hc : P.cellsOf e = 1) (hby : P.bytesOf e = 4)
    (hv : Value.okWide P W .any base t v) (h : DataW.Trod enc P W 0 (fun _ => true) true t v d ps)
    (hs : ∀ elems spare : List (DataW H), d = .slice elems spare → (elems.length + spare.length) * P.bytesOf e ≤ reachBytes) :
    ∃ (xs : List Nat) (A : Option Addr) (cap : Nat), v = .slice A xs.length cap ∧ Reads W W.heap.size 1 A xs.length (u32s xs) ∧ xs.length ≤ 35184372087808 ∧ xs.length ≤ cap ∧ cap ≤ 9223372036854775807 ∧ ∀ x ∈ xs, x < 4294967296 := by
  obtain ⟨a0, len, cap, rfl⟩ := okWide_slice ht hv
  obtain ⟨fuel, hf⟩ := h
  rcases open_ints ht he hc hf with ⟨hcs, hx⟩ | ⟨a, len', cap', zs, hcs, _, hl, hm, hz, hx, hcell, hwz⟩
  · simp [Value.cells] at hcs
    obtain ⟨rfl, rfl, rfl⟩ := hcs
    exact ⟨[], none, 0, rfl, Reads.none_, by simp, by simp, by simp, by simp⟩
  · simp [Value.cells] at hcs
    obtain ⟨rfl, rfl, rfl⟩ := hcs
    simp only [Prod.mk.injEq] at hx
    have hzl : zs.length = cap := by simpa using hz
    have hlen : ((zs.take len).map fun z => z.toNat).length = len := by simp; omega
    refine ⟨(zs.take len).map fun z => z.toNat, some a, cap, by rw [hlen], ?_, ?_, by rw [hlen]; exact hl, hm, ?_⟩
    · rw [hlen]
      refine ⟨by simp only [u32s, List.length_map]; rw [List.length_take]; omega, fun hn => ⟨a, rfl, ?_, ?_⟩⟩
      · have := hcell 0 (by omega)
        have := cell_lt this
        rwa [block_of_add] at this
      · intro j u hu
        obtain ⟨hj, rfl⟩ := u32s_get hu
        rw [hlen] at hj
        rw [hcell j (by omega)]
        have hg : zs.getD j 0 = zs[j]'(by omega) := by rw [List.getD_eq_getElem?_getD, List.getElem?_eq_getElem (by omega)]; rfl
        rw [hg]
        simp only [List.getElem_map, List.getElem_take]
        have := bounds_u32 (hwz _ (List.getElem_mem (show j < zs.length by omega)))
        rw [Int.toNat_of_nonneg this.1]
    · rw [hlen]
      have := hs _ _ hx.1
      rw [hby] at this
      simp only [lits, List.length_map, List.length_take, List.length_drop, reachBytes] at this
      omega
    · intro x hx
      simp only [List.mem_map] at hx
      obtain ⟨z, hz, rfl⟩ := hx
      have := bounds_u32 (hwz z (List.mem_of_mem_take hz))
      omega
end
theorem Try.cells_u32 : Try.prog.cellsOf 24 = 1 := by kernel_rfl
theorem Try.bytes_u32 : Try.prog.bytesOf 24 = 4 := by kernel_rfl
end Go.Proofs.Ytkhgjmbpodkdnaa

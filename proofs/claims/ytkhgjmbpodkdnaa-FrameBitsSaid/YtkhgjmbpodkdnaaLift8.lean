/- A []byte argument opened as a list of bytes. -/
import Derived.Test.YtkhgjmbpodkdnaaLift
import Derived.Test.YtkhgjmbpodkdnaaSum
namespace Go.Proofs.Ytkhgjmbpodkdnaa
open Go.RowKit Go.WideShapes Go.ChangeShapes Go.Deep Go.ChangeAt
section
variable {H : Type} {enc : TypeId × Value → H} {P : Program}
theorem wf_u8 {z : Int} (h : (Lit.int .u8 z).wf = true) : (((UInt8.ofNat z.toNat).toNat : Nat) : Int) = z := by
  have h1 : IntKind.u8.min = 0 := rfl
  have h2 : IntKind.u8.max = 255 := rfl
  simp only [Lit.wf, Bool.and_eq_true, decide_eq_true_eq, h1, h2] at h
  rw [UInt8.toNat_ofNat']
  omega
theorem open_bytes {t e : TypeId} {W : World} {base : Nat} {v : Value} {d : DataW H} {ps : List MemPlace} (ht : P.underlying t = some (.slice e)) (he : P.underlying e = some (.int .u8)) (hc : P.cellsOf e = 1) (hby : P.bytesOf e = 1)
    (hv : Value.okWide P W .any base t v) (h : DataW.Trod enc P W 0 (fun _ => true) true t v d ps)
    (hs : ∀ elems spare : List (DataW H), d = .slice elems spare → (elems.length + spare.length) * P.bytesOf e ≤ reachBytes) :
    ∃ (xs : List UInt8) (A : Option Addr) (cap : Nat), v = .slice A xs.length cap ∧ Reads W W.heap.size 1 A xs.length (u8s xs) ∧ xs.length ≤ 140737488351232 ∧ xs.length ≤ cap ∧ cap ≤ 9223372036854775807 := by
  obtain ⟨a0, len, cap, rfl⟩ := okWide_slice ht hv
  obtain ⟨fuel, hf⟩ := h
  rcases open_ints ht he hc hf with ⟨hcs, hx⟩ | ⟨a, len', cap', zs, hcs, _, hl, hm, hz, hx, hcell, hwz⟩
  · simp [Value.cells] at hcs
    obtain ⟨rfl, rfl, rfl⟩ := hcs
    exact ⟨[], none, 0, rfl, Reads.none_, by simp, by simp, by simp⟩
  · simp [Value.cells] at hcs
    obtain ⟨rfl, rfl, rfl⟩ := hcs
    simp only [Prod.mk.injEq] at hx
    have hzl : zs.length = cap := by simpa using hz
    have hlen : ((zs.take len).map fun z => UInt8.ofNat z.toNat).length = len := by simp; omega
    refine ⟨(zs.take len).map fun z => UInt8.ofNat z.toNat, some a, cap, by rw [hlen], ?_, ?_, by rw [hlen]; exact hl, hm⟩
    · rw [hlen]
      refine ⟨by rw [u8s_length, hlen]; omega, fun hn => ⟨a, rfl, ?_, ?_⟩⟩
      · have := hcell 0 (by omega)
        have := cell_lt this
        rwa [block_of_add] at this
      · intro j u hu
        obtain ⟨hj, rfl⟩ := u8s_get hu
        rw [hlen] at hj
        rw [hcell j (by omega)]
        have hg : zs.getD j 0 = zs[j]'(by omega) := by rw [List.getD_eq_getElem?_getD, List.getElem?_eq_getElem (by omega)]; rfl
        rw [hg]
        simp only [List.getElem_map, List.getElem_take]
        rw [wf_u8 (hwz _ (List.getElem_mem _))]
    · rw [hlen]
      have := hs _ _ hx.1
      rw [hby] at this
      simp only [lits, List.length_map, List.length_take, List.length_drop, reachBytes] at this
      omega
end
theorem Try.cells_u8 : Try.prog.cellsOf 5 = 1 := by kernel_rfl
theorem Try.bytes_u8 : Try.prog.bytesOf 5 = 1 := by kernel_rfl
end Go.Proofs.Ytkhgjmbpodkdnaa

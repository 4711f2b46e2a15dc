/- plan.Insert: the walk; what it makes of a sound plan. -/
import Derived.Test.YtgkcenhopmjmlaaEach
import Derived.Test.YtgkcenhopmjmlaaInsert1
namespace Go.Proofs.Ytgkcenhopmjmlaa
open Go.RowKit Go.Lib
theorem ptAt_mem {xs : List Pt} {k : Nat} (h : k < xs.length) : ptAt xs k ∈ xs := by rw [ptAt_lt h]; exact List.getElem_mem h
theorem insG_mem {q : Pt} {xs : List Pt} {r : Pt} (h : r ∈ insG q xs) : r ∈ xs ∨ r = q := by
  unfold insG insL at h
  obtain ⟨k, hk, h2⟩ := List.mem_flatMap.1 h
  rw [List.mem_range] at hk
  unfold insK at h2
  rcases List.mem_cons.1 h2 with h3 | h3
  · exact .inl (by rw [h3]; exact ptAt_mem hk)
  · split at h3
    · exact .inr (List.mem_singleton.1 h3)
    · exact absurd h3 List.not_mem_nil
theorem leastN_le' (xs : List Pt) : leastN xs xs.length ≤ xs.length := leastN_le xs xs.length
theorem lst_mem {xs : List Pt} {r : Pt} (h : r ∈ lst xs) : r ∈ xs := rot_mem h
theorem lst_len (xs : List Pt) : (lst xs).length = xs.length := by unfold lst; exact rot_len (leastN_le' xs)
theorem each_fits {g : List Pt → List Pt} {p : Plan} (h : p.fits) (hg : ∀ xs, ringOf p xs → (g xs).length ≤ 1048576 ∧ ∀ r ∈ g xs, r.inI) : (eachP g p).fits := by
  have h0 := hg _ (.inl rfl)
  refine ⟨⟨?_, fun r hr => h0.2 r (lst_mem hr)⟩, by rw [each_len]; exact h.2.1, fun x hx => ?_⟩
  · rw [each_outer, lst_len]; omega
  · unfold eachP at hx
    obtain ⟨y, hy, rfl⟩ := List.mem_map.1 hx
    have hy1 := hg _ (.inr ⟨y, hy, rfl⟩)
    have hy2 := h.2.2 y hy
    refine ⟨?_, fun r hr => hy1.2 r (lst_mem hr), hy2.2.2.1, hy2.2.2.2⟩
    show (lst (g y.ring)).length ≤ _
    rw [lst_len]; omega
theorem sound_ring {p : Plan} {xs : List Pt} (hs : SoundP p) (h : ringOf p xs) : goodL xs = true ∧ xs.length ≤ 128 ∧ 3 ≤ xs.length ∧ checkI xs = 0 := by
  have hc : checkI xs = 0 := by
    rcases h with rfl | ⟨x, hx, rfl⟩
    · exact hs.2.1.1
    · exact (hs.2.2.1 x hx).1
  obtain ⟨h1, h2, h3, -⟩ := checkI_zero hc
  exact ⟨h2, h1, h3, hc⟩
theorem good_in2 {q : Pt} (h : good q = true) : q.inI := by unfold good at h; unfold Pt.inI; simp at h; omega
theorem ins_fits {p : Plan} {q : Pt} (hs : SoundP p) (hf : p.fits) (hq : good q = true) : (eachP (insG q) p).fits := by
  refine each_fits hf fun xs hx => ?_
  obtain ⟨h1, h2, -⟩ := sound_ring hs hx
  refine ⟨by have := insG_len q xs; omega, fun r hr => ?_⟩
  rcases insG_mem hr with h | rfl
  · exact good_in2 (goodL_mem h1 h)
  · exact good_in2 hq
end Go.Proofs.Ytgkcenhopmjmlaa

/- BendSums: the plain law: the parcels that have the corner are together what they were. -/
import Derived.Test.YtglnklfhgdjccaaGreatRefMove
namespace Go.Proofs.YtglnklfhgdjccaaGreat
open Go.RowKit Go.Lib
theorem each_at {g : List Pt → List Pt} {p : Plan} {k : Nat} (hk : k < p.parcels.length) : pcAt (eachP g p).parcels k = eachX g (pcAt p.parcels k) := by
  have h2 : k < (eachP g p).parcels.length := by unfold eachP; simpa using hk
  rw [pcAt_lt h2, pcAt_lt hk]
  simp [eachP]
theorem sums_law {p R : Plan} {f t : Pt} (h : moveE p f t = 0) (hR : R = moveP p f t) :
    SoundP p ∧ SoundP R ∧ R.outer = p.outer ∧ R.parcels.length = p.parcels.length ∧ ∀ k, k < p.parcels.length → f ∉ (pcAt p.parcels k).ring → pcAt R.parcels k = pcAt p.parcels k := by
  have hR2 : R = eachP (movG f t) p := by rw [hR]; unfold moveP; rw [if_pos h]
  unfold moveE at h
  split at h
  case isFalse => exact absurd h (by decide)
  rename_i h1
  split at h
  case isFalse => exact absurd h (by decide)
  split at h
  case isFalse => exact absurd h (by decide)
  split at h
  case isTrue => exact absurd h (by decide)
  rename_i h4
  split at h
  case isTrue => exact absurd h (by decide)
  split at h
  case isFalse => exact absurd h (by decide)
  rename_i h6
  have hs := planB_sound h1
  rw [← hR2] at h6
  refine ⟨hs, planB_sound h6, ?_, ?_, fun k hk hn => ?_⟩
  · rw [hR2]
    show lst (movG f t p.outer) = p.outer
    rw [movG_out h4]
    exact hs.2.1.2.symm
  · rw [hR2]; simp [eachP]
  · rw [hR2, each_at hk]
    unfold eachX
    rw [movG_out hn]
    have hx : pcAt p.parcels k ∈ p.parcels := by rw [pcAt_lt hk]; exact List.getElem_mem _
    have := (hs.2.2.1 _ hx).2
    unfold lst
    rw [← this]
def tS (f : Pt) (p r : Plan) : Nat → Int
  | 0 => 0
  | k + 1 => tS f p r k + (if f ∈ (pcAt p.parcels k).ring then areaZ (pcAt r.parcels k).ring else 0)
theorem tS_in {f : Pt} {p r : Plan} {k : Nat} (h : f ∈ (pcAt p.parcels k).ring) : tS f p r (k + 1) = tS f p r k + areaZ (pcAt r.parcels k).ring := by
  show tS f p r k + _ = _
  rw [if_pos h]
theorem tS_out {f : Pt} {p r : Plan} {k : Nat} (h : f ∉ (pcAt p.parcels k).ring) : tS f p r (k + 1) = tS f p r k := by
  show tS f p r k + _ = _
  rw [if_neg h, Int.add_zero]
theorem tS_bd {f : Pt} {p r : Plan} {k : Nat} (h : ∀ j, j < k → areaE (pcAt r.parcels j).ring = 0) : -1180591620717411303424 * (k : Int) ≤ tS f p r k ∧ tS f p r k ≤ 1180591620717411303424 * (k : Int) := by
  induction k with
  | zero => simp [tS]
  | succ k ih =>
    have h1 := ih (fun j hj => h j (by omega))
    have h2 := areaZ_bd (h k (by omega))
    rcases Classical.em (f ∈ (pcAt p.parcels k).ring) with h3 | h3
    · rw [tS_in h3]; omega
    · rw [tS_out h3]; omega
theorem tS_dif {f : Pt} {p r : Plan} (hl : r.parcels.length = p.parcels.length) (h : ∀ k, k < p.parcels.length → f ∉ (pcAt p.parcels k).ring → pcAt r.parcels k = pcAt p.parcels k) {k : Nat} (hk : k ≤ p.parcels.length) :
    tS f p r k - tS f p p k = sumK r k - sumK p k := by
  induction k with
  | zero => simp [tS, sumK, sumL]
  | succ k ih =>
    have h1 := ih (by omega)
    rw [sumK_next (by omega), sumK_next (by omega)]
    rcases Classical.em (f ∈ (pcAt p.parcels k).ring) with h3 | h3
    · rw [tS_in h3, tS_in h3]; omega
    · rw [tS_out h3, tS_out h3, h k (by omega) h3]; omega
theorem tS_eq {f : Pt} {p r : Plan} (hp : SoundP p) (hr : SoundP r) (ho : r.outer = p.outer) (hl : r.parcels.length = p.parcels.length) (h : ∀ k, k < p.parcels.length → f ∉ (pcAt p.parcels k).ring → pcAt r.parcels k = pcAt p.parcels k) :
    tS f p p p.parcels.length = tS f p r p.parcels.length := by
  have h1 := tS_dif hl h (Nat.le_refl _)
  have h2 := sumK_all p
  have h3 := sumK_all r
  rw [hl] at h3
  rw [h3, h2, hp.2.2.2.2.2, hr.2.2.2.2.2, ho] at h1
  omega
end Go.Proofs.YtglnklfhgdjccaaGreat

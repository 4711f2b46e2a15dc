/- What two parcels come to: the words, and what the walks want of them. -/
import Derived.Test.YtgkcenhopmjmlaaGreatSteps
import Derived.Test.YtgkcenhopmjmlaaGreatRings
import Derived.Test.YtgkcenhopmjmlaaGreatCorn2
import Derived.Test.YtgkcenhopmjmlaaGreatBendMark
namespace Go.Proofs.YtgkcenhopmjmlaaGreat
open Go.RowKit
def ringA (p : Plan) (i : Nat) : List Pt := (pcAt p.parcels i).ring
def joinQ (p : Plan) (i k : Nat) (r : List Pt) : Plan := ⟨p.outer, (setR p i r).parcels.eraseIdx k⟩
noncomputable def joinW (p : Plan) (i k : Nat) : Option (List Pt) := wayO (joinL (ringA p i) (ringA p k))
noncomputable def joinI (p : Plan) (i k : Nat) : Int :=
  if (cutE (edgesOf (ringA p i)) (edgesOf (ringA p k))).length = (ringA p i).length then 7 else if joinW p i k = none then 9 else if planB (joinQ p i k ((joinW p i k).getD [])) = true then 0 else 8
noncomputable def joinE (p : Plan) (a b : Int) : Int :=
  if planB p = true then (if atP p.parcels a < 0 ∨ atP p.parcels b < 0 then 5 else if atP p.parcels a = atP p.parcels b then 1 else joinI p (atP p.parcels a).toNat (atP p.parcels b).toNat) else 2
noncomputable def joinP (p : Plan) (a b : Int) : Plan :=
  if joinE p a b = 0 then joinQ p (atP p.parcels a).toNat (atP p.parcels b).toNat ((joinW p (atP p.parcels a).toNat (atP p.parcels b).toNat).getD []) else ⟨[], []⟩
theorem joinP_no {p : Plan} {a b z : Int} (h : joinE p a b = z) (h0 : z ≠ 0) : joinP p a b = ⟨[], []⟩ := by unfold joinP; rw [if_neg (by rw [h]; exact h0)]
theorem ringA_of {p : Plan} {i : Nat} (hi : i < p.parcels.length) : ringOf p (ringA p i) := .inr ⟨pcAt p.parcels i, by rw [pcAt_lt hi]; exact List.getElem_mem hi, rfl⟩
theorem all_apart {ps : List Parc} (h : (allE ps).Nodup) {i k : Nat} (hi : i < ps.length) (hk : k < ps.length) (hne : i ≠ k) {e : Ed} (h1 : e ∈ edgesOf (pcAt ps i).ring) (h2 : e ∈ edgesOf (pcAt ps k).ring) : False := by
  unfold allE List.Nodup at h
  rw [List.pairwise_flatMap] at h
  have hp := List.pairwise_iff_getElem.1 h.2
  rw [pcAt_lt hi] at h1
  rw [pcAt_lt hk] at h2
  rcases Nat.lt_or_gt_of_ne hne with h3 | h3
  · exact hp _ _ hi hk h3 _ h1 _ h2 rfl
  · exact hp _ _ hk hi h3 _ h2 _ h1 rfl
theorem joinW_mem {p : Plan} {i k : Nat} {r : List Pt} (h : joinW p i k = some r) : (∀ q ∈ r, q ∈ ringA p i ∨ q ∈ ringA p k) ∧ r.length ≤ (ringA p i).length + (ringA p k).length ∧ lst r = r ∧ r ≠ [] := by
  obtain ⟨c, hc, rfl⟩ := wayO_is h
  have h2 := cyc_lst hc
  refine ⟨fun q hq => ?_, ?_, ?_, h2.ne⟩
  · obtain ⟨j, hj, rfl⟩ := List.getElem_of_mem hq
    have h3 := h2.sub j hj
    have key : ∀ {xs : List Pt} {ys : List Ed} {e : Ed}, e ∈ cutE (edgesOf xs) ys → e.a ∈ xs := fun {xs ys e} he => by
      obtain ⟨k, hk, rfl⟩ := edgesOf_at (List.mem_filter.1 he).1
      show ptAt xs k ∈ xs
      rw [ptAt_lt hk]
      exact List.getElem_mem hk
    rw [← ptAt_lt hj]
    rcases List.mem_append.1 h3 with h4 | h4
    · exact .inl (key h4)
    · exact .inr (key h4)
  · rw [h2.len]
    unfold joinL cutE
    rw [List.length_append]
    have a1 := List.length_filter_le (fun e : Ed => decide (e.back ∉ edgesOf (ringA p k))) (edgesOf (ringA p i))
    have a2 := List.length_filter_le (fun e : Ed => decide (e.back ∉ edgesOf (ringA p i))) (edgesOf (ringA p k))
    rw [edgesOf_len] at a1 a2
    omega
  · have e : lst c = rot (leastN c c.length) c := rfl
    rw [e, lst_rot hc.nd (leastN_lt c hc.pos), ← e]
theorem setR_len (p : Plan) (i : Nat) (r : List Pt) : (setR p i r).parcels.length = p.parcels.length := by unfold setR; simp
theorem joinQ_pc {p : Plan} {i k : Nat} {r : List Pt} {x : Parc} (hx : x ∈ (joinQ p i k r).parcels) : x ∈ p.parcels ∨ x = ⟨(pcAt p.parcels i).id, r, (pcAt p.parcels i).owner⟩ := by
  have h := List.mem_of_mem_eraseIdx hx
  unfold setR at h
  rcases List.mem_or_eq_of_mem_set h with h | h
  · exact .inl h
  · exact .inr h
theorem joinQ_fits {p : Plan} {i k : Nat} {r : List Pt} (hs : SoundP p) (hf : p.fits) (hi : i < p.parcels.length) (hk : k < p.parcels.length) (hr : joinW p i k = some r) : (setR p i r).fits ∧ (joinQ p i k r).fits ∧ r.length ≤ 256 := by
  obtain ⟨h1, h2, -⟩ := joinW_mem hr
  obtain ⟨g1, l1, -⟩ := sound_ring hs (ringA_of hi)
  obtain ⟨g2, l2, -⟩ := sound_ring hs (ringA_of hk)
  have hx : (⟨(pcAt p.parcels i).id, r, (pcAt p.parcels i).owner⟩ : Parc).fits := by
    have h0 := hf.2.2 _ (show pcAt p.parcels i ∈ p.parcels by rw [pcAt_lt hi]; exact List.getElem_mem hi)
    refine ⟨by show r.length ≤ _; omega, fun q hq => ?_, h0.2.2.1, h0.2.2.2⟩
    rcases h1 q hq with h | h
    · exact good_in2 (goodL_mem g1 h)
    · exact good_in2 (goodL_mem g2 h)
  have hall : ∀ x ∈ (setR p i r).parcels, x.fits := fun x hx' => by
    unfold setR at hx'
    rcases List.mem_or_eq_of_mem_set hx' with h | h
    · exact hf.2.2 x h
    · rw [h]; exact hx
  refine ⟨⟨hf.1, by rw [setR_len]; exact hf.2.1, hall⟩, ⟨hf.1, ?_, fun x hx' => hall x (List.mem_of_mem_eraseIdx hx')⟩, by omega⟩
  show ((setR p i r).parcels.eraseIdx k).length ≤ _
  rw [List.length_eraseIdx, setR_len]
  have := hf.2.1
  split <;> omega
theorem joinQ_lst {p : Plan} {i k : Nat} {r : List Pt} (hs : SoundP p) (hr : joinW p i k = some r) : mapG lst (joinQ p i k r) = joinQ p i k r := by
  have h1 := (joinW_mem hr).2.2.1
  have h0 : lst p.outer = p.outer := (sound_nodup hs (.inl rfl : ringOf p p.outer)).2.1
  have h2 : ∀ x ∈ (joinQ p i k r).parcels, mapX lst x = x := fun x hx => by
    rcases joinQ_pc hx with h | rfl
    · show (⟨x.id, lst x.ring, x.owner⟩ : Parc) = x
      rw [(sound_nodup hs (.inr ⟨x, h, rfl⟩ : ringOf p x.ring)).2.1]
    · show (⟨(pcAt p.parcels i).id, lst r, (pcAt p.parcels i).owner⟩ : Parc) = _
      rw [h1]
  unfold mapG
  rw [show (joinQ p i k r).outer = p.outer from rfl, h0]
  have : (joinQ p i k r).parcels.map (mapX lst) = (joinQ p i k r).parcels := by
    rw [List.map_congr_left h2]
    simp
  rw [this]
  rfl
end Go.Proofs.YtgkcenhopmjmlaaGreat

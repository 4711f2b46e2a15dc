/- Plain law: a corner that was moved is moved back. -/
import Derived.Test.YtglnklfhgdjccaaGreatInLaw
import Derived.Test.YtglnklfhgdjccaaGreatBendMove
namespace Go.Proofs.YtglnklfhgdjccaaGreat
theorem sound_nodup {p : Plan} {xs : List Pt} (hs : SoundP p) (h : ringOf p xs) : xs.Nodup ∧ lst xs = xs ∧ xs ≠ [] := by
  obtain ⟨-, -, h3, hc⟩ := sound_ring hs h
  refine ⟨pairs_nodup (checkI_zero hc).2.2.2.2, ?_, fun e => by rw [e] at h3; simp at h3⟩
  rcases h with rfl | ⟨x, hx, rfl⟩
  · exact hs.2.1.2.symm
  · exact (hs.2.2.1 x hx).2.symm
theorem movG_to {f t : Pt} {xs : List Pt} {k : Nat} (hn : xs.Nodup) (hk : k < xs.length) (h : ptAt xs k = f) : movG f t xs = xs.set k t := by
  have hf : f ∈ xs := by rw [← h]; exact ptAt_mem hk
  obtain ⟨i, hi, hix, hp, -⟩ := idx_lt hf
  have hik : i = k := nodup_ptAt hn hi hk (hp.trans h.symm)
  subst hik
  exact (movG_at hix).2
theorem set_nodup {xs : List Pt} {k : Nat} {t : Pt} (hn : xs.Nodup) (ht : t ∉ xs) : (xs.set k t).Nodup := by
  rw [List.nodup_iff_pairwise_ne, List.pairwise_iff_getElem]
  intro i j hi hj hij
  rw [List.length_set] at hi hj
  rw [List.getElem_set, List.getElem_set]
  split
  · split
    · omega
    · intro e; exact ht (by rw [e]; exact List.getElem_mem _)
  · split
    · intro e; exact ht (by rw [← e]; exact List.getElem_mem _)
    · intro e; have := (List.getElem_inj hn).1 e; omega
theorem mov_back {f t : Pt} {xs : List Pt} (hn : xs.Nodup) (hl : lst xs = xs) (ht : t ∉ xs) : lst (movG t f (lst (movG f t xs))) = xs := by
  by_cases hf : f ∈ xs
  · obtain ⟨k, hk, -, hp, -⟩ := idx_lt hf
    rw [movG_to hn hk hp]
    have hys := set_nodup (k := k) hn ht
    have hyl : (xs.set k t).length = xs.length := List.length_set
    obtain ⟨j, hj, e⟩ := lst_eq_rot (xs.set k t)
    have hj' : j < (xs.set k t).length := hj (fun e' => by rw [e'] at hyl; simp at hyl; omega)
    rw [e]
    have hrl := rot_len (k := j) (xs := xs.set k t) (by omega)
    have hi : (k + (xs.length - j)) % xs.length < xs.length := Nat.mod_lt _ (by omega)
    have hji : (j + (k + (xs.length - j)) % xs.length) % xs.length = k := by
      rw [Nat.add_mod_mod, show j + (k + (xs.length - j)) = k + xs.length by omega, Nat.add_mod_right, Nat.mod_eq_of_lt hk]
    have hpt : ptAt (rot j (xs.set k t)) ((k + (xs.length - j)) % xs.length) = t := by
      rw [ptAt_rot hj' (by rw [hyl]; exact hi), hyl, hji, ptAt_set hk, if_pos rfl]
    rw [movG_to (rot_nodup j hys) (by rw [hrl, hyl]; exact hi) hpt, rot_set hj' (by rw [hyl]; exact hi), hyl, hji, List.set_set]
    have hxs : xs.set k f = xs := by
      rw [← hp, ptAt_lt hk, List.set_getElem_self]
    rw [hxs, lst_rot hn (by omega), hl]
  · rw [movG_out hf, hl, movG_out ht, hl]
theorem mem_lst {xs : List Pt} {p : Pt} : p ∈ lst xs ↔ p ∈ xs := by
  refine ⟨lst_mem, fun h => ?_⟩
  obtain ⟨j, -, e⟩ := lst_eq_rot xs
  rw [e]
  unfold rot
  rw [← List.take_append_drop j xs] at h
  rw [List.mem_append] at h ⊢
  exact h.symm
theorem movG_has {f t : Pt} {xs : List Pt} (h : f ∈ xs) : t ∈ movG f t xs := by
  obtain ⟨k, hk, hix, -, -⟩ := idx_lt h
  rw [(movG_at hix).2]
  exact List.mem_set hk _
theorem movG_gone {f t : Pt} {xs : List Pt} (hn : xs.Nodup) (hft : f ≠ t) : f ∉ movG f t xs := fun h => by
  by_cases hf : f ∈ xs
  · obtain ⟨k, hk, -, hp, -⟩ := idx_lt hf
    rw [movG_to hn hk hp] at h
    obtain ⟨i, hi, e⟩ := List.getElem_of_mem h
    rw [List.getElem_set] at e
    rw [List.length_set] at hi
    split at e
    · exact hft e.symm
    · rename_i hik
      rw [← hp, ptAt_lt hk] at e
      exact hik ((List.getElem_inj hn).1 e).symm
  · rw [movG_out hf] at h
    exact hf h
/-- Whoever is a corner of the territory is one of a parcel. -/
theorem outer_has {p : Plan} {q : Pt} (hs : SoundP p) (h : q ∈ p.outer) : hasC p.parcels q = true := by
  obtain ⟨k, hk, e⟩ := List.getElem_of_mem h
  have h1 : (⟨ptAt p.outer k, ptAt p.outer ((k + 1) % p.outer.length)⟩ : Ed) ∈ edgesOf p.outer := List.mem_map.2 ⟨k, List.mem_range.2 hk, rfl⟩
  have h2 := hs.2.2.2.1.2.1 _ h1
  unfold allE at h2
  rw [List.mem_flatMap] at h2
  obtain ⟨x, hx, h3⟩ := h2
  unfold edgesOf at h3
  obtain ⟨i, hi, h4⟩ := List.mem_map.1 h3
  have hi' := List.mem_range.1 hi
  rw [hasC_iff]
  refine ⟨x, hx, ?_⟩
  have h5 : ptAt x.ring i = ptAt p.outer k := congrArg Ed.a h4
  rw [← e, ← ptAt_lt hk, ← h5]
  exact ptAt_mem hi'
theorem plan_ext {p q : Plan} (h1 : p.outer = q.outer) (h2 : p.parcels = q.parcels) : p = q := by
  cases p; cases q; simp_all
theorem each_each {g h : List Pt → List Pt} {p : Plan} (hr : ∀ xs, ringOf p xs → lst (h (lst (g xs))) = xs) : eachP h (eachP g p) = p := by
  refine plan_ext (hr _ (.inl rfl)) ?_
  show (p.parcels.map (eachX g)).map (eachX h) = p.parcels
  rw [List.map_map]
  conv => rhs; rw [← List.map_id p.parcels]
  refine List.map_congr_left fun x hx => ?_
  have h1 := hr _ (.inr ⟨x, hx, rfl⟩)
  obtain ⟨i, r, o⟩ := x
  show (⟨i, lst (h (lst (g r))), o⟩ : Parc) = ⟨i, r, o⟩
  rw [h1]
theorem each_sound {g : List Pt → List Pt} {p : Plan} {y : Parc} (hy : y ∈ (eachP g p).parcels) : ∃ x ∈ p.parcels, y = eachX g x := by
  obtain ⟨x, hx, e⟩ := List.mem_map.1 hy
  exact ⟨x, hx, e.symm⟩
theorem move_back {p : Plan} {f t : Pt} (h : moveE p f t = 0) : moveE (moveP p f t) t f = 0 ∧ moveP (moveP p f t) t f = p := by
  have hq : moveP p f t = eachP (movG f t) p := by unfold moveP; rw [if_pos h]
  rw [hq]
  unfold moveE at h
  by_cases h1 : planB p = true
  case neg => rw [if_neg h1] at h; cases h
  rw [if_pos h1] at h
  by_cases h2 : (good f && good t) = true
  case neg => rw [if_neg h2] at h; cases h
  rw [if_pos h2] at h
  by_cases h3 : hasC p.parcels f = true
  case neg => rw [if_neg h3] at h; cases h
  rw [if_pos h3] at h
  by_cases h4 : f ∈ p.outer
  case pos => rw [if_pos h4] at h; cases h
  rw [if_neg h4] at h
  by_cases h5 : hasC p.parcels t = true
  case pos => rw [if_pos h5] at h; cases h
  rw [if_neg h5] at h
  by_cases h6 : planB (eachP (movG f t) p) = true
  case neg => rw [if_neg h6] at h; cases h
  have hs := planB_sound h1
  have hft : f ≠ t := fun e => h5 (by rw [← e]; exact h3)
  have htn : ∀ xs, ringOf p xs → t ∉ xs := fun xs hx ht => by
    rcases hx with rfl | ⟨x, hx, rfl⟩
    · exact h5 (outer_has hs ht)
    · exact h5 (hasC_iff.2 ⟨x, hx, ht⟩)
  have hback : eachP (movG t f) (eachP (movG f t) p) = p := each_each fun xs hx => by
    obtain ⟨n1, n2, -⟩ := sound_nodup hs hx
    exact mov_back n1 n2 (htn xs hx)
  have g3 : hasC (eachP (movG f t) p).parcels t = true := by
    obtain ⟨x, hx, hfx⟩ := hasC_iff.1 h3
    exact hasC_iff.2 ⟨eachX (movG f t) x, List.mem_map.2 ⟨x, hx, rfl⟩, mem_lst.2 (movG_has hfx)⟩
  have g4 : t ∉ (eachP (movG f t) p).outer := fun ht => by
    rw [each_outer, mem_lst, movG_out h4] at ht
    exact htn _ (.inl rfl) ht
  have g5 : ¬ hasC (eachP (movG f t) p).parcels f = true := fun hc => by
    obtain ⟨y, hy, hfy⟩ := hasC_iff.1 hc
    obtain ⟨x, hx, rfl⟩ := each_sound hy
    exact movG_gone (sound_nodup hs (.inr ⟨x, hx, rfl⟩)).1 hft (mem_lst.1 hfy)
  have hE : moveE (eachP (movG f t) p) t f = 0 := by
    unfold moveE
    rw [Bool.and_eq_true] at h2
    rw [if_pos h6, if_pos (by rw [h2.1, h2.2]; rfl), if_pos g3, if_neg g4, if_neg g5, hback, if_pos h1]
  exact ⟨hE, by unfold moveP; rw [if_pos hE]; exact hback⟩
end Go.Proofs.YtglnklfhgdjccaaGreat

/- Plain law: a corner that is put, or cleared, changes no parcel's area, and where no point is. -/
import Derived.Test.YtglnklfhgdjccaaGreatMarkBack
namespace Go.Proofs.YtglnklfhgdjccaaGreat
/-- Alike but for corners on edges. -/
def AlikeP (xs ys : List Pt) : Prop := areaV ys = areaV xs ∧ ∀ r, good r = true → sideI ys r = sideI xs r
def AlikePl (p q : Plan) : Prop := planB q = true ∧ q.parcels.length = p.parcels.length ∧ ∀ k, k < p.parcels.length → (pcAt q.parcels k).id = (pcAt p.parcels k).id ∧ AlikeP (pcAt p.parcels k).ring (pcAt q.parcels k).ring
theorem AlikeP.refl (xs : List Pt) : AlikeP xs xs := ⟨rfl, fun _ _ => rfl⟩
theorem AlikeP.rot_r {xs ys : List Pt} (h : AlikeP xs ys) {j : Nat} (hj : j < ys.length) : AlikeP xs (rot j ys) := ⟨(area_rot hj).2.trans h.1, fun r hr => (side_rot r hj).trans (h.2 r hr)⟩
theorem AlikeP.lst_r {xs ys : List Pt} (h : AlikeP xs ys) (hy : ys ≠ []) : AlikeP xs (lst ys) := by
  obtain ⟨j, hj, e⟩ := lst_eq_rot ys
  rw [e]
  exact h.rot_r (hj hy)
theorem AlikeP.symm {xs ys : List Pt} (h : AlikeP xs ys) : AlikeP ys xs := ⟨h.1.symm, fun r hr => (h.2 r hr).symm⟩
theorem alike_mark {xs : List Pt} {q : Pt} {k : Nat} (hk : k < xs.length) (hc : checkI xs = 0) (hn : xs.length ≤ 127) (hq : good q = true) (hin : inS (ptAt xs k) (ptAt xs ((k + 1) % xs.length)) q) : AlikeP xs (mark k q xs) :=
  ⟨(mark_all (q := q) hk hc hn hq hq hin.1 hin.2.1 hin.2.2).2.2.2.1, fun r hr => by
    obtain ⟨-, hg, h3, -, hP⟩ := checkI_zero hc
    exact (mark_core hk h3 hg hq hr hP hin.1 hin.2.1 hin.2.2).2.2⟩
theorem ring_each {g : List Pt → List Pt} {p : Plan} {xs : List Pt} (h : ringOf p xs) : ringOf (eachP g p) (lst (g xs)) := by
  rcases h with rfl | ⟨x, hx, rfl⟩
  · exact .inl rfl
  · exact .inr ⟨eachX g x, List.mem_map.2 ⟨x, hx, rfl⟩, rfl⟩
theorem alike_each {g : List Pt → List Pt} {p : Plan} (hb : planB (eachP g p) = true) (h : ∀ xs, ringOf p xs → AlikeP xs (lst (g xs))) : AlikePl p (eachP g p) :=
  ⟨hb, each_len, fun k hk => by
    rw [pcAt_each hk]
    exact ⟨rfl, h _ (.inr ⟨_, by rw [pcAt_lt hk]; exact List.getElem_mem _, rfl⟩)⟩⟩
theorem mark_alike {p : Plan} {q : Pt} (h : markE p q = 0) : AlikePl p (markP p q) := by
  have hP : markP p q = eachP (insG q) p := by unfold markP; rw [if_pos h]
  rw [hP]
  unfold markE at h
  by_cases h1 : planB p = true
  case neg => rw [if_neg h1] at h; cases h
  rw [if_pos h1] at h
  by_cases h2 : good q = true
  case neg => rw [if_neg h2] at h; cases h
  rw [if_pos h2] at h
  by_cases h3 : hasC p.parcels q = true
  case pos => rw [if_pos h3] at h; cases h
  rw [if_neg h3] at h
  by_cases h4 : hasC (eachP (insG q) p).parcels q = true
  case neg => rw [if_neg h4] at h; cases h
  rw [if_pos h4] at h
  by_cases h5 : planB (eachP (insG q) p) = true
  case neg => rw [if_neg h5] at h; cases h
  have hs := planB_sound h1
  refine alike_each h5 fun xs hx => ?_
  obtain ⟨-, n2, -⟩ := sound_nodup hs hx
  have hc := (sound_ring hs hx).2.2.2
  rcases ins_cases hc h2 with ⟨e, -⟩ | ⟨k, hk, hin, e⟩
  · rw [e, n2]
    exact AlikeP.refl xs
  · have hl := (sound_ring (planB_sound h5) (ring_each (g := insG q) hx)).2.1
    rw [lst_len, e, mark_len hk] at hl
    rw [e]
    refine (alike_mark hk hc (by omega) h2 hin).lst_r fun e' => ?_
    have := mark_len (p := q) hk
    rw [e'] at this
    simp at this
theorem seen_in {q : Pt} {p : Plan} {xs : List Pt} {e : Ed} (hx : ringOf p xs) (he : e ∈ clrF q xs) : e ∈ seenK (clrF q) p p.parcels.length := by
  unfold seenK
  rw [List.take_length, List.mem_append, List.mem_flatMap]
  rcases hx with rfl | ⟨x, hx, rfl⟩
  · exact .inl he
  · exact .inr ⟨x, hx, he⟩
/-- A ring with a corner that is cleared: begun elsewhere, it is what is left with that corner put. -/
theorem unclear {xs : List Pt} {k : Nat} (hk : k < xs.length) (h2 : 2 ≤ xs.length) : ∃ i j, i < (xs.eraseIdx k).length ∧ j < xs.length ∧ mark i (ptAt xs k) (xs.eraseIdx k) = rot j xs ∧ ptAt (xs.eraseIdx k) i = ptAt xs ((k + xs.length - 1) % xs.length) ∧ ptAt (xs.eraseIdx k) ((i + 1) % (xs.eraseIdx k).length) = ptAt xs ((k + 1) % xs.length) := by
  have hle : (xs.eraseIdx k).length = xs.length - 1 := List.length_eraseIdx_of_lt hk
  have hlo : ∀ i, i < k → ptAt (xs.eraseIdx k) i = ptAt xs i := fun i hi => by unfold ptAt; rw [List.getElem?_eraseIdx_of_lt hi]
  have hhi : ∀ i, k ≤ i → ptAt (xs.eraseIdx k) i = ptAt xs (i + 1) := fun i hi => by unfold ptAt; rw [List.getElem?_eraseIdx_of_ge hi]
  rcases Nat.eq_zero_or_pos k with h0 | h0
  · subst h0
    refine ⟨xs.length - 2, 1, by omega, by omega, ?_, ?_, ?_⟩
    · unfold mark rot
      rw [List.eraseIdx_zero, show xs.length - 2 + 1 = xs.tail.length by rw [List.length_tail]; omega, List.take_length, List.drop_length, List.append_nil, List.drop_one, ptAt_lt hk]
      obtain ⟨a, t, rfl⟩ : ∃ a t, xs = a :: t := by cases xs with
        | nil => simp at hk
        | cons a t => exact ⟨a, t, rfl⟩
      simp
    · rw [hhi _ (by omega), Nat.mod_eq_of_lt (by omega)]
      congr 1
      omega
    · rw [hle, show xs.length - 2 + 1 = xs.length - 1 by omega, Nat.mod_self, hhi 0 (Nat.le_refl _), Nat.mod_eq_of_lt (by omega)]
  · refine ⟨k - 1, 0, by omega, by omega, ?_, ?_, ?_⟩
    · unfold mark rot
      rw [show k - 1 + 1 = k by omega, List.eraseIdx_eq_take_drop_succ, List.take_left' (by rw [List.length_take]; omega), List.drop_left' (by rw [List.length_take]; omega), List.drop_zero, List.take_zero, List.append_nil, ptAt_lt hk, List.append_assoc, List.singleton_append, ← List.drop_eq_getElem_cons hk, List.take_append_drop]
    · rw [hlo _ (by omega), show k + xs.length - 1 = k - 1 + xs.length by omega, Nat.add_mod_right, Nat.mod_eq_of_lt (by omega)]
    · rw [hle, show k - 1 + 1 = k by omega]
      by_cases hk2 : k + 1 < xs.length
      · rw [Nat.mod_eq_of_lt (by omega), hhi _ (Nat.le_refl _), Nat.mod_eq_of_lt hk2]
      · rw [show k + 1 = xs.length by omega, Nat.mod_self, show k = xs.length - 1 by omega, Nat.mod_self, ← show k = xs.length - 1 by omega, hlo _ (by omega)]
theorem clear_alike {p : Plan} {q : Pt} (h : clearE p q = 0) : AlikePl p (clearP p q) := by
  have hP : clearP p q = eachP (clrG q) p := by unfold clearP; rw [if_pos h]
  rw [hP]
  unfold clearE at h
  by_cases h1 : planB p = true
  case neg => rw [if_neg h1] at h; cases h
  rw [if_pos h1] at h
  by_cases h2 : good q = true
  case neg => rw [if_neg h2] at h; cases h
  rw [if_pos h2] at h
  by_cases h3 : hasC p.parcels q = true
  case neg => rw [if_neg h3] at h; cases h
  rw [if_pos h3] at h
  by_cases h4 : seenOK q (seenK (clrF q) p p.parcels.length)
  case neg => rw [if_neg h4] at h; cases h
  rw [if_pos h4] at h
  by_cases h5 : planB (eachP (clrG q) p) = true
  case neg => rw [if_neg h5] at h; cases h
  have hs := planB_sound h1
  refine alike_each h5 fun xs hx => ?_
  obtain ⟨n1, n2, -⟩ := sound_nodup hs hx
  obtain ⟨-, h128, hl3, hc⟩ := sound_ring hs hx
  by_cases hq : q ∈ xs
  case neg =>
    rw [(clr_out hq).1, n2]
    exact AlikeP.refl xs
  obtain ⟨k, hk, hix, hp, -⟩ := idx_lt hq
  obtain ⟨-, c1, c2⟩ := clr_at hix
  obtain ⟨j0, hj0, e0⟩ := List.getElem_of_mem (seen_in hx (show (besD xs k).norm ∈ clrF q xs by rw [c2]; exact List.mem_singleton.2 rfl))
  have hon := (h4 j0 hj0).1
  rw [edAt_lt hj0, e0, norm_on] at hon
  obtain ⟨i, j, hi, hj, e1, e2, e3⟩ := unclear hk (by omega)
  rw [hp] at e1
  have hle : (xs.eraseIdx k).length = xs.length - 1 := List.length_eraseIdx_of_lt hk
  have hz : checkI (xs.eraseIdx k) = 0 := by
    have hz := (sound_ring (planB_sound h5) (ring_each (g := clrG q) hx)).2.2.2
    rw [c1] at hz
    obtain ⟨t, ht, e⟩ := lst_eq_rot (xs.eraseIdx k)
    rw [e, check_rot (ht fun e' => by rw [e'] at hi; simp at hi)] at hz
    exact hz
  have hin : inS (ptAt (xs.eraseIdx k) i) (ptAt (xs.eraseIdx k) ((i + 1) % (xs.eraseIdx k).length)) q := by
    have m1 : (k + xs.length - 1) % xs.length < xs.length := Nat.mod_lt _ (by omega)
    have m2 : (k + 1) % xs.length < xs.length := Nat.mod_lt _ (by omega)
    refine ⟨by rw [e2, e3]; exact hon, fun e => ?_, fun e => ?_⟩
    · rw [e2, ← hp] at e
      have := nodup_ptAt n1 hk m1 e
      rcases Nat.eq_zero_or_pos k with h0 | h0
      · subst h0
        rw [Nat.mod_eq_of_lt (by omega)] at this
        omega
      · rw [show k + xs.length - 1 = k - 1 + xs.length by omega, Nat.add_mod_right, Nat.mod_eq_of_lt (by omega)] at this
        omega
    · rw [e3, ← hp] at e
      have := nodup_ptAt n1 hk m2 e
      by_cases h6 : k + 1 < xs.length
      · rw [Nat.mod_eq_of_lt h6] at this
        omega
      · rw [show k + 1 = xs.length by omega, Nat.mod_self] at this
        omega
  have ha := (alike_mark hi hz (by omega) h2 hin)
  rw [e1] at ha
  have hb : AlikeP xs (xs.eraseIdx k) := by
    refine ⟨?_, fun r hr => ?_⟩
    · rw [← ha.1, (area_rot hj).2]
    · rw [← ha.2 r hr, side_rot r hj]
  rw [c1]
  exact hb.lst_r fun e' => by rw [e'] at hi; simp at hi
end Go.Proofs.YtglnklfhgdjccaaGreat

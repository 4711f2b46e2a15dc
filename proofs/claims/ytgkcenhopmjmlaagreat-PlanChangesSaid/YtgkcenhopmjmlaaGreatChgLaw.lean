/- Plain law: what changed. -/
import Derived.Test.YtgkcenhopmjmlaaGreatPlChg
namespace Go.Proofs.YtgkcenhopmjmlaaGreat
open Go.RowKit
theorem mem_onceC {l : List Int} {v z : Int} : z ∈ onceL l v ↔ z ∈ l ∨ z = v := by
  unfold onceL
  split
  · rename_i h
    exact ⟨.inl, fun h' => h'.elim id (fun e => e ▸ h)⟩
  · simp
theorem nd_onceC {l : List Int} {v : Int} (h : l.Nodup) : (onceL l v).Nodup := by
  unfold onceL
  split
  · exact h
  · rename_i hv
    rw [List.nodup_append]
    exact ⟨h, by simp, fun x hx y hy => by rintro rfl; simp at hy; exact hv (hy ▸ hx)⟩
theorem ch1C (ps qs : List Parc) (m : Nat) : (ch1 ps qs m).Nodup ∧ ∀ z, z ∈ ch1 ps qs m ↔ ∃ j, j < m ∧ chgB ps qs j = true ∧ (fstP ps j).id = z := by
  induction m with
  | zero => exact ⟨List.nodup_nil, fun z => by simp [ch1]⟩
  | succ m ih =>
    obtain ⟨ih1, ih2⟩ := ih
    unfold ch1
    split
    · rename_i h
      refine ⟨nd_onceC ih1, fun z => ?_⟩
      rw [mem_onceC, ih2]
      constructor
      · rintro (⟨j, h1, h2⟩ | rfl)
        · exact ⟨j, by omega, h2⟩
        · exact ⟨m, by omega, h, rfl⟩
      · rintro ⟨j, h1, h2, h3⟩
        by_cases e : j = m
        · subst e; exact .inr h3.symm
        · exact .inl ⟨j, by omega, h2, h3⟩
    · rename_i h
      refine ⟨ih1, fun z => ?_⟩
      rw [ih2]
      constructor
      · rintro ⟨j, h1, h2⟩
        exact ⟨j, by omega, h2⟩
      · rintro ⟨j, h1, h2, h3⟩
        by_cases e : j = m
        · subst e; exact absurd h2 h
        · exact ⟨j, by omega, h2, h3⟩
theorem ch2C {ps qs : List Parc} {l : List Int} (hl : l.Nodup) (m : Nat) : (ch2 ps qs l m).Nodup ∧ ∀ z, z ∈ ch2 ps qs l m ↔ z ∈ l ∨ ∃ j, j < m ∧ atP ps (pcAt qs j).id < 0 ∧ (pcAt qs j).id = z := by
  induction m with
  | zero => exact ⟨hl, fun z => by simp [ch2]⟩
  | succ m ih =>
    obtain ⟨ih1, ih2⟩ := ih
    unfold ch2
    split
    · rename_i h
      refine ⟨nd_onceC ih1, fun z => ?_⟩
      rw [mem_onceC, ih2, or_assoc]
      refine or_congr Iff.rfl ?_
      constructor
      · rintro (⟨j, h1, h2⟩ | rfl)
        · exact ⟨j, by omega, h2⟩
        · exact ⟨m, by omega, h, rfl⟩
      · rintro ⟨j, h1, h2, h3⟩
        by_cases e : j = m
        · subst e; exact .inr h3.symm
        · exact .inl ⟨j, by omega, h2, h3⟩
    · rename_i h
      refine ⟨ih1, fun z => ?_⟩
      rw [ih2]
      refine or_congr Iff.rfl ?_
      constructor
      · rintro ⟨j, h1, h2⟩
        exact ⟨j, by omega, h2⟩
      · rintro ⟨j, h1, h2, h3⟩
        by_cases e : j = m
        · subst e; exact absurd h2 h
        · exact ⟨j, by omega, h2, h3⟩
def chM (p q : Plan) (z : Int) : Prop := (hasP p z ∧ chA p q z) ∨ (hasP q z ∧ chN p z)
theorem atP_has {ps : List Parc} {z : Int} (h : 0 ≤ atP ps z) : ∃ j : Nat, j < ps.length ∧ atP ps z = (j : Int) ∧ (pcAt ps j).id = z := by
  rcases atP_cases ps z with ⟨e, -⟩ | h'
  · omega
  · exact h'
theorem chL_mem (p q : Plan) : (chL p q).Nodup ∧ ∀ z, z ∈ chL p q ↔ chM p q z := by
  obtain ⟨a1, a2⟩ := ch1C p.parcels q.parcels p.parcels.length
  obtain ⟨b1, b2⟩ := ch2C a1 (ps := p.parcels) (qs := q.parcels) q.parcels.length
  refine ⟨b1, fun z => (b2 z).trans ?_⟩
  unfold chM
  refine or_congr ?_ ?_
  · rw [a2]
    constructor
    · rintro ⟨j, hj, hc, rfl⟩
      obtain ⟨t, ht, h1, h2⟩ := fst_at hj
      have hid : (pcAt p.parcels t).id = (pcAt p.parcels j).id := by
        rcases atP_cases p.parcels (pcAt p.parcels j).id with ⟨e, -⟩ | ⟨k, -, e, e2⟩
        · omega
        · obtain rfl : k = t := by omega
          exact e2
      unfold chgB at hc
      rw [h2, hid] at hc ⊢
      unfold hasP chA
      rw [h1, Int.toNat_natCast]
      refine ⟨by omega, ?_⟩
      simpa using hc
    · rintro ⟨h1, h2⟩
      obtain ⟨j, hj, h3, h4⟩ := atP_has h1
      obtain ⟨t, ht, h5, h6⟩ := fst_at hj
      rw [h4] at h5
      obtain rfl : t = j := by omega
      refine ⟨t, hj, ?_, by rw [h6]; exact h4⟩
      unfold chgB
      rw [h6, h4]
      unfold chA at h2
      rw [h3, Int.toNat_natCast] at h2
      simpa using h2
  · constructor
    · rintro ⟨j, hj, h1, rfl⟩
      refine ⟨?_, h1⟩
      obtain ⟨t, ht, h5, h6⟩ := fst_at hj
      unfold hasP
      omega
    · rintro ⟨h1, h2⟩
      obtain ⟨j, hj, h3, h4⟩ := atP_has h1
      exact ⟨j, hj, by rw [h4]; exact h2, h4⟩
theorem chM_swap (p q : Plan) (z : Int) : chM p q z ↔ chM q p z := by
  have h : ∀ p q : Plan, chM p q z → chM q p z := fun p q => by
    unfold chM hasP chA chN
    rintro (⟨h1, h2 | h2⟩ | ⟨h1, h2⟩)
    · exact .inr ⟨h1, h2⟩
    · by_cases h3 : atP q.parcels z < 0
      · exact .inr ⟨h1, h3⟩
      · refine .inl ⟨by omega, .inr ?_⟩
        rw [Bool.eq_false_iff] at h2 ⊢
        intro e
        exact h2 (pcEq_iff.2 (pcEq_iff.1 e).symm)
    · exact .inl ⟨h1, .inl h2⟩
  exact ⟨h p q, h q p⟩
theorem chM_self (p : Plan) (z : Int) : ¬ chM p p z := by
  unfold chM hasP chA chN
  rintro (⟨h1, h2 | h2⟩ | ⟨h1, h2⟩)
  · omega
  · rw [pcEq_self] at h2; cases h2
  · omega
theorem sort_uniq {a b : List Int} (ha : a.Nodup) (hb : b.Nodup) (hs : a.Pairwise (· ≤ ·)) (ht : b.Pairwise (· ≤ ·)) (h : ∀ z, z ∈ a ↔ z ∈ b) : a = b :=
  List.Perm.eq_of_pairwise (fun x y _ _ h1 h2 => by omega) hs ht ((List.perm_ext_iff_of_nodup ha hb).2 h)
end Go.Proofs.YtgkcenhopmjmlaaGreat

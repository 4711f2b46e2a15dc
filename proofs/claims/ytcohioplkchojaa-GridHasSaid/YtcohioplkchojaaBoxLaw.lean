/- Plain law: what lies within a ring, or on it, lies in the least window round it; and a window's points lie in its cells. -/
import Derived.Test.YtcohioplkchojaaParity
import Derived.Test.YtcohioplkchojaaCells
namespace Go.Proofs.Ytcohioplkchojaa
theorem aro_mono {xs : List Pt} (k : Nat) : (aroW xs (k + 1)).lx ≤ (aroW xs k).lx ∧ (aroW xs k).hx ≤ (aroW xs (k + 1)).hx ∧ (aroW xs (k + 1)).ly ≤ (aroW xs k).ly ∧ (aroW xs k).hy ≤ (aroW xs (k + 1)).hy ∧ hasB (aroW xs (k + 1)) (ptAt xs k) = true := by
  rw [hasB_iff]
  simp only [aroW, mn, mx]
  refine ⟨?_, ?_, ?_, ?_, ?_, ?_, ?_, ?_⟩ <;> split <;> omega
theorem aro_has {xs : List Pt} {k : Nat} : ∀ n, k < n → hasB (aroW xs n) (ptAt xs k) = true := by
  intro n
  induction n with
  | zero => intro h; omega
  | succ n ih =>
    intro h
    obtain ⟨h1, h2, h3, h4, h5⟩ := aro_mono (xs := xs) n
    by_cases hk : k = n
    · subst hk; exact h5
    · have := ih (by omega)
      rw [hasB_iff] at this ⊢
      omega
def stE (xs : List Pt) (p : Pt) (k : Nat) : Bool := xor (decide ((ptAt xs k).y ≤ p.y)) (decide ((ptAt xs ((k + 1) % xs.length)).y ≤ p.y))
theorem xsum_some {f : Nat → Bool} : ∀ {n : Nat}, xsum f n = true → ∃ k, k < n ∧ f k = true
  | 0, h => by cases h
  | n + 1, h => by
    rcases hf : f n with _ | _
    · rw [xsum, hf, Bool.xor_false] at h
      obtain ⟨k, hk, h'⟩ := xsum_some h
      exact ⟨k, by omega, h'⟩
    · exact ⟨n, by omega, hf⟩
/-- An edge that is counted goes over the point's height, and has an end to the right of it. -/
theorem cross_right {a b p : Pt} (h : crB a b p = true) : ((a.y ≤ p.y ∧ p.y < b.y) ∨ (b.y ≤ p.y ∧ p.y < a.y)) ∧ (p.x < a.x ∨ p.x < b.x) := by
  have key : ∀ {a b : Pt}, a.y ≤ b.y → crB a b p = true → (a.y ≤ p.y ∧ p.y < b.y) ∧ (p.x < a.x ∨ p.x < b.x) := by
    intro a b hab h
    rw [crB_up hab] at h
    refine ⟨⟨h.1, h.2.1⟩, ?_⟩
    have hc := cr_at a b p.x p.y
    have m1 := nmul (u := b.y - p.y) (v := a.x - p.x) (by omega)
    have m2 := nmul (u := p.y - a.y) (v := b.x - p.x) (by omega)
    have h3 : 0 < cr a b ⟨p.x, p.y⟩ := h.2.2
    omega
  by_cases hab : a.y ≤ b.y
  · have := key hab h
    exact ⟨.inl this.1, this.2⟩
  · rw [crB_swap] at h
    have := key (by omega) h
    exact ⟨.inr this.1, this.2.symm⟩
/-- One that goes over the height and is not counted has an end that is not to the right. -/
theorem cross_left {a b p : Pt} (hs : xor (decide (a.y ≤ p.y)) (decide (b.y ≤ p.y)) = true) (h : crB a b p = false) : ((a.y ≤ p.y ∧ p.y < b.y) ∨ (b.y ≤ p.y ∧ p.y < a.y)) ∧ (a.x ≤ p.x ∨ b.x ≤ p.x) := by
  have key : ∀ {a b : Pt}, a.y ≤ p.y → p.y < b.y → crB a b p = false → a.x ≤ p.x ∨ b.x ≤ p.x := by
    intro a b g1 g2 h
    have h' := mt (crB_up (a := a) (b := b) (p := p) (by omega)).2 (by rw [h]; simp)
    have hc := cr_at a b p.x p.y
    have m1 := smul (u := b.y - p.y) (v := a.x - p.x) (by omega)
    have m2 := nmul (u := p.y - a.y) (v := b.x - p.x) (by omega)
    have h3 : ¬ 0 < cr a b ⟨p.x, p.y⟩ := fun g => h' ⟨g1, g2, g⟩
    omega
  by_cases g1 : a.y ≤ p.y
  · by_cases g2 : b.y ≤ p.y
    · rw [decide_eq_true g1, decide_eq_true g2] at hs; cases hs
    · exact ⟨.inl ⟨g1, by omega⟩, key g1 (by omega) h⟩
  · by_cases g2 : b.y ≤ p.y
    · rw [crB_swap] at h
      exact ⟨.inr ⟨g2, by omega⟩, (key g2 (by omega) h).symm⟩
    · rw [decide_eq_false g1, decide_eq_false g2] at hs; cases hs
theorem side_box {xs : List Pt} (hn : 0 < xs.length) {p : Pt} (h : 0 ≤ sideI xs p) : hasB (aroW xs xs.length) p = true := by
  have hk1 : ∀ k, k < xs.length → hasB (aroW xs xs.length) (ptAt xs k) = true := fun k hk => aro_has _ hk
  have hm : ∀ k, (k + 1) % xs.length < xs.length := fun k => Nat.mod_lt _ hn
  by_cases ho : ∃ k, k < xs.length ∧ onE xs p k = true
  · obtain ⟨k, hk, ho⟩ := ho
    have h1 := hk1 k hk
    have h2 := hk1 _ (hm k)
    unfold onE at ho
    rw [onB_iff] at ho
    rw [hasB_iff] at *
    omega
  · have hno : noneN xs p xs.length := fun k hk => by
      rcases hb : onE xs p k with _ | _
      · rfl
      · exact absurd ⟨k, hk, hb⟩ ho
    rw [sideI_off hno] at h
    rcases hodd : oddN xs p xs.length with _ | _
    · rw [hodd] at h; simp at h
    · have hx := hodd
      rw [oddN_xsum] at hx
      obtain ⟨k, hk, hc⟩ := xsum_some hx
      have hst := xsum_cyc (fun k => decide ((ptAt xs k).y ≤ p.y)) hn
      have hl : xsum (fun k => xor (stE xs p k) (crE xs p k)) xs.length = true := by
        rw [xsum_xor, show xsum (fun k => stE xs p k) xs.length = false from hst, hx]
        rfl
      obtain ⟨j, hj, hd⟩ := xsum_some hl
      have h1 := hk1 k hk
      have h2 := hk1 _ (hm k)
      have h3 := hk1 j hj
      have h4 := hk1 _ (hm j)
      have r := cross_right hc
      have lf : ∃ i, i < xs.length ∧ (ptAt xs i).x ≤ p.x := by
        rcases hcj : crE xs p j with _ | _
        · rw [hcj, Bool.xor_false] at hd
          have := (cross_left hd hcj).2
          rcases this with g | g
          · exact ⟨j, hj, g⟩
          · exact ⟨_, hm j, g⟩
        · have hs : stE xs p j = true := by
            have := (cross_right hcj).1
            unfold stE
            rcases this with ⟨g1, g2⟩ | ⟨g1, g2⟩
            · rw [decide_eq_true g1, decide_eq_false (by omega)]; rfl
            · rw [decide_eq_false (by omega), decide_eq_true g1]; rfl
          rw [hcj, hs] at hd
          cases hd
      obtain ⟨i, hi, hix⟩ := lf
      have h5 := hk1 i hi
      rw [hasB_iff] at *
      omega
theorem mem_spanR {x0 y0 : Int} {m n : Nat} {c : Pt} : c ∈ spanR x0 y0 m n ↔ (x0 ≤ c.x ∧ c.x < x0 + n) ∧ (y0 ≤ c.y ∧ c.y < y0 + m) := by
  unfold spanR colL
  simp only [List.mem_flatMap, List.mem_range, List.mem_map]
  constructor
  · rintro ⟨i, hi, j, hj, rfl⟩
    simp only
    omega
  · rintro ⟨⟨h1, h2⟩, h3, h4⟩
    refine ⟨(c.x - x0).toNat, by omega, (c.y - y0).toNat, by omega, ?_⟩
    obtain ⟨a, b⟩ := c
    simp only [Pt.mk.injEq] at *
    omega
theorem cell_in {v : Win} {p : Pt} (hv : winE v = 0) (hp : hasB v p = true) : (⟨p.x / 268435456, p.y / 268435456⟩ : Pt) ∈ spanC v := by
  unfold spanC
  rw [if_pos hv]
  unfold spanW nRow nCol
  rw [mem_spanR]
  rw [hasB_iff] at hp
  simp only
  omega
end Go.Proofs.Ytcohioplkchojaa

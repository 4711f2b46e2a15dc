/- What lies beside FindLaw. -/
import Derived.Test.YtgkcenhopmjmlaaFind2
import Derived.Test.YtgkcenhopmjmlaaFindLaw
namespace Go.Proofs.Ytgkcenhopmjmlaa
open Go.RowKit
theorem FB.lts {p : Plan} {q : Pt} {ed : Ed} {A A' : Option Addr} {n c n' c' : Nat} {w W : World} (h : FB p q ed A n c A' n' c' w W) : w.heap.size < W.heap.size ∧ w.heap.size + 1 < W.heap.size ∧ w.heap.size + 1 + 1 < W.heap.size := ⟨Blk.lt h.2.1, Blk.lt h.2.2.1, Blk.lt h.2.2.2.1⟩
def whoTo (ps : List Parc) (e : Ed) : Nat → Int
  | 0 => 0
  | k + 1 => if e ∈ edgesOf (pcAt ps k).ring then (pcAt ps k).id else whoTo ps e k
theorem whoTo_eq {ps : List Parc} {e : Ed} (hn : (allE ps).Nodup) : ∀ k, k ≤ ps.length → (whoTo ps e k = whoE ps e ∨ (whoTo ps e k = 0 ∧ ∀ j, j < k → e ∉ edgesOf (pcAt ps j).ring)) := by
  intro k
  induction k with
  | zero => exact fun _ => .inr ⟨rfl, fun j hj => absurd hj (Nat.not_lt_zero _)⟩
  | succ k ih =>
    intro hk
    show (if _ then _ else _) = _ ∨ ((if _ then _ else _) = _ ∧ _)
    by_cases he : e ∈ edgesOf (pcAt ps k).ring
    · rw [if_pos he]
      exact .inl (whoE_in hn (by rw [pcAt_lt (by omega)]; exact List.getElem_mem _) he).symm
    · rw [if_neg he]
      rcases ih (by omega) with h | ⟨h, h2⟩
      · exact .inl h
      · refine .inr ⟨h, fun j hj => ?_⟩
        by_cases hjk : j = k
        · rw [hjk]; exact he
        · exact h2 j (by omega)
theorem whoTo_all {ps : List Parc} {e : Ed} (hn : (allE ps).Nodup) : whoTo ps e ps.length = whoE ps e := by
  rcases whoTo_eq (e := e) hn ps.length (Nat.le_refl _) with h | ⟨h, h2⟩
  · exact h
  · rw [h, whoE_out]
    intro he
    obtain ⟨x, hx, h3⟩ := allE_mem.1 he
    obtain ⟨j, hj, rfl⟩ := List.getElem_of_mem hx
    exact h2 j hj (by rw [pcAt_lt hj]; exact h3)
theorem listN_id {ps : List Parc} : ∀ {n : Nat} {last : Int}, listN n last ps = true → ∀ x ∈ ps, 1 ≤ x.id := by
  induction ps with
  | nil => intro n last _ x hx; exact absurd hx List.not_mem_nil
  | cons y ps ih =>
    intro n last h x hx
    rw [listN_cons] at h
    simp only [Bool.and_eq_true] at h
    rcases List.mem_cons.1 hx with rfl | hx
    · have := h.1; unfold idB at this; simp at this; exact this.1
    · exact ih h.2.2.2.2 x hx
theorem listed_id {p : Plan} (h : listedB p = true) : ∀ x ∈ p.parcels, 1 ≤ x.id := by
  unfold listedB at h
  rw [Bool.and_eq_true] at h
  exact listN_id h.1
theorem whoE_pos {p : Plan} {e : Ed} (hs : SoundP p) (he : e ∈ allE p.parcels) : 0 < whoE p.parcels e := by
  obtain ⟨x, hx, h3⟩ := allE_mem.1 he
  rw [whoE_in hs.2.2.2.1.1 hx h3]
  have := listed_id hs.1 x hx
  omega
theorem ring_le {p : Plan} (hs : SoundP p) {x : Parc} (hx : x ∈ p.parcels) : x.ring.length ≤ 128 := (checkI_zero (hs.2.2.1 x hx).1).1
theorem edge_pts {xs : List Pt} {e : Ed} (h : e ∈ edgesOf xs) : e.a ∈ xs ∧ e.b ∈ xs := by
  unfold edgesOf at h
  obtain ⟨k, hk, rfl⟩ := List.mem_map.1 h
  rw [List.mem_range] at hk
  have hk2 : (k + 1) % xs.length < xs.length := Nat.mod_lt _ (by omega)
  simp only
  rw [ptAt_lt hk, ptAt_lt hk2]
  exact ⟨List.getElem_mem _, List.getElem_mem _⟩
theorem nodup_at {xs : List Pt} (hn : xs.Nodup) {i j : Nat} (hi : i < xs.length) (hj : j < xs.length) (h : ptAt xs i = ptAt xs j) : i = j := by
  rw [ptAt_lt hi, ptAt_lt hj] at h
  have hp := List.pairwise_iff_getElem.1 hn
  rcases Nat.lt_trichotomy i j with h4 | h4 | h4
  · exact absurd h (hp _ _ hi hj h4)
  · exact h4
  · exact absurd h.symm (hp _ _ hj hi h4)
theorem back_out {xs : List Pt} (h : checkI xs = 0) {e : Ed} (he : e ∈ edgesOf xs) : e.back ∉ edgesOf xs := by
  obtain ⟨-, -, h2, -, h3⟩ := checkI_zero h
  have hn := pairs_nodup h3
  intro hb
  unfold edgesOf at he hb
  obtain ⟨i, hi, rfl⟩ := List.mem_map.1 he
  obtain ⟨j, hj, hij⟩ := List.mem_map.1 hb
  rw [List.mem_range] at hi hj
  have hi2 : (i + 1) % xs.length < xs.length := Nat.mod_lt _ (by omega)
  have hj2 : (j + 1) % xs.length < xs.length := Nat.mod_lt _ (by omega)
  simp only [Ed.back, Ed.mk.injEq] at hij
  have e1 := nodup_at hn hj hi2 hij.1
  have e2 := nodup_at hn hj2 hi hij.2
  rcases Nat.lt_or_ge (i + 1) xs.length with h4 | h4
  · rw [Nat.mod_eq_of_lt h4] at e1
    subst e1
    rcases Nat.lt_or_ge (i + 1 + 1) xs.length with h5 | h5
    · rw [Nat.mod_eq_of_lt h5] at e2; omega
    · have h6 : i + 1 + 1 = xs.length := by omega
      rw [h6, Nat.mod_self] at e2; omega
  · have h6 : i + 1 = xs.length := by omega
    rw [h6, Nat.mod_self] at e1
    subst e1
    rw [Nat.mod_eq_of_lt (by omega)] at e2
    omega
theorem listN_lt {ps : List Parc} : ∀ {n : Nat} {last : Int}, listN n last ps = true → ∀ x ∈ ps, last < x.id := by
  induction ps with
  | nil => intro n last _ x hx; exact absurd hx List.not_mem_nil
  | cons y ps ih =>
    intro n last h x hx
    rw [listN_cons] at h
    simp only [Bool.and_eq_true, decide_eq_true_eq] at h
    rcases List.mem_cons.1 hx with rfl | hx
    · exact h.2.1
    · have := ih h.2.2.2.2 x hx; omega
theorem listN_inj {ps : List Parc} : ∀ {n : Nat} {last : Int}, listN n last ps = true → ∀ x ∈ ps, ∀ y ∈ ps, x.id = y.id → x = y := by
  induction ps with
  | nil => intro n last _ x hx; exact absurd hx List.not_mem_nil
  | cons z ps ih =>
    intro n last h x hx y hy he
    rw [listN_cons] at h
    simp only [Bool.and_eq_true, decide_eq_true_eq] at h
    have hlt := listN_lt h.2.2.2.2
    rcases List.mem_cons.1 hx with h1 | h1 <;> rcases List.mem_cons.1 hy with h2 | h2
    · rw [h1, h2]
    · have := hlt y h2; rw [h1] at he; omega
    · have := hlt x h1; rw [h2] at he; omega
    · exact ih h.2.2.2.2 x h1 y h2 he
theorem listed_inj {p : Plan} (h : listedB p = true) {x y : Parc} (hx : x ∈ p.parcels) (hy : y ∈ p.parcels) (he : x.id = y.id) : x = y := by
  unfold listedB at h
  rw [Bool.and_eq_true] at h
  exact listN_inj h.1 x hx y hy he
theorem edges_law {p : Plan} (hs : SoundP p) {x : Parc} (hx : x ∈ p.parcels) {e : Ed} (he : e ∈ edgesOf x.ring) : (leftE p e = 0 ∧ leftI p e = x.id ∧ cornerE p e.a = 0 ∧ cornerV p e.a = true) ∧
    ((e ∈ edgesOf p.outer ∧ leftE p e.back = 5 ∧ leftI p e.back = 0 ∧ 0 ≠ x.id) ∨ (e ∉ edgesOf p.outer ∧ leftE p e.back = 0 ∧ leftI p e.back ≠ 0 ∧ leftI p e.back ≠ x.id)) := by
  have hb := planB_of hs
  have hin : e ∈ allE p.parcels := allE_mem.2 ⟨x, hx, he⟩
  have hw := whoE_in hs.2.2.2.1.1 hx he
  have hid := listed_id hs.1 x hx
  have hg := (edges_ok (hs.2.2.1 x hx).1 e he).2.1
  refine ⟨⟨by unfold leftE; rw [if_pos hb, if_pos hin], by unfold leftI; rw [if_pos hb, hw], by unfold cornerE; rw [if_pos hb, if_pos hg], ?_⟩, ?_⟩
  · unfold cornerV
    rw [hb, hg, Bool.true_and, Bool.true_and, hasC_iff]
    exact ⟨x, hx, (edge_pts he).1⟩
  · have hm := hs.2.2.2.1.2.2 e hin
    by_cases ho : e ∈ edgesOf p.outer
    · refine .inl ⟨ho, ?_, ?_, by omega⟩
      · unfold leftE; rw [if_pos hb, if_neg (fun h => hm.1 h ho)]
      · unfold leftI; rw [if_pos hb, whoE_out (fun h => hm.1 h ho)]
    · have hbk := hm.2 ho
      have hp := whoE_pos hs hbk
      refine .inr ⟨ho, ?_, ?_, ?_⟩
      · unfold leftE; rw [if_pos hb, if_pos hbk]
      · unfold leftI; rw [if_pos hb]; omega
      · unfold leftI
        rw [if_pos hb]
        obtain ⟨y, hy, h3⟩ := allE_mem.1 hbk
        rw [whoE_in hs.2.2.2.1.1 hy h3]
        intro h4
        have := listed_inj hs.1 hy hx h4
        subst this
        exact back_out (hs.2.2.1 y hy).1 he h3
theorem hld5 {W V V' : World} {a0 a1 a2 a3 a4 : Addr} {v0 v1 v2 v3 v4 : Value} (hh : a0.block < W.heap.size ∧ a1.block < W.heap.size ∧ a2.block < W.heap.size ∧ a3.block < W.heap.size ∧ a4.block < W.heap.size) (hs : V.cell? a0 = some v0 ∧ V.cell? a1 = some v1 ∧ V.cell? a2 = some v2 ∧ V.cell? a3 = some v3 ∧ V.cell? a4 = some v4 ∧ Below W.heap.size W V) (hb : Below V.heap.size V V') :
    V'.cell? a0 = some v0 ∧ V'.cell? a1 = some v1 ∧ V'.cell? a2 = some v2 ∧ V'.cell? a3 = some v3 ∧ V'.cell? a4 = some v4 ∧ Below W.heap.size W V' := by
  obtain ⟨h0, h1, h2, h3, h4⟩ := hh
  obtain ⟨c0, c1, c2, c3, c4, cb⟩ := hs
  have := cb.size
  have k : ∀ {a : Addr} {v : Value}, a.block < W.heap.size → V.cell? a = some v → V'.cell? a = some v := fun {a v} ha hv => (hb.cell (p := a) (by omega)).trans hv
  exact ⟨k h0 c0, k h1 c1, k h2 c2, k h3 c3, k h4 c4, below_on cb (Nat.le_refl _) hb⟩
theorem hld6 {W V V' : World} {a0 a1 a2 a3 a4 a5 : Addr} {v0 v1 v2 v3 v4 v5 : Value} (hh : a0.block < W.heap.size ∧ a1.block < W.heap.size ∧ a2.block < W.heap.size ∧ a3.block < W.heap.size ∧ a4.block < W.heap.size ∧ a5.block < W.heap.size) (hs : V.cell? a0 = some v0 ∧ V.cell? a1 = some v1 ∧ V.cell? a2 = some v2 ∧ V.cell? a3 = some v3 ∧ V.cell? a4 = some v4 ∧ V.cell? a5 = some v5 ∧ Below W.heap.size W V) (hb : Below V.heap.size V V') :
    V'.cell? a0 = some v0 ∧ V'.cell? a1 = some v1 ∧ V'.cell? a2 = some v2 ∧ V'.cell? a3 = some v3 ∧ V'.cell? a4 = some v4 ∧ V'.cell? a5 = some v5 ∧ Below W.heap.size W V' := by
  obtain ⟨h0, h1, h2, h3, h4, h5⟩ := hh
  obtain ⟨c0, c1, c2, c3, c4, c5, cb⟩ := hs
  have := cb.size
  have k : ∀ {a : Addr} {v : Value}, a.block < W.heap.size → V.cell? a = some v → V'.cell? a = some v := fun {a v} ha hv => (hb.cell (p := a) (by omega)).trans hv
  exact ⟨k h0 c0, k h1 c1, k h2 c2, k h3 c3, k h4 c4, k h5 c5, below_on cb (Nat.le_refl _) hb⟩
theorem hld7 {W V V' : World} {a0 a1 a2 a3 a4 a5 a6 : Addr} {v0 v1 v2 v3 v4 v5 v6 : Value} (hh : a0.block < W.heap.size ∧ a1.block < W.heap.size ∧ a2.block < W.heap.size ∧ a3.block < W.heap.size ∧ a4.block < W.heap.size ∧ a5.block < W.heap.size ∧ a6.block < W.heap.size) (hs : V.cell? a0 = some v0 ∧ V.cell? a1 = some v1 ∧ V.cell? a2 = some v2 ∧ V.cell? a3 = some v3 ∧ V.cell? a4 = some v4 ∧ V.cell? a5 = some v5 ∧ V.cell? a6 = some v6 ∧ Below W.heap.size W V) (hb : Below V.heap.size V V') :
    V'.cell? a0 = some v0 ∧ V'.cell? a1 = some v1 ∧ V'.cell? a2 = some v2 ∧ V'.cell? a3 = some v3 ∧ V'.cell? a4 = some v4 ∧ V'.cell? a5 = some v5 ∧ V'.cell? a6 = some v6 ∧ Below W.heap.size W V' := by
  obtain ⟨h0, h1, h2, h3, h4, h5, h6⟩ := hh
  obtain ⟨c0, c1, c2, c3, c4, c5, c6, cb⟩ := hs
  have := cb.size
  have k : ∀ {a : Addr} {v : Value}, a.block < W.heap.size → V.cell? a = some v → V'.cell? a = some v := fun {a v} ha hv => (hb.cell (p := a) (by omega)).trans hv
  exact ⟨k h0 c0, k h1 c1, k h2 c2, k h3 c3, k h4 c4, k h5 c5, k h6 c6, below_on cb (Nat.le_refl _) hb⟩
theorem hld8 {W V V' : World} {a0 a1 a2 a3 a4 a5 a6 a7 : Addr} {v0 v1 v2 v3 v4 v5 v6 v7 : Value} (hh : a0.block < W.heap.size ∧ a1.block < W.heap.size ∧ a2.block < W.heap.size ∧ a3.block < W.heap.size ∧ a4.block < W.heap.size ∧ a5.block < W.heap.size ∧ a6.block < W.heap.size ∧ a7.block < W.heap.size) (hs : V.cell? a0 = some v0 ∧ V.cell? a1 = some v1 ∧ V.cell? a2 = some v2 ∧ V.cell? a3 = some v3 ∧ V.cell? a4 = some v4 ∧ V.cell? a5 = some v5 ∧ V.cell? a6 = some v6 ∧ V.cell? a7 = some v7 ∧ Below W.heap.size W V) (hb : Below V.heap.size V V') :
    V'.cell? a0 = some v0 ∧ V'.cell? a1 = some v1 ∧ V'.cell? a2 = some v2 ∧ V'.cell? a3 = some v3 ∧ V'.cell? a4 = some v4 ∧ V'.cell? a5 = some v5 ∧ V'.cell? a6 = some v6 ∧ V'.cell? a7 = some v7 ∧ Below W.heap.size W V' := by
  obtain ⟨h0, h1, h2, h3, h4, h5, h6, h7⟩ := hh
  obtain ⟨c0, c1, c2, c3, c4, c5, c6, c7, cb⟩ := hs
  have := cb.size
  have k : ∀ {a : Addr} {v : Value}, a.block < W.heap.size → V.cell? a = some v → V'.cell? a = some v := fun {a v} ha hv => (hb.cell (p := a) (by omega)).trans hv
  exact ⟨k h0 c0, k h1 c1, k h2 c2, k h3 c3, k h4 c4, k h5 c5, k h6 c6, k h7 c7, below_on cb (Nat.le_refl _) hb⟩
theorem hld3 {W V V' : World} {a0 a1 a2 : Addr} {v0 v1 v2 : Value} (hh : a0.block < W.heap.size ∧ a1.block < W.heap.size ∧ a2.block < W.heap.size) (hs : V.cell? a0 = some v0 ∧ V.cell? a1 = some v1 ∧ V.cell? a2 = some v2 ∧ Below W.heap.size W V) (hb : Below V.heap.size V V') :
    V'.cell? a0 = some v0 ∧ V'.cell? a1 = some v1 ∧ V'.cell? a2 = some v2 ∧ Below W.heap.size W V' := by
  obtain ⟨h0, h1, h2⟩ := hh
  obtain ⟨c0, c1, c2, cb⟩ := hs
  have := cb.size
  have k : ∀ {a : Addr} {v : Value}, a.block < W.heap.size → V.cell? a = some v → V'.cell? a = some v := fun {a v} ha hv => (hb.cell (p := a) (by omega)).trans hv
  exact ⟨k h0 c0, k h1 c1, k h2 c2, below_on cb (Nat.le_refl _) hb⟩
end Go.Proofs.Ytgkcenhopmjmlaa

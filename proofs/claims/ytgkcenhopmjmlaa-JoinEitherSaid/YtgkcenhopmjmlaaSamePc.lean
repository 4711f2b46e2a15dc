/- ref05.SameParcel and ref05.Same: the walks. -/
import Derived.Test.YtgkcenhopmjmlaaPlanIn
namespace Go.Proofs.Ytgkcenhopmjmlaa
open Go.RowKit
open Classical in
noncomputable def pcEq (x y : Parc) : Bool := decide (x = y)
theorem pcEq_iff {x y : Parc} : pcEq x y = true ↔ x = y := by unfold pcEq; simp
theorem pcEq_self (x : Parc) : pcEq x x = true := pcEq_iff.2 rfl
theorem pcEq_parts (x y : Parc) : pcEq x y = (decide (x.id = y.id) && (decide (x.owner = y.owner) && decide (x.ring = y.ring))) := by
  obtain ⟨i, r, s⟩ := x
  obtain ⟨i', r', s'⟩ := y
  rw [Bool.eq_iff_iff, pcEq_iff]
  simp
  exact fun _ => And.comm
abbrev pcVal (x : Parc) (A : Option Addr) (n c : Nat) : Value := .agg #[.int .i64 x.id, .slice A n c, .string x.owner]
open Classical in
noncomputable def plEq (p q : Plan) : Bool := decide (p = q)
theorem plEq_iff {p q : Plan} : plEq p q = true ↔ p = q := by unfold plEq; simp
theorem plEq_self (p : Plan) : plEq p p = true := plEq_iff.2 rfl
theorem plEq_no {p q : Plan} {k : Nat} (h : pcEq (pcAt p.parcels k) (pcAt q.parcels k) = false) : plEq p q = false := by
  rw [Bool.eq_false_iff]
  intro he
  rw [plEq_iff.1 he, pcEq_self] at h
  cases h
theorem plEq_end {p q : Plan} {k : Nat} (h1 : k ≤ p.parcels.length) (h2 : k ≤ q.parcels.length) (h3 : k = p.parcels.length ∨ k = q.parcels.length) (h : p.parcels.take k = q.parcels.take k) : plEq p q = (decide (p.parcels.length = q.parcels.length) && decide (p.outer = q.outer)) := by
  obtain ⟨o, l⟩ := p
  obtain ⟨o', l'⟩ := q
  simp only at *
  rw [Bool.eq_iff_iff, plEq_iff]
  simp only [Bool.and_eq_true, decide_eq_true_eq, Plan.mk.injEq]
  constructor
  · rintro ⟨rfl, rfl⟩; exact ⟨rfl, rfl⟩
  · rintro ⟨e, rfl⟩
    rw [List.take_of_length_le (by omega), List.take_of_length_le (by omega)] at h
    exact ⟨rfl, h⟩
theorem take_next {l l' : List Parc} {k : Nat} (h1 : k < l.length) (h2 : k < l'.length) (h : l.take k = l'.take k) (he : pcEq (pcAt l k) (pcAt l' k) = true) : l.take (k + 1) = l'.take (k + 1) := by
  rw [List.take_succ_eq_append_getElem h1, List.take_succ_eq_append_getElem h2, h, ← pcAt_lt h1, ← pcAt_lt h2, pcEq_iff.1 he]
abbrev HoldSP (W V : World) (b1 b2 : Nat) (a1 a2 : Addr) (v1 v2 v3 v4 v5 v6 v7 v8 : Value) : Prop := V.cell? ⟨b1, 1, none⟩ = some v1 ∧ V.cell? ⟨b2, 1, none⟩ = some v2 ∧ V.cell? a1 = some v3 ∧ V.cell? ⟨a1.block, a1.off + 1, none⟩ = some v4 ∧ V.cell? ⟨a1.block, a1.off + 2, none⟩ = some v5 ∧ V.cell? a2 = some v6 ∧ V.cell? ⟨a2.block, a2.off + 1, none⟩ = some v7 ∧ V.cell? ⟨a2.block, a2.off + 2, none⟩ = some v8 ∧ Below W.heap.size W V
theorem heldSP {W V V' : World} {b1 b2 : Nat} {a1 a2 : Addr} {v1 v2 v3 v4 v5 v6 v7 v8 : Value} (hh : b1 < W.heap.size ∧ b2 < W.heap.size ∧ a1.block < W.heap.size ∧ a2.block < W.heap.size) (hs : V.cell? ⟨b1, 1, none⟩ = some v1 ∧ V.cell? ⟨b2, 1, none⟩ = some v2 ∧ V.cell? a1 = some v3 ∧ V.cell? ⟨a1.block, a1.off + 1, none⟩ = some v4 ∧ V.cell? ⟨a1.block, a1.off + 2, none⟩ = some v5 ∧ V.cell? a2 = some v6 ∧ V.cell? ⟨a2.block, a2.off + 1, none⟩ = some v7 ∧ V.cell? ⟨a2.block, a2.off + 2, none⟩ = some v8 ∧ Below W.heap.size W V) (hb : Below V.heap.size V V') :
    V'.cell? ⟨b1, 1, none⟩ = some v1 ∧ V'.cell? ⟨b2, 1, none⟩ = some v2 ∧ V'.cell? a1 = some v3 ∧ V'.cell? ⟨a1.block, a1.off + 1, none⟩ = some v4 ∧ V'.cell? ⟨a1.block, a1.off + 2, none⟩ = some v5 ∧ V'.cell? a2 = some v6 ∧ V'.cell? ⟨a2.block, a2.off + 1, none⟩ = some v7 ∧ V'.cell? ⟨a2.block, a2.off + 2, none⟩ = some v8 ∧ Below W.heap.size W V' := by
  obtain ⟨h1, h2, h3, h4⟩ := hh
  obtain ⟨c1, c2, c3, c4, c5, c6, c7, c8, c9⟩ := hs
  have := c9.size
  have k : ∀ {a : Addr} {v : Value}, a.block < W.heap.size → V.cell? a = some v → V'.cell? a = some v := fun {a v} ha hv => (hb.cell (p := a) (by omega)).trans hv
  exact ⟨k h1 c1, k h2 c2, k h3 c3, k h3 c4, k h3 c5, k h4 c6, k h4 c7, k h4 c8, below_on c9 (Nat.le_refl _) hb⟩
end Go.Proofs.Ytgkcenhopmjmlaa

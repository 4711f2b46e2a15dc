/- slices.Index and slices.Contains of points, ref05.In, plan.Has, plan.At, ref05.At, ref05.Corner: the walks. -/
import Derived.Test.YtgkcenhopmjmlaaPlanIn
namespace Go.Proofs.Ytgkcenhopmjmlaa
open Go.RowKit
def idxPt (xs : List Pt) (q : Pt) : Int := if q ∈ xs then (xs.findIdx (fun p => decide (p = q)) : Int) else -1
theorem idx_none {xs : List Pt} {q : Pt} (h : ∀ j, j < xs.length → ptAt xs j ≠ q) : idxPt xs q = -1 := by
  unfold idxPt
  rw [if_neg]
  intro hq
  obtain ⟨j, hj, rfl⟩ := List.getElem_of_mem hq
  exact h j hj (ptAt_lt hj)
theorem idx_at {xs : List Pt} {q : Pt} {k : Nat} (hk : k < xs.length) (h1 : ptAt xs k = q) (h2 : ∀ j, j < k → ptAt xs j ≠ q) : idxPt xs q = (k : Int) := by
  unfold idxPt
  rw [if_pos (by rw [← h1, ptAt_lt hk]; exact List.getElem_mem hk)]
  congr 1
  rw [List.findIdx_eq hk]
  refine ⟨by rw [← ptAt_lt hk]; simpa using h1, fun j hj => ?_⟩
  rw [← ptAt_lt (by omega)]
  simpa using h2 j hj
theorem idx_nonneg {xs : List Pt} {q : Pt} : 0 ≤ idxPt xs q ↔ q ∈ xs := by
  unfold idxPt
  split
  · rename_i h; exact ⟨fun _ => h, fun _ => by omega⟩
  · rename_i h; exact ⟨fun h' => absurd h' (by omega), fun h' => absurd h' h⟩
theorem idx_lt {xs : List Pt} {q : Pt} (h : q ∈ xs) : ∃ k : Nat, k < xs.length ∧ idxPt xs q = (k : Int) ∧ ptAt xs k = q ∧ ∀ j, j < k → ptAt xs j ≠ q := by
  have hl : xs.findIdx (fun p => decide (p = q)) < xs.length := List.findIdx_lt_length_of_exists ⟨q, h, by simp⟩
  refine ⟨_, hl, by unfold idxPt; rw [if_pos h], ?_, fun j hj => ?_⟩
  · rw [ptAt_lt hl]
    have := List.findIdx_getElem (w := hl)
    simpa using this
  · rw [ptAt_lt (by omega)]
    have := List.not_of_lt_findIdx hj
    simpa using this
def hasC (ps : List Parc) (q : Pt) : Bool := ps.any fun x => decide (q ∈ x.ring)
theorem hasC_iff {ps : List Parc} {q : Pt} : hasC ps q = true ↔ ∃ x ∈ ps, q ∈ x.ring := by unfold hasC; simp
set_option maxHeartbeats 1600000 in
theorem indexQ_any (xs : List Pt) (Q : Pt) (A : Option Addr) (n cap : Nat) (w : World) (hr : Reads w w.heap.size 2 A n (ptsV xs)) (hn : n ≤ 8796093022208) :
    Calls Try.prog 44 #[.slice A n cap, .agg #[.int .i64 Q.x, .int .i64 Q.y]] w fun e w' => e = .returned (.int .i64 (idxPt xs Q)) ∧ Below w.heap.size w w' := by
  have hl := hr.lenPt
  have hB0 := (Below.refl w.heap.size w).alloc (Nat.le_refl _) (.cells #[.int .i64 Q.x, .int .i64 Q.y] 39)
  have hP0 : PtK (w.alloc (.cells #[.int .i64 Q.x, .int .i64 Q.y] 39)) w.heap.size Q := PtK.new w Q
  have H0 := Lib.hid (And.intro hB0 hP0)
  clear hB0 hP0
  go_enter Try.func44, Try.ntmps44
  go_wp2
  go_loopw [8] (fun i wr => ∃ m : Nat, m ≤ n ∧ i = .int .i64 (m : Int) ∧ Hid (∀ j, j < m → ptAt xs j ≠ Q) ∧ Below w.heap.size w wr ∧ PtK wr w.heap.size Q) (fun i _ => n - (intOf i).toNat)
  case atStart => exact ⟨0, Nat.zero_le _, rfl, fun j hj => absurd hj (Nat.not_lt_zero _), H0.out⟩
  case round =>
    clear H0
    obtain ⟨m, hm, rfl, HF, hbel, hK⟩ := hrel
    by_cases hmn : m < n
    · have hmn' : (m : Int) < (n : Int) := by omega
      have hw1 : IntKind.i64.wrap ((m : Int) + 1) = (m : Int) + 1 := by rw [IntKind.wrap_i64]; omega
      obtain ⟨ad, rfl, -, -, -, -⟩ := hr.pt hmn
      obtain ⟨-, p1, p2⟩ := (hr.below hbel).ptA hmn
      obtain ⟨q1, q2, -, -, -⟩ := hK.facts
      have HI := Lib.hid (idx_at (xs := xs) (q := Q) (k := m) (by omega))
      have he := fun W => (eqPt_runs Q (ptAt xs m) .eql (.tmp 0) (.tmp 0) W).1
      have hg := fun op a b W => (eqPt_runs Q (ptAt xs m) op a b W).2
      obtain ⟨P, hP⟩ : ∃ P, P = ptAt xs m := ⟨_, rfl⟩
      rw [← hP] at p1 p2 he hg
      have HP := Lib.hid hP
      have HB := Lib.hid (And.intro hbel hK)
      clear hbel hK hr hP
      by_cases hpq : P = Q
      · rw [decide_eq_true (hpq.symm)] at he
        have HE := Lib.hid hpq
        clear hpq
        go_wp2
        go_quiet (fail)
        go_wp2
        go_ret
        exact ⟨by rw [HI.out (by rw [← HP.out]; exact HE.out) HF.out]; rfl, below_drewN HB.out.1 _⟩
      · rw [decide_eq_false (fun h => hpq h.symm)] at he
        have HE : Hid (∀ j, j < m + 1 → ptAt xs j ≠ Q) := fun j hj => by
          by_cases h : j = m
          · rw [h, ← HP.out]; exact hpq
          · exact HF.out j (by omega)
        clear hpq
        go_wp2
        go_quiet (fail)
        go_wp2
        go_roundw
        case rel => exact ⟨m + 1, by omega, by go_num, HE.out, below_drewN HB.out.1 _, HB.out.2⟩
        case measure => simp [intOf]; omega
    · have hmn' : m = n := by omega
      subst hmn'
      have HB := Lib.hid hbel
      have HN := Lib.hid (idx_none (xs := xs) (q := Q) (fun j hj => HF.out j (by omega)))
      clear hbel hK
      go_wp2
      go_ret
      exact ⟨by rw [HN.out]; rfl, HB.out⟩
abbrev HoldCq (W V : World) (b1 b2 : Nat) (a1 : Addr) (v1 v2 v3 v4 v5 : Value) : Prop := V.cell? ⟨b1, 1, none⟩ = some v1 ∧ V.cell? a1 = some v2 ∧ V.cell? ⟨a1.block, a1.off + 1, none⟩ = some v3 ∧ V.cell? ⟨b2, 0, none⟩ = some v4 ∧ V.cell? ⟨b2, 1, none⟩ = some v5 ∧ Below W.heap.size W V
theorem heldCq {W V V' : World} {b1 b2 : Nat} {a1 : Addr} {v1 v2 v3 v4 v5 : Value} (hh : b1 < W.heap.size ∧ b2 < W.heap.size ∧ a1.block < W.heap.size) (hs : V.cell? ⟨b1, 1, none⟩ = some v1 ∧ V.cell? a1 = some v2 ∧ V.cell? ⟨a1.block, a1.off + 1, none⟩ = some v3 ∧ V.cell? ⟨b2, 0, none⟩ = some v4 ∧ V.cell? ⟨b2, 1, none⟩ = some v5 ∧ Below W.heap.size W V) (hb : Below V.heap.size V V') :
    V'.cell? ⟨b1, 1, none⟩ = some v1 ∧ V'.cell? a1 = some v2 ∧ V'.cell? ⟨a1.block, a1.off + 1, none⟩ = some v3 ∧ V'.cell? ⟨b2, 0, none⟩ = some v4 ∧ V'.cell? ⟨b2, 1, none⟩ = some v5 ∧ Below W.heap.size W V' := by
  obtain ⟨h1, h2, h3⟩ := hh
  obtain ⟨c1, c2, c3, c4, c5, c9⟩ := hs
  have := c9.size
  have k : ∀ {a : Addr} {v : Value}, a.block < W.heap.size → V.cell? a = some v → V'.cell? a = some v := fun {a v} ha hv => (hb.cell (p := a) (by omega)).trans hv
  exact ⟨k h1 c1, k h3 c2, k h3 c3, k h2 c4, k h2 c5, below_on c9 (Nat.le_refl _) hb⟩
end Go.Proofs.Ytgkcenhopmjmlaa

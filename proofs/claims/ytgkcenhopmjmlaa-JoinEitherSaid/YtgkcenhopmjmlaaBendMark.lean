/- bend.begin, bend.done, bend.Mark: the walks. -/
import Derived.Test.YtgkcenhopmjmlaaBegin2
import Derived.Test.YtgkcenhopmjmlaaCorn
import Derived.Test.YtgkcenhopmjmlaaFind
import Derived.Test.YtgkcenhopmjmlaaInsert
namespace Go.Proofs.Ytgkcenhopmjmlaa
open Go.RowKit Go.Lib
noncomputable def bendE (p : Plan) (l : List Pt) : Int := if planB p = true then (if goodL l = true then 0 else 3) else 2
theorem res_store {w W : World} {g : Nat} {a b : Value} (hb : Below w.heap.size w W) (hg : w.heap.size ≤ g) (hk : Blk W g 26 #[a, b]) (u v : Value) :
    ∃ V, V = (W.setCell ⟨g, 0, none⟩ u).setCell ⟨g, 1, none⟩ v ∧ V.cell? ⟨g, 0, none⟩ = some u ∧ V.cell? ⟨g, 1, none⟩ = some v ∧ Below w.heap.size w V := by
  have hK := Blk.set_ (Blk.set_ hk 0 u) 1 v
  exact ⟨_, rfl, by rw [Blk.cell hK 0]; rfl, by rw [Blk.cell hK 1]; rfl, (hb.setCell (p := ⟨g, 0, none⟩) hg u).setCell (p := ⟨g, 1, none⟩) hg v⟩
theorem plk_facts4 {W : World} {g : Nat} {a b : Value} (hk : Blk W g 26 #[a, b]) : W.cell? ⟨g, 0, none⟩ = some a ∧ W.cell? ⟨g, 1, none⟩ = some b ∧ W.frozen? ⟨g, 0, none⟩ = false ∧ W.frozen? ⟨g, 1, none⟩ = false := ⟨Blk.cell hk 0, Blk.cell hk 1, Blk.frozen hk 0, Blk.frozen hk 1⟩
noncomputable def markE (p : Plan) (q : Pt) : Int := if planB p = true then (if good q = true then (if hasC p.parcels q = true then 6 else (if hasC (eachP (insG q) p).parcels q = true then (if planB (eachP (insG q) p) = true then 0 else 8) else 7)) else 3) else 2
noncomputable def markP (p : Plan) (q : Pt) : Plan := if markE p q = 0 then eachP (insG q) p else ⟨[], []⟩
def ResPost (r : Plan) (z : Int) (w : World) (e : Ending) (w' : World) : Prop := ∃ A n c A' n' c', e = .returned (.tuple #[planV A n c A' n' c', .int .i64 z]) ∧ PlanAt w' w'.heap.size A n c A' n' c' r ∧ Below w.heap.size w w'
theorem resPost_no {w V : World} {z : Int} {r : Plan} (hr : r = ⟨[], []⟩) (hb : Below w.heap.size w V) : ResPost r z w (.returned (.tuple #[planV none 0 0 none 0 0, .int .i64 z])) V := ⟨none, 0, 0, none, 0, 0, rfl, by rw [hr]; exact planAt_nil V, hb⟩
def ResPostS (r : Plan) (z : Int) (w : World) (e : Ending) (w' : World) : Prop := ∃ A n c A' n' c' hs, e = .returned (.tuple #[planV A n c A' n' c', .int .i64 z]) ∧ PlanOwn w.heap.size w' A n c A' n' c' r hs ∧ Below w.heap.size w w'
theorem planOwn_nil (B : Nat) (W : World) : PlanOwn B W none 0 0 none 0 0 ⟨[], []⟩ [] := ⟨World.ownsRow_nil _ _ _ _, World.ownsRow_nil _ _ _ _, rfl, rfl, fun j hj => absurd hj (Nat.not_lt_zero _), ⟨⟨by simp, by simp⟩, by simp, by simp⟩⟩
theorem resPostS_no {w V : World} {z : Int} {r : Plan} (hr : r = ⟨[], []⟩) (hb : Below w.heap.size w V) : ResPostS r z w (.returned (.tuple #[planV none 0 0 none 0 0, .int .i64 z])) V := ⟨none, 0, 0, none, 0, 0, [], rfl, by rw [hr]; exact planOwn_nil _ V, hb⟩
theorem ResPostS.weak {w V : World} {z : Int} {r : Plan} {e : Ending} (h : ResPostS r z w e V) : ResPost r z w e V := by
  obtain ⟨A, n, c, A', n', c', hs, h1, h2, h3⟩ := h
  exact ⟨A, n, c, A', n', c', h1, h2.at_, h3⟩
theorem markP_no {p : Plan} {q : Pt} {z : Int} (h : markE p q = z) (h0 : z ≠ 0) : markP p q = ⟨[], []⟩ := by unfold markP; rw [if_neg (by rw [h]; exact h0)]
-- MARK
end Go.Proofs.Ytgkcenhopmjmlaa

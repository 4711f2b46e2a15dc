/- What lies beside Begin. -/
import Derived.Test.YtgkcenhopmjmlaaOwned
import Derived.Test.YtgkcenhopmjmlaaBegin
namespace Go.Proofs.Ytgkcenhopmjmlaa
open Go.RowKit
theorem Reads.farA {W : World} {B n size : Nat} {A : Option Addr} {xs : List Value} (h : Reads W B size A n xs) {q : Addr} (hq : ∀ ad, A = some ad → ad.block ≠ q.block) (u : Value) : Reads (W.setCell q u) B size A n xs := by
  refine ⟨h.1, fun h0 => ?_⟩
  obtain ⟨ad, rfl, hb, hc⟩ := h.2 h0
  refine ⟨_, rfl, hb, fun j v hv => Eq.trans ?_ (hc j v hv)⟩
  have hne : ad.add j ≠ q := fun e => hq ad rfl (by have := congrArg Addr.block e; rw [block_of_add] at this; exact this)
  first
    | exact World.cell?_setCell_other _ _ _ _ hne
    | exact World.cell?_setCell_other _ _ _ _ hne.symm
    | exact World.cell?_setCell_other hne
    | exact World.cell?_setCell_other hne.symm
theorem own_base {w : World} {base n c : Nat} {e : TypeId} {size : Nat} {A : Option Addr} {xs : List Value} (h : w.ownsRow base e size (.slice A n c) n xs) : ∀ ad, A = some ad → base ≤ ad.block := fun ad h' => by
  subst h'
  rcases h.2 with ⟨h1, -⟩ | ⟨g, cap, cur, h1, h2, -⟩
  · cases h1
  · cases h1; exact h2
end Go.Proofs.Ytgkcenhopmjmlaa
namespace Go.Proofs.Ytgkcenhopmjmlaa
end Go.Proofs.Ytgkcenhopmjmlaa
namespace Go.Proofs.Ytgkcenhopmjmlaa
open Go.RowKit
open Classical in
noncomputable def beginE (xs : List Pt) (id : Int) (s : ByteArray) : Int := if checkI xs = 0 then (if idB id && ownB s then 0 else 1) else checkI xs
open Classical in
noncomputable def beginP (xs : List Pt) (id : Int) (s : ByteArray) : Plan := if beginE xs id s = 0 then ⟨rot (leastN xs xs.length) xs, [⟨id, rot (leastN xs xs.length) xs, s⟩]⟩ else ⟨[], []⟩
theorem planAt_nil (W : World) : PlanAt W W.heap.size none 0 0 none 0 0 ⟨[], []⟩ := ⟨Reads.none_, ⟨rfl, fun h => absurd h (Nat.lt_irrefl _)⟩, ⟨Nat.le_refl _, by omega⟩, ⟨Nat.le_refl _, by omega⟩, ⟨⟨by simp, by simp⟩, by simp, by simp⟩⟩
def BeginPost (xs : List Pt) (id : Int) (s : ByteArray) (w : World) (e : Ending) (w' : World) : Prop := ∃ A n c A' n' c', e = .returned (.tuple #[planV A n c A' n' c', .int .i64 (beginE xs id s)]) ∧ PlanAt w' w'.heap.size A n c A' n' c' (beginP xs id s) ∧ Below w.heap.size w w'
end Go.Proofs.Ytgkcenhopmjmlaa

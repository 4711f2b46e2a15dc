/- ref05.Least and ref05.Insert: the walks. -/
import Derived.Test.YtgkcenhopmjmlaaBendMark
import Derived.Test.YtgkcenhopmjmlaaRings
namespace Go.Proofs.Ytgkcenhopmjmlaa
open Go.RowKit Go.Lib
theorem PlanOwn.frz {B n c n' c' k : Nat} {W : World} {A : Option Addr} {ad : Addr} {p : Plan} {hs : List Hd} (h : PlanOwn B W A n c (some ad) n' c' p hs) (hk : k < n') : W.frozen? ⟨(ad.add (k * 3)).block, (ad.add (k * 3)).off + 1, none⟩ = false := by
  obtain ⟨g, cap, e, hb, hlt⟩ := h.row.form (by omega)
  have e1 : ad = ⟨g, 0, none⟩ := by cases e; rfl
  have e2 : cap = c' := by cases e; rfl
  subst e1 e2
  have hadr : (⟨((⟨g, 0, none⟩ : Addr).add (k * 3)).block, ((⟨g, 0, none⟩ : Addr).add (k * 3)).off + 1, none⟩ : Addr) = ⟨g, k * 3 + 1, none⟩ := by rw [add_off3 _ _ _ (by omega)]; simp [Addr.add]
  rw [hadr]
  exact h.row.frozenAt _
end Go.Proofs.Ytgkcenhopmjmlaa

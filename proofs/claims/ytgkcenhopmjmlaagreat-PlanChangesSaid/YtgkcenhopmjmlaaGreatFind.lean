/- plan.Corner, plan.Find, plan.Left: the walks. -/
import Derived.Carry
import Derived.Laws.IdiomCopy
import Derived.Laws.IdiomStrings
import Derived.Lib.EndianMore
import Derived.Maps.RangeRun
import Derived.WideKeyRuns
import Derived.Test.YtgkcenhopmjmlaaGreatPlanLaw
namespace Go.Proofs.YtgkcenhopmjmlaaGreat
open Go.RowKit
theorem goodL_one (q : Pt) : goodL [q] = good q := by simp [goodL]
theorem planE_b0 {p : Plan} (h : planB p = false) : planE p = 2 := by unfold planE; rw [h]; rfl
theorem planE_b1 {p : Plan} (h : planB p = true) : planE p = 0 := by unfold planE; rw [h]; rfl
theorem planB_sound {p : Plan} (h : planB p = true) : SoundP p := by unfold planB at h; simpa using h
end Go.Proofs.YtgkcenhopmjmlaaGreat

/- merestonelaw04.WindowHas answers true for every input and leaves its arguments as they were. No condition. -/
import Derived.Test.YtfdagmlfaklcbaaLift
import Derived.Test.YtfdagmlfaklcbaaLiftWin
import Derived.Test.YtfdagmlfaklcbaaLawWindowHas
namespace Go.Proofs.Ytfdagmlfaklcbaa
open Go.RowKit Go.WideShapes Go.ChangeShapes Go.Deep Go.ChangeAt Go.Joins
set_option maxRecDepth 100000 in
theorem windowHas_lifted (os : Os) (started : os.Started) (H : Type) (enc : TypeId × Value → H) :
    ReturnsInHanded {} Try.checked os 5 .any (Rows.windowHasSpec.pre6 enc Try.prog Try.f5 Rows.windowHasRow.domain false) (Rows.windowHasSpec.post enc Try.prog Try.f5 false true false false) := by
  refine returnsInHanded_of_change_sized (C := Try.checked) Try.own started (by kernel_rfl) Try.func5
    (ChangeSpec.witness6 (enc := enc) (C := Try.checked) false ⟨#[], #[.agg #[.int .i64 0, .int .i64 0, .int .i64 0, .int .i64 0], .agg #[.int .i64 0, .int .i64 0]], []⟩ 8 (by kernel_rfl) (by kernel_rfl) (by kernel_rfl) (by kernel_rfl)) ?_
  intro W base args ds gs before hval0 hW _ hsz0 _
  have hsz : (DataW.weightsEach Try.prog (Try.f5.params.toList ++ Rows.windowHasSpec.plain.varTypes Try.prog) (ds ++ gs)).all (· ≤ reachBytes) = true := hsz0
  clear hsz0
  have hval : ∀ (j : Nat) t v, Try.f5.params[j]? = some t → args[j]? = some v → Value.okWide Try.prog W .any base t v := hval0
  have hW' := hW
  obtain ⟨p, q, hA0, hV, rfl, _, _⟩ := hW
  have hA : DataW.TrodAll enc Try.prog W 0 (fun _ => true) true Try.f5.params.toList args.toList ds p := hA0
  rw [Try.params5] at hA hval hsz
  obtain ⟨v0, v1, d0, d1, p0, p1, rfl, rfl, rfl, h0, h1⟩ := trodAll_two hA
  obtain ⟨rfl, rfl⟩ := trodVars_none hV
  obtain ⟨wi0, rfl, hwi0⟩ := open_window (hval 0 36 v0 rfl rfl) h0
  obtain ⟨pt1, rfl, hpt1⟩ := open_point (hval 1 23 v1 rfl rfl) h1
  clear hA0 hval0
  refine (windowHas_any wi0 pt1 W hwi0 hpt1).mono fun e W' ⟨he, hb⟩ => ⟨_, he, ?_⟩
  exact law_post Try.laidOut (by kernel_rfl) (by kernel_rfl) Try.underlying4 rfl hW' rfl rfl rfl hb

theorem windowHas_holds : Rows.WindowHasSaid :=
  OpenClaim.holds_of_wide 5 Try.f5 rfl rfl rfl rfl rfl rfl rfl ⟨rfl, rfl, rfl, rfl, rfl⟩ rfl rfl rfl rfl rfl (by kernel_rfl) Try.func5 (by kernel_rfl)
    (of_decide_eq_true (by kernel_rfl)) (by unfold Func.isWrapper; rw [if_neg (of_decide_eq_false (by kernel_rfl))]; exact ⟨rfl, rfl⟩)
    (fun os started H enc _ => windowHas_lifted os started H enc)
#print axioms windowHas_holds
end Go.Proofs.Ytfdagmlfaklcbaa

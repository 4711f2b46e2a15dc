/- merestonelaw14.RecordItems answers true for every input and leaves its arguments as they were. No condition. -/
import Derived.Test.YtnpjggcgnbgkjaaGreatK01
import Derived.Test.YtnpjggcgnbgkjaaGreatK17
import Derived.Test.YtnpjggcgnbgkjaaGreatK35
namespace Go.Proofs.YtnpjggcgnbgkjaaGreat
open Go.RowKit Go.WideShapes Go.ChangeShapes Go.Deep Go.ChangeAt Go.Joins
set_option maxRecDepth 100000 in
theorem recordItems_lifted (os : Os) (started : os.Started) (H : Type) (enc : TypeId × Value → H) :
    ReturnsInHanded {} Tryz.checked os 5 .any (Rows.recordItemsSpec.pre6 enc Tryz.prog Tryz.f5 Rows.recordItemsRow.domain false) (Rows.recordItemsSpec.post enc Tryz.prog Tryz.f5 false true false false) := by
  refine returnsInHanded_of_change_sized (C := Tryz.checked) Tryz.own started (by kernel_rfl) Tryz.func5
    (ChangeSpec.witness6 (enc := enc) (C := Tryz.checked) false ⟨#[], #[.agg #[.slice none 0 0, .slice none 0 0]], []⟩ 8 (by kernel_rfl) (by kernel_rfl) (by kernel_rfl) (by kernel_rfl)) ?_
  intro W base args ds gs before hval0 hW _ hsz0 _
  have hsz : (DataW.weightsEach Tryz.prog (Tryz.f5.params.toList ++ Rows.recordItemsSpec.plain.varTypes Tryz.prog) (ds ++ gs)).all (· ≤ reachBytes) = true := hsz0
  clear hsz0
  have hval : ∀ (j : Nat) t v, Tryz.f5.params[j]? = some t → args[j]? = some v → Value.okWide Tryz.prog W .any base t v := hval0
  have hW' := hW
  obtain ⟨p, q, hA0, hV, rfl, _, _⟩ := hW
  have hA : DataW.TrodAll enc Tryz.prog W 0 (fun _ => true) true Tryz.f5.params.toList args.toList ds p := hA0
  rw [Tryz.params5] at hA hval hsz
  obtain ⟨v0, d0, rfl, rfl, h0⟩ := trodAll_one hA
  obtain ⟨rfl, rfl⟩ := trodVars_none hV
  obtain ⟨pl0, A0, n0, c0, A'0, n'0, c'0, rfl, hpl0⟩ := open_plan (hval 0 26 v0 rfl rfl) h0 (fun k hk => of_decide_eq_true (List.all_eq_true.1 hsz k (DataW.weights_mem_each (j := 0) rfl rfl k hk)))
  clear hA0 hval0
  refine (recordItems_any pl0 A0 A'0 n0 c0 n'0 c'0 W hpl0).mono fun e W' ⟨he, hb⟩ => ⟨_, he, ?_⟩
  exact law_post Tryz.laidOut (by kernel_rfl) (by kernel_rfl) Tryz.underlying4 rfl hW' rfl rfl rfl hb

theorem recordItems_inp : (Rows.recordItemsRow.inPlace == Tryz.prog.inPlace 5) = true := by kernel_rfl
theorem recordItems_unf : (Rows.recordItemsRow.unfollowed == Tryz.prog.unfollowed 5) = true := by kernel_rfl
theorem recordItems_rec : (Rows.recordItemsRow.recurses == Tryz.prog.recurses 5) = true := by kernel_rfl
theorem recordItems_nam : (Rows.recordItemsRow.named == Tryz.prog.varsNamed 5) = true := by kernel_rfl
theorem recordItems_closed : joinedFacts Tryz.prog 5 Tryz.f5 Rows.recordItemsSpec Rows.recordItemsRow = true := by
  unfold joinedFacts
  rw [recordItems_inp, recordItems_unf, recordItems_rec, recordItems_nam]
  kernel_rfl
theorem recordItems_holds : Rows.RecordItemsSaid :=
  OpenClaim.holds_of_wide 5 Tryz.f5 rfl rfl rfl rfl rfl rfl rfl ⟨rfl, rfl, rfl, rfl, rfl⟩ rfl rfl rfl rfl rfl (by kernel_rfl) Tryz.func5 recordItems_closed
    (of_decide_eq_true (by kernel_rfl)) (by unfold Func.isWrapper; rw [if_neg (of_decide_eq_false (by kernel_rfl))]; exact ⟨rfl, rfl⟩)
    (fun os started H enc _ => recordItems_lifted os started H enc)
#print axioms recordItems_holds
end Go.Proofs.YtnpjggcgnbgkjaaGreat

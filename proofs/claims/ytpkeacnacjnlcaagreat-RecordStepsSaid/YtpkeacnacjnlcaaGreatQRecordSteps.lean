/- merestonelaw14.RecordSteps answers true for every input and leaves its arguments as they were. No condition. -/
import Derived.Test.YtpkeacnacjnlcaaGreatK01
import Derived.Test.YtpkeacnacjnlcaaGreatK15
import Derived.Test.YtpkeacnacjnlcaaGreatK54
namespace Go.Proofs.YtpkeacnacjnlcaaGreat
open Go.RowKit Go.WideShapes Go.ChangeShapes Go.Deep Go.ChangeAt Go.Joins
set_option maxRecDepth 100000 in
theorem recordSteps_lifted (os:Os) (started:os.Started) (H:Type) (enc:TypeId×Value→H):
 ReturnsInHanded {} Tryz.checked os 5 .any (Rows.recordStepsSpec.pre6 enc Tryz.prog Tryz.f5 Rows.recordStepsRow.domain false) (Rows.recordStepsSpec.post enc Tryz.prog Tryz.f5 false true false false):=by
 refine returnsInHanded_of_change_sized (C:=Tryz.checked) Tryz.own started (by kernel_rfl) Tryz.func5
  (ChangeSpec.witness6 (enc:=enc) (C:=Tryz.checked) false ⟨#[],#[.agg #[.slice none 0 0,.slice none 0 0],.agg #[.slice none 0 0,.slice none 0 0]],[]⟩ 8 (by kernel_rfl) (by kernel_rfl) (by kernel_rfl) (by kernel_rfl)) ?_
 intro W base args ds gs before hval0 hW _ hsz0 _
 have hsz:(DataW.weightsEach Tryz.prog (Tryz.f5.params.toList++Rows.recordStepsSpec.plain.varTypes Tryz.prog) (ds++gs)).all (· ≤ reachBytes)=true:=hsz0
 clear hsz0
 have hval:∀(j:Nat) t v,Tryz.f5.params[j]?=some t→args[j]?=some v→Value.okWide Tryz.prog W .any base t v:=hval0
 have hW':=hW
 obtain⟨p,q,hA0,hV,rfl,_,_⟩:=hW
 have hA:DataW.TrodAll enc Tryz.prog W 0 (fun _=>true) true Tryz.f5.params.toList args.toList ds p:=hA0
 rw[Tryz.params5]at hA hval hsz
 obtain⟨v0,v1,d0,d1,p0,p1,rfl,rfl,rfl,h0,h1⟩:=trodAll_two hA
 obtain⟨rfl,rfl⟩:=trodVars_none hV
 obtain⟨pl0,A0,n0,c0,A'0,n'0,c'0,rfl,hpl0⟩:=open_plan (hval 0 30 v0 rfl rfl) h0 (fun k hk=>of_decide_eq_true (List.all_eq_true.1 hsz k (DataW.weights_mem_each (j:=0) rfl rfl k hk)))
 obtain⟨pl1,A1,n1,c1,A'1,n'1,c'1,rfl,hpl1⟩:=open_plan (hval 1 30 v1 rfl rfl) h1 (fun k hk=>of_decide_eq_true (List.all_eq_true.1 hsz k (DataW.weights_mem_each (j:=1) rfl rfl k hk)))
 clear hA0 hval0
 refine(recordSteps_any pl0 pl1 A0 A'0 A1 A'1 n0 c0 n'0 c'0 n1 c1 n'1 c'1 W hpl0 hpl1).mono fun e W' ⟨he,hb⟩=>⟨_,he,?_⟩
 exact law_post Tryz.laidOut (by kernel_rfl) (by kernel_rfl) Tryz.underlying4 rfl hW' rfl rfl rfl hb
theorem recordSteps_inp:(Rows.recordStepsRow.inPlace==Tryz.prog.inPlace 5)=true:=by kernel_rfl
theorem recordSteps_unf:(Rows.recordStepsRow.unfollowed==Tryz.prog.unfollowed 5)=true:=by kernel_rfl
theorem recordSteps_rec:(Rows.recordStepsRow.recurses==Tryz.prog.recurses 5)=true:=by kernel_rfl
theorem recordSteps_nam:(Rows.recordStepsRow.named==Tryz.prog.varsNamed 5)=true:=by kernel_rfl
theorem recordSteps_closed:joinedFacts Tryz.prog 5 Tryz.f5 Rows.recordStepsSpec Rows.recordStepsRow=true:=by
 unfold joinedFacts
 rw[recordSteps_inp,recordSteps_unf,recordSteps_rec,recordSteps_nam]
 kernel_rfl
theorem recordSteps_holds:Rows.RecordStepsSaid:=
 OpenClaim.holds_of_wide 5 Tryz.f5 rfl rfl rfl rfl rfl rfl rfl ⟨rfl,rfl,rfl,rfl,rfl⟩ rfl rfl rfl rfl rfl (by kernel_rfl) Tryz.func5 recordSteps_closed
  (of_decide_eq_true (by kernel_rfl)) (by unfold Func.isWrapper;rw[if_neg (of_decide_eq_false (by kernel_rfl))];exact⟨rfl,rfl⟩)
  (fun os started H enc _=>recordSteps_lifted os started H enc)
#print axioms recordSteps_holds
end Go.Proofs.YtpkeacnacjnlcaaGreat

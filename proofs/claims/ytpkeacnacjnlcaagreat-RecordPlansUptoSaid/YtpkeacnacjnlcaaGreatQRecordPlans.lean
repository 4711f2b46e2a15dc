/- merestonelaw14.RecordPlans answers true for every input whose arguments are together of bulk at most 1048576 (the given second form), and leaves its arguments as they were. -/
import Derived.Deep.CondSized
import Derived.Test.YtpkeacnacjnlcaaGreatK01
import Derived.Test.YtpkeacnacjnlcaaGreatK18
import Derived.Test.YtpkeacnacjnlcaaGreatK28
namespace Go.Proofs.YtpkeacnacjnlcaaGreat
open Go.RowKit Go.WideShapes Go.ChangeShapes Go.Deep Go.ChangeAt Go.Joins
set_option maxRecDepth 100000 in
theorem recordPlans_lifted (os:Os) (started:os.Started) (H:Type) (enc:TypeId×Value→H) (F:Stop.Interp):
 ReturnsInHanded {} Tryz.checked os 7 .any ((Rows.OpenSpec.upto Rows.recordPlansSpec).pre6 enc Tryz.prog Tryz.f7 Rows.recordPlansUptoRow.domain false) (((Rows.OpenSpec.upto Rows.recordPlansSpec).at F).post enc Tryz.prog Tryz.f7 false true false false):=by
 refine returnsInHanded_of_cond_sized (C:=Tryz.checked) (s:=Rows.OpenSpec.upto Rows.recordPlansSpec) (k:=Rows.uptoSmall) rfl Tryz.own started (by kernel_rfl) Tryz.func7
  (OpenSpec.witness (enc:=enc) (C:=Tryz.checked) (s:=Rows.OpenSpec.upto Rows.recordPlansSpec) (k:=Rows.uptoSmall) rfl false ⟨#[],#[.slice none 0 0],[]⟩ 8 (by kernel_rfl) (by kernel_rfl) (by kernel_rfl) (x:=([.nil],[],[])) (by kernel_rfl) rfl (by kernel_rfl)) ?_
 intro W base args ds gs before hval0 hW _ hk hsz0 _
 have hsz:(DataW.weightsEach Tryz.prog (Tryz.f7.params.toList++Rows.recordPlansSpec.plain.varTypes Tryz.prog) (ds++gs)).all (· ≤ reachBytes)=true:=hsz0
 clear hsz0
 have hval:∀(j:Nat) t v,Tryz.f7.params[j]?=some t→args[j]?=some v→Value.okWide Tryz.prog W .any base t v:=hval0
 have hW':=hW
 obtain⟨p,q,hA0,hV,rfl,_,_⟩:=hW
 have hA:DataW.TrodAll enc Tryz.prog W 0 (fun _=>true) true Tryz.f7.params.toList args.toList ds p:=hA0
 rw[Tryz.params7]at hA hval hsz
 obtain⟨v0,d0,rfl,rfl,h0⟩:=trodAll_one hA
 obtain⟨rfl,rfl⟩:=trodVars_none hV
 obtain⟨ds0,A0,c0,rfl,hi0,hl0,hb0⟩:=open_items (hval 0 43 v0 rfl rfl) h0 (fun k hk=>of_decide_eq_true (List.all_eq_true.1 hsz k (DataW.weights_mem_each (j:=0) rfl rfl k hk)))
 clear hA0 hval0
 refine(recordPlans_any ds0 A0 ds0.length c0 W hi0 hl0 (vals_bulk hb0 hk)).mono fun e W' ⟨he,hb⟩=>⟨_,he,?_⟩
 exact law_post Tryz.laidOut (by kernel_rfl) (by kernel_rfl) Tryz.underlying4 rfl hW' rfl rfl rfl hb
theorem recordPlans_inp:(Rows.recordPlansUptoRow.inPlace==Tryz.prog.inPlace 7)=true:=by kernel_rfl
theorem recordPlans_unf:(Rows.recordPlansUptoRow.unfollowed==Tryz.prog.unfollowed 7)=true:=by kernel_rfl
theorem recordPlans_rec:(Rows.recordPlansUptoRow.recurses==Tryz.prog.recurses 7)=true:=by kernel_rfl
theorem recordPlans_nam:(Rows.recordPlansUptoRow.named==Tryz.prog.varsNamed 7)=true:=by kernel_rfl
theorem recordPlans_closed:joinedFacts Tryz.prog 7 Tryz.f7 (Rows.OpenSpec.upto Rows.recordPlansSpec).bare Rows.recordPlansUptoRow=true:=by
 unfold joinedFacts
 rw[recordPlans_inp,recordPlans_unf,recordPlans_rec,recordPlans_nam]
 kernel_rfl
theorem recordPlans_holds:Rows.RecordPlansUptoSaid:=
 OpenClaim.holds_of_cond 7 Tryz.f7 rfl rfl rfl rfl rfl rfl rfl ⟨rfl,rfl,rfl,rfl,rfl⟩ rfl rfl rfl rfl rfl (by kernel_rfl) Tryz.func7 recordPlans_closed
  (of_decide_eq_true (by kernel_rfl)) (by unfold Func.isWrapper;rw[if_neg (of_decide_eq_false (by kernel_rfl))];exact⟨rfl,rfl⟩)
  (fun os started H enc _ F=>recordPlans_lifted os started H enc F)
#print axioms recordPlans_holds
end Go.Proofs.YtpkeacnacjnlcaaGreat

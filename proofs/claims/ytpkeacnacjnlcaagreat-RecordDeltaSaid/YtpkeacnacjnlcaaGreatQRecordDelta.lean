/- merestonelaw14.RecordDelta answers true for every input and leaves its arguments as they were. No condition. -/
import Derived.Test.YtpkeacnacjnlcaaGreatK01
import Derived.Test.YtpkeacnacjnlcaaGreatK29
import Derived.Test.YtpkeacnacjnlcaaGreatK49
namespace Go.Proofs.YtpkeacnacjnlcaaGreat
open Go.RowKit Go.WideShapes Go.ChangeShapes Go.Deep Go.ChangeAt Go.Joins
set_option maxRecDepth 100000 in
theorem recordDelta_lifted (os:Os) (started:os.Started) (H:Type) (enc:TypeId×Value→H):
 ReturnsInHanded {} Tryz.checked os 4 .any (Rows.recordDeltaSpec.pre6 enc Tryz.prog Tryz.f4 Rows.recordDeltaRow.domain false) (Rows.recordDeltaSpec.post enc Tryz.prog Tryz.f4 false true false false):=by
 refine returnsInHanded_of_change_sized (C:=Tryz.checked) Tryz.own started (by kernel_rfl) Tryz.func4
  (ChangeSpec.witness6 (enc:=enc) (C:=Tryz.checked) false ⟨#[],#[.slice none 0 0,.slice none 0 0],[]⟩ 8 (by kernel_rfl) (by kernel_rfl) (by kernel_rfl) (by kernel_rfl)) ?_
 intro W base args ds gs before hval0 hW _ hsz0 _
 have hsz:(DataW.weightsEach Tryz.prog (Tryz.f4.params.toList++Rows.recordDeltaSpec.plain.varTypes Tryz.prog) (ds++gs)).all (· ≤ reachBytes)=true:=hsz0
 clear hsz0
 have hval:∀(j:Nat) t v,Tryz.f4.params[j]?=some t→args[j]?=some v→Value.okWide Tryz.prog W .any base t v:=hval0
 have hW':=hW
 obtain⟨p,q,hA0,hV,rfl,_,_⟩:=hW
 have hA:DataW.TrodAll enc Tryz.prog W 0 (fun _=>true) true Tryz.f4.params.toList args.toList ds p:=hA0
 rw[Tryz.params4]at hA hval hsz
 obtain⟨v0,v1,d0,d1,p0,p1,rfl,rfl,rfl,h0,h1⟩:=trodAll_two hA
 obtain⟨rfl,rfl⟩:=trodVars_none hV
 obtain⟨ds0,A0,c0,rfl,hi0,hl0,hb0⟩:=open_items (hval 0 43 v0 rfl rfl) h0 (fun k hk=>of_decide_eq_true (List.all_eq_true.1 hsz k (DataW.weights_mem_each (j:=0) rfl rfl k hk)))
 obtain⟨ds1,A1,c1,rfl,hi1,hl1,hb1⟩:=open_items (hval 1 43 v1 rfl rfl) h1 (fun k hk=>of_decide_eq_true (List.all_eq_true.1 hsz k (DataW.weights_mem_each (j:=1) rfl rfl k hk)))
 clear hA0 hval0
 refine(recordDelta_any ds0 ds1 A0 A1 ds0.length c0 ds1.length c1 W hi0 hi1 hl0 hl1).mono fun e W' ⟨he,hb⟩=>⟨_,he,?_⟩
 exact law_post Tryz.laidOut (by kernel_rfl) (by kernel_rfl) Tryz.underlying4 rfl hW' rfl rfl rfl hb
theorem recordDelta_inp:(Rows.recordDeltaRow.inPlace==Tryz.prog.inPlace 4)=true:=by kernel_rfl
theorem recordDelta_unf:(Rows.recordDeltaRow.unfollowed==Tryz.prog.unfollowed 4)=true:=by kernel_rfl
theorem recordDelta_rec:(Rows.recordDeltaRow.recurses==Tryz.prog.recurses 4)=true:=by kernel_rfl
theorem recordDelta_nam:(Rows.recordDeltaRow.named==Tryz.prog.varsNamed 4)=true:=by kernel_rfl
theorem recordDelta_closed:joinedFacts Tryz.prog 4 Tryz.f4 Rows.recordDeltaSpec Rows.recordDeltaRow=true:=by
 unfold joinedFacts
 rw[recordDelta_inp,recordDelta_unf,recordDelta_rec,recordDelta_nam]
 kernel_rfl
theorem recordDelta_holds:Rows.RecordDeltaSaid:=
 OpenClaim.holds_of_wide 4 Tryz.f4 rfl rfl rfl rfl rfl rfl rfl ⟨rfl,rfl,rfl,rfl,rfl⟩ rfl rfl rfl rfl rfl (by kernel_rfl) Tryz.func4 recordDelta_closed
  (of_decide_eq_true (by kernel_rfl)) (by unfold Func.isWrapper;rw[if_neg (of_decide_eq_false (by kernel_rfl))];exact⟨rfl,rfl⟩)
  (fun os started H enc _=>recordDelta_lifted os started H enc)
#print axioms recordDelta_holds
end Go.Proofs.YtpkeacnacjnlcaaGreat

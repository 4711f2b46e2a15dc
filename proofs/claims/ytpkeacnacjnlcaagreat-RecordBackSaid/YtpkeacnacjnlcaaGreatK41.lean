/- merestonelaw14.RecordBack answers true for every input and leaves its arguments as they were. No condition. -/
import Derived.Test.YtpkeacnacjnlcaaGreatK01
import Derived.Test.YtpkeacnacjnlcaaGreatK07
import Derived.Test.YtpkeacnacjnlcaaGreatK18
import Derived.Test.YtpkeacnacjnlcaaGreatK40
namespace Go.Proofs.YtpkeacnacjnlcaaGreat
open Go.RowKit Go.WideShapes Go.ChangeShapes Go.Deep Go.ChangeAt Go.Joins
set_option maxRecDepth 100000 in
theorem recordBack_lifted (os:Os) (started:os.Started) (H:Type) (enc:TypeId×Value→H):
 ReturnsInHanded {} Tryz.checked os 6 .any (Rows.recordBackSpec.pre6 enc Tryz.prog Tryz.f6 Rows.recordBackRow.domain false) (Rows.recordBackSpec.post enc Tryz.prog Tryz.f6 false true false false):=by
 refine returnsInHanded_of_change_sized (C:=Tryz.checked) Tryz.own started (by kernel_rfl) Tryz.func6
  (ChangeSpec.witness6 (enc:=enc) (C:=Tryz.checked) false ⟨#[],#[.agg #[.slice none 0 0,.slice none 0 0],.slice none 0 0,.int .u16 0,.int .u8 0],[]⟩ 8 (by kernel_rfl) (by kernel_rfl) (by kernel_rfl) (by kernel_rfl)) ?_
 intro W base args ds gs before hval0 hW _ hsz0 _
 have hsz:(DataW.weightsEach Tryz.prog (Tryz.f6.params.toList++Rows.recordBackSpec.plain.varTypes Tryz.prog) (ds++gs)).all (· ≤ reachBytes)=true:=hsz0
 clear hsz0
 have hval:∀(j:Nat) t v,Tryz.f6.params[j]?=some t→args[j]?=some v→Value.okWide Tryz.prog W .any base t v:=hval0
 have hW':=hW
 obtain⟨p,q,hA0,hV,rfl,_,_⟩:=hW
 have hA:DataW.TrodAll enc Tryz.prog W 0 (fun _=>true) true Tryz.f6.params.toList args.toList ds p:=hA0
 rw[Tryz.params6]at hA hval hsz
 obtain⟨v0,v1,v2,v3,d0,d1,d2,d3,p0,p1,p2,p3,rfl,rfl,rfl,h0,h1,h2,h3⟩:=trodAll_four hA
 obtain⟨rfl,rfl⟩:=trodVars_none hV
 obtain⟨pl0,A0,n0,c0,A'0,n'0,c'0,rfl,hpl0⟩:=open_plan (hval 0 30 v0 rfl rfl) h0 (fun k hk=>of_decide_eq_true (List.all_eq_true.1 hsz k (DataW.weights_mem_each (j:=0) rfl rfl k hk)))
 obtain⟨xs1,A1,cap1,rfl,hr1,hn1,hc1,hd1⟩:=open_bytes Tryz.underlying50 Tryz.underlying5 Tryz.cells_u8 Tryz.bytes_u8 (hval 1 50 v1 rfl rfl) h1 (fun elems spare hd=>sized_slice hsz (j:=1) (t:=50) (e:=5) rfl (by rw[hd];rfl) Tryz.underlying50)
 obtain⟨x2,rfl,rfl,rfl,wx2⟩:=open_int Tryz.underlying63 (hval 2 63 v2 rfl rfl) h2
 have bx2:=bounds_u16 wx2
 obtain⟨x3,rfl,rfl,rfl,wx3⟩:=open_int Tryz.underlying5 (hval 3 5 v3 rfl rfl) h3
 have bx3:=bounds_u8 wx3
 clear hA0 hval0
 refine(recordBack_any pl0 A0 A'0 n0 c0 n'0 c'0 xs1 A1 cap1 x2 x3 W hpl0 hr1 bx2 bx3).mono fun e W' ⟨he,hb⟩=>⟨_,he,?_⟩
 exact law_post Tryz.laidOut (by kernel_rfl) (by kernel_rfl) Tryz.underlying4 rfl hW' rfl rfl rfl hb
theorem recordBack_inp:(Rows.recordBackRow.inPlace==Tryz.prog.inPlace 6)=true:=by kernel_rfl
theorem recordBack_unf:(Rows.recordBackRow.unfollowed==Tryz.prog.unfollowed 6)=true:=by kernel_rfl
theorem recordBack_rec:(Rows.recordBackRow.recurses==Tryz.prog.recurses 6)=true:=by kernel_rfl
theorem recordBack_nam:(Rows.recordBackRow.named==Tryz.prog.varsNamed 6)=true:=by kernel_rfl
theorem recordBack_closed:joinedFacts Tryz.prog 6 Tryz.f6 Rows.recordBackSpec Rows.recordBackRow=true:=by
 unfold joinedFacts
 rw[recordBack_inp,recordBack_unf,recordBack_rec,recordBack_nam]
 kernel_rfl
theorem recordBack_holds:Rows.RecordBackSaid:=
 OpenClaim.holds_of_wide 6 Tryz.f6 rfl rfl rfl rfl rfl rfl rfl ⟨rfl,rfl,rfl,rfl,rfl⟩ rfl rfl rfl rfl rfl (by kernel_rfl) Tryz.func6 recordBack_closed
  (of_decide_eq_true (by kernel_rfl)) (by unfold Func.isWrapper;rw[if_neg (of_decide_eq_false (by kernel_rfl))];exact⟨rfl,rfl⟩)
  (fun os started H enc _=>recordBack_lifted os started H enc)
#print axioms recordBack_holds
end Go.Proofs.YtpkeacnacjnlcaaGreat

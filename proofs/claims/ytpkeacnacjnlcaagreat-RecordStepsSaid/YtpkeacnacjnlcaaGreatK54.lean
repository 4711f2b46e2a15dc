/- merestonelaw14.RecordSteps: the walk. -/
import Derived.Deep.CutBlock
import Derived.Deep.DeepCutAuto
import Derived.Test.YtpkeacnacjnlcaaGreatK12
import Derived.Test.YtpkeacnacjnlcaaGreatK52
namespace Go.Proofs.YtpkeacnacjnlcaaGreat
open Go.RowKit Go.Lib
/-- The keys of what has to be put, of the first k. -/
def keysOf (l:List ItH):List BsH:=l.map fun e=>(e.1.k,e.2.1)
def KsF (dp:List ItH) (Y:World) (L:Option Addr) (cl k:Nat) (W:World):Prop:=
 Below Y.heap.size Y W∧W.ownsRow Y.heap.size 50 1 (.slice L k cl) k (bsV (keysOf (dp.take k)))
theorem KsF.push {dp:List ItH} {Y U w6:World} {L A6:Option Addr} {cl k c6:Nat} {y:ItH} {obj:Obj} (h:KsF dp Y L cl k U) (hy:∃hk:k<dp.length,dp[k]=y) (hown:w6.ownsRow Y.heap.size 50 1 (.slice A6 (k+1) c6) (k+1) (bsV (keysOf (dp.take k))++bsV [(y.1.k,y.2.1)])) (hg:(U.alloc obj).grownBy w6 (Value.slice L k cl).ownBlock):KsF dp Y A6 c6 (k+1) w6:=by
 have hba:=h.1.alloc h.1.size obj
 obtain⟨hk,hy⟩:=hy
 refine⟨hba.grown hg hba.size (fun g e=>(h.2.lt g e).1),?_⟩
 rw[List.take_succ_eq_append_getElem hk,hy]
 unfold keysOf bsV at *
 rw[List.map_append,List.map_append]
 exact hown
theorem num_idBy {id:Int} (h:idB id=true):((numL (idBy id):Nat):Int)=id:=by
 have:=id_of_head h 0
 have e:((pcHead id++[(0:UInt8)]).drop 1).take 4=idBy id:=List.take_left' (idBy_len _)
 rw[e]at this
 exact this
theorem has_next {l:List Int} {z:Int} {k:Nat} (h:k<l.length):decide (z∈l.take (k+1))=(decide (z∈l.take k)||(l[k]==z)):=by
 rw[List.take_succ_eq_append_getElem h,Bool.eq_iff_iff,decide_eq_true_eq,Bool.or_eq_true,decide_eq_true_eq,beq_iff_eq,List.mem_append,List.mem_singleton]
 exact or_congr Iff.rfl eq_comm
/-- What is held while the keys are looked through. -/
structure LkF (lc:List Int) (D:Option Addr) (dn:Nat) (kl:List BsH) (L:Option Addr) (N cl:Nat) (w W:World):Prop where
 bel:Below w.heap.size w W
 ch:Reads W W.heap.size 1 D dn (intsV lc)
 ks:BsAt W W.heap.size L N cl kl
theorem LkF.to {D L:Option Addr} {dn N cl:Nat} {lc:List Int} {kl:List BsH} {w W W':World} (h:LkF lc D dn kl L N cl w W) (hb:Below W.heap.size W W'):LkF lc D dn kl L N cl w W':=
 ⟨below_on h.bel (Nat.le_refl _) hb,h.ch.on hb,h.ks.on hb⟩
set_option maxRecDepth 100000 in
set_option maxHeartbeats 12800000 in
theorem recordSteps_any (p q:Plan) (A A' B B':Option Addr) (n c n' c' m d m' d':Nat) (w:World) (hp:PlanAt w w.heap.size A n c A' n' c' p) (hq:PlanAt w w.heap.size B m d B' m' d' q):
 Calls Tryz.prog 5 #[planV A n c A' n' c',planV B m d B' m' d'] w fun e w'=>e= .returned (.bool true)∧Below w.heap.size w w':=by
 obtain⟨W,hwa⟩:∃wa:World,wa=(w.alloc (.cells #[.slice A n c,.slice A' n' c'] 30)).alloc (.cells #[.slice B m d,.slice B' m' d'] 30):=⟨_,rfl⟩
 have hB0:Below w.heap.size w W:=by rw[hwa];exact((Below.refl _ _).alloc (Nat.le_refl _) _).alloc (by simp) _
 have hF:CgF p A n c A' n' c' q B m d B' m' d' w W:=by
  refine⟨hB0,by rw[hwa];simp,by rw[hwa];exact Blk.alloc (PlK.new w A n c A' n' c') _,?_,hp.below hB0,hq.below hB0⟩
  have:=PlK.new (w.alloc (.cells #[.slice A n c,.slice A' n' c'] 30)) B m d B' m' d'
  rw[World.size_alloc]at this
  rw[hwa]
  exact this
 have H0:=Lib.hid hF
 have HL:=Lib.hid (And.intro hp.lens hq.lens)
 clear hF hp hq hB0
 go_enter Tryz.func5,Tryz.ntmps5
 go_upto_region 1 with fail
 rw[←hwa]
 clear hwa
 go_wp2_with fail
 refine(ans14_any W).mono ?_
 rintro e w1 ⟨rfl,hb1⟩
 have H1:=Lib.hid (H0.out.to hb1)
 obtain⟨q1,q2,q3⟩:=H1.out.2.2.1.facts
 obtain⟨z1,z2,z3⟩:=H1.out.2.2.2.1.facts
 clear hb1 H0
 go_wp2_with fail
 refine(few14_any p A A' n c n' c' w1 H1.out.one).mono ?_
 rintro e w2 ⟨b,rfl,hfp,hb2⟩
 have H2:=Lib.hid (H1.out.to hb2)
 clear q1 q2 q3 z1 z2 z3
 obtain⟨q1,q2,q3⟩:=H2.out.2.2.1.facts
 obtain⟨z1,z2,z3⟩:=H2.out.2.2.2.1.facts
 clear hb2 H1
 rcases b with _|_
 ·clear hfp
  go_wp2_with fail
  refine(ans14_any w2).mono ?_
  rintro e v ⟨rfl,hbv⟩
  have HV:=Lib.hid (H2.out.to hbv).1
  clear hbv H2 q1 q2 q3 z1 z2 z3
  go_wp2_with fail
  go_ret
  exact⟨rfl,HV.out⟩
 have hp80:=(hfp rfl).1
 clear hfp
 go_wp2_with fail
 refine(few14_any q B B' m d m' d' w2 H2.out.two).mono ?_
 rintro e w3 ⟨b,rfl,hfq,hb3⟩
 have H3:=Lib.hid (H2.out.to hb3)
 clear q1 q2 q3 z1 z2 z3
 obtain⟨q1,q2,q3⟩:=H3.out.2.2.1.facts
 obtain⟨z1,z2,z3⟩:=H3.out.2.2.2.1.facts
 clear hb3 H2
 rcases b with _|_
 ·clear hfq
  go_wp2_with fail
  refine(ans14_any w3).mono ?_
  rintro e v ⟨rfl,hbv⟩
  have HV:=Lib.hid (H3.out.to hbv).1
  clear hbv H3 q1 q2 q3 z1 z2 z3
  go_wp2_with fail
  go_ret
  exact⟨rfl,HV.out⟩
 have hq80:=(hfq rfl).1
 clear hfq
 go_wp2_with fail
 refine(checkPR_any p A A' n c n' c' w3 H3.out.one).mono ?_
 rintro e w4 ⟨rfl,hb4⟩
 have H4:=Lib.hid (H3.out.to hb4)
 clear q1 q2 q3 z1 z2 z3
 obtain⟨q1,q2,q3⟩:=H4.out.2.2.1.facts
 obtain⟨z1,z2,z3⟩:=H4.out.2.2.2.1.facts
 clear hb4 H3
 rcases hpb:planB p with _|_
 ·clear hpb
  go_wp2_with fail
  refine(ans14_any w4).mono ?_
  rintro e v ⟨rfl,hbv⟩
  have HV:=Lib.hid (H4.out.to hbv).1
  clear hbv H4 q1 q2 q3 z1 z2 z3
  go_wp2_with fail
  go_ret
  exact⟨rfl,HV.out⟩
 go_wp2_with fail
 refine(checkPR_any q B B' m d m' d' w4 H4.out.two).mono ?_
 rintro e w5 ⟨rfl,hb5⟩
 have H5:=Lib.hid (H4.out.to hb5)
 clear q1 q2 q3 z1 z2 z3
 obtain⟨q1,q2,q3⟩:=H5.out.2.2.1.facts
 obtain⟨z1,z2,z3⟩:=H5.out.2.2.2.1.facts
 clear hb5 H4
 rcases hqb:planB q with _|_
 ·clear hqb
  go_wp2_with fail
  refine(ans14_any w5).mono ?_
  rintro e v ⟨rfl,hbv⟩
  have HV:=Lib.hid (H5.out.to hbv).1
  clear hbv H5 q1 q2 q3 z1 z2 z3
  go_wp2_with fail
  go_ret
  exact⟨rfl,HV.out⟩
 have HS:=Lib.hid (And.intro (planB_sound hpb) (And.intro (planB_sound hqb) (And.intro hpb (And.intro hqb (And.intro hp80 hq80)))))
 clear hpb hqb hp80 hq80
 go_wp2_with fail
 refine(ownPl_any p A A' n c n' c' w5 H5.out.one (by have:=HS.out.2.2.2.2.1;omega)).mono ?_
 rintro e w6 ⟨A4,n4,c4,A5,n5,c5,rfl,hP4,hb6⟩
 have KI:=Lib.hid (items_any p A4 A5 n4 c4 n5 c5 w6 hP4)
 have H6:=Lib.hid (H5.out.to hb6)
 clear q1 q2 q3 z1 z2 z3
 obtain⟨q1,q2,q3⟩:=H6.out.2.2.1.facts
 obtain⟨z1,z2,z3⟩:=H6.out.2.2.2.1.facts
 clear hb6 H5
 clear hP4
 go_wp2_with fail
 refine KI.out.mono ?_
 rintro e w7 ⟨hyes,-,hb7⟩
 obtain⟨d1A,d1c,d1,rfl,hown,hri,hpm⟩:=hyes HS.out.2.2.1
 obtain⟨d1n,hd1n⟩:∃N,N=d1.length:=⟨_,rfl⟩
 rw[←hd1n]at hown ⊢
 have Hd1:=Lib.hid (And.intro hri (And.intro hpm hd1n))
 have HA:=Lib.hid (hown.mono (show w.heap.size≤w6.heap.size from H6.out.1.size))
 have H7:=Lib.hid (H6.out.to hb7)
 clear q1 q2 q3 z1 z2 z3
 obtain⟨q1,q2,q3⟩:=H7.out.2.2.1.facts
 obtain⟨z1,z2,z3⟩:=H7.out.2.2.2.1.facts
 clear hb7 H6
 clear hyes hri hpm hd1n hown KI
 go_wp2_with fail
 refine(ownPl_any q B B' m d m' d' w7 H7.out.two (by have:=HS.out.2.2.2.2.2;omega)).mono ?_
 rintro e w8 ⟨A4,n4,c4,A5,n5,c5,rfl,hP4,hb8⟩
 have KI:=Lib.hid (items_any q A4 A5 n4 c4 n5 c5 w8 hP4)
 have hI8:=Lib.hid (HA.out.below hb8)
 clear HA
 have H8:=Lib.hid (H7.out.to hb8)
 clear q1 q2 q3 z1 z2 z3
 obtain⟨q1,q2,q3⟩:=H8.out.2.2.1.facts
 obtain⟨z1,z2,z3⟩:=H8.out.2.2.2.1.facts
 clear hb8 H7
 clear hP4
 go_wp2_with fail
 refine KI.out.mono ?_
 rintro e w9 ⟨hyes,-,hb9⟩
 obtain⟨d2A,d2c,d2,rfl,hown,hri,hpm⟩:=hyes HS.out.2.2.2.1
 have hI9:=Lib.hid (hI8.out.below hb9)
 clear hI8
 obtain⟨d2n,hd2n⟩:∃N,N=d2.length:=⟨_,rfl⟩
 rw[←hd2n]at hown ⊢
 have Hd2:=Lib.hid (And.intro hri (And.intro hpm hd2n))
 have HB:=Lib.hid (hown.mono (show w.heap.size≤w8.heap.size from H8.out.1.size))
 have H9:=Lib.hid (H8.out.to hb9)
 clear q1 q2 q3 z1 z2 z3
 obtain⟨q1,q2,q3⟩:=H9.out.2.2.1.facts
 obtain⟨z1,z2,z3⟩:=H9.out.2.2.2.1.facts
 clear hb9 H8
 clear hyes hri hpm hd2n hown KI
 have hfp:=plan_few HS.out.1
 have hfq:=plan_few HS.out.2.1
 have hl1:d1n=(planIts p).length:=by rw[Hd1.out.2.2,←List.length_map (f:=fun e:ItH=>e.1)];exact Hd1.out.2.1.length_eq
 have hl2:d2n=(planIts q).length:=by rw[Hd2.out.2.2,←List.length_map (f:=fun e:ItH=>e.1)];exact Hd2.out.2.1.length_eq
 have hs:∀ {d:List ItH} {p:Plan},SoundP p→(d.map (·.1)).Perm (planIts p)→∀e∈d,e.1.k.length≤140737488351232∧e.1.v.length≤140737488351232:=fun {d p} hs hp e he=>by
  have hm:e.1∈planIts p:=hp.mem_iff.1 (List.mem_map.2 ⟨e,he,rfl⟩)
  have h1:=its_kl hm
  have h2:=szL_mem hm
  have h3:=(plan_few hs).2.2
  omega
 have HN:Hid (d1n≤20000∧d2n≤20000∧szL (planIts p)≤200000∧szL (planIts q)≤200000∧(∀e∈d1,e.1.k.length≤140737488351232∧e.1.v.length≤140737488351232)∧(∀e∈d2,e.1.k.length≤140737488351232∧e.1.v.length≤140737488351232)):=⟨by omega,by omega,hfp.2.2,hfq.2.2,hs HS.out.1 Hd1.out.2.1,hs HS.out.2.1 Hd2.out.2.1⟩
 have KD:=Lib.hid (delta_any d1 d2 d1A d2A d1n d1c d2n d2c w9 hI9.out.at_ HB.out.at_ (by have:=HN.out.1;omega) (by have:=HN.out.2.1;omega) (fun e he=>(HN.out.2.2.2.2.1 e he).1) HN.out.2.2.2.2.2)
 clear hfp hfq hl1 hl2 hs
 go_wp2_with fail
 refine KD.out.mono ?_
 rintro e X ⟨P,np,cp,G,ng,cg,dp,dg,rfl,hpo,hgo,hput,hgone,hnp,hng,hbX⟩
 have HX:Hid (TwF p A n c A' n' c' q B m d B' m' d' d1 d1A d1n d1c dp P np cp dg G ng cg w X):=⟨H9.out.to hbX,hI9.out.below hbX,hpo.mono H9.out.1.size,hgo.mono H9.out.1.size⟩
 have hr1:=Hd1.out.1
 have HQ:Hid (TwN p q d1 d2 dp dg d1n np ng):=by
  have l1:=Hd1.out.2.2;have l2:=Hd2.out.2.2;have l3:=hpo.len;have l4:=hgo.len
  rw[←l2]at hnp
  rw[←l1]at hng
  have:=HN.out.1;have:=HN.out.2.1
  exact⟨HS.out.1,HS.out.2.1,Hd1.out.2.1,Hd2.out.2.1,hput,hgone,l1.symm,l3,l4,by omega,by omega,by omega,HN.out.2.2.2.1⟩
 clear hpo hgo hput hgone hnp hng hbX hr1 KD HB hI9 H9 q1 q2 q3 z1 z2 z3 HN
 obtain⟨i0,hi0,hx0,hx1,hx2⟩:=info_parts info_bs
 obtain⟨q1,q2,q3⟩:=HX.out.pl.2.2.1.facts
 obtain⟨z1,z2,z3⟩:=HX.out.pl.2.2.2.1.facts
 go_wp2_with fail
 refine(changedR_any p q A A' B B' n c n' c' m d m' d' X HX.out.pl.one HX.out.pl.two (by have:=HS.out.2.2.2.2.1;omega) (by have:=HS.out.2.2.2.2.2;omega)).mono ?_
 rintro e X1 ⟨Dv,lc,rfl,⟨D,dn,dc,rfl,hdn,hDo⟩,hperm,-,hb1⟩
 have HX1:=Lib.hid (And.intro (HX.out.to hb1) (Reads.of_own hDo))
 have HC:Hid (dn=lc.length∧(∀z,z∈lc↔chM p q z)):=⟨hdn,fun z=>by rw[hperm.mem_iff];exact(chL_mem p q).2 z⟩
 have hcf:lc.length≤1048576:=by
  have h1:=hperm.length_eq
  have h2:=(chL_mem p q).1.length_le_of_subset (l₂:=p.parcels.map (·.id)++q.parcels.map (·.id)) (fun z hz=>by
   rcases((chL_mem p q).2 z).1 hz with ⟨h,-⟩|⟨h,-⟩
   ·rcases atP_cases p.parcels z with ⟨e,-⟩|⟨k,hk,e,e2⟩
    ·unfold hasP at h;omega
    ·exact List.mem_append.2 (.inl (List.mem_map.2 ⟨_,pcAt_mem hk,e2⟩))
   ·rcases atP_cases q.parcels z with ⟨e,-⟩|⟨k,hk,e,e2⟩
    ·unfold hasP at h;omega
    ·exact List.mem_append.2 (.inr (List.mem_map.2 ⟨_,pcAt_mem hk,e2⟩)))
  rw[List.length_append,List.length_map,List.length_map]at h2
  have h3:=HL.out.1.2.1
  have h4:=HL.out.2.2.1
  have h5:=HS.out.2.2.2.2.1
  have h6:=HS.out.2.2.2.2.2
  omega
 have HCF:=Lib.hid hcf
 clear hdn hDo hperm hb1 HX q1 q2 q3 z1 z2 z3 hcf
 obtain⟨q1,q2,q3⟩:=HX1.out.1.pl.2.2.1.facts
 obtain⟨z1,z2,z3⟩:=HX1.out.1.pl.2.2.2.1.facts
 go_wp2_with fail
 refine(sameR_any p.outer q.outer A B n m c d X1 HX1.out.1.pl.one.outer HX1.out.1.pl.two.outer (by have:=HL.out.1.2.2.1;omega) (by have:=HL.out.2.2.2.1;omega)).mono ?_
 rintro e Y ⟨rfl,hb2⟩
 have HY:=Lib.hid (And.intro (HX1.out.1.to hb2) (HX1.out.2.on hb2))
 clear hb2 HX1 q1 q2 q3 z1 z2 z3
 obtain⟨so,hso⟩:∃b:Bool,b=decide (p.outer=q.outer):=⟨_,rfl⟩
 rw[←hso]
 have HSO:=Lib.hid hso
 clear hso
 go_upto_block 0 with fail
 go_cut [13] (fun s wx=>∃(L:Option Addr) (cl:Nat),s= .slice L np cl∧Hid (KsF dp Y L cl np wx))
 case first=>
  go_wp2_with fail
  go_loopw [13,14] (fun s i wr=>∃(k:Nat) (L:Option Addr) (cl:Nat),k≤np∧s= .slice L k cl∧i= .int .i64 (k:Int)∧Hid (KsF dp Y L cl k wr)) (fun _ i _=>np-(intOf i).toNat)
  case atStart=>exact⟨0,none,0,Nat.zero_le _,rfl,rfl,Below.refl _ _,World.ownsRow_nil _ _ _ _⟩
  case round=>
   obtain⟨i,L,cl,hi,rfl,rfl,HW⟩:=hrel
   by_cases hlt:i<np
   case neg=>
    obtain rfl:i=np:=by omega
    have HE:=Lib.hid HW.out
    clear HW
    go_wp2_with fail
    go_meet
    exact⟨L,cl,rfl,HE⟩
   have hlt':(i:Int)<(np:Int):=by omega
   have hw1:IntKind.i64.wrap ((i:Int)+1)=(i:Int)+1:=by have:=HQ.out.f3;rw[IntKind.wrap_i64];omega
   have hid1:i<dp.length:=by rw[HQ.out.n3];exact hlt
   have HF:=Lib.hid ((HY.out.1.to HW.out.1).p.at_)
   obtain⟨ad,rfl,-,-⟩:=HF.out.1.2 (by omega)
   obtain⟨-,p1,-⟩:=HF.out.cells hlt hid1
   obtain⟨y,hy⟩:∃y,dp[i]=y:=⟨_,rfl⟩
   rw[hy]at p1
   have HYI:Hid (∃hk:i<dp.length,dp[i]=y):=⟨hid1,hy⟩
   clear hy hid1
   obtain⟨⟨yk,yv⟩,⟨yA,yn,yc⟩,⟨vA,vn,vc⟩⟩:=y
   simp only at p1
   have hrow:=Lib.hid (HW.out.2.alloc (.cells #[.slice yA yn yc] 50))
   have hrd2:=Lib.hid (Reads.made wr #[.slice yA yn yc] 50 (0,0) 1 1 (bsV [(yk,(yA,yn,yc))]) rfl rfl)
   have hnb:i+1≤maxLen∧(i+1)*24≤140737488355328:=by have:=HQ.out.f3;simp only[maxLen];omega
   have hsz:Y.heap.size≤(wr.alloc (.cells #[.slice yA yn yc] 50)).heap.size:=by have:=HW.out.1.size;simp;omega
   go_wp2_with (at_builtin;refine wpList_append_any _ rfl (.tmp 75) (.tmp 81) _ rfl Y.heap.size 50 i0 _ 1 24 Tryz.underlying44 hi0 hx0 hx1 hx2 rfl (Nat.zero_lt_succ _) (.slice L i cl) i _ rfl hrow.out _ (some ⟨wr.heap.size,0,none⟩) 1 1 _ rfl hrd2.out (bsV_one _) hnb.1 hnb.2 hsz ?_;intro v6 w6 hown6 hg6 hat6;obtain⟨A6,c6,rfl⟩:=own_form hown6;have H6:=Lib.hid (HW.out.push HYI.out hown6 hg6);clear hown6 hg6 hat6)
   go_roundw
   case rel=>exact⟨i+1,A6,c6,by omega,rfl,by go_num,H6⟩
   case measure=>simp[intOf];omega
 case rest=>
  obtain⟨U,rfl⟩:∃V,V=wc:=⟨_,rfl⟩
  obtain⟨L0,cl0,rfl,HW⟩:=hcut
  have HF:=Lib.hid (And.intro (HY.out.1.to HW.out.1) (HY.out.2.on HW.out.1))
  have hta:dp.take np=dp:=List.take_of_length_le (by rw[HQ.out.n3];exact Nat.le_refl _)
  have hrow:=HW.out.2
  rw[hta]at hrow
  have HR:=Lib.hid (And.intro hrow HW.out.1)
  have hnb:np+ng≤maxLen∧(np+ng)*24≤140737488355328:=by have:=HQ.out.f3;have:=HQ.out.f4;simp only[maxLen];omega
  obtain⟨kl,hkl⟩:∃l,l=keysOf dp++dg:=⟨_,rfl⟩
  obtain⟨N,hN⟩:∃N,N=np+ng:=⟨_,rfl⟩
  have hparts:∀y∈kl,partK p q y.1∧1≤y.1.length:=fun y hy=>by
   rw[hkl]at hy
   refine parts_law (recOK_sound HQ.out.sp) (recOK_sound HQ.out.sq) HQ.out.pa HQ.out.pb HQ.out.put HQ.out.gone ?_
   rcases List.mem_append.1 hy with h|h
   ·obtain⟨x,hx,rfl⟩:=List.mem_map.1 h
    exact .inl (List.mem_map.2 ⟨x.1,List.mem_map.2 ⟨x,hx,rfl⟩,rfl⟩)
   ·exact .inr (List.mem_map.2 ⟨y,h,rfl⟩)
  have hln:kl.length=N:=by rw[hkl,List.length_append,hN];unfold keysOf;rw[List.length_map,HQ.out.n3,HQ.out.n4]
  have hzero:lc=[]→p.outer=q.outer→N=0:=fun h1 h2=>by
   obtain⟨e1,e2⟩:=same_law (recOK_sound HQ.out.sp) (recOK_sound HQ.out.sq) HQ.out.pa HQ.out.pb HQ.out.put HQ.out.gone h2 (fun z hz=>by
    have:=(HC.out.2 z).2 hz
    rw[h1]at this
    exact absurd this List.not_mem_nil)
   have e3:=congrArg List.length e1
   have e4:=congrArg List.length e2
   rw[List.length_map,List.length_nil]at e3 e4
   have:=HQ.out.n3;have:=HQ.out.n4
   omega
  have hN40:N≤40000:=by have:=HQ.out.f3;have:=HQ.out.f4;omega
  have HZ:Hid ((∀y∈kl,partK p q y.1∧1≤y.1.length)∧kl.length=N∧lc.length=dn∧dn≤1048576):=⟨hparts,hln,HC.out.1.symm,by rw[HC.out.1];exact HCF.out⟩
  have HZ2:=Lib.hid (And.intro hzero hN40)
  have HKN:=Lib.hid (And.intro hkl hN)
  clear hta hrow hparts hln hzero hN40 hkl HW hN
  go_upto_region 14 with (at_builtin;refine wpList_append_any _ rfl (.tmp 83) (.tmp 84) _ rfl Y.heap.size 50 i0 _ 1 24 Tryz.underlying44 hi0 hx0 hx1 hx2 rfl (Nat.zero_lt_succ _) (.slice L0 np cl0) np _ rfl HR.out.1 _ G ng cg _ rfl (Reads.of_own HF.out.1.g.1) (bsV_one _) hnb.1 hnb.2 HR.out.2.size ?_;intro v6 w6 hown6 hg6 hat6;obtain⟨L,cl,rfl⟩:=own_form hown6;have hb6:=HR.out.2.grown hg6 HR.out.2.size (fun g e=>(HR.out.1.lt g e).1);have H6:=Lib.hid (And.intro hown6 (And.intro hg6 hb6));clear hown6 hg6 hat6 hb6)
  have HLK:Hid (LkF lc D dn kl L N cl w w6):=by
   have hT:=HY.out.1.to H6.out.2.2
   have e:bsV (keysOf dp)++bsV dg=bsV kl:=by rw[HKN.out.1];unfold bsV;rw[List.map_append]
   have hown:=H6.out.1
   rw[e,←HKN.out.2]at hown
   refine⟨hT.pl.1,HY.out.2.on H6.out.2.2,Reads.of_own hown,fun x hx=>?_,own_cap hown⟩
   rw[HKN.out.1]at hx
   rcases List.mem_append.1 hx with h|h
   ·obtain⟨y,hy,rfl⟩:=List.mem_map.1 h
    exact(hT.p.2 y hy).1.rd
   ·exact(hT.g.2 x h).rd
  rw[←HKN.out.2]
  clear H6 HY HR hnb HKN
  go_wp2_with fail
  go_loopw [15] (fun i wr=>∃k:Nat,k≤N∧i= .int .i64 (k:Int)∧Hid (LkF lc D dn kl L N cl w wr)) (fun i _=>N-(intOf i).toNat)
  case atStart=>exact⟨0,Nat.zero_le _,rfl,HLK.out⟩
  case round=>
   clear HLK
   obtain⟨i,hi,rfl,HW⟩:=hrel
   by_cases hlt:i<N
   case neg=>
    obtain rfl:i=N:=by omega
    have HE:=Lib.hid HW.out.bel
    clear HW
    rcases Nat.eq_zero_or_pos dn with h0|h0
    ·have hd0:¬(0:Int)<(dn:Int):=by omega
     have hd1:¬0<dn:=by omega
     have hlc:lc=[]:=List.eq_nil_of_length_eq_zero (by rw[HZ.out.2.2.1];exact h0)
     rcases hs:so with _|_
     ·subst hs
      clear h0
      go_wp2_with fail
      go_ret
      exact⟨rfl,HE.out⟩
     ·have hN0:i=0:=HZ2.out.1 hlc (by have:=HSO.out;rw[hs]at this;exact of_decide_eq_true this.symm)
      have hNi:(i:Int)=0:=by omega
      subst hs
      clear h0
      go_wp2_with fail
      go_ret
      exact⟨by simp,HE.out⟩
    ·have hd0:(0:Int)<(dn:Int):=by omega
     go_wp2_with fail
     go_ret
     exact⟨rfl,HE.out⟩
   have hlt':(i:Int)<(N:Int):=by omega
   have hw1:IntKind.i64.wrap ((i:Int)+1)=(i:Int)+1:=by have:=HZ2.out.2;rw[IntKind.wrap_i64];omega
   have hidk:i<kl.length:=by rw[HZ.out.2.1];exact hlt
   obtain⟨kd0,rfl,-,-⟩:=HW.out.ks.1.2 (by omega)
   obtain⟨-,p1⟩:=HW.out.ks.cell hlt hidk
   have hrd:=HW.out.ks.2.1 _ (List.getElem_mem hidk)
   obtain⟨hpk,hpl⟩:=HZ.out.1 _ (List.getElem_mem hidk)
   obtain⟨y,hy⟩:∃y,kl[i]=y:=⟨_,rfl⟩
   rw[hy]at p1 hrd hpk hpl
   obtain⟨yk,⟨yA,yn,yc⟩⟩:=y
   simp only at p1 hrd hpk hpl
   obtain⟨kd,hkd,hb0⟩:=hrd.byte (k:=0) (by omega)
   simp only at hkd
   subst hkd
   obtain⟨b0,hb0e⟩:∃b,b=(yk.getD 0 0).toNat:=⟨_,rfl⟩
   rw[←hb0e,show kd.add 0=kd by simp[Addr.add]]at hb0
   have hyl:yk.length=yn:=hrd.1.len8
   have hyn:(0:Int)<(yn:Int):=by omega
   have hyn2:0<yn:=by omega
   have HRD:=Lib.hid (And.intro hrd hyl)
   clear hy hidk hrd hyl
   rcases hpk with ⟨e,hne⟩|⟨e,hlen,id,hid,htk,hch⟩|e|⟨e,hlen,id,hid,htk,hch⟩
   ·obtain rfl:b0=111:=by rw[hb0e,e];rfl
    have hs:so=false:=by rw[HSO.out];exact decide_eq_false hne
    subst hs
    clear hne e hb0e hpl
    go_wp2_with fail
    go_roundw
    case rel=>exact⟨i+1,by omega,by go_num,HW.out⟩
    case measure=>simp[intOf];omega
   ·obtain rfl:b0=112:=by rw[hb0e,e];rfl
    have KN:Hid (Calls Tryz.prog 24 #[.slice (some kd) yn yc,.int .i64 1,.int .i64 4] wr fun e w'=>e= .returned (.tuple #[.int .i64 id,.int .i64 0])∧wr=w'):=by
     have hn:=numRef_any yk (some kd) yn yc 1 4 wr HRD.out.1.1 HRD.out.1.2.1 HRD.out.1.2.2 (by decide) (by decide)
     have e:numR yk 1 4=(id,0):=by
      have h:numR yk 1 4=(((numL ((yk.drop 1).take 4):Nat):Int),0):=numR_ok (k:=1) (s:=4) (by decide) (by decide) (by omega)
      rw[htk,num_idBy hid]at h
      exact h
     refine hn.mono fun e' w' hh=>?_
     unfold NumPost at hh
     rw[e]at hh
     exact hh
    have hidc:id∈lc:=(HC.out.2 id).2 hch
    clear e hb0e hpl hlen hid htk hch
    go_wp2_with fail
    refine KN.out.mono ?_
    rintro e w' ⟨rfl,rfl⟩
    clear KN hb0
    go_upto_block 5 with fail
    go_cut [18] (fun s wx=>s= .bool true∧Below wr.heap.size wr wx)
    case first=>
     have HIC:=Lib.hid hidc
     clear hidc
     go_wp2_with fail
     go_loopw [18,19] (fun s i wx=>∃k:Nat,k≤dn∧s= .bool (decide (id∈lc.take k))∧i= .int .i64 (k:Int)∧Hid (Below wr.heap.size wr wx)) (fun _ i _=>dn-(intOf i).toNat)
     case atStart=>exact⟨0,Nat.zero_le _,by simp,rfl,Below.refl _ _⟩
     case round=>
      obtain⟨k,hk,rfl,rfl,HB⟩:=hrel
      by_cases hlk:k<dn
      case neg=>
       obtain rfl:k=dn:=by omega
       have hta:decide (id∈lc.take k)=true:=by rw[List.take_of_length_le (by rw[HZ.out.2.2.1];exact Nat.le_refl _)];exact decide_eq_true HIC.out
       rw[hta]
       clear hta
       go_wp2_with fail
       go_meet
       exact⟨rfl,HB.out⟩
      have hlk':(k:Int)<(dn:Int):=by omega
      have hw2:IntKind.i64.wrap ((k:Int)+1)=(k:Int)+1:=by have:=HZ.out.2.2.2;rw[IntKind.wrap_i64];omega
      have hkl:k<lc.length:=by rw[HZ.out.2.2.1];exact hlk
      obtain⟨gd,z,rfl,-,hz,g1⟩:=(HW.out.to HB.out).ch.int hlk
      have hnx:=has_next (z:=id) hkl
      have hzz:lc[k]=z:=by rw[List.getElem?_eq_getElem hkl]at hz;exact Option.some.inj hz
      rw[hzz]at hnx
      obtain⟨ob,hob⟩:∃b:Bool,b=decide (id∈lc.take k):=⟨_,rfl⟩
      rw[←hob]at hnx ⊢
      have HNX:=Lib.hid hnx
      clear hnx hob hz hzz hkl
      rcases ob with _|_
      ·go_wp2_with fail
       go_roundw
       case rel=>exact⟨k+1,by omega,by rw[HNX.out,Bool.false_or],by go_num,HB.out⟩
       case measure=>simp[intOf];omega
      ·go_wp2_with fail
       go_roundw
       case rel=>exact⟨k+1,by omega,by rw[HNX.out,Bool.true_or],by go_num,HB.out⟩
       case measure=>simp[intOf];omega
    case rest=>
     obtain⟨U,rfl⟩:∃V,V=wc:=⟨_,rfl⟩
     obtain⟨rfl,hbc⟩:=hcut
     have HV:=Lib.hid (HW.out.to hbc)
     clear hbc hidc
     go_wp2_with fail
     go_roundw
     case rel=>exact⟨i+1,by omega,by go_num,HV.out⟩
     case measure=>simp[intOf];omega
   ·obtain rfl:b0=101:=by rw[hb0e,e];rfl
    clear e hb0e hpl
    go_wp2_with fail
    go_roundw
    case rel=>exact⟨i+1,by omega,by go_num,HW.out⟩
    case measure=>simp[intOf];omega
   ·obtain rfl:b0=99:=by rw[hb0e,e];rfl
    have KN:Hid (Calls Tryz.prog 24 #[.slice (some kd) yn yc,.int .i64 3,.int .i64 4] wr fun e w'=>e= .returned (.tuple #[.int .i64 id,.int .i64 0])∧wr=w'):=by
     have hn:=numRef_any yk (some kd) yn yc 3 4 wr HRD.out.1.1 HRD.out.1.2.1 HRD.out.1.2.2 (by decide) (by decide)
     have e:numR yk 3 4=(id,0):=by
      have h:numR yk 3 4=(((numL ((yk.drop 3).take 4):Nat):Int),0):=numR_ok (k:=3) (s:=4) (by decide) (by decide) (by omega)
      rw[htk,num_idBy hid]at h
      exact h
     refine hn.mono fun e' w' hh=>?_
     unfold NumPost at hh
     rw[e]at hh
     exact hh
    have hidc:id∈lc:=(HC.out.2 id).2 hch
    clear e hb0e hpl hlen hid htk hch
    go_wp2_with fail
    refine KN.out.mono ?_
    rintro e w' ⟨rfl,rfl⟩
    clear KN hb0
    go_upto_block 5 with fail
    go_cut [18] (fun s wx=>s= .bool true∧Below wr.heap.size wr wx)
    case first=>
     have HIC:=Lib.hid hidc
     clear hidc
     go_wp2_with fail
     go_loopw [18,19] (fun s i wx=>∃k:Nat,k≤dn∧s= .bool (decide (id∈lc.take k))∧i= .int .i64 (k:Int)∧Hid (Below wr.heap.size wr wx)) (fun _ i _=>dn-(intOf i).toNat)
     case atStart=>exact⟨0,Nat.zero_le _,by simp,rfl,Below.refl _ _⟩
     case round=>
      obtain⟨k,hk,rfl,rfl,HB⟩:=hrel
      by_cases hlk:k<dn
      case neg=>
       obtain rfl:k=dn:=by omega
       have hta:decide (id∈lc.take k)=true:=by rw[List.take_of_length_le (by rw[HZ.out.2.2.1];exact Nat.le_refl _)];exact decide_eq_true HIC.out
       rw[hta]
       clear hta
       go_wp2_with fail
       go_meet
       exact⟨rfl,HB.out⟩
      have hlk':(k:Int)<(dn:Int):=by omega
      have hw2:IntKind.i64.wrap ((k:Int)+1)=(k:Int)+1:=by have:=HZ.out.2.2.2;rw[IntKind.wrap_i64];omega
      have hkl:k<lc.length:=by rw[HZ.out.2.2.1];exact hlk
      obtain⟨gd,z,rfl,-,hz,g1⟩:=(HW.out.to HB.out).ch.int hlk
      have hnx:=has_next (z:=id) hkl
      have hzz:lc[k]=z:=by rw[List.getElem?_eq_getElem hkl]at hz;exact Option.some.inj hz
      rw[hzz]at hnx
      obtain⟨ob,hob⟩:∃b:Bool,b=decide (id∈lc.take k):=⟨_,rfl⟩
      rw[←hob]at hnx ⊢
      have HNX:=Lib.hid hnx
      clear hnx hob hz hzz hkl
      rcases ob with _|_
      ·go_wp2_with fail
       go_roundw
       case rel=>exact⟨k+1,by omega,by rw[HNX.out,Bool.false_or],by go_num,HB.out⟩
       case measure=>simp[intOf];omega
      ·go_wp2_with fail
       go_roundw
       case rel=>exact⟨k+1,by omega,by rw[HNX.out,Bool.true_or],by go_num,HB.out⟩
       case measure=>simp[intOf];omega
    case rest=>
     obtain⟨U,rfl⟩:∃V,V=wc:=⟨_,rfl⟩
     obtain⟨rfl,hbc⟩:=hcut
     have HV:=Lib.hid (HW.out.to hbc)
     clear hbc hidc
     go_wp2_with fail
     go_roundw
     case rel=>exact⟨i+1,by omega,by go_num,HV.out⟩
     case measure=>simp[intOf];omega
end Go.Proofs.YtpkeacnacjnlcaaGreat

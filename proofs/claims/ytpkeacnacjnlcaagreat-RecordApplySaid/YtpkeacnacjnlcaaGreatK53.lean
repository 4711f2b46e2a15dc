/- merestonelaw14.RecordApply: the walk. -/
import Derived.Deep.CutBlock
import Derived.Deep.DeepCutAuto
import Derived.Test.YtpkeacnacjnlcaaGreatK17
import Derived.Test.YtpkeacnacjnlcaaGreatK46
import Derived.Test.YtpkeacnacjnlcaaGreatK51
import Derived.Test.YtpkeacnacjnlcaaGreatK52
namespace Go.Proofs.YtpkeacnacjnlcaaGreat
open Go.RowKit Go.Lib
/-- The items that stay, of the first k. -/
def StF (ks pk:List It) (gk:List (List UInt8)) (d1:List ItH) (X:World) (l:List ItH) (L:Option Addr) (nl cl k:Nat) (W:World):Prop:=
 Below X.heap.size X W∧W.ownsRow X.heap.size 52 2 (.slice L nl cl) nl (itsV l)∧(∀e∈l,e∈d1)∧l.map (·.1)=stayL (ks.take k) pk gk∧nl≤k
theorem StF.to {ks pk:List It} {gk:List (List UInt8)} {d1:List ItH} {X W W':World} {l:List ItH} {L:Option Addr} {nl cl k:Nat} (h:StF ks pk gk d1 X l L nl cl k W) (hb:Below W.heap.size W W'):StF ks pk gk d1 X l L nl cl k W':=
 ⟨below_on h.1 (Nat.le_refl _) hb,own_below h.2.1 hb,h.2.2⟩
theorem StF.skip {ks pk:List It} {gk:List (List UInt8)} {d1:List ItH} {X W:World} {l:List ItH} {L:Option Addr} {nl cl k:Nat} (h:StF ks pk gk d1 X l L nl cl k W) (hs:stayL (ks.take (k+1)) pk gk=stayL (ks.take k) pk gk++[]):StF ks pk gk d1 X l L nl cl (k+1) W:=
 ⟨h.1,h.2.1,h.2.2.1,by rw[hs,List.append_nil];exact h.2.2.2.1,by have:=h.2.2.2.2;omega⟩
theorem StF.push {ks pk:List It} {gk:List (List UInt8)} {d1:List ItH} {X U w6:World} {l:List ItH} {L A6:Option Addr} {nl cl k c6:Nat} {y:ItH} {obj:Obj} (h:StF ks pk gk d1 X l L nl cl k U) (hy:y∈d1) (hs:stayL (ks.take (k+1)) pk gk=stayL (ks.take k) pk gk++[y.1]) (hown:w6.ownsRow X.heap.size 52 2 (.slice A6 (nl+1) c6) (nl+1) (itsV l++itsV [y])) (hg:(U.alloc obj).grownBy w6 (Value.slice L nl cl).ownBlock):StF ks pk gk d1 X (l++[y]) A6 (nl+1) c6 (k+1) w6:=by
 have hba:=h.1.alloc h.1.size obj
 refine⟨hba.grown hg hba.size (fun g e=>(h.2.1.lt g e).1),by rw[itsV_append];exact hown,fun e he=>?_,by rw[hs,List.map_append,h.2.2.2.1];rfl,by have:=h.2.2.2.2;omega⟩
 rcases List.mem_append.1 he with he|he
 ·exact h.2.2.1 e he
 ·rw[List.mem_singleton.1 he];exact hy
theorem find_has (pk:List It) (yk:List UInt8):decide (0≤findI pk yk)=decide (yk∈pk.map (·.k)):=by
 congr 1
 rw[eq_iff_iff]
 rcases findI_cases pk yk with ⟨e,h⟩|⟨k,hk,e,h,-⟩
 ·rw[e]
  exact⟨fun h=>absurd h (by decide),fun h1=>by
   obtain⟨x,hx,e⟩:=List.mem_map.1 h1
   exact absurd e (h x hx)⟩
 ·rw[e]
  exact⟨fun _=>List.mem_map.2 ⟨_,itAt_mem hk,h⟩,fun _=>by omega⟩
theorem mem_next {gk:List (List UInt8)} {yk:List UInt8} {k:Nat} (h:k<gk.length):decide (yk∈gk.take (k+1))=(decide (yk∈gk.take k)||(gk[k]==yk)):=by
 rw[List.take_succ_eq_append_getElem h,Bool.eq_iff_iff,decide_eq_true_eq,Bool.or_eq_true,decide_eq_true_eq,beq_iff_eq,List.mem_append,List.mem_singleton]
 exact or_congr Iff.rfl eq_comm
set_option maxRecDepth 100000 in
set_option maxHeartbeats 12800000 in
theorem recordApply_any (p q:Plan) (A A' B B':Option Addr) (n c n' c' m d m' d':Nat) (w:World) (hp:PlanAt w w.heap.size A n c A' n' c' p) (hq:PlanAt w w.heap.size B m d B' m' d' q):
 Calls Tryz.prog 8 #[planV A n c A' n' c',planV B m d B' m' d'] w fun e w'=>e= .returned (.bool true)∧Below w.heap.size w w':=by
 obtain⟨W,hwa⟩:∃wa:World,wa=(w.alloc (.cells #[.slice A n c,.slice A' n' c'] 30)).alloc (.cells #[.slice B m d,.slice B' m' d'] 30):=⟨_,rfl⟩
 have hB0:Below w.heap.size w W:=by rw[hwa];exact((Below.refl _ _).alloc (Nat.le_refl _) _).alloc (by simp) _
 have hF:CgF p A n c A' n' c' q B m d B' m' d' w W:=by
  refine⟨hB0,by rw[hwa];simp,by rw[hwa];exact Blk.alloc (PlK.new w A n c A' n' c') _,?_,hp.below hB0,hq.below hB0⟩
  have:=PlK.new (w.alloc (.cells #[.slice A n c,.slice A' n' c'] 30)) B m d B' m' d'
  rw[World.size_alloc]at this
  rw[hwa]
  exact this
 have H0:=Lib.hid hF
 have HL:=Lib.hid (And.intro hp.lens hq.lens)
 clear hF hp hq hB0
 go_enter Tryz.func8,Tryz.ntmps8
 go_upto_region 1 with fail
 rw[←hwa]
 clear hwa
 go_wp2_with fail
 refine(ans14_any W).mono ?_
 rintro e w1 ⟨rfl,hb1⟩
 have H1:=Lib.hid (H0.out.to hb1)
 obtain⟨q1,q2,q3⟩:=H1.out.2.2.1.facts
 obtain⟨z1,z2,z3⟩:=H1.out.2.2.2.1.facts
 clear hb1 H0
 go_wp2_with fail
 refine(few14_any p A A' n c n' c' w1 H1.out.one).mono ?_
 rintro e w2 ⟨b,rfl,hfp,hb2⟩
 have H2:=Lib.hid (H1.out.to hb2)
 clear q1 q2 q3 z1 z2 z3
 obtain⟨q1,q2,q3⟩:=H2.out.2.2.1.facts
 obtain⟨z1,z2,z3⟩:=H2.out.2.2.2.1.facts
 clear hb2 H1
 rcases b with _|_
 ·clear hfp
  go_wp2_with fail
  refine(ans14_any w2).mono ?_
  rintro e v ⟨rfl,hbv⟩
  have HV:=Lib.hid (H2.out.to hbv).1
  clear hbv H2 q1 q2 q3 z1 z2 z3
  go_wp2_with fail
  go_ret
  exact⟨rfl,HV.out⟩
 have hp80:=(hfp rfl).1
 clear hfp
 go_wp2_with fail
 refine(few14_any q B B' m d m' d' w2 H2.out.two).mono ?_
 rintro e w3 ⟨b,rfl,hfq,hb3⟩
 have H3:=Lib.hid (H2.out.to hb3)
 clear q1 q2 q3 z1 z2 z3
 obtain⟨q1,q2,q3⟩:=H3.out.2.2.1.facts
 obtain⟨z1,z2,z3⟩:=H3.out.2.2.2.1.facts
 clear hb3 H2
 rcases b with _|_
 ·clear hfq
  go_wp2_with fail
  refine(ans14_any w3).mono ?_
  rintro e v ⟨rfl,hbv⟩
  have HV:=Lib.hid (H3.out.to hbv).1
  clear hbv H3 q1 q2 q3 z1 z2 z3
  go_wp2_with fail
  go_ret
  exact⟨rfl,HV.out⟩
 have hq80:=(hfq rfl).1
 clear hfq
 go_wp2_with fail
 refine(checkPR_any p A A' n c n' c' w3 H3.out.one).mono ?_
 rintro e w4 ⟨rfl,hb4⟩
 have H4:=Lib.hid (H3.out.to hb4)
 clear q1 q2 q3 z1 z2 z3
 obtain⟨q1,q2,q3⟩:=H4.out.2.2.1.facts
 obtain⟨z1,z2,z3⟩:=H4.out.2.2.2.1.facts
 clear hb4 H3
 rcases hpb:planB p with _|_
 ·clear hpb
  go_wp2_with fail
  refine(ans14_any w4).mono ?_
  rintro e v ⟨rfl,hbv⟩
  have HV:=Lib.hid (H4.out.to hbv).1
  clear hbv H4 q1 q2 q3 z1 z2 z3
  go_wp2_with fail
  go_ret
  exact⟨rfl,HV.out⟩
 go_wp2_with fail
 refine(checkPR_any q B B' m d m' d' w4 H4.out.two).mono ?_
 rintro e w5 ⟨rfl,hb5⟩
 have H5:=Lib.hid (H4.out.to hb5)
 clear q1 q2 q3 z1 z2 z3
 obtain⟨q1,q2,q3⟩:=H5.out.2.2.1.facts
 obtain⟨z1,z2,z3⟩:=H5.out.2.2.2.1.facts
 clear hb5 H4
 rcases hqb:planB q with _|_
 ·clear hqb
  go_wp2_with fail
  refine(ans14_any w5).mono ?_
  rintro e v ⟨rfl,hbv⟩
  have HV:=Lib.hid (H5.out.to hbv).1
  clear hbv H5 q1 q2 q3 z1 z2 z3
  go_wp2_with fail
  go_ret
  exact⟨rfl,HV.out⟩
 have HS:=Lib.hid (And.intro (planB_sound hpb) (And.intro (planB_sound hqb) (And.intro hpb (And.intro hqb (And.intro hp80 hq80)))))
 clear hpb hqb hp80 hq80
 go_wp2_with fail
 refine(ownPl_any p A A' n c n' c' w5 H5.out.one (by have:=HS.out.2.2.2.2.1;omega)).mono ?_
 rintro e w6 ⟨A4,n4,c4,A5,n5,c5,rfl,hP4,hb6⟩
 have KI:=Lib.hid (items_any p A4 A5 n4 c4 n5 c5 w6 hP4)
 have H6:=Lib.hid (H5.out.to hb6)
 clear q1 q2 q3 z1 z2 z3
 obtain⟨q1,q2,q3⟩:=H6.out.2.2.1.facts
 obtain⟨z1,z2,z3⟩:=H6.out.2.2.2.1.facts
 clear hb6 H5
 clear hP4
 go_wp2_with fail
 refine KI.out.mono ?_
 rintro e w7 ⟨hyes,-,hb7⟩
 obtain⟨d1A,d1c,d1,rfl,hown,hri,hpm⟩:=hyes HS.out.2.2.1
 obtain⟨d1n,hd1n⟩:∃N,N=d1.length:=⟨_,rfl⟩
 rw[←hd1n]at hown ⊢
 have Hd1:=Lib.hid (And.intro hri (And.intro hpm hd1n))
 have HA:=Lib.hid (hown.mono (show w.heap.size≤w6.heap.size from H6.out.1.size))
 have H7:=Lib.hid (H6.out.to hb7)
 clear q1 q2 q3 z1 z2 z3
 obtain⟨q1,q2,q3⟩:=H7.out.2.2.1.facts
 obtain⟨z1,z2,z3⟩:=H7.out.2.2.2.1.facts
 clear hb7 H6
 clear hyes hri hpm hd1n hown KI
 go_wp2_with fail
 refine(ownPl_any q B B' m d m' d' w7 H7.out.two (by have:=HS.out.2.2.2.2.2;omega)).mono ?_
 rintro e w8 ⟨A4,n4,c4,A5,n5,c5,rfl,hP4,hb8⟩
 have KI:=Lib.hid (items_any q A4 A5 n4 c4 n5 c5 w8 hP4)
 have hI8:=Lib.hid (HA.out.below hb8)
 clear HA
 have H8:=Lib.hid (H7.out.to hb8)
 clear q1 q2 q3 z1 z2 z3
 obtain⟨q1,q2,q3⟩:=H8.out.2.2.1.facts
 obtain⟨z1,z2,z3⟩:=H8.out.2.2.2.1.facts
 clear hb8 H7
 clear hP4
 go_wp2_with fail
 refine KI.out.mono ?_
 rintro e w9 ⟨hyes,-,hb9⟩
 obtain⟨d2A,d2c,d2,rfl,hown,hri,hpm⟩:=hyes HS.out.2.2.2.1
 have hI9:=Lib.hid (hI8.out.below hb9)
 clear hI8
 obtain⟨d2n,hd2n⟩:∃N,N=d2.length:=⟨_,rfl⟩
 rw[←hd2n]at hown ⊢
 have Hd2:=Lib.hid (And.intro hri (And.intro hpm hd2n))
 have HB:=Lib.hid (hown.mono (show w.heap.size≤w8.heap.size from H8.out.1.size))
 have H9:=Lib.hid (H8.out.to hb9)
 clear q1 q2 q3 z1 z2 z3
 obtain⟨q1,q2,q3⟩:=H9.out.2.2.1.facts
 obtain⟨z1,z2,z3⟩:=H9.out.2.2.2.1.facts
 clear hb9 H8
 clear hyes hri hpm hd2n hown KI
 have hfp:=plan_few HS.out.1
 have hfq:=plan_few HS.out.2.1
 have hl1:d1n=(planIts p).length:=by rw[Hd1.out.2.2,←List.length_map (f:=fun e:ItH=>e.1)];exact Hd1.out.2.1.length_eq
 have hl2:d2n=(planIts q).length:=by rw[Hd2.out.2.2,←List.length_map (f:=fun e:ItH=>e.1)];exact Hd2.out.2.1.length_eq
 have hs:∀ {d:List ItH} {p:Plan},SoundP p→(d.map (·.1)).Perm (planIts p)→∀e∈d,e.1.k.length≤140737488351232∧e.1.v.length≤140737488351232:=fun {d p} hs hp e he=>by
  have hm:e.1∈planIts p:=hp.mem_iff.1 (List.mem_map.2 ⟨e,he,rfl⟩)
  have h1:=its_kl hm
  have h2:=szL_mem hm
  have h3:=(plan_few hs).2.2
  omega
 have HN:Hid (d1n≤20000∧d2n≤20000∧szL (planIts p)≤200000∧szL (planIts q)≤200000∧(∀e∈d1,e.1.k.length≤140737488351232∧e.1.v.length≤140737488351232)∧(∀e∈d2,e.1.k.length≤140737488351232∧e.1.v.length≤140737488351232)):=⟨by omega,by omega,hfp.2.2,hfq.2.2,hs HS.out.1 Hd1.out.2.1,hs HS.out.2.1 Hd2.out.2.1⟩
 have KD:=Lib.hid (delta_any d1 d2 d1A d2A d1n d1c d2n d2c w9 hI9.out.at_ HB.out.at_ (by have:=HN.out.1;omega) (by have:=HN.out.2.1;omega) (fun e he=>(HN.out.2.2.2.2.1 e he).1) HN.out.2.2.2.2.2)
 clear hfp hfq hl1 hl2 hs
 go_wp2_with fail
 refine KD.out.mono ?_
 rintro e X ⟨P,np,cp,G,ng,cg,dp,dg,rfl,hpo,hgo,hput,hgone,hnp,hng,hbX⟩
 have HX:Hid (TwF p A n c A' n' c' q B m d B' m' d' d1 d1A d1n d1c dp P np cp dg G ng cg w X):=⟨H9.out.to hbX,hI9.out.below hbX,hpo.mono H9.out.1.size,hgo.mono H9.out.1.size⟩
 have hr1:=Hd1.out.1
 have HQ:Hid (TwN p q d1 d2 dp dg d1n np ng):=by
  have l1:=Hd1.out.2.2;have l2:=Hd2.out.2.2;have l3:=hpo.len;have l4:=hgo.len
  rw[←l2]at hnp
  rw[←l1]at hng
  have:=HN.out.1;have:=HN.out.2.1
  exact⟨HS.out.1,HS.out.2.1,Hd1.out.2.1,Hd2.out.2.1,hput,hgone,l1.symm,l3,l4,by omega,by omega,by omega,HN.out.2.2.2.1⟩
 clear hpo hgo hput hgone hnp hng hbX hr1 KD HB hI9 H9 q1 q2 q3 z1 z2 z3 HN
 obtain⟨ks,hks⟩:∃l,l=d1.map (·.1):=⟨_,rfl⟩
 obtain⟨gk,hgk⟩:∃l,l=dg.map (·.1):=⟨_,rfl⟩
 obtain⟨pk,hpk⟩:∃l,l=dp.map (·.1):=⟨_,rfl⟩
 have HK:=Lib.hid (And.intro hks (And.intro hgk hpk))
 clear hks hgk hpk
 obtain⟨i1,hi1,hx0,hx1,hx2⟩:=info_parts info_it
 go_upto_block 0 with fail
 go_cut [11] (fun s wx=>∃(l:List ItH) (L:Option Addr) (nl cl:Nat),s= .slice L nl cl∧Hid (StF ks pk gk d1 X l L nl cl d1n wx))
 case first=>
  go_wp2_with fail
  go_loopw [11,12] (fun s i wr=>∃(k:Nat) (l:List ItH) (L:Option Addr) (nl cl:Nat),k≤d1n∧s= .slice L nl cl∧i= .int .i64 (k:Int)∧Hid (StF ks pk gk d1 X l L nl cl k wr)) (fun _ i _=>d1n-(intOf i).toNat)
  case atStart=>exact⟨0,[],none,0,0,Nat.zero_le _,rfl,rfl,Below.refl _ _,World.ownsRow_nil _ _ _ _,fun _ h=>absurd h List.not_mem_nil,rfl,Nat.le_refl _⟩
  case round=>
   obtain⟨i,l,L,nl,cl,hi,rfl,rfl,HW⟩:=hrel
   by_cases hlt:i<d1n
   case neg=>
    obtain rfl:i=d1n:=by omega
    have HE:=Lib.hid HW.out
    clear HW
    go_wp2_with fail
    go_meet
    exact⟨l,L,nl,cl,rfl,HE⟩
   have hlt':(i:Int)<(d1n:Int):=by omega
   have hw1:IntKind.i64.wrap ((i:Int)+1)=(i:Int)+1:=by have:=HQ.out.f1;rw[IntKind.wrap_i64];omega
   have HF:=Lib.hid (HX.out.to HW.out.1)
   have hid1:i<d1.length:=by rw[HQ.out.n1];exact hlt
   obtain⟨ad,rfl,-,-⟩:=HF.out.a.at_.1.2 (by omega)
   obtain⟨hbb,p1,p2⟩:=HF.out.a.at_.cells hlt hid1
   have hrd:=HF.out.a.at_.2.1 _ (List.getElem_mem hid1)
   obtain⟨y,hy⟩:∃y,d1[i]=y:=⟨_,rfl⟩
   have hym:y∈d1:=by rw[←hy];exact List.getElem_mem hid1
   have hst:stayL (ks.take (i+1)) pk gk=stayL (ks.take i) pk gk++(if (decide (y.1.k∈pk.map (·.k))||decide (y.1.k∈gk))=true then[]else[y.1]):=by
    have hik:i<ks.length:=by rw[HK.out.1,List.length_map];exact hid1
    have e:ks[i]=y.1:=by simp only[HK.out.1,List.getElem_map,hy]
    rw[List.take_succ_eq_append_getElem hik,e]
    unfold stayL
    rw[List.filter_append]
    congr 1
    by_cases h:(decide (y.1.k∈pk.map (·.k))||decide (y.1.k∈gk))=true
    ·rw[if_pos h,List.filter_cons_of_neg (by rw[h];decide)];rfl
    ·rw[if_neg h,List.filter_cons_of_pos (by rw[Bool.eq_false_iff.2 h];rfl)];rfl
   rw[hy]at p1 p2 hrd
   obtain⟨⟨yk,yv⟩,⟨yA,yn,yc⟩,⟨vA,vn,vc⟩⟩:=y
   simp only at p1 p2 hrd hst
   have KP:=find_any dp yk P yA np cp yn yc wr HF.out.p.at_ hrd.1.1 (by have:=HQ.out.f3;omega)
   rw[←HK.out.2.2]at KP
   rw[←find_has]at hst
   obtain⟨f,hf⟩:∃f,f=findI pk yk:=⟨_,rfl⟩
   rw[←hf]at KP hst
   have KP:=Lib.hid KP
   obtain⟨bp,hbp⟩:∃b:Bool,b=decide (0≤f):=⟨_,rfl⟩
   rw[←hbp]at hst
   have HI:=Lib.hid (And.intro hrd (And.intro hst (And.intro hbb (And.intro p1 (And.intro p2 (And.intro hym hbp))))))
   clear hrd hst hbb p2 hym hy hid1 hbp hf
   go_wp2_with fail
   refine KP.out.mono ?_
   rintro e u1 ⟨rfl,hu1⟩
   have HU1:=Lib.hid hu1
   clear hu1 KP p1
   go_upto_region 11 with fail
   rw[←HI.out.2.2.2.2.2.2]
   go_upto_block 2 with fail
   go_cut [13] (fun s wx=>s= .bool (bp||decide (yk∈gk))∧Below u1.heap.size u1 wx)
   case first=>
    have HG:=Lib.hid (HF.out.to HU1.out)
    have hcy:∀V,Below u1.heap.size u1 V→V.cell? (ad.add (i*2))=some (.slice yA yn yc)∧Reads V V.heap.size 1 yA yn (u8s yk):=fun V hV=>by
     have hb:=below_on HU1.out (Nat.le_refl _) hV
     exact⟨(hb.cell (by rw[block_of_add];exact HI.out.2.2.1)).trans HI.out.2.2.2.1,(HI.out.1.1.on hb).1⟩
    have HC:=Lib.hid hcy
    clear hcy
    go_wp2_with fail
    go_loopw [13,14] (fun s i wr=>∃k:Nat,k≤ng∧s= .bool (bp||decide (yk∈gk.take k))∧i= .int .i64 (k:Int)∧Hid (Below u1.heap.size u1 wr)) (fun _ i _=>ng-(intOf i).toNat)
    case atStart=>exact⟨0,Nat.zero_le _,by simp,rfl,Below.refl _ _⟩
    case round=>
     obtain⟨k,hk,rfl,rfl,HB⟩:=hrel
     by_cases hlk:k<ng
     case neg=>
      obtain rfl:k=ng:=by omega
      have hta:gk.take k=gk:=List.take_of_length_le (by rw[HK.out.2.1,List.length_map,HQ.out.n4];exact Nat.le_refl _)
      have HT:=Lib.hid hta
      clear hta
      go_wp2_with fail
      go_meet
      exact⟨by rw[HT.out],HB.out⟩
     have hlk':(k:Int)<(ng:Int):=by omega
     have hw2:IntKind.i64.wrap ((k:Int)+1)=(k:Int)+1:=by have:=HQ.out.f4;rw[IntKind.wrap_i64];omega
     have hgl:gk.length=ng:=by rw[HK.out.2.1,List.length_map,HQ.out.n4]
     have hmn:=mem_next (gk:=gk) (yk:=yk) (k:=k) (by omega)
     have hidg:k<dg.length:=by rw[HQ.out.n4];exact hlk
     obtain⟨gd,rfl,-,-⟩:=HG.out.g.at_.1.2 (by omega)
     have hga:=(HG.out.to HB.out).g.at_
     obtain⟨hgb,g1⟩:=hga.cell hlk hidg
     have hgr:=hga.2.1 _ (List.getElem_mem hidg)
     have hgy:gk[k]'(by omega)=dg[k].1:=by simp only[HK.out.2.1,List.getElem_map]
     rw[hgy]at hmn
     obtain⟨x,hx⟩:∃x,dg[k]=x:=⟨_,rfl⟩
     rw[hx]at g1 hgr hmn
     obtain⟨xk,⟨xA,xn,xc⟩⟩:=x
     simp only at g1 hgr hmn
     obtain⟨c1,c2⟩:=HC.out wr HB.out
     obtain⟨ob,hob⟩:∃b:Bool,b=(bp||decide (yk∈gk.take k)):=⟨_,rfl⟩
     rw[←hob]
     have hnx:(bp||decide (yk∈gk.take (k+1)))=(ob||(xk==yk)):=by rw[hmn,hob,Bool.or_assoc]
     have HNX:=Lib.hid hnx
     clear hnx hmn hob hgl hgy hx hga hgb hidg
     rcases ob with _|_
     ·have hP0:(wr.drew.cell? (gd.add k)=some (.slice xA xn xc))∧(wr.drew.cell? (ad.add (i*2))=some (.slice yA yn yc))∧(convert 50 9 (.slice xA xn xc)).run Tryz.prog wr.drew= .ok (.string ⟨xk.toArray⟩) wr.drew∧(convert 50 9 (.slice yA yn yc)).run Tryz.prog wr.drew= .ok (.string ⟨yk.toArray⟩) wr.drew:=
       ⟨g1,c1,run_str (c:=xc) hgr.1.drew,run_str (c:=yc) c2.drew⟩
      clear g1 c1 c2 hgr
      go_upto_region 14 with fail
      refine wp_region_held_drew (S:=fun V=>(V.cell? (gd.add k)=some (.slice xA xn xc))∧(V.cell? (ad.add (i*2))=some (.slice yA yn yc))∧(convert 50 9 (.slice xA xn xc)).run Tryz.prog V= .ok (.string ⟨xk.toArray⟩) V∧(convert 50 9 (.slice yA yn yc)).run Tryz.prog V= .ok (.string ⟨yk.toArray⟩) V) (by kernel_rfl) ?_ (fun hHeld=>?_)
      ·exact hP0
      refine tk 0 ?_
      refine tk 1 ?_
      refine tk 2 (hw:=by kernel_rfl) ?_
      refine tk 3 (hw:=by kernel_rfl) ?_
      refine tk 4 (hw:=by kernel_rfl) ?_
      refine tk 5 (hw:=by kernel_rfl) ?_
      refine tk 6 (hw:=by kernel_rfl) ?_
      refine tk 7 (hw:=by kernel_rfl) ?_
      refine tk 8 (hw:=by kernel_rfl) ?_
      refine tk 9 (hw:=by kernel_rfl) ?_
      refine tk 10 (hw:=by kernel_rfl) ?_
      refine tk 11 (hw:=by kernel_rfl) ?_
      refine tk 12 (hw:=by kernel_rfl) ?_
      refine tk 13 (hw:=by kernel_rfl) ?_
      refine tk 14 (hw:=by kernel_rfl) ?_
      refine tk 15 (hw:=by kernel_rfl) ?_
      refine wpAnyH_done (by kernel_rfl) ?_ _
      clear hHeld hP0
      go_wp2_with fail
      go_roundw
      case rel=>exact⟨k+1,by omega,by rw[HNX.out,Bool.false_or],by go_num,HB.out.drew⟩
      case measure=>simp[intOf];omega
     ·clear g1 c1 c2 hgr
      go_upto_region 14 with fail
      refine wp_region_held_drew (S:=fun _=>True) (by kernel_rfl) ?_ (fun hHeld=>?_)
      ·exact trivial
      refine tk 0 ?_
      refine tk 1 ?_
      refine tu 2 ?_
      refine tu 3 ?_
      refine tu 4 ?_
      refine tu 5 ?_
      refine tu 6 ?_
      refine tu 7 ?_
      refine tu 8 ?_
      refine tu 9 ?_
      refine tu 10 ?_
      refine tu 11 ?_
      refine tu 12 ?_
      refine tu 13 ?_
      refine tk 14 (hw:=by kernel_rfl) ?_
      refine tk 15 (hw:=by kernel_rfl) ?_
      refine wpAnyH_done (by kernel_rfl) ?_ _
      clear hHeld
      go_wp2_with fail
      go_roundw
      case rel=>exact⟨k+1,by omega,by rw[HNX.out,Bool.true_or],by go_num,HB.out.drew⟩
      case measure=>simp[intOf];omega
   case rest=>
    obtain⟨U,rfl⟩:∃V,V=wc:=⟨_,rfl⟩
    obtain⟨rfl,hbc⟩:=hcut
    have hbw:=below_on HU1.out (Nat.le_refl _) hbc
    have HV:=Lib.hid (HW.out.to hbw)
    have hst:=HI.out.2.1
    obtain⟨ob,hob⟩:∃b:Bool,b=(bp||decide (yk∈gk)):=⟨_,rfl⟩
    rw[←hob]at hst ⊢
    have c1:U.cell? (ad.add (i*2))=some (.slice yA yn yc):=(hbw.cell (by rw[block_of_add];exact HI.out.2.2.1)).trans HI.out.2.2.2.1
    have c2:U.cell? ⟨(ad.add (i*2)).block,(ad.add (i*2)).off+1,none⟩=some (.slice vA vn vc):=(hbw.cell (p:=⟨(ad.add (i*2)).block,(ad.add (i*2)).off+1,none⟩) (show (ad.add (i*2)).block<_ by rw[block_of_add];exact HI.out.2.2.1)).trans HI.out.2.2.2.2.1
    clear hob hbc hbw
    rcases ob with _|_
    ·have hst2:stayL (ks.take (i+1)) pk gk=stayL (ks.take i) pk gk++[⟨yk,yv⟩]:=hst
     have HST:=Lib.hid hst2
     have hrow:=Lib.hid (HV.out.2.1.alloc (.cells #[.slice yA yn yc,.slice vA vn vc] 52))
     have hrd2:=Lib.hid (Reads.made U #[.slice yA yn yc,.slice vA vn vc] 52 (0,0) 2 1 (itsV [(⟨yk,yv⟩,(yA,yn,yc),(vA,vn,vc))]) rfl rfl)
     have hnb:nl+1≤maxLen∧(nl+1)*48≤140737488355328:=by have:=HQ.out.f1;have:=HV.out.2.2.2.2;simp only[maxLen];omega
     have hsz:X.heap.size≤(U.alloc (.cells #[.slice yA yn yc,.slice vA vn vc] 52)).heap.size:=by have:=HV.out.1.size;simp;omega
     clear hst hst2
     go_wp2_with (at_builtin;refine wpList_append_any _ rfl (.tmp 95) (.tmp 100) _ rfl X.heap.size 52 i1 _ 2 48 Tryz.underlying43 hi1 hx0 hx1 hx2 rfl (Nat.zero_lt_succ _) (.slice L nl cl) nl _ rfl hrow.out _ (some ⟨U.heap.size,0,none⟩) 1 1 _ rfl hrd2.out (itsV_one _) hnb.1 hnb.2 hsz ?_;intro v6 w6 hown6 hg6 hat6;obtain⟨A6,c6,rfl⟩:=own_form hown6;have H6:=Lib.hid (HV.out.push HI.out.2.2.2.2.2.1 HST.out hown6 hg6);clear hown6 hg6 hat6)
     go_roundw
     case rel=>exact⟨i+1,_,A6,nl+1,c6,by omega,rfl,by go_num,H6⟩
     case measure=>simp[intOf];omega
    ·have hst2:stayL (ks.take (i+1)) pk gk=stayL (ks.take i) pk gk++[]:=hst
     have H6:=Lib.hid (HV.out.skip hst2)
     clear hst hst2 c1 c2
     go_wp2_with fail
     go_roundw
     case rel=>exact⟨i+1,l,L,nl,cl,by omega,rfl,by go_num,H6⟩
     case measure=>simp[intOf];omega
 case rest=>
  obtain⟨U,rfl⟩:∃V,V=wc:=⟨_,rfl⟩
  obtain⟨l,L,nl,cl,rfl,HW⟩:=hcut
  have HF:=Lib.hid (HX.out.to HW.out.1)
  have hpa:∀e∈d1,e.1∈planIts p:=fun e he=>HQ.out.pa.mem_iff.1 (List.mem_map.2 ⟨e,he,rfl⟩)
  have hpb:∀e∈dp,e.1∈planIts q:=fun e he=>by
   have h1:=((HQ.out.put.2 e.1).1 (List.mem_map.2 ⟨e,he,rfl⟩)).1
   exact HQ.out.pb.mem_iff.1 (lastV_mem h1)
  have hl:l.map (·.1)=stayL (d1.map (·.1)) (dp.map (·.1)) (dg.map (·.1)):=by
   rw[HW.out.2.2.2.1,HK.out.1,HK.out.2.1,HK.out.2.2,List.take_of_length_le (by rw[List.length_map,HQ.out.n1];exact Nat.le_refl _)]
  have na:((d1.map (·.1)).map (·.k)).Nodup:=((HQ.out.pa.map (·.k)).nodup_iff).2 (planIts_nodup (recOK_sound HQ.out.sp))
  have nb:((d2.map (·.1)).map (·.k)).Nodup:=((HQ.out.pb.map (·.k)).nodup_iff).2 (planIts_nodup (recOK_sound HQ.out.sq))
  have hpm:(l.map (·.1)++dp.map (·.1)).Perm (planIts q):=by rw[hl];exact(apply_law na nb HQ.out.put HQ.out.gone).trans HQ.out.pb
  have hIl:ItsAt U U.heap.size L nl cl l:=⟨Reads.of_own HW.out.2.1,fun e he=>HF.out.a.at_.2.1 e (HW.out.2.2.1 e he),own_cap HW.out.2.1⟩
  have hnl:nl≤20000:=by have:=HW.out.2.2.2.2;have:=HQ.out.f1;omega
  have K1:=Lib.hid (ownL_any l L nl cl U hIl (by omega) (own_small HQ.out.sp hIl.2.1 (fun e he=>hpa e (HW.out.2.2.1 e he))))
  have K2:=Lib.hid (fun V (hV:Below U.heap.size U V)=>ownL_any dp P np cp V (HF.out.p.below hV).at_ (by have:=HQ.out.f3;omega) (own_small HQ.out.sq (HF.out.p.below hV).at_.2.1 hpb))
  have HPM:=Lib.hid (And.intro hpm hnl)
  clear hpa hpb hl na nb hpm hIl hnl
  go_wp2_with fail
  refine K1.out.mono ?_
  rintro e u1 ⟨A5,c5,e1,rfl,ho1,hd1,hb1,-⟩
  have HO1:=Lib.hid (And.intro ho1 (And.intro hd1 hb1))
  clear ho1 hd1 hb1 K1
  go_wp2_with fail
  refine(K2.out u1 HO1.out.2.2).mono ?_
  rintro e u2 ⟨A6,c6,e2,rfl,ho2,hd2,hb2,-⟩
  have hrow:=Lib.hid (HO1.out.1.below hb2)
  have hnb:nl+np≤maxLen∧(nl+np)*48≤140737488355328∧nl+np≤65536:=by have:=HPM.out.2;have:=HQ.out.f3;simp only[maxLen];omega
  have HO2:=Lib.hid (And.intro ho2 (And.intro hd2 (below_on HO1.out.2.2 (Nat.le_refl _) hb2)))
  have hs12:=Lib.hid HO1.out.2.2.size
  clear ho2 hd2 hb2 K2
  go_wp2_with (at_builtin;refine wpList_append_any _ rfl (.tmp 104) (.tmp 106) _ rfl U.heap.size 52 i1 _ 2 48 Tryz.underlying43 hi1 hx0 hx1 hx2 rfl (Nat.zero_lt_succ _) (.slice A5 nl c5) nl _ rfl hrow.out.1 _ A6 np c6 _ rfl (Reads.of_own HO2.out.1.1) (itsV_one _) hnb.1 hnb.2.1 HO2.out.2.2.size ?_;intro v7 w7 hown7 hg7 hat7;obtain⟨A7,c7,rfl⟩:=own_form hown7;have H7:=Lib.hid (And.intro (hrow.out.append (fun x hx=>(HO2.out.1.2 x hx).mono hs12.out) hown7 hg7) (HO2.out.2.2.grown hg7 HO2.out.2.2.size (fun g e=>(hrow.out.1.lt g e).1)));clear hown7 hg7 hat7)
  have hpm:((e1++e2).map (·.1)).Perm (planIts q):=by rw[List.map_append,HO1.out.2.1,HO2.out.2.1];exact HPM.out.1
  have KR:=Lib.hid (planRN_any (e1++e2) A7 (nl+np) c7 w7 H7.out.1.at_ hnb.2.2 H7.out.1.addr (by rw[szL_perm hpm];have:=HQ.out.sz;omega))
  have HPQ:=Lib.hid hpm
  clear hpm
  refine KR.out.mono ?_
  rintro e w8 hpost
  obtain⟨hb8,A8,n8,c8,A9,n9,c9,rfl,hP8⟩:=plan_yes HQ.out.sq HPQ.out hpost
  obtain⟨Z,hZ⟩:∃V,V=w8.alloc (.cells #[.slice A8 n8 c8,.slice A9 n9 c9] 30):=⟨_,rfl⟩
  obtain⟨gq,hgq⟩:∃g,g=w8.heap.size:=⟨_,rfl⟩
  have hb9:Below U.heap.size U Z:=by rw[hZ];exact(below_on H7.out.2 (Nat.le_refl _) hb8).alloc (Nat.le_trans H7.out.2.size hb8.size) _
  have hP9:PlanAt Z Z.heap.size A8 n8 c8 A9 n9 c9 q:=hP8.on (by rw[hZ];exact(Below.refl _ _).alloc (Nat.le_refl _) _)
  have hK9:PlK Z gq A8 n8 c8 A9 n9 c9:=by rw[hZ,hgq];exact PlK.new w8 A8 n8 c8 A9 n9 c9
  have hF9:=HF.out.pl.to hb9
  have KS:=Lib.hid (samePl_any q q A8 A9 B B' n8 c8 n9 c9 m d m' d' Z hP9 hF9.two)
  obtain⟨q1,q2,q3⟩:=hK9.facts
  obtain⟨z1,z2,z3⟩:=hF9.2.2.2.1.facts
  have HE:=Lib.hid hF9.1
  clear hpost hb8 hP8 hb9 hP9 hK9 hF9 KR HPQ H7 HO2 hrow HO1
  go_upto_region 18 with fail
  rw[←hZ,←hgq]
  clear hZ hgq
  go_wp2_with fail
  refine KS.out.mono ?_
  rintro e w10 ⟨rfl,hb10⟩
  have HR:=Lib.hid (below_on HE.out (Nat.le_refl _) hb10)
  clear hb10 KS HE
  go_wp2_with fail
  go_ret
  exact⟨by rw[plEq_self];rfl,HR.out⟩
end Go.Proofs.YtpkeacnacjnlcaaGreat

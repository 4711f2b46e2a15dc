/- merestonelaw14.RecordDelta: the walk. -/
import Derived.Deep.CutBlock
import Derived.Deep.DeepCutAuto
import Derived.Test.YtpkeacnacjnlcaaGreatK03
import Derived.Test.YtpkeacnacjnlcaaGreatK46
import Derived.Test.YtpkeacnacjnlcaaGreatK47
namespace Go.Proofs.YtpkeacnacjnlcaaGreat
open Go.RowKit Go.Lib
attribute [local go_sem] geq_str
/-- What the law holds while it looks. -/
structure RdF (d1 d2 dp:List ItH) (dg:List BsH) (A:Option Addr) (n c:Nat) (B:Option Addr) (m cB:Nat) (P:Option Addr) (np cp:Nat) (G:Option Addr) (ng cg:Nat) (w W:World):Prop where
 bel:Below w.heap.size w W
 a:ItsAt W W.heap.size A n c d1
 b:ItsAt W W.heap.size B m cB d2
 p:ItsAt W W.heap.size P np cp dp
 g:BsAt W W.heap.size G ng cg dg
theorem RdF.on {d1 d2 dp:List ItH} {dg:List BsH} {A B P G:Option Addr} {n c m cB np cp ng cg:Nat} {w W W':World} (h:RdF d1 d2 dp dg A n c B m cB P np cp G ng cg w W) (hb:Below W.heap.size W W'):RdF d1 d2 dp dg A n c B m cB P np cp G ng cg w W':=
 ⟨below_on h.bel (Nat.le_refl _) hb,h.a.on hb,h.b.on hb,h.p.on hb,h.g.on hb⟩
/-- What is known of the two lists and the answer. -/
structure RdN (d1 d2 dp:List ItH) (dg:List BsH) (n m np ng:Nat):Prop where
 n1:d1.length=n
 n2:d2.length=m
 n3:dp.length=np
 n4:dg.length=ng
 f1:n≤300
 f2:m≤300
 f3:np≤300
 f4:ng≤300
 put:PutOf (d1.map (·.1)) (d2.map (·.1)) (dp.map (·.1))
 gone:GoneOf (d1.map (·.1)) (d2.map (·.1)) (dg.map (·.1))
theorem itAt_hd {d:List ItH} {i:Nat} (h:i<d.length):itAt (d.map (·.1)) i=d[i].1:=by rw[itAt_lt (by simpa using h)];simp
theorem dPutN_le (a b:List It) (n:Nat):dPutN a b n≤n:=by unfold dPutN;exact Nat.le_trans (List.length_filter_le _ _) (by simp)
theorem dGoneN_le (a b:List It) (n:Nat):dGoneN a b n≤n:=by unfold dGoneN;exact Nat.le_trans (List.length_filter_le _ _) (by simp)
set_option maxRecDepth 100000 in
set_option maxHeartbeats 12800000 in
theorem recordDelta_any (d1 d2:List ItH) (A B:Option Addr) (n c m cB:Nat) (w:World) (h1:ItsAt w w.heap.size A n c d1) (h2:ItsAt w w.heap.size B m cB d2) (hl1:∀e∈d1,e.1.k.length≤140737488351232∧e.1.v.length≤140737488351232) (hl2:∀e∈d2,e.1.k.length≤140737488351232∧e.1.v.length≤140737488351232):
 Calls Tryz.prog 4 #[.slice A n c,.slice B m cB] w fun e w'=>e= .returned (.bool true)∧Below w.heap.size w w':=by
 have H0:=Lib.hid (And.intro h1 (And.intro h2 (And.intro hl1 (And.intro hl2 (And.intro h1.len h2.len)))))
 clear h1 h2 hl1 hl2
 go_enter Tryz.func4,Tryz.ntmps4
 go_wp2_with fail
 refine(ans14_any w).mono ?_
 rintro e w1 ⟨rfl,hb1⟩
 have H1:=Lib.hid (And.intro (H0.out.1.on hb1) (And.intro (H0.out.2.1.on hb1) hb1))
 clear hb1
 have KZ:=Lib.hid (ans14_any w1)
 by_cases h300:n≤300
 case neg=>
  have hg:(300:Int)<(n:Int):=by omega
  go_wp2_with fail
  refine KZ.out.mono ?_
  rintro e w2 ⟨rfl,hb2⟩
  have H2:=Lib.hid (below_on H1.out.2.2 (Nat.le_refl _) hb2)
  clear hb2 H1 KZ
  go_wp2_with fail
  go_ret
  exact⟨rfl,H2.out⟩
 by_cases h301:m≤300
 case neg=>
  have hg:¬(300:Int)<(n:Int):=by omega
  have hg2:(300:Int)<(m:Int):=by omega
  go_wp2_with fail
  refine KZ.out.mono ?_
  rintro e w2 ⟨rfl,hb2⟩
  have H2:=Lib.hid (below_on H1.out.2.2 (Nat.le_refl _) hb2)
  clear hb2 H1 KZ
  go_wp2_with fail
  go_ret
  exact⟨rfl,H2.out⟩
 have hg:¬(300:Int)<(n:Int):=by omega
 have hg2:¬(300:Int)<(m:Int):=by omega
 have hlen:∀ {d:List ItH} {W:World} {A:Option Addr} {n c:Nat},ItsAt W W.heap.size A n c d→(∀e∈d,e.1.k.length≤140737488351232∧e.1.v.length≤140737488351232)→∀e∈d,e.2.1.2.1≤140737488351232∧e.2.2.2.1≤140737488351232:=fun {d W A n c} hd hl e he=>by
  have h1:=hl e he
  have h2:=(hd.2.1 e he).1.1.len8
  have h3:=(hd.2.1 e he).2.1.len8
  omega
 have K1:=Lib.hid (ownL_any d1 A n c w1 H1.out.1 (by omega) (hlen H1.out.1 H0.out.2.2.1))
 have K2:=Lib.hid (fun V (hV:Below w1.heap.size w1 V)=>ownL_any d2 B m cB V (H1.out.2.1.on hV) (by omega) (hlen (H1.out.2.1.on hV) H0.out.2.2.2.1))
 clear hlen
 go_wp2_with fail
 refine K1.out.mono ?_
 rintro e w2 ⟨A1,c1,e1,rfl,ho1,hd1,hb2,-⟩
 have HO1:=Lib.hid (And.intro ho1 (And.intro hd1 hb2))
 clear ho1 hd1 hb2 K1
 go_wp2_with fail
 refine(K2.out w2 HO1.out.2.2).mono ?_
 rintro e w3 ⟨A2,c2,e2,rfl,ho2,hd2,hb3,-⟩
 have hle:∀ {d e:List ItH},e.map (·.1)=d.map (·.1)→(∀x∈d,x.1.k.length≤140737488351232∧x.1.v.length≤140737488351232)→∀x∈e,x.1.k.length≤140737488351232∧x.1.v.length≤140737488351232:=fun {d e} h hd x hx=>by
  have hm:x.1∈d.map (·.1):=by rw[←h];exact List.mem_map.2 ⟨x,hx,rfl⟩
  obtain⟨y,hy,e'⟩:=List.mem_map.1 hm
  rw[←e']
  exact hd y hy
 have KD:=Lib.hid (delta_any e1 e2 A1 A2 n c1 m c2 w3 (HO1.out.1.below hb3).at_ ho2.at_ (by omega) (by omega) (fun x hx=>(hle HO1.out.2.1 H0.out.2.2.1 x hx).1) (hle hd2 H0.out.2.2.2.1))
 have HE:Hid (e1.map (·.1)=d1.map (·.1)∧e2.map (·.1)=d2.map (·.1)):=⟨HO1.out.2.1,hd2⟩
 have H3:=Lib.hid (And.intro (below_on H1.out.2.2 (Nat.le_refl _) (below_on HO1.out.2.2 (Nat.le_refl _) hb3)) (And.intro (H1.out.1.on (below_on HO1.out.2.2 (Nat.le_refl _) hb3)) (H1.out.2.1.on (below_on HO1.out.2.2 (Nat.le_refl _) hb3))))
 clear ho2 hd2 hb3 hle HO1 K2 H1
 go_wp2_with fail
 refine KD.out.mono ?_
 rintro e X ⟨P,np,cp,G,ng,cg,dp,dg,rfl,hp,hgo,hput,hgone,hnp,hng,hbX⟩
 have HN:Hid (RdN d1 d2 dp dg n m np ng):=by
  have l1:=congrArg List.length HE.out.1
  have l2:=congrArg List.length HE.out.2
  rw[List.length_map,List.length_map]at l1 l2
  rw[HE.out.1,HE.out.2]at hput hgone
  have:=H0.out.2.2.2.2
  exact⟨this.1,this.2,hp.len,hgo.len,h300,h301,by omega,by omega,hput,hgone⟩
 have HX:Hid (RdF d1 d2 dp dg A n c B m cB P np cp G ng cg w X):=⟨below_on H3.out.1 (Nat.le_refl _) hbX,H3.out.2.1.on hbX,H3.out.2.2.on hbX,hp.at_,hgo.at_⟩
 clear hp hgo hput hgone hnp hng hbX H3 HE KD KZ h300 h301 hg hg2 H0
 go_wp2_with fail
 refine(rising_any dp P np cp X HX.out.p (by have:=HN.out.f3;omega)).mono ?_
 rintro e Y ⟨b,rfl,hb,hbY⟩
 obtain rfl:b=true:=hb.2 (by have:=HN.out.put.1;rw[List.map_map]at this;exact this)
 have HY:=Lib.hid (HX.out.on hbY)
 clear hb hbY HX
 obtain⟨a',ha'⟩:∃a,a=d1.map (·.1):=⟨_,rfl⟩
 obtain⟨b',hb'⟩:∃b,b=d2.map (·.1):=⟨_,rfl⟩
 have HAB:=Lib.hid (And.intro ha' hb')
 clear ha' hb'
 go_upto_block 0 with fail
 go_cut [7] (fun s wx=>s= .int .i64 (np:Int)∧Hid (RdF d1 d2 dp dg A n c B m cB P np cp G ng cg w wx))
 case first=>
  go_wp2_with fail
  go_loopw [7,8] (fun s i wr=>∃k:Nat,k≤m∧s= .int .i64 (dPutN a' b' k:Nat)∧i= .int .i64 (k:Int)∧Hid (RdF d1 d2 dp dg A n c B m cB P np cp G ng cg w wr)) (fun _ i _=>m-(intOf i).toNat)
  case atStart=>exact⟨0,Nat.zero_le _,rfl,rfl,HY.out⟩
  case round=>
   clear HY
   obtain⟨i,hi,rfl,rfl,HW⟩:=hrel
   by_cases hlt:i<m
   case neg=>
    obtain rfl:i=m:=by omega
    have HE:=Lib.hid HW.out
    have hlen:dPutN a' b' i=np:=by
     have h:=dPutN_len HN.out.put
     rw[←HAB.out.1,←HAB.out.2,List.length_map,HN.out.n3]at h
     rw[←h,HAB.out.2,List.length_map,HN.out.n2]
    have hlen':=Lib.hid hlen
    clear HW hlen
    go_wp2_with fail
    go_meet
    exact⟨by rw[hlen'.out],HE.out⟩
   have hlt':(i:Int)<(m:Int):=by omega
   have hw1:IntKind.i64.wrap ((i:Int)+1)=(i:Int)+1:=by have:=HN.out.f2;rw[IntKind.wrap_i64];omega
   obtain⟨N,hN⟩:∃N,N=dPutN a' b' i:=⟨_,rfl⟩
   have hNi:N≤i:=by rw[hN];exact dPutN_le _ _ _
   have hw2:IntKind.i64.wrap ((N:Int)+1)=(N:Int)+1:=by have:=HN.out.f2;rw[IntKind.wrap_i64];omega
   have hsucc:=dPutN_succ a' b' i
   rw[←hN]at hsucc ⊢
   have hid2:i<d2.length:=by rw[HN.out.n2];exact hlt
   obtain⟨bd,rfl,-,-⟩:=HW.out.b.1.2 (by omega)
   obtain⟨hbb,p1,p2⟩:=HW.out.b.cells hlt hid2
   have hrd:=HW.out.b.2.1 _ (List.getElem_mem hid2)
   have hyi:itAt b' i=d2[i].1:=by rw[HAB.out.2];exact itAt_hd hid2
   obtain⟨y,hy⟩:∃y,d2[i]=y:=⟨_,rfl⟩
   rw[hy]at p1 p2 hrd hyi
   obtain⟨⟨yk,yv⟩,⟨yA,yn,yc⟩,⟨vA,vn,vc⟩⟩:=y
   simp only at p1 p2 hrd hyi
   have KB:=fun V (hV:Below wr.heap.size wr V)=>find_any d2 yk (some bd) yA m cB yn yc V (HW.out.b.on hV) (hrd.1.1.on hV) (by have:=HN.out.f2;omega)
   have KA:=fun V (hV:Below wr.heap.size wr V)=>find_any d1 yk A yA n c yn yc V (HW.out.a.on hV) (hrd.1.1.on hV) (by have:=HN.out.f1;omega)
   have KP:=fun V (hV:Below wr.heap.size wr V)=>find_any dp yk P yA np cp yn yc V (HW.out.p.on hV) (hrd.1.1.on hV) (by have:=HN.out.f3;omega)
   rw[←HAB.out.2]at KB
   rw[←HAB.out.1]at KA
   obtain⟨f1,hf1⟩:∃f,f=findI b' yk:=⟨_,rfl⟩
   obtain⟨f2,hf2⟩:∃f,f=findI a' yk:=⟨_,rfl⟩
   obtain⟨f3,hf3⟩:∃f,f=findI (dp.map (·.1)) yk:=⟨_,rfl⟩
   rw[←hf1]at KB
   rw[←hf2]at KA
   rw[←hf3]at KP
   have KB:=Lib.hid KB
   have KA:=Lib.hid KA
   have KP:=Lib.hid KP
   have HI:=Lib.hid (And.intro hyi (And.intro hf1 (And.intro hf2 (And.intro hf3 (And.intro hrd (And.intro hsucc (And.intro hbb (And.intro p2 hid2))))))))
   clear hyi hf1 hf2 hf3 hrd hsucc hbb p2 hN hNi hy hid2
   go_wp2_with fail
   refine(KB.out wr (Below.refl _ _)).mono ?_
   rintro e u1 ⟨rfl,hu1⟩
   have HU1:=Lib.hid hu1
   by_cases he:f1=(i:Int)
   case neg=>
    have HM:Hid (dPutN a' b' (i+1)=N):=by
     show _=_
     rw[HI.out.2.2.2.2.2.1,HI.out.1,←HI.out.2.1,decide_eq_false he]
     rfl
    clear hu1 p1 KB KA KP
    go_wp2_with fail
    go_roundw
    case rel=>exact⟨i+1,by omega,by rw[HM.out],by go_num,HW.out.on HU1.out⟩
    case measure=>simp[intOf];omega
   have q1:u1.cell? (bd.add (i*2))=some (.slice yA yn yc):=(hu1.cell (by rw[block_of_add];exact HI.out.2.2.2.2.2.2.1)).trans p1
   have HEI:=Lib.hid he
   clear p1 hu1 KB
   go_wp2_with fail
   refine(KA.out u1 HU1.out).mono ?_
   rintro e u2 ⟨rfl,hu2⟩
   have HU2:=Lib.hid (below_on HU1.out (Nat.le_refl _) hu2)
   have q2:u2.cell? (bd.add (i*2))=some (.slice yA yn yc):=(hu2.cell (by rw[block_of_add];have:=HI.out.2.2.2.2.2.2.1;have:=HU1.out.size;omega)).trans q1
   clear q1 hu2 KA
   go_wp2_with fail
   refine(KP.out u2 HU2.out).mono ?_
   rintro e u3 ⟨rfl,hu3⟩
   have HU3:=Lib.hid (below_on HU2.out (Nat.le_refl _) hu3)
   clear q2 hu3 KP
   obtain⟨wb,hwb⟩:∃q:Bool,q=wantB a' b' i:=⟨_,rfl⟩
   have HWB:=Lib.hid hwb
   clear hwb
   have HF:=Lib.hid (HW.out.on HU3.out)
   have hv2:u3.cell? ⟨(bd.add (i*2)).block,(bd.add (i*2)).off+1,none⟩=some (.slice vA vn vc):=(HU3.out.cell (p:=⟨(bd.add (i*2)).block,(bd.add (i*2)).off+1,none⟩) (show (bd.add (i*2)).block<_ by rw[block_of_add];exact HI.out.2.2.2.2.2.2.1)).trans HI.out.2.2.2.2.2.2.2.1
   have hs2:=run_str (c:=vc) (HI.out.2.2.2.2.1.2.on HU3.out).1
   go_upto_region 13 with fail
   go_cut [11] (fun s wx=>s= .bool wb∧Below u3.heap.size u3 wx)
   case first=>
    by_cases hz:f2<0
    ·have hcg:Hid (wb=true):=by
      show _=_
      rw[HWB.out]
      unfold wantB
      rw[HI.out.1,←HI.out.2.2.1,decide_eq_true hz]
      rfl
     clear hv2 hs2
     refine wp_region_held_drew (S:=fun _=>True) (by kernel_rfl) ?_ (fun hHeld=>?_)
     ·exact trivial
     refine tk 0 ?_
     refine tk 1 ?_
     refine tk 2 ?_
     refine tu 3 ?_
     refine tu 4 ?_
     refine tu 5 ?_
     refine tu 6 ?_
     refine tu 7 ?_
     refine tu 8 ?_
     refine tu 9 ?_
     refine tu 10 ?_
     refine tu 11 ?_
     refine tu 12 ?_
     refine tu 13 ?_
     refine tu 14 ?_
     refine tu 15 ?_
     refine tk 16 (hw:=by kernel_rfl) ?_
     refine tk 17 (hw:=by kernel_rfl) ?_
     refine wpAnyH_done (by kernel_rfl) ?_ _
     go_wp2_with fail
     go_meet
     exact⟨by rw[hcg.out],(Below.refl _ _).drew⟩
    ·rcases findI_cases a' yk with ⟨e,-⟩|⟨k,hk,e,-,-⟩
     ·have:=HI.out.2.2.1
      omega
     obtain rfl:f2=(k:Int):=HI.out.2.2.1.trans e
     have hkd:k<d1.length:=by rw[HAB.out.1,List.length_map]at hk;exact hk
     have hkn:k<n:=by rw[←HN.out.n1];exact hkd
     obtain⟨ad,rfl,-,-⟩:=HF.out.a.1.2 (by omega)
     obtain⟨-,-,r2⟩:=HF.out.a.cells hkn hkd
     have hrx:=HF.out.a.2.1 _ (List.getElem_mem hkd)
     have hxi:itAt a' k=d1[k].1:=by rw[HAB.out.1];exact itAt_hd hkd
     obtain⟨x,hx⟩:∃x,d1[k]=x:=⟨_,rfl⟩
     rw[hx]at r2 hrx hxi
     obtain⟨⟨xk,xv⟩,⟨xA,xn,xc⟩,⟨uA,un,uc⟩⟩:=x
     simp only at r2 hrx hxi
     have hs1:=run_str (c:=uc) hrx.2.1
     have hwv:wb=!decide (xv=yv):=by
      rw[HWB.out]
      unfold wantB
      rw[HI.out.1,←HI.out.2.2.1,Int.toNat_natCast,hxi,decide_eq_false hz]
      rfl
     have hP0:(u3.drew.cell? ⟨(ad.add (k*2)).block,(ad.add (k*2)).off+1,none⟩=some (.slice uA un uc))∧(u3.drew.cell? ⟨(bd.add (i*2)).block,(bd.add (i*2)).off+1,none⟩=some (.slice vA vn vc))∧(convert 50 9 (.slice uA un uc)).run Tryz.prog u3.drew= .ok (.string ⟨xv.toArray⟩) u3.drew∧(convert 50 9 (.slice vA vn vc)).run Tryz.prog u3.drew= .ok (.string ⟨yv.toArray⟩) u3.drew:=
      ⟨r2,hv2,run_str (c:=uc) hrx.2.1.drew,run_str (c:=vc) (HI.out.2.2.2.2.1.2.on HU3.out).1.drew⟩
     clear hv2 hs2 hs1 r2 hrx hxi hx hk e hkd
     rcases Classical.em (xv=yv)with hxy|hxy
     ·have hcg:Hid (wb=false):=by rw[hwv,decide_eq_true hxy];rfl
      subst hxy
      clear hwv
      refine wp_region_held_drew (S:=fun V=>(V.cell? ⟨(ad.add (k*2)).block,(ad.add (k*2)).off+1,none⟩=some (.slice uA un uc))∧(V.cell? ⟨(bd.add (i*2)).block,(bd.add (i*2)).off+1,none⟩=some (.slice vA vn vc))∧(convert 50 9 (.slice uA un uc)).run Tryz.prog V= .ok (.string ⟨xv.toArray⟩) V∧(convert 50 9 (.slice vA vn vc)).run Tryz.prog V= .ok (.string ⟨xv.toArray⟩) V) (by kernel_rfl) ?_ (fun hHeld=>?_)
      ·exact hP0
      refine tk 0 ?_
      refine tk 1 ?_
      refine tk 2 ?_
      refine tk 3 (hw:=by kernel_rfl) ?_
      refine tk 4 (hw:=by kernel_rfl) ?_
      refine tk 5 (hw:=by kernel_rfl) ?_
      refine tk 6 (hw:=by kernel_rfl) ?_
      refine tk 7 (hw:=by kernel_rfl) ?_
      refine tk 8 (hw:=by kernel_rfl) ?_
      refine tk 9 (hw:=by kernel_rfl) ?_
      refine tk 10 (hw:=by kernel_rfl) ?_
      refine tk 11 (hw:=by kernel_rfl) ?_
      refine tk 12 (hw:=by kernel_rfl) ?_
      refine tk 13 (hw:=by kernel_rfl) ?_
      refine tk 14 (hw:=by kernel_rfl) ?_
      refine tk 15 (hw:=by kernel_rfl) ?_
      refine tk 16 (hw:=by kernel_rfl) ?_
      refine tk 17 (hw:=by kernel_rfl) ?_
      refine wpAnyH_done (by kernel_rfl) ?_ _
      clear hHeld hP0
      go_wp2_with fail
      go_meet
      exact⟨by rw[hcg.out],(Below.refl _ _).drew⟩
     ·have hcg:Hid (wb=true):=by rw[hwv,decide_eq_false hxy];rfl
      clear hwv
      refine wp_region_held_drew (S:=fun V=>(V.cell? ⟨(ad.add (k*2)).block,(ad.add (k*2)).off+1,none⟩=some (.slice uA un uc))∧(V.cell? ⟨(bd.add (i*2)).block,(bd.add (i*2)).off+1,none⟩=some (.slice vA vn vc))∧(convert 50 9 (.slice uA un uc)).run Tryz.prog V= .ok (.string ⟨xv.toArray⟩) V∧(convert 50 9 (.slice vA vn vc)).run Tryz.prog V= .ok (.string ⟨yv.toArray⟩) V) (by kernel_rfl) ?_ (fun hHeld=>?_)
      ·exact hP0
      refine tk 0 ?_
      refine tk 1 ?_
      refine tk 2 ?_
      refine tk 3 (hw:=by kernel_rfl) ?_
      refine tk 4 (hw:=by kernel_rfl) ?_
      refine tk 5 (hw:=by kernel_rfl) ?_
      refine tk 6 (hw:=by kernel_rfl) ?_
      refine tk 7 (hw:=by kernel_rfl) ?_
      refine tk 8 (hw:=by kernel_rfl) ?_
      refine tk 9 (hw:=by kernel_rfl) ?_
      refine tk 10 (hw:=by kernel_rfl) ?_
      refine tk 11 (hw:=by kernel_rfl) ?_
      refine tk 12 (hw:=by kernel_rfl) ?_
      refine tk 13 (hw:=by kernel_rfl) ?_
      refine tk 14 (hw:=by kernel_rfl) ?_
      refine tk 15 (hw:=by kernel_rfl) ?_
      refine tk 16 (hw:=by kernel_rfl) ?_
      refine tk 17 (hw:=by kernel_rfl) ?_
      refine wpAnyH_done (by kernel_rfl) ?_ _
      clear hHeld hP0
      go_wp2_with fail
      go_meet
      exact⟨by rw[hcg.out];simp[hxy],(Below.refl _ _).drew⟩
   case rest=>
    obtain⟨U,rfl⟩:∃V,V=wc:=⟨_,rfl⟩
    obtain⟨rfl,hbc⟩:=hcut
    have HG:=Lib.hid (HF.out.on hbc)
    have hv3:U.cell? ⟨(bd.add (i*2)).block,(bd.add (i*2)).off+1,none⟩=some (.slice vA vn vc):=(hbc.cell (p:=⟨(bd.add (i*2)).block,(bd.add (i*2)).off+1,none⟩) (show (bd.add (i*2)).block<_ by rw[block_of_add];have:=HI.out.2.2.2.2.2.2.1;have:=HU3.out.size;omega)).trans hv2
    have hat:=put_at HN.out.put (i:=i) (by rw[←HAB.out.2,HI.out.1,←HI.out.2.1];exact HEI.out)
    rw[←HAB.out.2,←HAB.out.1,HI.out.1,←HI.out.2.2.2.1,←HWB.out]at hat
    have hrv:=(HI.out.2.2.2.2.1.2.on HU3.out).on hbc
    clear hv2 hs2 hbc HF
    rcases wb with _|_
    ·have hz:¬(0:Int)≤f3:=by have:=hat.2 rfl;omega
     have HM:Hid (dPutN a' b' (i+1)=N):=by
      show _=_
      rw[HI.out.2.2.2.2.2.1,←HWB.out,Bool.and_false]
      rfl
     clear hv3 hat hrv
     go_upto_region 14 with fail
     refine wp_region_held_drew (S:=fun _=>True) (by kernel_rfl) ?_ (fun hHeld=>?_)
     ·exact trivial
     refine tk 0 ?_
     refine tk 1 ?_
     refine tk 2 ?_
     refine tk 3 (hw:=by kernel_rfl) ?_
     refine tk 4 (hw:=by kernel_rfl) ?_
     refine tk 5 (hw:=by kernel_rfl) ?_
     refine tk 6 (hw:=by kernel_rfl) ?_
     refine tu 7 ?_
     refine tu 8 ?_
     refine tu 9 ?_
     refine tu 10 ?_
     refine tu 11 ?_
     refine tu 12 ?_
     refine tu 13 ?_
     refine tu 14 ?_
     refine tu 15 ?_
     refine tu 16 ?_
     refine tu 17 ?_
     refine tu 18 ?_
     refine tu 19 ?_
     refine tk 20 (hw:=by kernel_rfl) ?_
     refine tk 21 (hw:=by kernel_rfl) ?_
     refine wpAnyH_done (by kernel_rfl) ?_ _
     clear hHeld hz
     go_wp2_with fail
     go_roundw
     case rel=>exact⟨i+1,by omega,by rw[HM.out],by go_num,HG.out.on (Below.refl _ _).drew⟩
     case measure=>simp[intOf];omega
    ·obtain⟨hz,hvv⟩:=hat.1 rfl
     rcases findI_cases (dp.map (·.1)) yk with ⟨e,-⟩|⟨k,hk,e,-,-⟩
     ·have:=HI.out.2.2.2.1
      omega
     obtain rfl:f3=(k:Int):=HI.out.2.2.2.1.trans e
     have hkd:k<dp.length:=by rw[List.length_map]at hk;exact hk
     have hkn:k<np:=by rw[←HN.out.n3];exact hkd
     obtain⟨ad,rfl,-,-⟩:=HG.out.p.1.2 (by omega)
     obtain⟨-,-,r2⟩:=HG.out.p.cells hkn hkd
     have hrx:=HG.out.p.2.1 _ (List.getElem_mem hkd)
     rw[Int.toNat_natCast,itAt_hd hkd]at hvv
     obtain⟨x,hx⟩:∃x,dp[k]=x:=⟨_,rfl⟩
     rw[hx]at r2 hrx hvv
     obtain⟨⟨xk,xv⟩,⟨xA,xn,xc⟩,⟨uA,un,uc⟩⟩:=x
     simp only at r2 hrx hvv
     subst hvv
     have hP0:(U.drew.cell? ⟨(ad.add (k*2)).block,(ad.add (k*2)).off+1,none⟩=some (.slice uA un uc))∧(U.drew.cell? ⟨(bd.add (i*2)).block,(bd.add (i*2)).off+1,none⟩=some (.slice vA vn vc))∧(convert 50 9 (.slice uA un uc)).run Tryz.prog U.drew= .ok (.string ⟨xv.toArray⟩) U.drew∧(convert 50 9 (.slice vA vn vc)).run Tryz.prog U.drew= .ok (.string ⟨xv.toArray⟩) U.drew:=
      ⟨r2,hv3,run_str (c:=uc) hrx.2.1.drew,run_str (c:=vc) hrv.1.drew⟩
     have HM:Hid (dPutN a' b' (i+1)=N+1):=by
      show _=_
      rw[HI.out.2.2.2.2.2.1,←HWB.out,Bool.and_true,HI.out.1,←HI.out.2.1,if_pos (decide_eq_true HEI.out)]
     clear hv3 hat hrv r2 hrx hx hk e hkd
     go_upto_region 14 with fail
     refine wp_region_held_drew (S:=fun V=>(V.cell? ⟨(ad.add (k*2)).block,(ad.add (k*2)).off+1,none⟩=some (.slice uA un uc))∧(V.cell? ⟨(bd.add (i*2)).block,(bd.add (i*2)).off+1,none⟩=some (.slice vA vn vc))∧(convert 50 9 (.slice uA un uc)).run Tryz.prog V= .ok (.string ⟨xv.toArray⟩) V∧(convert 50 9 (.slice vA vn vc)).run Tryz.prog V= .ok (.string ⟨xv.toArray⟩) V) (by kernel_rfl) ?_ (fun hHeld=>?_)
     ·exact hP0
     refine tk 0 ?_
     refine tk 1 ?_
     refine tk 2 ?_
     refine tk 3 (hw:=by kernel_rfl) ?_
     refine tk 4 (hw:=by kernel_rfl) ?_
     refine tk 5 (hw:=by kernel_rfl) ?_
     refine tk 6 (hw:=by kernel_rfl) ?_
     refine tk 7 (hw:=by kernel_rfl) ?_
     refine tk 8 (hw:=by kernel_rfl) ?_
     refine tk 9 (hw:=by kernel_rfl) ?_
     refine tk 10 (hw:=by kernel_rfl) ?_
     refine tk 11 (hw:=by kernel_rfl) ?_
     refine tk 12 (hw:=by kernel_rfl) ?_
     refine tk 13 (hw:=by kernel_rfl) ?_
     refine tk 14 (hw:=by kernel_rfl) ?_
     refine tk 15 (hw:=by kernel_rfl) ?_
     refine tk 16 (hw:=by kernel_rfl) ?_
     refine tk 17 (hw:=by kernel_rfl) ?_
     refine tk 18 (hw:=by kernel_rfl) ?_
     refine tk 19 (hw:=by kernel_rfl) ?_
     refine tk 20 (hw:=by kernel_rfl) ?_
     refine tk 21 (hw:=by kernel_rfl) ?_
     refine wpAnyH_done (by kernel_rfl) ?_ _
     clear hHeld hP0 hz
     go_wp2_with fail
     go_roundw
     case rel=>exact⟨i+1,by omega,by rw[HM.out];go_num,by go_num,HG.out.on (Below.refl _ _).drew⟩
     case measure=>simp[intOf];omega
 case rest=>
  obtain⟨Z,rfl⟩:∃V,V=wc:=⟨_,rfl⟩
  obtain⟨rfl,HZ⟩:=hcut
  clear HY
  go_upto_block 2 with fail
  go_cut [12] (fun s wx=>s= .int .i64 (ng:Int)∧Hid (RdF d1 d2 dp dg A n c B m cB P np cp G ng cg w wx))
  case first=>
   go_wp2_with fail
   go_loopw [12,13] (fun s i wr=>∃k:Nat,k≤n∧s= .int .i64 (dGoneN a' b' k:Nat)∧i= .int .i64 (k:Int)∧Hid (RdF d1 d2 dp dg A n c B m cB P np cp G ng cg w wr)) (fun _ i _=>n-(intOf i).toNat)
   case atStart=>exact⟨0,Nat.zero_le _,rfl,rfl,HZ.out⟩
   case round=>
    clear HZ
    obtain⟨i,hi,rfl,rfl,HW⟩:=hrel
    by_cases hlt:i<n
    case neg=>
     obtain rfl:i=n:=by omega
     have HE:=Lib.hid HW.out
     have hlen:dGoneN a' b' i=ng:=by
      have h:=dGoneN_len HN.out.gone
      rw[←HAB.out.1,←HAB.out.2,List.length_map,HN.out.n4]at h
      rw[←h,HAB.out.1,List.length_map,HN.out.n1]
     have hlen':=Lib.hid hlen
     clear HW hlen
     go_wp2_with fail
     go_meet
     exact⟨by rw[hlen'.out],HE.out⟩
    have hlt':(i:Int)<(n:Int):=by omega
    have hw1:IntKind.i64.wrap ((i:Int)+1)=(i:Int)+1:=by have:=HN.out.f1;rw[IntKind.wrap_i64];omega
    obtain⟨N,hN⟩:∃N,N=dGoneN a' b' i:=⟨_,rfl⟩
    have hNi:N≤i:=by rw[hN];exact dGoneN_le _ _ _
    have hw2:IntKind.i64.wrap ((N:Int)+1)=(N:Int)+1:=by have:=HN.out.f1;rw[IntKind.wrap_i64];omega
    have hsucc:=dGoneN_succ a' b' i
    rw[←hN]at hsucc ⊢
    have hid1:i<d1.length:=by rw[HN.out.n1];exact hlt
    obtain⟨ad,rfl,-,-⟩:=HW.out.a.1.2 (by omega)
    obtain⟨hbb,p1,-⟩:=HW.out.a.cells hlt hid1
    have hrd:=HW.out.a.2.1 _ (List.getElem_mem hid1)
    have hyi:itAt a' i=d1[i].1:=by rw[HAB.out.1];exact itAt_hd hid1
    obtain⟨y,hy⟩:∃y,d1[i]=y:=⟨_,rfl⟩
    rw[hy]at p1 hrd hyi
    obtain⟨⟨yk,yv⟩,⟨yA,yn,yc⟩,⟨vA,vn,vc⟩⟩:=y
    simp only at p1 hrd hyi
    have KB:=fun V (hV:Below wr.heap.size wr V)=>find_any d2 yk B yA m cB yn yc V (HW.out.b.on hV) (hrd.1.1.on hV) (by have:=HN.out.f2;omega)
    have KA:=fun V (hV:Below wr.heap.size wr V)=>find_any d1 yk (some ad) yA n c yn yc V (HW.out.a.on hV) (hrd.1.1.on hV) (by have:=HN.out.f1;omega)
    rw[←HAB.out.2]at KB
    rw[←HAB.out.1]at KA
    obtain⟨f1,hf1⟩:∃f,f=findI a' yk:=⟨_,rfl⟩
    obtain⟨f2,hf2⟩:∃f,f=findI b' yk:=⟨_,rfl⟩
    rw[←hf1]at KA
    rw[←hf2]at KB
    rw[hyi]at hsucc
    simp only at hsucc
    rw[←hf1,←hf2]at hsucc
    have KB:=Lib.hid KB
    have KA:=Lib.hid KA
    have HI:=Lib.hid (And.intro hsucc hbb)
    clear hyi hf1 hf2 hrd hsucc hbb hN hNi hy hid1
    go_wp2_with fail
    refine(KA.out wr (Below.refl _ _)).mono ?_
    rintro e u1 ⟨rfl,hu1⟩
    have HU1:=Lib.hid hu1
    by_cases he:f1=(i:Int)
    case neg=>
     have HM:Hid (dGoneN a' b' (i+1)=N):=by
      show _=_
      rw[HI.out.1,decide_eq_false he]
      rfl
     clear hu1 p1 KB KA
     go_wp2_with fail
     go_roundw
     case rel=>exact⟨i+1,by omega,by rw[HM.out],by go_num,HW.out.on HU1.out⟩
     case measure=>simp[intOf];omega
    have q1:u1.cell? (ad.add (i*2))=some (.slice yA yn yc):=(hu1.cell (by rw[block_of_add];exact HI.out.2)).trans p1
    have HEI:=Lib.hid he
    clear p1 hu1 KA
    go_wp2_with fail
    refine(KB.out u1 HU1.out).mono ?_
    rintro e u2 ⟨rfl,hu2⟩
    have HU2:=Lib.hid (below_on HU1.out (Nat.le_refl _) hu2)
    clear q1 hu2 KB
    by_cases hz:f2<0
    ·have HM:Hid (dGoneN a' b' (i+1)=N+1):=by
      show _=_
      rw[HI.out.1,decide_eq_true HEI.out,decide_eq_true hz]
      rfl
     go_wp2_with fail
     go_roundw
     case rel=>exact⟨i+1,by omega,by rw[HM.out];go_num,by go_num,HW.out.on HU2.out⟩
     case measure=>simp[intOf];omega
    ·have HM:Hid (dGoneN a' b' (i+1)=N):=by
      show _=_
      rw[HI.out.1,decide_eq_false hz,Bool.and_false]
      rfl
     go_wp2_with fail
     go_roundw
     case rel=>exact⟨i+1,by omega,by rw[HM.out],by go_num,HW.out.on HU2.out⟩
     case measure=>simp[intOf];omega
  case rest=>
   obtain⟨Z2,rfl⟩:∃V,V=wc:=⟨_,rfl⟩
   obtain⟨rfl,HZ2⟩:=hcut
   clear HZ
   go_wp2_with fail
   go_loopw [14] (fun i wr=>∃k:Nat,k≤ng∧i= .int .i64 (k:Int)∧Hid (RdF d1 d2 dp dg A n c B m cB P np cp G ng cg w wr)) (fun i _=>ng-(intOf i).toNat)
   case atStart=>exact⟨0,Nat.zero_le _,rfl,HZ2.out⟩
   case round=>
    clear HZ2
    obtain⟨i,hi,rfl,HW⟩:=hrel
    by_cases hlt:i<ng
    case neg=>
     obtain rfl:i=ng:=by omega
     have HE:=Lib.hid HW.out.bel
     clear HW
     go_wp2_with fail
     go_ret
     exact⟨rfl,HE.out⟩
    have hlt':(i:Int)<(ng:Int):=by omega
    have hw1:IntKind.i64.wrap ((i:Int)+1)=(i:Int)+1:=by have:=HN.out.f4;rw[IntKind.wrap_i64];omega
    have hid4:i<dg.length:=by rw[HN.out.n4];exact hlt
    obtain⟨gd,rfl,-,-⟩:=HW.out.g.1.2 (by omega)
    obtain⟨hbb,p1⟩:=HW.out.g.cell hlt hid4
    have hrd:=HW.out.g.2.1 _ (List.getElem_mem hid4)
    have hga:=gone_at HN.out.gone (k:=dg[i].1) (List.mem_map.2 ⟨dg[i],List.getElem_mem hid4,rfl⟩)
    have hri:=HN.out.gone.1
    have hstep:0<i→ltK (dg[i-1]'(by omega)).1 dg[i].1:=fun h0=>by
     have:=List.pairwise_iff_getElem.1 hri (i-1) i (by rw[List.length_map];omega) (by rw[List.length_map];exact hid4) (by omega)
     simpa using this
    rw[←HAB.out.1,←HAB.out.2]at hga
    obtain⟨y,hy⟩:∃y,dg[i]=y:=⟨_,rfl⟩
    rw[hy]at p1 hrd hga hstep
    obtain⟨yk,⟨yA,yn,yc⟩⟩:=y
    simp only at p1 hrd hga hstep
    have KB:=fun V (hV:Below wr.heap.size wr V)=>find_any d2 yk B yA m cB yn yc V (HW.out.b.on hV) (hrd.1.on hV) (by have:=HN.out.f2;omega)
    have KA:=fun V (hV:Below wr.heap.size wr V)=>find_any d1 yk A yA n c yn yc V (HW.out.a.on hV) (hrd.1.on hV) (by have:=HN.out.f1;omega)
    rw[←HAB.out.2]at KB
    rw[←HAB.out.1]at KA
    generalize findI a' yk=f1 at KA hga
    generalize findI b' yk=f2 at KB hga
    have hz1:¬f1<0:=by omega
    have hz2:¬(0:Int)≤f2:=by omega
    have KB:=Lib.hid KB
    have KA:=Lib.hid KA
    clear hga hri
    rcases Nat.eq_zero_or_pos i with h0|h0
    ·have hi0:¬(0:Int)<(i:Int):=by omega
     have hi1:¬0<i:=by omega
     have HB:=Lib.hid (And.intro hbb (And.intro p1 hrd))
     clear hstep hbb hrd h0
     go_upto_region 27 with fail
     refine wp_region_held_drew (S:=fun V=>V.cell? (gd.add i)=some (.slice yA yn yc)∧Below wr.heap.size wr V) (by kernel_rfl) ?_ (fun hHeld=>?_)
     ·exact⟨p1,(Below.refl _ _).drew⟩
     clear p1
     refine tk 0 ?_
     refine tk 1 ?_
     refine tk 2 ?_
     refine tk 3 (hw:=by kernel_rfl) ?_
     refine tk 4 (hw:=by kernel_rfl) ?_
     refine oneH 5 ?_
     refine callH (KA.out _ (Below.refl _ _).drew) ?_
     rintro e u1 ⟨rfl,hu1⟩
     refine nxt ⟨(hu1.cell (by rw[block_of_add];exact HB.out.1)).trans HB.out.2.1,below_on (Below.refl _ _).drew (Nat.le_refl _) hu1⟩ fun hHeld=>?_
     refine tk 6 (hw:=by kernel_rfl) ?_
     refine tk 7 (hw:=by kernel_rfl) ?_
     refine tk 8 (hw:=by kernel_rfl) ?_
     refine tk 9 (hw:=by kernel_rfl) ?_
     refine tk 10 (hw:=by kernel_rfl) ?_
     refine tk 11 (hw:=by kernel_rfl) ?_
     refine tk 12 (hw:=by kernel_rfl) ?_
     refine oneH 13 ?_
     refine callH (KB.out u1 hHeld.2) ?_
     rintro e u2 ⟨rfl,hu2⟩
     have hbu:Below wr.heap.size wr u2:=below_on hHeld.2 (Nat.le_refl _) hu2
     refine nxt ⟨(hbu.cell (by rw[block_of_add];exact HB.out.1)).trans HB.out.2.1,hbu⟩ fun hHeld=>?_
     refine tk 14 (hw:=by kernel_rfl) ?_
     refine tk 15 (hw:=by kernel_rfl) ?_
     refine tk 16 (hw:=by kernel_rfl) ?_
     refine tk 17 (hw:=by kernel_rfl) ?_
     refine tk 18 (hw:=by kernel_rfl) ?_
     refine tk 19 (hw:=by kernel_rfl) ?_
     refine tu 20 ?_
     refine tu 21 ?_
     refine tu 22 ?_
     refine tu 23 ?_
     refine tu 24 ?_
     refine tu 25 ?_
     refine tu 26 ?_
     refine tu 27 ?_
     refine tu 28 ?_
     refine tu 29 ?_
     refine tu 30 ?_
     refine tu 31 ?_
     refine tk 32 (hw:=by kernel_rfl) ?_
     refine tk 33 (hw:=by kernel_rfl) ?_
     refine wpAnyH_done (by kernel_rfl) ?_ _
     have HV:=Lib.hid (HW.out.on hbu)
     clear hHeld hbu hu1 hu2
     go_wp2_with fail
     go_roundw
     case rel=>exact⟨i+1,by omega,by go_num,HV.out⟩
     case measure=>simp[intOf];omega
    ·have hi0:(0:Int)<(i:Int):=by omega
     have hi1:0<i:=h0
     have hst:=hstep h0
     have hid5:i-1<dg.length:=by omega
     obtain⟨j,hj⟩:∃j,j=i-1:=⟨_,rfl⟩
     obtain⟨-,p0⟩:=HW.out.g.cell (k:=i-1) (by omega) hid5
     have hrd0:=HW.out.g.2.1 _ (List.getElem_mem hid5)
     obtain⟨x,hx⟩:∃x,dg[i-1]=x:=⟨_,rfl⟩
     rw[hx]at p0 hrd0 hst
     obtain⟨xk,⟨xA,xn,xc⟩⟩:=x
     simp only at p0 hrd0 hst
     have hbl:Op.bytesLess xk yk=true:=by rw[less_ltK];exact decide_eq_true hst
     have hw3:IntKind.i64.wrap ((i:Int)-1)=((i-1:Nat):Int):=by rw[IntKind.wrap_i64];have:=HN.out.f4;omega
     rw[←hj]at hw3 p0
     have hjn:j<ng:=by omega
     have hjn':(j:Int)<(ng:Int):=by omega
     have HB:=Lib.hid (And.intro hbb (And.intro p1 (And.intro hrd (And.intro p0 hrd0))))
     clear hstep hbb hrd hrd0 hst hx hj hy h0 hid5 hid4
     go_upto_region 27 with fail
     refine wp_region_held_drew (S:=fun V=>(V.cell? (gd.add i)=some (.slice yA yn yc))∧(V.cell? (gd.add j)=some (.slice xA xn xc))∧((convert 50 9 (.slice xA xn xc)).run Tryz.prog V= .ok (.string ⟨xk.toArray⟩) V)∧((convert 50 9 (.slice yA yn yc)).run Tryz.prog V= .ok (.string ⟨yk.toArray⟩) V)∧Below wr.heap.size wr V) (by kernel_rfl) ?_ (fun hHeld=>?_)
     ·exact⟨p1,p0,run_str (c:=xc) HB.out.2.2.2.2.1.drew,run_str (c:=yc) HB.out.2.2.1.1.drew,(Below.refl _ _).drew⟩
     clear p1 p0
     have KS:∀V,Below wr.heap.size wr V→(V.cell? (gd.add i)=some (.slice yA yn yc))∧(V.cell? (gd.add j)=some (.slice xA xn xc))∧((convert 50 9 (.slice xA xn xc)).run Tryz.prog V= .ok (.string ⟨xk.toArray⟩) V)∧((convert 50 9 (.slice yA yn yc)).run Tryz.prog V= .ok (.string ⟨yk.toArray⟩) V)∧Below wr.heap.size wr V:=fun V hV=>
      ⟨(hV.cell (by rw[block_of_add];exact HB.out.1)).trans HB.out.2.1,(hV.cell (by rw[block_of_add];exact HB.out.1)).trans HB.out.2.2.2.1,run_str (c:=xc) (HB.out.2.2.2.2.1.on hV),run_str (c:=yc) (HB.out.2.2.1.1.on hV),hV⟩
     refine tk 0 ?_
     refine tk 1 ?_
     refine tk 2 ?_
     refine tk 3 (hw:=by kernel_rfl) ?_
     refine tk 4 (hw:=by kernel_rfl) ?_
     refine oneH 5 ?_
     refine callH (KA.out _ (Below.refl _ _).drew) ?_
     rintro e u1 ⟨rfl,hu1⟩
     refine nxt (KS u1 (below_on (Below.refl _ _).drew (Nat.le_refl _) hu1)) fun hHeld=>?_
     refine tk 6 (hw:=by kernel_rfl) ?_
     refine tk 7 (hw:=by kernel_rfl) ?_
     refine tk 8 (hw:=by kernel_rfl) ?_
     refine tk 9 (hw:=by kernel_rfl) ?_
     refine tk 10 (hw:=by kernel_rfl) ?_
     refine tk 11 (hw:=by kernel_rfl) ?_
     refine tk 12 (hw:=by kernel_rfl) ?_
     refine oneH 13 ?_
     refine callH (KB.out u1 hHeld.2.2.2.2) ?_
     rintro e u2 ⟨rfl,hu2⟩
     refine nxt (KS u2 (below_on hHeld.2.2.2.2 (Nat.le_refl _) hu2)) fun hHeld=>?_
     refine tk 14 (hw:=by kernel_rfl) ?_
     refine tk 15 (hw:=by kernel_rfl) ?_
     refine tk 16 (hw:=by kernel_rfl) ?_
     refine tk 17 (hw:=by kernel_rfl) ?_
     refine tk 18 (hw:=by kernel_rfl) ?_
     refine tk 19 (hw:=by kernel_rfl) ?_
     refine tk 20 (hw:=by kernel_rfl) ?_
     refine tk 21 (hw:=by kernel_rfl) ?_
     refine tk 22 (hw:=by kernel_rfl) ?_
     refine tk 23 (hw:=by kernel_rfl) ?_
     refine tk 24 (hw:=by kernel_rfl) ?_
     refine tk 25 (hw:=by kernel_rfl) ?_
     refine tk 26 (hw:=by kernel_rfl) ?_
     refine tk 27 (hw:=by kernel_rfl) ?_
     refine tk 28 (hw:=by kernel_rfl) ?_
     refine tk 29 (hw:=by kernel_rfl) ?_
     refine tk 30 (hw:=by kernel_rfl) ?_
     refine tk 31 (hw:=by kernel_rfl) ?_
     refine tk 32 (hw:=by kernel_rfl) ?_
     refine tk 33 (hw:=by kernel_rfl) ?_
     refine wpAnyH_done (by kernel_rfl) ?_ _
     have HV:=Lib.hid (HW.out.on hHeld.2.2.2.2)
     clear hHeld hu1 hu2 KS
     go_wp2_with fail
     go_roundw
     case rel=>exact⟨i+1,by omega,by go_num,HV.out⟩
     case measure=>simp[intOf];omega
end Go.Proofs.YtpkeacnacjnlcaaGreat
